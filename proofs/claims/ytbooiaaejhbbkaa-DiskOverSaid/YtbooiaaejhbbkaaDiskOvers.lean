import Derived.Test.YtbooiaaejhbbkaaDiskOver
/- DiskOver: a file renamed onto another one takes its place, or leaves it. -/
namespace Go.Proofs.Ytbooiaaejhbbkaa
open Go.RowKit Go.Maps Go.Proofs.YtbooiaaejhbbkaaW.PrintWords Go.Proofs.YtbooiaaejhbbkaaW.PrintMore

set_option maxRecDepth 100000 in
set_option maxHeartbeats 8000000 in
theorem diskOver_walk (v1 : Value) (xs : List Int) (v2 : Value) (ys : List Int) (s dr : Bool) (v3 : Value) (zs : List Int) (w : World) (h1 : RdB w v1 xs) (hx : By xs) (_l1 : xs.length ≤ 140737488351232) (h2 : RdB w v2 ys) (hy : By ys) (_l2 : ys.length ≤ 140737488351232) (h3 : RdB w v3 zs) (hz : By zs) (_l3 : zs.length ≤ 140737488351232) :
    Calls Try.prog 9 #[v1, v2, .bool s, .bool dr, v3] w fun e w' => e = .returned (.bool true) ∧ Below w.heap.size w w' := by
  have K0 := Lib.hid (law20_known w)
  have H1 := Lib.hid h1
  have H2 := Lib.hid h2
  have H3 := Lib.hid h3
  have HX := Lib.hid hx
  have HY := Lib.hid hy
  have HZ := Lib.hid hz
  obtain ⟨A1, c1, rfl, -, -⟩ := h1
  obtain ⟨A2, c2, rfl, -, -⟩ := h2
  obtain ⟨A3, c3, rfl, -, -⟩ := h3
  clear hx hy hz _l1 _l2 _l3
  by_cases g1 : 200 < xs.length
  · have g1i : (200 : Int) < (xs.length : Int) := by omega
    go_enter Try.func9, Try.ntmps9
    go_wp2_with fail
    refine K0.out.mono ?_
    rintro e w1 ⟨rfl, hb1⟩
    go_wp2_with fail
    go_ret
    exact ⟨rfl, hb1⟩
  have g1i : ¬ (200 : Int) < (xs.length : Int) := by omega
  by_cases g2 : 200 < ys.length
  · have g2i : (200 : Int) < (ys.length : Int) := by omega
    go_enter Try.func9, Try.ntmps9
    go_wp2_with fail
    refine K0.out.mono ?_
    rintro e w1 ⟨rfl, hb1⟩
    go_wp2_with fail
    go_ret
    exact ⟨rfl, hb1⟩
  have g2i : ¬ (200 : Int) < (ys.length : Int) := by omega
  by_cases g3 : 10 < zs.length
  · have g3i : (10 : Int) < (zs.length : Int) := by omega
    go_enter Try.func9, Try.ntmps9
    go_wp2_with fail
    refine K0.out.mono ?_
    rintro e w1 ⟨rfl, hb1⟩
    go_wp2_with fail
    go_ret
    exact ⟨rfl, hb1⟩
  have g3i : ¬ (10 : Int) < (zs.length : Int) := by omega
  obtain ⟨sx, hsx⟩ : ∃ sx, strOfNums xs = sx := ⟨_, rfl⟩
  obtain ⟨sy, hsy⟩ : ∃ sy, strOfNums ys = sy := ⟨_, rfl⟩
  have HSX := Lib.hid hsx
  have HSY := Lib.hid hsy
  clear hsx hsy
  obtain ⟨qe, hqe⟩ : ∃ qe, (sx.toList == sy.toList) = qe := ⟨_, rfl⟩
  cases qe with
  | true =>
    go_enter Try.func9, Try.ntmps9
    go_wp2_with fail
    refine K0.out.mono ?_
    rintro e w1 ⟨rfl, hb1⟩
    have hcx : (convert 27 9 (.slice A1 xs.length c1)).run Try.prog w1 = .ok (.string (strOfNums xs)) w1 := conv_bytes_string (P := Try.prog) 27 5 9 Try.underlying27 Try.underlying5 Try.underlying9 (RdB.reads (H1.out.below hb1)) c1
    rw [HSX.out] at hcx
    have hcy : (convert 27 9 (.slice A2 ys.length c2)).run Try.prog w1 = .ok (.string (strOfNums ys)) w1 := conv_bytes_string (P := Try.prog) 27 5 9 Try.underlying27 Try.underlying5 Try.underlying9 (RdB.reads (H2.out.below hb1)) c2
    rw [HSY.out] at hcy
    go_wp2_with fail
    go_ret
    exact ⟨rfl, hb1⟩
  | false =>
  go_enter Try.func9, Try.ntmps9
  go_wp2_with fail
  refine K0.out.mono ?_
  rintro e w1 ⟨rfl, hb1⟩
  have HB1 := Lib.hid hb1
  have K1 := Lib.hid (k_new w1 1000)
  have hcx : (convert 27 9 (.slice A1 xs.length c1)).run Try.prog w1 = .ok (.string (strOfNums xs)) w1 := conv_bytes_string (P := Try.prog) 27 5 9 Try.underlying27 Try.underlying5 Try.underlying9 (RdB.reads (H1.out.below hb1)) c1
  rw [HSX.out] at hcx
  have hcy : (convert 27 9 (.slice A2 ys.length c2)).run Try.prog w1 = .ok (.string (strOfNums ys)) w1 := conv_bytes_string (P := Try.prog) 27 5 9 Try.underlying27 Try.underlying5 Try.underlying9 (RdB.reads (H2.out.below hb1)) c2
  rw [HSY.out] at hcy
  clear hb1 K0
  go_wp2_with fail
  refine K1.out.mono ?_
  rintro e w2 ⟨p, G0, rfl, hp, hk⟩
  have HK := Lib.hid hk
  clear hk K1 hcx hcy
  have hx3 : xs.length ≤ 200 := by omega
  have hy3 : ys.length ≤ 200 := by omega
  clear g1 g1i g2 g2i g3 g3i
  go_upto_region 6 with fail
  go_cut [88] (fun s88 wx => s88 = .bool false ∧ Hid (∃ (G : DG) (K : NM) (C : List Chg) (st kp : Nat), Dk w1.heap.size p w1 G (od3 K C st ⟨xs, xs.length⟩ ⟨ys, kp⟩) wx ∧ kp ≤ ys.length ∧ (s = true → kp = ys.length) ∧ ((K = pN ∧ C = [] ∧ dr = true) ∨ (K = mN ∧ C = oC ∧ dr = false))))
  case first =>
    have KQ := k_create HK.out (by show (0 : Int) < 1000000000; omega) [109] (by decide)
    rw [od_new] at KQ
    have HKQ := Lib.hid KQ
    clear KQ
    go_wp2_with fail
    refine HKQ.out.mono ?_
    rintro e w3 ⟨rfl, G3, hk, -⟩
    have HK3 := Lib.hid hk
    clear hk HKQ
    have KQ := k_append HK3.out (by show ((1 : Nat) : Int) < 1000000000; omega) [109] (by decide) xs HX.out _ (H1.out.below (HB1.out.trans (HK3.out.bel.mono HB1.out.size))) (Far.old HK3.out.at_ (H1.out.below HB1.out)) (by show -9223372036854775808 ≤ (1000 : Int) ∧ (1000 : Int) < 9223372036854775808; omega)
    rw [od1_append _ _ _ _ hx3] at KQ
    have HKQ := Lib.hid KQ
    clear KQ
    go_wp2_with fail
    refine HKQ.out.mono ?_
    rintro e w4 ⟨rfl, G4, hk, -⟩
    have HK4 := Lib.hid hk
    clear hk HKQ
    have KQ := k_sync HK4.out (by show ((2 : Nat) : Int) < 1000000000; omega) [109] (by decide)
    rw [od1_sync] at KQ
    have HKQ := Lib.hid KQ
    clear KQ
    go_wp2_with fail
    refine HKQ.out.mono ?_
    rintro e w5 ⟨rfl, G5, hk, -⟩
    have HK5 := Lib.hid hk
    clear hk HKQ
    have KQ := k_syncDir HK5.out (by show ((3 : Nat) : Int) < 1000000000; omega) 
    rw [od1_syncDir] at KQ
    have HKQ := Lib.hid KQ
    clear KQ
    go_wp2_with fail
    refine HKQ.out.mono ?_
    rintro e w6 ⟨rfl, G6, hk, -⟩
    have HK6 := Lib.hid hk
    clear hk HKQ
    have KQ := k_create HK6.out (by show ((4 : Nat) : Int) < 1000000000; omega) [110] (by decide)
    rw [od1_create] at KQ
    have HKQ := Lib.hid KQ
    clear KQ
    go_wp2_with fail
    refine HKQ.out.mono ?_
    rintro e w7 ⟨rfl, G7, hk, -⟩
    have HK7 := Lib.hid hk
    clear hk HKQ
    have KQ := k_append HK7.out (by show ((5 : Nat) : Int) < 1000000000; omega) [110] (by decide) ys HY.out _ (H2.out.below (HB1.out.trans (HK7.out.bel.mono HB1.out.size))) (Far.old HK7.out.at_ (H2.out.below HB1.out)) (by show -9223372036854775808 ≤ (1000 : Int) ∧ (1000 : Int) < 9223372036854775808; omega)
    rw [od2_append _ _ _ hx3 hy3] at KQ
    have HKQ := Lib.hid KQ
    clear KQ
    go_wp2_with fail
    refine HKQ.out.mono ?_
    rintro e w8 ⟨rfl, G8, hk, -⟩
    have HK8 := Lib.hid hk
    clear hk HKQ
    cases s <;> cases dr
    · have KQ := k_rename HK8.out (by show ((6 : Nat) : Int) < 1000000000; omega) [110] [109] (by decide) (by decide)
      rw [od2_rename] at KQ
      have HKQ := Lib.hid KQ
      clear KQ
      go_wp2_with fail
      refine HKQ.out.mono ?_
      rintro e w20 ⟨rfl, G20, hk, -⟩
      have HK20 := Lib.hid hk
      clear hk HKQ
      go_wp2_with fail
      go_meet
      exact ⟨rfl, Lib.hid ⟨_, mN, oC, 7, 0, HK20.out, by omega, fun h => absurd h (by decide), .inr ⟨rfl, rfl, trivial⟩⟩⟩
    · have KQ := k_rename HK8.out (by show ((6 : Nat) : Int) < 1000000000; omega) [110] [109] (by decide) (by decide)
      rw [od2_rename] at KQ
      have HKQ := Lib.hid KQ
      clear KQ
      go_wp2_with fail
      refine HKQ.out.mono ?_
      rintro e w20 ⟨rfl, G20, hk, -⟩
      have HK20 := Lib.hid hk
      clear hk HKQ
      have KQ := k_syncDir HK20.out (by show ((7 : Nat) : Int) < 1000000000; omega) 
      rw [od3_syncDir] at KQ
      have HKQ := Lib.hid KQ
      clear KQ
      go_wp2_with fail
      refine HKQ.out.mono ?_
      rintro e w21 ⟨rfl, G21, hk, -⟩
      have HK21 := Lib.hid hk
      clear hk HKQ
      go_wp2_with fail
      go_meet
      exact ⟨rfl, Lib.hid ⟨_, pN, [], 8, 0, HK21.out, by omega, fun h => absurd h (by decide), .inl ⟨rfl, rfl, trivial⟩⟩⟩
    · have KQ := k_sync HK8.out (by show ((6 : Nat) : Int) < 1000000000; omega) [110] (by decide)
      rw [od2_sync] at KQ
      have HKQ := Lib.hid KQ
      clear KQ
      go_wp2_with fail
      refine HKQ.out.mono ?_
      rintro e w20 ⟨rfl, G20, hk, -⟩
      have HK20 := Lib.hid hk
      clear hk HKQ
      have KQ := k_rename HK20.out (by show ((7 : Nat) : Int) < 1000000000; omega) [110] [109] (by decide) (by decide)
      rw [od2_rename] at KQ
      have HKQ := Lib.hid KQ
      clear KQ
      go_wp2_with fail
      refine HKQ.out.mono ?_
      rintro e w21 ⟨rfl, G21, hk, -⟩
      have HK21 := Lib.hid hk
      clear hk HKQ
      go_wp2_with fail
      go_meet
      exact ⟨rfl, Lib.hid ⟨_, mN, oC, 8, ys.length, HK21.out, by omega, fun _ => rfl, .inr ⟨rfl, rfl, trivial⟩⟩⟩
    · have KQ := k_sync HK8.out (by show ((6 : Nat) : Int) < 1000000000; omega) [110] (by decide)
      rw [od2_sync] at KQ
      have HKQ := Lib.hid KQ
      clear KQ
      go_wp2_with fail
      refine HKQ.out.mono ?_
      rintro e w20 ⟨rfl, G20, hk, -⟩
      have HK20 := Lib.hid hk
      clear hk HKQ
      have KQ := k_rename HK20.out (by show ((7 : Nat) : Int) < 1000000000; omega) [110] [109] (by decide) (by decide)
      rw [od2_rename] at KQ
      have HKQ := Lib.hid KQ
      clear KQ
      go_wp2_with fail
      refine HKQ.out.mono ?_
      rintro e w21 ⟨rfl, G21, hk, -⟩
      have HK21 := Lib.hid hk
      clear hk HKQ
      have KQ := k_syncDir HK21.out (by show ((8 : Nat) : Int) < 1000000000; omega) 
      rw [od3_syncDir] at KQ
      have HKQ := Lib.hid KQ
      clear KQ
      go_wp2_with fail
      refine HKQ.out.mono ?_
      rintro e w22 ⟨rfl, G22, hk, -⟩
      have HK22 := Lib.hid hk
      clear hk HKQ
      go_wp2_with fail
      go_meet
      exact ⟨rfl, Lib.hid ⟨_, pN, [], 9, ys.length, HK22.out, by omega, fun _ => rfl, .inl ⟨rfl, rfl, trivial⟩⟩⟩
  case rest =>
    obtain ⟨rfl, HC⟩ := hcut
    obtain ⟨G3, K, C, st, kp, hk, hkp, hs, hK⟩ := HC.out
    obtain ⟨x, hxr, hxc⟩ := od_crash K C st xs ys kp zs dr hkp hK
    have KR := k_read hk [109] (by decide)
    rw [od3_read] at KR
    have HKR := Lib.hid KR
    have HXR := Lib.hid hxr
    have HUS := Lib.hid (od3_used K C st ⟨xs, xs.length⟩ ⟨ys, kp⟩)
    have HLS := Lib.hid (od3_list K C st ⟨xs, xs.length⟩ ⟨ys, kp⟩)
    clear KR hk HC hK hkp hxr
    generalize od3 K C st ⟨xs, xs.length⟩ ⟨ys, kp⟩ = d3 at *
    have hxs : (x = xs ∧ dr = false) ∨ (x.length ≤ ys.length ∧ (s = true → x = ys)) := hxc.imp id (fun h => ⟨h.1, fun h2 => h.2 (hs h2)⟩)
    clear hxc hs
    go_upto_region 9 with fail
    refine HKR.out.mono ?_
    rintro e w7 ⟨v7, rfl, ho7, hk, hb7⟩
    have HK7 := Lib.hid hk
    have KL := k_list hk
    rw [HLS.out] at KL
    have HKL := Lib.hid KL
    have HBW := Lib.hid (HB1.out.trans (hk.bel.mono HB1.out.size))
    have ho7' : OwnB w7 wc.heap.size v7 ys := ho7
    obtain ⟨A7, c7, rfl, -⟩ := own_shape ho7'
    have hc7 : (convert 27 9 (.slice A7 ys.length c7)).run Try.prog w7 = .ok (.string (strOfNums ys)) w7 := conv_bytes_string (P := Try.prog) 27 5 9 Try.underlying27 Try.underlying5 Try.underlying9 (RdB.reads ho7'.rd) c7
    rw [HSY.out] at hc7
    have hcy : (convert 27 9 (.slice A2 ys.length c2)).run Try.prog w7 = .ok (.string (strOfNums ys)) w7 := conv_bytes_string (P := Try.prog) 27 5 9 Try.underlying27 Try.underlying5 Try.underlying9 (RdB.reads (H2.out.below HBW.out)) c2
    rw [HSY.out] at hcy
    clear KL hk ho7 ho7' hb7 HKR
    go_wp2_with fail
    refine HKL.out.mono ?_
    rintro e w8 ⟨v8, rfl, ho8, hk, hb8⟩
    obtain ⟨A8, c8, rfl, -⟩ := own_shape ho8
    have HK8 := Lib.hid hk
    have KU := k_used hk
    rw [HUS.out] at KU
    have HKU := Lib.hid KU
    clear hk ho8 hb8 KU HKL hc7 hcy
    go_wp2_with fail
    refine HKU.out.mono ?_
    rintro e w9 ⟨rfl, hk, -⟩
    have HB9 := HB1.out.trans (hk.bel.mono HB1.out.size)
    have KC := k_crash hk _ zs (H3.out.below HB9) HZ.out (Far.old hk.at_ (H3.out.below HB1.out))
    have HKC := Lib.hid KC
    clear hk HB9 KC HKU
    go_wp2_with fail
    refine HKC.out.mono ?_
    rintro e w10 ⟨⟨u, rfl⟩, G10, hk, -⟩
    have KR := k_read hk [109] (by decide)
    rw [HXR.out] at KR
    have HKR := Lib.hid KR
    clear hk KR HKC
    go_wp2_with fail
    refine HKR.out.mono ?_
    rintro e w11 ⟨v11, rfl, ho, hk, -⟩
    have ho' : OwnB w11 w10.heap.size v11 x := ho
    have HBE := Lib.hid (HB1.out.trans (hk.bel.mono HB1.out.size))
    obtain ⟨A11, c11, rfl, -⟩ := own_shape ho'
    obtain ⟨st', hst'⟩ : ∃ t, strOfNums x = t := ⟨_, rfl⟩
    have hce : (convert 27 9 (.slice A11 x.length c11)).run Try.prog w11 = .ok (.string (strOfNums x)) w11 := conv_bytes_string (P := Try.prog) 27 5 9 Try.underlying27 Try.underlying5 Try.underlying9 (RdB.reads ho'.rd) c11
    rw [hst'] at hce
    have hcx : (convert 27 9 (.slice A1 xs.length c1)).run Try.prog w11 = .ok (.string (strOfNums xs)) w11 := conv_bytes_string (P := Try.prog) 27 5 9 Try.underlying27 Try.underlying5 Try.underlying9 (RdB.reads (H1.out.below HBE.out)) c1
    rw [HSX.out] at hcx
    have hcy : (convert 27 9 (.slice A2 ys.length c2)).run Try.prog w11 = .ok (.string (strOfNums ys)) w11 := conv_bytes_string (P := Try.prog) 27 5 9 Try.underlying27 Try.underlying5 Try.underlying9 (RdB.reads (H2.out.below HBE.out)) c2
    rw [HSY.out] at hcy
    obtain ⟨q1, hq1⟩ : ∃ q, (st'.toList == sx.toList) = q := ⟨_, rfl⟩
    obtain ⟨q2, hq2⟩ : ∃ q, (st'.toList == sy.toList) = q := ⟨_, rfl⟩
    have hL : s = false → dr = true ∨ q1 = false → (x.length : Int) ≤ (ys.length : Int) := fun _ h => by
      rcases hxs with ⟨rfl, h2⟩ | ⟨h1, _⟩
      · rcases h with h | h
        · rw [h2] at h
          cases h
        · rw [← hq1, ← hst', HSX.out] at h
          simp at h
      · omega
    have hM : s = true → (q2 = true ∨ (q1 = true ∧ dr = false)) := fun h => by
      rcases hxs with ⟨rfl, h2⟩ | ⟨_, h1⟩
      · right
        refine ⟨?_, h2⟩
        rw [← hq1, ← hst', HSX.out]
        simp
      · left
        rw [← hq2, ← hst', h1 h, HSY.out]
        simp
    clear hst' hxs ho ho' hk HKR
    cases s
    · cases dr
      · cases q1
        · have hle := hL rfl (.inr rfl)
          have hle2 : x.length ≤ ys.length := by omega
          clear hL hM
          go_wp2_with fail
          go_ret
          exact ⟨rfl, HBE.out⟩
        · clear hL hM
          go_wp2_with fail
          go_ret
          exact ⟨rfl, HBE.out⟩
      · have hle := hL rfl (.inl rfl)
        have hle2 : x.length ≤ ys.length := by omega
        clear hL hM
        cases q1 <;>
        · go_wp2_with fail
          go_ret
          exact ⟨rfl, HBE.out⟩
    · have hm := hM rfl
      clear hL hM
      cases q2
      · rcases hm with h | ⟨rfl, rfl⟩
        · cases h
        · go_wp2_with fail
          go_ret
          exact ⟨rfl, HBE.out⟩
      · clear hm
        go_wp2_with fail
        go_ret
        exact ⟨rfl, HBE.out⟩
end Go.Proofs.Ytbooiaaejhbbkaa
