import Derived.Test.YtbooiaaejhbbkaaDiskKeeping
/- DiskKeeps: what was synced is there behind each crash. -/
namespace Go.Proofs.Ytbooiaaejhbbkaa
open Go.RowKit Go.Maps Go.Proofs.YtbooiaaejhbbkaaW.PrintWords Go.Proofs.YtbooiaaejhbbkaaW.PrintMore

set_option maxRecDepth 100000 in
set_option maxHeartbeats 8000000 in
theorem diskKeeps_walk (v1 : Value) (xs : List Int) (v2 : Value) (ys : List Int) (s dr : Bool) (v3 : Value) (zs : List Int) (w : World) (h1 : RdB w v1 xs) (hx : By xs) (_l1 : xs.length ≤ 140737488351232) (h2 : RdB w v2 ys) (hy : By ys) (_l2 : ys.length ≤ 140737488351232) (h3 : RdB w v3 zs) (hz : By zs) (_l3 : zs.length ≤ 140737488351232) :
    Calls Try.prog 7 #[v1, v2, .bool s, .bool dr, v3] w fun e w' => e = .returned (.bool true) ∧ Below w.heap.size w w' := by
  have K0 := Lib.hid (law20_known w)
  have H1 := Lib.hid h1
  have H2 := Lib.hid h2
  have H3 := Lib.hid h3
  have HX := Lib.hid hx
  have HY := Lib.hid hy
  have HZ := Lib.hid hz
  obtain ⟨A1, c1, rfl, -, -⟩ := h1
  obtain ⟨A2, c2, rfl, -, -⟩ := h2
  obtain ⟨A3, c3, rfl, -, -⟩ := h3
  clear hx hy hz _l1 _l2 _l3
  by_cases g1 : 300 < xs.length
  · have g1i : (300 : Int) < (xs.length : Int) := by omega
    go_enter Try.func7, Try.ntmps7
    go_wp2_with fail
    refine K0.out.mono ?_
    rintro e w1 ⟨rfl, hb1⟩
    go_wp2_with fail
    go_ret
    exact ⟨rfl, hb1⟩
  have g1i : ¬ (300 : Int) < (xs.length : Int) := by omega
  by_cases g2 : 300 < ys.length
  · have g2i : (300 : Int) < (ys.length : Int) := by omega
    go_enter Try.func7, Try.ntmps7
    go_wp2_with fail
    refine K0.out.mono ?_
    rintro e w1 ⟨rfl, hb1⟩
    go_wp2_with fail
    go_ret
    exact ⟨rfl, hb1⟩
  have g2i : ¬ (300 : Int) < (ys.length : Int) := by omega
  by_cases g3 : 20 < zs.length
  · have g3i : (20 : Int) < (zs.length : Int) := by omega
    go_enter Try.func7, Try.ntmps7
    go_wp2_with fail
    refine K0.out.mono ?_
    rintro e w1 ⟨rfl, hb1⟩
    go_wp2_with fail
    go_ret
    exact ⟨rfl, hb1⟩
  have g3i : ¬ (20 : Int) < (zs.length : Int) := by omega
  go_enter Try.func7, Try.ntmps7
  go_wp2_with fail
  refine K0.out.mono ?_
  rintro e w1 ⟨rfl, hb1⟩
  have HB1 := Lib.hid hb1
  have K1 := Lib.hid (k_new w1 1000)
  clear hb1 K0
  go_wp2_with fail
  refine K1.out.mono ?_
  rintro e w2 ⟨p, G0, rfl, hp, hk⟩
  have HK := Lib.hid hk
  clear hk K1
  have hx3 : xs.length ≤ 300 := by omega
  have hy3 : ys.length ≤ 300 := by omega
  clear g1 g1i g2 g2i g3 g3i
  go_upto_region 6 with fail
  go_cut [64] (fun s64 wx => s64 = .bool false ∧ Hid (∃ (G : DG) (K : NM) (C : List Chg) (st kp : Nat), Dk w1.heap.size p w1 G (kd K C st ⟨xs ++ ys, kp⟩) wx ∧ kp ≤ xs.length ∧ (s = true → kp = xs.length) ∧ st ≤ 10 ∧ ((K = xN ∧ C = [] ∧ dr = true) ∨ (K = [] ∧ C = xC ∧ dr = false))))
  case first =>
    have KC := k_create HK.out (by show (0 : Int) < 1000000000; omega) [120] (by decide)
    rw [kd_new] at KC
    have HKC := Lib.hid KC
    clear KC
    go_wp2_with fail
    refine HKC.out.mono ?_
    rintro e w3 ⟨rfl, G1, hk, -⟩
    have hr1 := H1.out.below (HB1.out.trans (hk.bel.mono HB1.out.size))
    have KA := k_append hk (by show ((1 : Nat) : Int) < 1000000000; omega) [120] (by decide) xs HX.out _ hr1 (Far.old hk.at_ (H1.out.below HB1.out)) (by show -9223372036854775808 ≤ (1000 : Int) ∧ (1000 : Int) < 9223372036854775808; omega)
    rw [kd_append _ _ _ _ _ _ (by simp; omega), List.nil_append] at KA
    have HKA := Lib.hid KA
    clear hk hr1 KA HKC
    go_wp2_with fail
    refine HKA.out.mono ?_
    rintro e w4 ⟨rfl, G2, hk, -⟩
    have HK2 := Lib.hid hk
    clear hk HKA
    have last : ∀ (K : NM) (C : List Chg) (st kp : Nat) (W : World) (G : DG), st ≤ 9 → Dk w1.heap.size p w1 G (kd K C st ⟨xs, kp⟩) W → Calls Try.prog 17 #[pv p, .string (S [120]), .slice A2 ys.length c2] W fun e w' => e = .returned (.int .i64 0) ∧ ∃ G', Dk w1.heap.size p w1 G' (kd K C (st + 1) ⟨xs ++ ys, kp⟩) w' := by
      intro K C st kp W G hst hk
      have hr2 := H2.out.below (HB1.out.trans (hk.bel.mono HB1.out.size))
      have KA := k_append hk (by show ((st : Nat) : Int) < 1000000000; omega) [120] (by decide) ys HY.out _ hr2 (Far.old hk.at_ (H2.out.below HB1.out)) (by show -9223372036854775808 ≤ (1000 : Int) ∧ (1000 : Int) < 9223372036854775808; omega)
      rw [kd_append _ _ _ _ _ _ (by omega)] at KA
      refine KA.mono ?_
      rintro e w' ⟨he, G', hk', -⟩
      exact ⟨he, G', hk'⟩
    have HLAST := Lib.hid last
    clear last
    cases s <;> cases dr
    · have HL := Lib.hid (HLAST.out _ _ _ _ _ _ (by omega) HK2.out)
      go_wp2_with fail
      refine HL.out.mono ?_
      rintro e w5 ⟨rfl, G5, hk⟩
      have HK5 := Lib.hid hk
      clear hk HL
      go_wp2_with fail
      go_meet
      exact ⟨rfl, Lib.hid ⟨G5, [], xC, 3, 0, HK5.out, by omega, fun h => absurd h (by decide), by omega, .inr ⟨rfl, rfl, trivial⟩⟩⟩
    · have KD := k_syncDir HK2.out (by show ((2 : Nat) : Int) < 1000000000; omega)
      rw [kd_syncDir] at KD
      have HKD := Lib.hid KD
      clear KD
      go_wp2_with fail
      refine HKD.out.mono ?_
      rintro e w5 ⟨rfl, G5, hk, -⟩
      have HK5 := Lib.hid hk
      clear hk HKD
      have HL := Lib.hid (HLAST.out _ _ _ _ _ _ (by omega) HK5.out)
      go_wp2_with fail
      refine HL.out.mono ?_
      rintro e w6 ⟨rfl, G6, hk⟩
      have HK6 := Lib.hid hk
      clear hk HL
      go_wp2_with fail
      go_meet
      exact ⟨rfl, Lib.hid ⟨G6, xN, [], 4, 0, HK6.out, by omega, fun h => absurd h (by decide), by omega, .inl ⟨rfl, rfl, trivial⟩⟩⟩
    · have KS := k_sync HK2.out (by show ((2 : Nat) : Int) < 1000000000; omega) [120] (by decide)
      rw [kd_sync] at KS
      have HKS := Lib.hid KS
      clear KS
      go_wp2_with fail
      refine HKS.out.mono ?_
      rintro e w5 ⟨rfl, G5, hk, -⟩
      have HK5 := Lib.hid hk
      clear hk HKS
      have HL := Lib.hid (HLAST.out _ _ _ _ _ _ (by omega) HK5.out)
      go_wp2_with fail
      refine HL.out.mono ?_
      rintro e w6 ⟨rfl, G6, hk⟩
      have HK6 := Lib.hid hk
      clear hk HL
      go_wp2_with fail
      go_meet
      exact ⟨rfl, Lib.hid ⟨G6, [], xC, 4, xs.length, HK6.out, by omega, fun _ => rfl, by omega, .inr ⟨rfl, rfl, trivial⟩⟩⟩
    · have KS := k_sync HK2.out (by show ((2 : Nat) : Int) < 1000000000; omega) [120] (by decide)
      rw [kd_sync] at KS
      have HKS := Lib.hid KS
      clear KS
      go_wp2_with fail
      refine HKS.out.mono ?_
      rintro e w5 ⟨rfl, G5, hk, -⟩
      have HK5 := Lib.hid hk
      clear hk HKS
      have KD := k_syncDir HK5.out (by show ((3 : Nat) : Int) < 1000000000; omega)
      rw [kd_syncDir] at KD
      have HKD := Lib.hid KD
      clear KD
      go_wp2_with fail
      refine HKD.out.mono ?_
      rintro e w6 ⟨rfl, G6, hk, -⟩
      have HK6 := Lib.hid hk
      clear hk HKD
      have HL := Lib.hid (HLAST.out _ _ _ _ _ _ (by omega) HK6.out)
      go_wp2_with fail
      refine HL.out.mono ?_
      rintro e w7 ⟨rfl, G7, hk⟩
      have HK7 := Lib.hid hk
      clear hk HL
      go_wp2_with fail
      go_meet
      exact ⟨rfl, Lib.hid ⟨G7, xN, [], 5, xs.length, HK7.out, by omega, fun _ => rfl, by omega, .inl ⟨rfl, rfl, trivial⟩⟩⟩
  case rest =>
    obtain ⟨rfl, HC⟩ := hcut
    obtain ⟨G3, K, C, st, kp, hk, hkp, hs, hst, hK⟩ := HC.out
    obtain ⟨al, hal⟩ : ∃ al, xs ++ ys = al := ⟨_, rfl⟩
    have hall : al.length = xs.length + ys.length := by rw [← hal, List.length_append]
    have hB3 := HB1.out.trans (hk.bel.mono HB1.out.size)
    have KCR := k_crash hk _ zs (H3.out.below hB3) HZ.out (Far.old hk.at_ (H3.out.below HB1.out))
    have hcr := kd_crash K C st ⟨xs ++ ys, kp⟩ zs (by dsimp only; rw [hal]; omega) (hK.imp (fun h => ⟨h.1, h.2.1⟩) (fun h => ⟨h.1, h.2.1⟩))
    dsimp only at hcr
    rw [hal] at hcr KCR
    have HKCR := Lib.hid KCR
    have HAL := Lib.hid hal
    have hab : By al := by rw [← hal]; exact by_append HX.out HY.out
    have HAB := Lib.hid hab
    clear KCR hB3 hk HC hal hab
    rcases hcr with ⟨hr, hl, hKe⟩ | ⟨r, q, hr1, hr2, hc⟩
    · have hdr : dr = false := by
        rcases hK with h | h
        · rw [hKe] at h
          exact absurd h.1 (by decide)
        · exact h.2.2
      subst hdr
      clear hK hs hKe
      generalize (kd K C st ⟨al, kp⟩).crash zs = d5 at *
      go_wp2_with fail
      refine HKCR.out.mono ?_
      rintro e w6 ⟨⟨u6, rfl⟩, G6, hk, -⟩
      have KR := k_read hk [120] (by decide)
      rw [hr] at KR
      have HKR := Lib.hid KR
      clear hk KR HKCR
      go_wp2_with fail
      refine HKR.out.mono ?_
      rintro e w7 ⟨v7, rfl, -, hk, -⟩
      have KL := k_list hk
      rw [hl] at KL
      have HKL := Lib.hid KL
      clear hk KL HKR
      go_wp2_with fail
      refine HKL.out.mono ?_
      rintro e w8 ⟨v8, rfl, ho8, hk, -⟩
      obtain ⟨A8, c8, rfl, -⟩ := own_shape ho8
      have HBE := Lib.hid (HB1.out.trans (hk.bel.mono HB1.out.size))
      clear hk ho8 HKL
      go_wp2_with fail
      go_ret
      exact ⟨rfl, HBE.out⟩
    · have hpr : s = true → xs.length ≤ r := fun h => by rw [← hs h]; exact hr1
      clear hK hs
      rw [hc] at HKCR
      clear hc
      go_wp2_with fail
      refine HKCR.out.mono ?_
      rintro e w6 ⟨⟨u6, rfl⟩, G6, hk, -⟩
      have KR := k_read hk [120] (by decide)
      rw [kd_read] at KR
      have HKR := Lib.hid KR
      have HAT6 := Lib.hid hk.at_
      have hw6 : w1.heap.size ≤ w6.heap.size := hk.bel.size
      clear hk KR HKCR
      go_wp2_with fail
      refine HKR.out.mono ?_
      rintro e w7 ⟨v7, rfl, ho7, hk, hb7⟩
      have hgl : (fallen al r q).length = r + q := fallen_length al r q (by omega)
      obtain ⟨n, hn⟩ : ∃ n, r + q = n := ⟨_, rfl⟩
      obtain ⟨m, hm⟩ : ∃ m, al.length = m := ⟨_, rfl⟩
      obtain ⟨A7, c7, hv7, -⟩ := own_shape ho7
      rw [hgl, hn] at hv7
      subst hv7
      rw [hn] at hgl hr2
      rw [hm] at hr2 hall
      have HALL := Lib.hid hall
      have hrn : r ≤ n := by omega
      have hmb : m ≤ 600 := by omega
      have HRQ : Hid (r + q = n) := Lib.hid hn
      clear hall
      have hO7 : OwnB w7 w6.heap.size (.slice A7 n c7) (fallen al r q) := ho7
      have HO7 := Lib.hid (hO7.lower hw6)
      have HAP7 : Hid (Apart G6 (.slice A7 n c7)) := Lib.hid (Apart.new HAT6.out (Nat.le_refl _) ho7)
      have HK7 := Lib.hid hk
      have HBW := Lib.hid (HB1.out.trans (hk.bel.mono HB1.out.size))
      have HR1 := Lib.hid (RdB.reads (H1.out.below HBW.out))
      have HGL := Lib.hid hgl
      have HM := Lib.hid hm
      clear hk ho7 hO7 hb7 HAT6 HKR hgl hm hn
      go_upto_region 12 with fail
      go_step
      go_step
      go_simp
      go_step
      refine print_append_row (w0 := w7) w7.heap.size rfl _ _ _ _ .u8 1 rfl Try.underlying27 info8 (by omega) (.slice none 0 0) [] xs A1 xs.length c1 rfl rfl (own_nil _ _ _ _) HR1.out (Below.refl _ _) (Nat.le_refl _) (by simp; omega) ?_
      intro v8 w8 ho8 hb8 hg8 hat8
      rw [List.nil_append] at ho8
      have HO8 := Lib.hid ho8
      have HB8 := Lib.hid hb8
      have HR2 := Lib.hid (RdB.reads (H2.out.below (HBW.out.trans (hb8.mono HBW.out.size))))
      clear ho8 hb8 hg8 hat8
      go_step
      go_simp
      go_step
      refine print_append_row (w0 := w7) w7.heap.size rfl _ _ _ _ .u8 1 rfl Try.underlying27 info8 (by omega) v8 xs ys A2 ys.length c2 rfl rfl HO8.out HR2.out HB8.out HB8.out.size (by omega) ?_
      intro v9 w9 ho9 hb9 hg9 hat9
      have HO9 : Hid (OwnB w9 w7.heap.size v9 (xs ++ ys)) := Lib.hid ho9
      have HB9 := Lib.hid hb9
      clear ho9 hb9 hg9 hat9
      have hO9 : OwnB w9 w7.heap.size v9 al := by rw [← HAL.out]; exact HO9.out
      obtain ⟨A9, c9, hv9, -⟩ := own_shape hO9
      rw [HM.out] at hv9
      subst hv9
      have HO9' := Lib.hid hO9
      have HK9 := Lib.hid (HK7.out.below HB9.out)
      have HG9 : Hid (OwnB w9 w1.heap.size (.slice A7 n c7) (fallen al r q)) := Lib.hid (HO7.out.below HB9.out)
      clear HO9 hO9 HR1 HR2 HO8 HB8
      go_upto_region 13 with fail
      have hmn : ¬ (m : Int) < (n : Int) := by omega
      have hmn2 : ¬ m < n := by omega
      go_cut [101] (fun s101 wx => s101 = .bool false ∧ wx = w9)
      case first =>
        cases s
        · go_wp2_with fail
          go_meet
          exact ⟨rfl, rfl⟩
        · have hnx : ¬ (n : Int) < (xs.length : Int) := by have := hpr rfl; omega
          have hnx2 : ¬ n < xs.length := by omega
          go_wp2_with fail
          go_meet
          exact ⟨rfl, rfl⟩
      case rest =>
        obtain ⟨rfl, rfl⟩ := hcut
        obtain ⟨X9, rfl⟩ : ∃ X9, X9 = wc := ⟨_, rfl⟩
        have hg9 : OwnB X9 w1.heap.size (.slice A7 n c7) (fallen al r q) := HG9.out
        have hrd7 := hg9.rd
        rw [show (Value.slice A7 n c7) = .slice A7 (fallen al r q).length c7 by rw [HGL.out]] at hrd7
        have hread7 : ReadsInt X9 .u8 A7 n (fallen al r q) := by
          have := (RdB.reads hrd7)
          rwa [HGL.out] at this
        have hread9 : ReadsInt X9 .u8 A9 m al := by
          have := (RdB.reads HO9'.out.rd)
          rwa [HM.out] at this
        have HR7 := Lib.hid hread7
        have HR9 := Lib.hid hread9
        clear hg9 hrd7 hread7 hread9 hmn hmn2
        go_upto_region 15 with fail
        go_step
        go_step
        go_simp
        go_step
        go_step
        go_step
        go_step
        go_step
        go_cut [15] (fun s15 wx => ∃ k : Nat, s15 = .int .i64 (k : Int) ∧ r ≤ k ∧ k ≤ n ∧ Hid (Below X9.heap.size X9 wx))
        case first =>
          go_wp2_with fail
          go_loopw [15] (fun i wr => ∃ k : Nat, i = .int .i64 (k : Int) ∧ k ≤ n ∧ Hid (Below X9.heap.size X9 wr)) (fun i _ => n - (intOf i).toNat)
          case atStart => exact ⟨0, rfl, Nat.zero_le _, Lib.hid (Below.refl _ _)⟩
          case round =>
            obtain ⟨k, rfl, hkn, HBk⟩ := hrel
            by_cases hlt : k < n
            · obtain ⟨ad7, hA7, hcell7⟩ := HR7.out.2.2 (by omega)
              obtain ⟨ad9, hA9, hcell9⟩ := HR9.out.2.2 (by omega)
              have hc7 := hcell7 k hlt
              have hc9 := hcell9 k (by omega)
              have hlo := fun hkr => fallen_lo al r q k (by have := HM.out; omega) hkr
              obtain ⟨gk, hgk⟩ : ∃ gk, (fallen al r q).getD k 0 = gk := ⟨_, rfl⟩
              obtain ⟨ak, hak⟩ : ∃ ak, al.getD k 0 = ak := ⟨_, rfl⟩
              rw [hgk] at hc7 hlo
              rw [hak] at hc9 hlo
              have HLO := Lib.hid hlo
              have hkm : k < m := by omega
              have HLT : Hid (k < n) := Lib.hid hlt
              have hi7 : ∀ W, (Instr.indexAt 27 (.slice A7 n c7) (.int .i64 (k : Int))).run Try.prog W = .ok (.pointer (some (ad7.add k))) W := fun W => by
                rw [hA7]
                have h2 : 0 ≤ (k : Int) ∧ (k : Int) < (n : Int) := ⟨by omega, by omega⟩
                go_simp
              have hi9 : ∀ W, (Instr.indexAt 27 (.slice A9 m c9) (.int .i64 (k : Int))).run Try.prog W = .ok (.pointer (some (ad9.add k))) W := fun W => by
                rw [hA9]
                have h2 : 0 ≤ (k : Int) ∧ (k : Int) < (m : Int) := ⟨by omega, by omega⟩
                go_simp
              have SC := fun W (h : Below X9.heap.size X9 W) => (⟨h, pw_cell_below h hc7, pw_cell_below h hc9⟩ : Below X9.heap.size X9 W ∧ W.cell? (ad7.add k) = some (.int .u8 gk) ∧ W.cell? (ad9.add k) = some (.int .u8 ak))
              have hki : (k : Int) < (n : Int) := by omega
              have hbd := HBk.out.trans ((Below.refl wr.heap.size wr).drew.mono HBk.out.size)
              clear hA7 hcell7 hA9 hcell9 hc7 hc9 hgk hak hlo
              by_cases heq : gk = ak
              · subst heq
                go_wp2_with fail
                refine wp_region_noPanic ?_
                refine wp_region_held_drew (S := fun W => Below X9.heap.size X9 W ∧ W.cell? (ad7.add k) = some (.int .u8 gk) ∧ W.cell? (ad9.add k) = some (.int .u8 gk)) (by kernel_rfl) (SC _ hbd) (fun hHeld => ?_)
                refine held_take (i := 0) (v := ?_) rfl (by kernel_rfl) (by kernel_rfl) (by kernel_rfl) (fun _ _ _ h => h) (by rfl) hHeld ?y16_0 ?_
                case y16_0 => (intro w hSw; (try dsimp only at hSw); go_simp; try with_reducible rfl)
                try simp only [Act.put, List.setIfInBounds_toArray, List.set_cons_zero, List.set_cons_succ]
                refine held_take (i := 1) (v := ?_) rfl (by kernel_rfl) (by kernel_rfl) (by kernel_rfl) (fun _ _ _ h => h) (by rfl) hHeld ?y16_1 ?_
                case y16_1 => (intro w hSw; (try dsimp only at hSw); go_simp; try with_reducible rfl)
                try simp only [Act.put, List.setIfInBounds_toArray, List.set_cons_zero, List.set_cons_succ]
                refine held_take (i := 2) (v := ?_) rfl (by kernel_rfl) (by kernel_rfl) (by kernel_rfl) (fun _ _ _ h => h) (by rfl) hHeld ?y16_2 ?_
                case y16_2 => (intro w hSw; (try dsimp only at hSw); go_simp; try with_reducible rfl)
                try simp only [Act.put, List.setIfInBounds_toArray, List.set_cons_zero, List.set_cons_succ]
                refine held_take (i := 3) (v := ?_) rfl (by kernel_rfl) (by kernel_rfl) (by kernel_rfl) (fun _ _ _ h => h) (by rfl) hHeld ?y16_3 ?_
                case y16_3 => (intro w hSw; (try dsimp only at hSw); go_simp; try with_reducible rfl)
                try simp only [Act.put, List.setIfInBounds_toArray, List.set_cons_zero, List.set_cons_succ]
                refine held_take (i := 4) (v := ?_) rfl (by kernel_rfl) (by kernel_rfl) (by kernel_rfl) (fun _ _ _ h => h) (by rfl) hHeld ?y16_4 ?_
                case y16_4 => (intro w hSw; (try dsimp only at hSw); go_simp; try with_reducible rfl)
                try simp only [Act.put, List.setIfInBounds_toArray, List.set_cons_zero, List.set_cons_succ]
                refine held_take (i := 5) (v := ?_) rfl (by kernel_rfl) (by kernel_rfl) (by kernel_rfl) (fun _ _ _ h => h) (by rfl) hHeld ?y16_5 ?_
                case y16_5 => (intro w hSw; (try dsimp only at hSw); go_simp; try with_reducible rfl)
                try simp only [Act.put, List.setIfInBounds_toArray, List.set_cons_zero, List.set_cons_succ]
                refine held_take (i := 6) (v := ?_) rfl (by kernel_rfl) (by kernel_rfl) (by kernel_rfl) (fun _ _ _ h => h) (by rfl) hHeld ?y16_6 ?_
                case y16_6 => (intro w hSw; (try dsimp only at hSw); go_simp; try with_reducible rfl)
                try simp only [Act.put, List.setIfInBounds_toArray, List.set_cons_zero, List.set_cons_succ]
                refine held_take (i := 7) (v := ?_) rfl (by kernel_rfl) (by kernel_rfl) (by kernel_rfl) (fun _ _ _ h => h) (by rfl) hHeld ?y16_7 ?_
                case y16_7 => (intro w hSw; (try dsimp only at hSw); go_simp; try with_reducible rfl)
                try simp only [Act.put, List.setIfInBounds_toArray, List.set_cons_zero, List.set_cons_succ]
                refine held_take (i := 8) (v := ?_) rfl (by kernel_rfl) (by kernel_rfl) (by kernel_rfl) (fun _ _ _ h => h) (by rfl) hHeld ?y16_8 ?_
                case y16_8 => (intro w hSw; (try dsimp only at hSw); go_simp; try with_reducible rfl)
                try simp only [Act.put, List.setIfInBounds_toArray, List.set_cons_zero, List.set_cons_succ]
                refine held_take (i := 9) (v := ?_) rfl (by kernel_rfl) (by kernel_rfl) (by kernel_rfl) (fun _ _ _ h => h) (by rfl) hHeld ?y16_9 ?_
                case y16_9 => (intro w hSw; (try dsimp only at hSw); go_simp; try with_reducible rfl)
                try simp only [Act.put, List.setIfInBounds_toArray, List.set_cons_zero, List.set_cons_succ]
                refine held_take (i := 10) (v := ?_) rfl (by kernel_rfl) (by kernel_rfl) (by kernel_rfl) (fun _ _ _ h => h) (by rfl) hHeld ?y16_10 ?_
                case y16_10 => (intro w hSw; (try dsimp only at hSw); go_simp; try with_reducible rfl)
                try simp only [Act.put, List.setIfInBounds_toArray, List.set_cons_zero, List.set_cons_succ]
                refine held_take (i := 11) (v := ?_) rfl (by kernel_rfl) (by kernel_rfl) (by kernel_rfl) (fun _ _ _ h => h) (by rfl) hHeld ?y16_11 ?_
                case y16_11 => (intro w hSw; (try dsimp only at hSw); go_simp; try with_reducible rfl)
                try simp only [Act.put, List.setIfInBounds_toArray, List.set_cons_zero, List.set_cons_succ]
                refine held_take (i := 12) (v := ?_) rfl (by kernel_rfl) (by kernel_rfl) (by kernel_rfl) (fun _ _ _ h => h) (by rfl) hHeld ?y16_12 ?_
                case y16_12 => (intro w hSw; (try dsimp only at hSw); go_simp; try with_reducible rfl)
                try simp only [Act.put, List.setIfInBounds_toArray, List.set_cons_zero, List.set_cons_succ]
                refine held_take (i := 13) (v := ?_) rfl (by kernel_rfl) (by kernel_rfl) (by kernel_rfl) (fun _ _ _ h => h) (by rfl) hHeld ?y16_13 ?_
                case y16_13 => (intro w hSw; (try dsimp only at hSw); go_simp; try with_reducible rfl)
                try simp only [Act.put, List.setIfInBounds_toArray, List.set_cons_zero, List.set_cons_succ]
                refine held_take (i := 14) (v := ?_) rfl (by kernel_rfl) (by kernel_rfl) (by kernel_rfl) (fun _ _ _ h => h) (by rfl) hHeld ?y16_14 ?_
                case y16_14 => (intro w hSw; (try dsimp only at hSw); go_simp; try with_reducible rfl)
                try simp only [Act.put, List.setIfInBounds_toArray, List.set_cons_zero, List.set_cons_succ]
                refine wpAnyH_done (by kernel_rfl) ?_ _
                refine NoPanic.normal ?_
                go_wp2_with fail
                go_roundw
                case rel => exact ⟨k + 1, by go_num, by have := HLT.out; omega, Lib.hid hbd⟩
                case measure => have := HLT.out; simp [intOf]; omega
              · have hneb : (gk == ak) = false := beq_eq_false_iff_ne.2 heq
                go_wp2_with fail
                refine wp_region_noPanic ?_
                refine wp_region_held_drew (S := fun W => Below X9.heap.size X9 W ∧ W.cell? (ad7.add k) = some (.int .u8 gk) ∧ W.cell? (ad9.add k) = some (.int .u8 ak)) (by kernel_rfl) (SC _ hbd) (fun hHeld => ?_)
                refine held_take (i := 0) (v := ?_) rfl (by kernel_rfl) (by kernel_rfl) (by kernel_rfl) (fun _ _ _ h => h) (by rfl) hHeld ?y16_0 ?_
                case y16_0 => (intro w hSw; (try dsimp only at hSw); go_simp; try with_reducible rfl)
                try simp only [Act.put, List.setIfInBounds_toArray, List.set_cons_zero, List.set_cons_succ]
                refine held_take (i := 1) (v := ?_) rfl (by kernel_rfl) (by kernel_rfl) (by kernel_rfl) (fun _ _ _ h => h) (by rfl) hHeld ?y16_1 ?_
                case y16_1 => (intro w hSw; (try dsimp only at hSw); go_simp; try with_reducible rfl)
                try simp only [Act.put, List.setIfInBounds_toArray, List.set_cons_zero, List.set_cons_succ]
                refine held_take (i := 2) (v := ?_) rfl (by kernel_rfl) (by kernel_rfl) (by kernel_rfl) (fun _ _ _ h => h) (by rfl) hHeld ?y16_2 ?_
                case y16_2 => (intro w hSw; (try dsimp only at hSw); go_simp; try with_reducible rfl)
                try simp only [Act.put, List.setIfInBounds_toArray, List.set_cons_zero, List.set_cons_succ]
                refine held_take (i := 3) (v := ?_) rfl (by kernel_rfl) (by kernel_rfl) (by kernel_rfl) (fun _ _ _ h => h) (by rfl) hHeld ?y16_3 ?_
                case y16_3 => (intro w hSw; (try dsimp only at hSw); go_simp; try with_reducible rfl)
                try simp only [Act.put, List.setIfInBounds_toArray, List.set_cons_zero, List.set_cons_succ]
                refine held_take (i := 4) (v := ?_) rfl (by kernel_rfl) (by kernel_rfl) (by kernel_rfl) (fun _ _ _ h => h) (by rfl) hHeld ?y16_4 ?_
                case y16_4 => (intro w hSw; (try dsimp only at hSw); go_simp; try with_reducible rfl)
                try simp only [Act.put, List.setIfInBounds_toArray, List.set_cons_zero, List.set_cons_succ]
                refine held_take (i := 5) (v := ?_) rfl (by kernel_rfl) (by kernel_rfl) (by kernel_rfl) (fun _ _ _ h => h) (by rfl) hHeld ?y16_5 ?_
                case y16_5 => (intro w hSw; (try dsimp only at hSw); go_simp; try with_reducible rfl)
                try simp only [Act.put, List.setIfInBounds_toArray, List.set_cons_zero, List.set_cons_succ]
                refine held_take (i := 6) (v := ?_) rfl (by kernel_rfl) (by kernel_rfl) (by kernel_rfl) (fun _ _ _ h => h) (by rfl) hHeld ?y16_6 ?_
                case y16_6 => (intro w hSw; (try dsimp only at hSw); go_simp; try with_reducible rfl)
                try simp only [Act.put, List.setIfInBounds_toArray, List.set_cons_zero, List.set_cons_succ]
                refine held_take (i := 7) (v := ?_) rfl (by kernel_rfl) (by kernel_rfl) (by kernel_rfl) (fun _ _ _ h => h) (by rfl) hHeld ?y16_7 ?_
                case y16_7 => (intro w hSw; (try dsimp only at hSw); go_simp; try with_reducible rfl)
                try simp only [Act.put, List.setIfInBounds_toArray, List.set_cons_zero, List.set_cons_succ]
                refine held_take (i := 8) (v := ?_) rfl (by kernel_rfl) (by kernel_rfl) (by kernel_rfl) (fun _ _ _ h => h) (by rfl) hHeld ?y16_8 ?_
                case y16_8 => (intro w hSw; (try dsimp only at hSw); go_simp; try with_reducible rfl)
                try simp only [Act.put, List.setIfInBounds_toArray, List.set_cons_zero, List.set_cons_succ]
                refine held_take (i := 9) (v := ?_) rfl (by kernel_rfl) (by kernel_rfl) (by kernel_rfl) (fun _ _ _ h => h) (by rfl) hHeld ?y16_9 ?_
                case y16_9 => (intro w hSw; (try dsimp only at hSw); go_simp; try with_reducible rfl)
                try simp only [Act.put, List.setIfInBounds_toArray, List.set_cons_zero, List.set_cons_succ]
                refine held_take (i := 10) (v := ?_) rfl (by kernel_rfl) (by kernel_rfl) (by kernel_rfl) (fun _ _ _ h => h) (by rfl) hHeld ?y16_10 ?_
                case y16_10 => (intro w hSw; (try dsimp only at hSw); go_simp; try with_reducible rfl)
                try simp only [Act.put, List.setIfInBounds_toArray, List.set_cons_zero, List.set_cons_succ]
                refine held_take (i := 11) (v := ?_) rfl (by kernel_rfl) (by kernel_rfl) (by kernel_rfl) (fun _ _ _ h => h) (by rfl) hHeld ?y16_11 ?_
                case y16_11 => (intro w hSw; (try dsimp only at hSw); go_simp; try with_reducible rfl)
                try simp only [Act.put, List.setIfInBounds_toArray, List.set_cons_zero, List.set_cons_succ]
                refine held_take (i := 12) (v := ?_) rfl (by kernel_rfl) (by kernel_rfl) (by kernel_rfl) (fun _ _ _ h => h) (by rfl) hHeld ?y16_12 ?_
                case y16_12 => (intro w hSw; (try dsimp only at hSw); go_simp; try with_reducible rfl)
                try simp only [Act.put, List.setIfInBounds_toArray, List.set_cons_zero, List.set_cons_succ]
                refine held_take (i := 13) (v := ?_) rfl (by kernel_rfl) (by kernel_rfl) (by kernel_rfl) (fun _ _ _ h => h) (by rfl) hHeld ?y16_13 ?_
                case y16_13 => (intro w hSw; (try dsimp only at hSw); go_simp; try with_reducible rfl)
                try simp only [Act.put, List.setIfInBounds_toArray, List.set_cons_zero, List.set_cons_succ]
                refine held_take (i := 14) (v := ?_) rfl (by kernel_rfl) (by kernel_rfl) (by kernel_rfl) (fun _ _ _ h => h) (by rfl) hHeld ?y16_14 ?_
                case y16_14 => (intro w hSw; (try dsimp only at hSw); go_simp; try with_reducible rfl)
                try simp only [Act.put, List.setIfInBounds_toArray, List.set_cons_zero, List.set_cons_succ]
                refine wpAnyH_done (by kernel_rfl) ?_ _
                refine NoPanic.normal ?_
                go_wp2_with fail
                go_meet
                exact ⟨k, rfl, Nat.le_of_not_lt (fun h => heq (HLO.out h)), by omega, Lib.hid hbd⟩
            · obtain rfl : k = n := by omega
              have hki : ¬ (k : Int) < (k : Int) := by omega
              have hbd := HBk.out.trans ((Below.refl wr.heap.size wr).drew.mono HBk.out.size)
              go_wp2_with fail
              refine wp_region_noPanic ?_
              refine wp_region_held_drew (S := fun W => Below X9.heap.size X9 W) (by kernel_rfl) hbd (fun hHeld => ?_)
              refine held_take (i := 0) (v := ?_) rfl (by kernel_rfl) (by kernel_rfl) (by kernel_rfl) (fun _ _ _ h => h) (by rfl) hHeld ?y16_0 ?_
              case y16_0 => (intro w hSw; (try dsimp only at hSw); go_simp; try with_reducible rfl)
              try simp only [Act.put, List.setIfInBounds_toArray, List.set_cons_zero, List.set_cons_succ]
              refine held_take (i := 1) (v := ?_) rfl (by kernel_rfl) (by kernel_rfl) (by kernel_rfl) (fun _ _ _ h => h) (by rfl) hHeld ?y16_1 ?_
              case y16_1 => (intro w hSw; (try dsimp only at hSw); go_simp; try with_reducible rfl)
              try simp only [Act.put, List.setIfInBounds_toArray, List.set_cons_zero, List.set_cons_succ]
              refine held_take (i := 2) (v := ?_) rfl (by kernel_rfl) (by kernel_rfl) (by kernel_rfl) (fun _ _ _ h => h) (by rfl) hHeld ?y16_2 ?_
              case y16_2 => (intro w hSw; (try dsimp only at hSw); go_simp; try with_reducible rfl)
              try simp only [Act.put, List.setIfInBounds_toArray, List.set_cons_zero, List.set_cons_succ]
              refine held_take (i := 3) (v := ?_) rfl (by kernel_rfl) (by kernel_rfl) (by kernel_rfl) (fun _ _ _ h => h) (by rfl) hHeld ?y16_3 ?_
              case y16_3 => (intro w hSw; (try dsimp only at hSw); go_simp; try with_reducible rfl)
              try simp only [Act.put, List.setIfInBounds_toArray, List.set_cons_zero, List.set_cons_succ]
              refine held_take (i := 4) (v := ?_) rfl (by kernel_rfl) (by kernel_rfl) (by kernel_rfl) (fun _ _ _ h => h) (by rfl) hHeld ?y16_4 ?_
              case y16_4 => (intro w hSw; (try dsimp only at hSw); go_simp; try with_reducible rfl)
              try simp only [Act.put, List.setIfInBounds_toArray, List.set_cons_zero, List.set_cons_succ]
              refine held_off (i := 5) rfl (by kernel_rfl) (by kernel_rfl) (by kernel_rfl) (fun _ _ _ h => h) (by rfl) hHeld ?_
              try simp only [Act.put, List.setIfInBounds_toArray, List.set_cons_zero, List.set_cons_succ]
              refine held_off (i := 6) rfl (by kernel_rfl) (by kernel_rfl) (by kernel_rfl) (fun _ _ _ h => h) (by rfl) hHeld ?_
              try simp only [Act.put, List.setIfInBounds_toArray, List.set_cons_zero, List.set_cons_succ]
              refine held_off (i := 7) rfl (by kernel_rfl) (by kernel_rfl) (by kernel_rfl) (fun _ _ _ h => h) (by rfl) hHeld ?_
              try simp only [Act.put, List.setIfInBounds_toArray, List.set_cons_zero, List.set_cons_succ]
              refine held_off (i := 8) rfl (by kernel_rfl) (by kernel_rfl) (by kernel_rfl) (fun _ _ _ h => h) (by rfl) hHeld ?_
              try simp only [Act.put, List.setIfInBounds_toArray, List.set_cons_zero, List.set_cons_succ]
              refine held_off (i := 9) rfl (by kernel_rfl) (by kernel_rfl) (by kernel_rfl) (fun _ _ _ h => h) (by rfl) hHeld ?_
              try simp only [Act.put, List.setIfInBounds_toArray, List.set_cons_zero, List.set_cons_succ]
              refine held_off (i := 10) rfl (by kernel_rfl) (by kernel_rfl) (by kernel_rfl) (fun _ _ _ h => h) (by rfl) hHeld ?_
              try simp only [Act.put, List.setIfInBounds_toArray, List.set_cons_zero, List.set_cons_succ]
              refine held_off (i := 11) rfl (by kernel_rfl) (by kernel_rfl) (by kernel_rfl) (fun _ _ _ h => h) (by rfl) hHeld ?_
              try simp only [Act.put, List.setIfInBounds_toArray, List.set_cons_zero, List.set_cons_succ]
              refine held_off (i := 12) rfl (by kernel_rfl) (by kernel_rfl) (by kernel_rfl) (fun _ _ _ h => h) (by rfl) hHeld ?_
              try simp only [Act.put, List.setIfInBounds_toArray, List.set_cons_zero, List.set_cons_succ]
              refine held_off (i := 13) rfl (by kernel_rfl) (by kernel_rfl) (by kernel_rfl) (fun _ _ _ h => h) (by rfl) hHeld ?_
              try simp only [Act.put, List.setIfInBounds_toArray, List.set_cons_zero, List.set_cons_succ]
              refine held_take (i := 14) (v := ?_) rfl (by kernel_rfl) (by kernel_rfl) (by kernel_rfl) (fun _ _ _ h => h) (by rfl) hHeld ?y16_14 ?_
              case y16_14 => (intro w hSw; (try dsimp only at hSw); go_simp; try with_reducible rfl)
              try simp only [Act.put, List.setIfInBounds_toArray, List.set_cons_zero, List.set_cons_succ]
              refine wpAnyH_done (by kernel_rfl) ?_ _
              refine NoPanic.normal ?_
              go_wp2_with fail
              go_meet
              exact ⟨k, rfl, hrn, Nat.le_refl _, Lib.hid hbd⟩
        case rest =>
          obtain ⟨k, rfl, hrk, hkn, HBk⟩ := hcut
          obtain ⟨X, rfl⟩ : ∃ X, X = wc := ⟨_, rfl⟩
          go_upto_region 18 with fail
          go_cut [125] (fun s wx => s = .bool false ∧ wx = X)
          case first =>
            cases s
            · go_wp2_with fail
              go_meet
              exact ⟨rfl, rfl⟩
            · have hnx : ¬ (k : Int) < (xs.length : Int) := by have := hpr rfl; omega
              have hnx2 : ¬ k < xs.length := by have := hpr rfl; omega
              go_wp2_with fail
              go_meet
              exact ⟨rfl, rfl⟩
          case rest =>
            obtain ⟨rfl, rfl⟩ := hcut
            obtain ⟨X, rfl⟩ : ∃ X, X = wc := ⟨_, rfl⟩
            go_wp2_with fail
            go_loopw [16] (fun i wr => ∃ j : Nat, i = .int .i64 (j : Int) ∧ k ≤ j ∧ j ≤ n ∧ Hid (Below X9.heap.size X9 wr)) (fun i _ => n - (intOf i).toNat)
            case atStart => exact ⟨k, rfl, Nat.le_refl _, hkn, HBk⟩
            case round =>
              obtain ⟨j, rfl, hkj, hjn, HBj⟩ := hrel
              by_cases hlt : j < n
              · obtain ⟨ad7, hA7, hcell7⟩ := HR7.out.2.2 (by omega)
                have hc7 := hcell7 j hlt
                rw [fallen_hi al r q j (by have := HM.out; omega) (by omega)] at hc7
                replace hc7 := pw_cell_below HBj.out hc7
                have HLT : Hid (j < n) := Lib.hid hlt
                have hi7 : ∀ W, (Instr.indexAt 27 (.slice A7 n c7) (.int .i64 (j : Int))).run Try.prog W = .ok (.pointer (some (ad7.add j))) W := fun W => by
                  rw [hA7]
                  have h2 : 0 ≤ (j : Int) ∧ (j : Int) < (n : Int) := ⟨by omega, by omega⟩
                  go_simp
                have hji : (j : Int) < (n : Int) := by omega
                clear hA7 hcell7
                go_wp2_with fail
                go_roundw
                case rel => exact ⟨j + 1, by go_num, by omega, by have := HLT.out; omega, HBj⟩
                case measure => have := HLT.out; simp [intOf]; omega
              · have hji : ¬ (j : Int) < (n : Int) := by omega
                have hKj := HK9.out.below HBj.out
                have HG10 := Lib.hid (HG9.out.below HBj.out)
                have HAPx := Lib.hid HAP7.out
                have hB := (Below.refl wr.heap.size wr).alloc (Nat.le_refl _) (.cells (nums .u8 [9, 9, 9]).toArray 5)
                have HKB := Lib.hid (hKj.below hB)
                have KCR := k_crash HKB.out (.slice (some ⟨wr.heap.size, 0, none⟩) 3 3) [9, 9, 9] (own_litB wr wr.heap.size [9, 9, 9] (Nat.le_refl _) (by decide)).rd (by decide) (Far.new hKj.at_)
                have HGB : Hid (OwnB (wr.alloc (.cells (nums .u8 [9, 9, 9]).toArray 5)) w1.heap.size (.slice A7 n c7) (fallen al r q)) := Lib.hid (HG10.out.below hB)
                have HKCR := Lib.hid KCR
                clear hKj hB KCR
                go_wp2_with fail
                refine HKCR.out.mono ?_
                rintro e Y1 ⟨⟨u, rfl⟩, G11, hk, ht⟩
                have hgy := (Apart.tr HAPx.out HGB.out ht).2
                have KR := k_read hk [120] (by decide)
                rw [kd_again st (fallen al r q) _ (by rw [HGL.out]; exact HRQ.out.symm)] at KR
                have HKR := Lib.hid KR
                have HGY : Hid (OwnB Y1 w1.heap.size (.slice A7 n c7) (fallen al r q)) := Lib.hid hgy
                clear hk ht hgy KR HKCR
                go_wp2_with fail
                refine HKR.out.mono ?_
                rintro e Y2 ⟨v2, rfl, ho2, hk, hb2⟩
                have HBE := Lib.hid (HB1.out.trans (hk.bel.mono HB1.out.size))
                have hr7 := (HGY.out.below hb2).rd.reads
                obtain ⟨A2', c2', rfl, -, hr2⟩ := ho2.rd
                obtain ⟨L, hL⟩ : ∃ L, fallen al r q = L := ⟨_, rfl⟩
                have hLn : L.length = n := by rw [← hL]; exact HGL.out
                rw [hL] at hr2 hr7
                have hcv7 : (convert 27 9 (.slice A7 n c7)).run Try.prog Y2 = .ok (.string (strOfNums L)) Y2 := by
                  have := conv_bytes_string (P := Try.prog) 27 5 9 Try.underlying27 Try.underlying5 Try.underlying9 hr7 c7
                  rwa [hLn] at this
                have hcv2 : (convert 27 9 (.slice A2' n c2')).run Try.prog Y2 = .ok (.string (strOfNums L)) Y2 := by
                  have := conv_bytes_string (P := Try.prog) 27 5 9 Try.underlying27 Try.underlying5 Try.underlying9 hr2 c2'
                  rwa [hLn] at this
                rw [hL, hLn]
                clear ho2 hk hb2 hr7 hr2 hL hLn HKR HGY
                go_wp2_with fail
                go_ret
                exact ⟨rfl, HBE.out⟩
end Go.Proofs.Ytbooiaaejhbbkaa
