import Derived.Test.YteebojnabifccaaNoughtMath
import Derived.Test.YteebojnabifccaaFrameLengths
/- FrameNoughts: noughts are no frame; what is left of one, cut off, with one to four noughts at its end, isn't either. -/
namespace Go.Proofs.Yteebojnabifccaa
open Go.RowKit Go.Proofs.YteebojnabifccaaW.PrintWords Go.Proofs.YteebojnabifccaaW.PrintMore

theorem next_any {v : Value} {bs : List Int} {w w' : World} {e : Ending} (h : NextP v bs w e w') (b : Bool) (hb : b = true ↔ NextOk bs) :
    ∃ x r c, e = .returned (.tuple #[x, r, .int .i64 c]) ∧ (c == 0) = b ∧ Below w.heap.size w w' := by
  rcases h with ⟨ok, x, r, rfl, _, _, hw⟩ | ⟨no, rfl, hw⟩
  · exact ⟨x, r, 0, rfl, (hb.2 ok).symm, hw⟩
  · refine ⟨_, _, 210, rfl, ?_, hw⟩
    cases b with
    | false => rfl
    | true => exact absurd (hb.1 rfl) no
theorem min3_is {k1 k2 k3 : IntKind} {x y z r : Int} (h : (if z < (if y < x then y else x) then z else (if y < x then y else x)) = r) (ats : Array TypeId) (ty : TypeId) :
    Builtin.min_ ats ty #[.int k1 x, .int k2 y, .int k3 z] = pure (.int k1 r) := by
  subst h
  rw [min_three, min2_int]
  simp only [pure_bind, min2_int]
set_option maxHeartbeats 1000000 in
set_option maxRecDepth 100000 in
theorem frameNoughts_walk (v : Value) (xs : List Int) (cut ns : Int) (w : World) (hr : RdB w v xs) (hby : By xs) (hz : xs.length ≤ 140737488351232)
    (hc : 0 ≤ cut ∧ cut < 65536) (hn : 0 ≤ ns ∧ ns < 65536) :
    Calls Try.prog 9 #[v, .int .u16 cut, .int .u16 ns] w fun e w' => e = .returned (.bool true) ∧ Below w.heap.size w w' := by
  obtain ⟨A, c, rfl, hcap, hread⟩ := hr
  have Hr := Lib.hid hread
  clear hread
  by_cases h200 : 200 < xs.length
  · go_enter Try.func9, Try.ntmps9
    go_wp2_with (go_at_call 26; refine (known21 _).mono ?_; rintro e w1 ⟨rfl, hb1⟩)
    go_ret
    exact ⟨rfl, hb1⟩
  obtain ⟨F, hF⟩ : ∃ F, frameB (xs ++ [7]) = F := ⟨_, rfl⟩
  have hFl : F.length = xs.length + 9 := by rw [← hF, frameB_length]; simp
  have hFb : By F := by rw [← hF]; exact frameB_by _ (hby.append (by decide))
  have HF := Lib.hid hF
  have HFl := Lib.hid hFl
  have hF9 : 9 ≤ F.length := by omega
  have hF3 : F.length ≤ 300 := by omega
  obtain ⟨k, hk⟩ : ∃ k, cut % ((F.length : Int) + 1) = k := ⟨_, rfl⟩
  have hk0 : 0 ≤ k := by rw [← hk]; exact Int.emod_nonneg _ (by omega)
  have hk1 : k < (F.length : Int) + 1 := by rw [← hk]; exact Int.emod_lt_of_pos _ (by omega)
  obtain ⟨kk, rfl⟩ := Int.eq_ofNat_of_zero_le hk0
  obtain ⟨q, hq⟩ : ∃ q : Int, (if (kk : Int) < (if (xs.length : Int) + 1 < 4 then (xs.length : Int) + 1 else 4) then (kk : Int) else (if (xs.length : Int) + 1 < 4 then (xs.length : Int) + 1 else 4)) = q := ⟨_, rfl⟩
  have hq0 : 0 ≤ q ∧ q ≤ 4 ∧ q ≤ xs.length + 1 ∧ q ≤ kk := by rw [← hq]; split <;> (try split) <;> omega
  obtain ⟨hq0, hq1, hq2, hq3⟩ := hq0
  have hmin := fun ats ty => min3_is (k1 := .i64) (k2 := .i64) (k3 := .i64) hq ats ty
  obtain ⟨n, hnn⟩ : ∃ n, ns % (q + 1) = n := ⟨_, rfl⟩
  have hn0 : 0 ≤ n := by rw [← hnn]; exact Int.emod_nonneg _ (by omega)
  have hn1 : n < q + 1 := by rw [← hnn]; exact Int.emod_lt_of_pos _ (by omega)
  obtain ⟨nn, rfl⟩ := Int.eq_ofNat_of_zero_le hn0
  have Hl1 := Lib.hid (show (([] : List Int).length + xs.length) * 1 ≤ 140737488355328 from by simp; omega)
  have Hl2 := Lib.hid (show (([] ++ xs : List Int).length + 1) * 1 ≤ 140737488355328 from by simp; omega)
  have Hxb : Hid (By (xs ++ [7])) := Lib.hid (hby.append (by decide))
  have Hq := Lib.hid hq
  clear hF hFl hq
  go_enter Try.func9, Try.ntmps9
  go_wp2_with (first
    | (go_at_call 26; refine (known21 _).mono ?_; rintro e w1 ⟨rfl, hb1⟩; have HB1 := Lib.hid hb1; have Hr1 := Lib.hid (Hr.out.below hb1); clear hb1)
    | (at_builtin; refine print_append_row (w0 := w1) w1.heap.size rfl _ _ _ _ .u8 1 rfl Try.underlying22 info8 (by omega) (.slice none 0 0) [] xs A xs.length c rfl rfl (own_nil _ _ _ _) Hr1.out (Below.refl _ _) (Nat.le_refl _) Hl1.out ?_; intro v2 w2 ho2 hb2 hg2 hat2; have Ho2 := Lib.hid ho2; have Hb2 := Lib.hid hb2; clear ho2 hb2 hg2 hat2)
    | (at_builtin; refine print_append_row (w0 := w2.alloc (.cells #[.int .u8 7] 5)) w1.heap.size rfl _ _ _ _ .u8 1 rfl Try.underlying22 info8 (by omega) v2 ([] ++ xs) [7] (some ⟨w2.heap.size, 0, none⟩) 1 1 rfl rfl (OwnB.below Ho2.out (below_alloc (Below.refl _ _) _)) (rd_lit w2 [7] _ (by decide)).reads (Below.refl _ _) (Nat.le_trans Hb2.out.size (by rw [World.size_alloc]; omega)) Hl2.out ?_; intro v3 w3 ho3 hb3 hg3 hat3))
  rw [List.nil_append] at ho3
  have hb13 := (Hb2.out.alloc Hb2.out.size (.cells #[.int .u8 7] 5)).trans hb3
  have HB3 := Lib.hid (HB1.out.trans (hb13.mono HB1.out.size))
  refine (frame_frame v3 (xs ++ [7]) w3 (OwnB.rd ho3) Hxb.out (by simp; omega)).mono ?_
  rw [HF.out]
  rintro e w4 ⟨v4, rfl, ho4, hb4⟩
  have HB4 := Lib.hid (HB3.out.trans (hb4.mono HB3.out.size))
  obtain ⟨As, cs, rfl, hcs, hrs⟩ := ho4.rd
  have Hs := Lib.hid hrs
  obtain ⟨ts, hts, htc, htr, htl⟩ := cut_to hcs hrs .i64 (kk : Int) hk0 (by omega)
  rw [Int.toNat_natCast] at hts
  have Htr := Lib.hid htr.reads
  have hts' := Lib.hid hts
  have htb : By ts := by rw [hts]; exact hFb.take _
  have Hl3 := Lib.hid (show (([] : List Int).length + ts.length) * 1 ≤ 140737488355328 from by simp; omega)
  obtain ⟨m', hm'⟩ : ∃ m', cut % 40 = m' := ⟨_, rfl⟩
  obtain ⟨m, rfl⟩ := Int.eq_ofNat_of_zero_le (show 0 ≤ m' by omega)
  have hm40 : m < 40 := by omega
  have mk : ∀ W : World, (Instr.makeSlice 22 (.int .i64 (m : Int)) (.int .i64 (m : Int))).run Try.prog W = .ok (.slice (some ⟨W.heap.size, 0, none⟩) m m) (W.alloc (.cells (madeCells #[.int .u8 0] m) 5)) :=
    print_make 22 5 .u8 1 Try.underlying22 info8 (by omega) m (by omega)
  obtain ⟨p, hp⟩ : ∃ p : Nat, kk = p + nn := ⟨kk - nn, by omega⟩
  have hsub : IntKind.i64.wrap ((kk : Int) - (nn : Int)) = (p : Int) := by rw [IntKind.wrap_i64]; omega
  have hpk : p ≤ kk := by omega
  have Hp := Lib.hid hp
  have htl2 : ts.length ≤ kk := by omega
  have htl3 : kk ≤ ts.length := by omega
  clear hp htl ho3 hb3 hg3 hat3 hb13 ho4 hb4 hrs htr hts Ho2 Hb2
  go_wp2_with (at_builtin; refine print_append_row (w0 := w4) w4.heap.size rfl _ _ _ _ .u8 1 rfl Try.underlying22 info8 (by omega) (.slice none 0 0) [] ts As ts.length cs rfl rfl (own_nil _ _ _ _) Htr.out (Below.refl _ _) (Nat.le_refl _) Hl3.out ?_; intro v5 w5 ho5 hb5 hg5 hat5; rw [List.nil_append] at ho5; have Ho5 := Lib.hid ho5; have Hb5 := Lib.hid hb5; clear ho5 hb5 hg5 hat5)
  go_loopw [11] (fun i wr => ∃ t : Nat, p ≤ t ∧ t ≤ kk ∧ i = .int .i64 (t : Int) ∧ Below w4.heap.size w4 wr ∧ wr.ownsRow w4.heap.size 5 1 v5 ts.length (nums .u8 (zeroed ts p (t - p)))) (fun i _ => kk - (intOf i).toNat)
  case atStart => exact ⟨p, Nat.le_refl _, hpk, rfl, Hb5.out, by rw [Nat.sub_self]; exact Ho5.out⟩
  case round =>
    obtain ⟨t, ht0, ht1, rfl, hB, hown⟩ := hrel
    have HB := Lib.hid hB
    have Hown := Lib.hid hown
    clear hB hown
    by_cases hlt : t < kk
    · obtain ⟨g, cap, rfl, hgb, hgl⟩ := Hown.out.form (by omega)
      have hidx := idx_own g ts.length cap t (by omega)
      obtain ⟨hc1, hf1⟩ := own_get Hown.out t (by omega)
      go_wp2
      go_roundw
      case rel =>
        refine ⟨t + 1, by omega, by omega, by go_num, (HB.out.setCell (p := ⟨g, t, none⟩) hgb _), ?_⟩
        have hs := own_set Hown.out t 0
        rw [show t + 1 - p = t - p + 1 by omega, zeroed, show p + (t - p) = t by omega]
        exact hs
      case measure => simp [intOf]; omega
    · obtain rfl : t = kk := by omega
      have hpn : t - p = nn := by have := Hp.out; omega
      have hlaw := nought_law xs hby (by omega) t nn (by have := HFl.out; omega) (by omega) (by omega) (by omega) (zeroed ts p (t - p)) (zeroed_by _ htb _ _) (by rw [zeroed_length]; omega)
        (fun i hi => by
          have := Hp.out
          rw [zeroed_low _ _ _ _ (by omega), hts'.out, HF.out, List.getElem?_take, if_pos (by omega)])
        (fun i h1 h2 => by
          have := Hp.out
          exact zeroed_high _ _ _ _ (by omega) (by omega) (by omega))
      have hown5 : OwnB wr w4.heap.size v5 (zeroed ts p (t - p)) := by unfold OwnB; rw [zeroed_length]; exact Hown.out
      have hrd5 := hown5.rd
      have hZb := zeroed_by ts htb p (t - p)
      have hbool : (((t : Int) == (F.length : Int)) && ((nn : Int) == 0)) = true ↔ NextOk (zeroed ts p (t - p)) := by
        rw [hlaw, Bool.and_eq_true, beq_iff_eq, beq_iff_eq]
        have := HFl.out
        constructor <;> rintro ⟨a, b⟩ <;> constructor <;> omega
      generalize zeroed ts p (t - p) = Z at hrd5 hZb hbool
      have HBw := Lib.hid (HB4.out.trans (HB.out.mono HB4.out.size))
      have Hrd5 := Lib.hid hrd5
      have Hbool := Lib.hid hbool
      clear hlaw hown5 hrd5 hbool hpn
      go_wp2_with fail
      refine (frame_next v5 Z _ (Hrd5.out.below (Below.refl _ _)) hZb).mono ?_
      intro e w7 hu
      obtain ⟨x7, r7, cE, rfl, hE, hb7⟩ := next_any hu _ Hbool.out
      have HB7 := Lib.hid (HBw.out.trans (hb7.mono HBw.out.size))
      have HE := Lib.hid hE
      have hmr : RdB (w7.alloc (.cells (madeCells #[.int .u8 0] m) 5)) (.slice (some ⟨w7.heap.size, 0, none⟩) m m) (List.replicate m 0) := OwnB.rd (own_made' w7 w7.heap.size 5 .u8 m (Nat.le_refl _) (by omega))
      have Hmr := Lib.hid hmr
      have HB8 := Lib.hid (HB7.out.alloc HB7.out.size (.cells (madeCells #[.int .u8 0] m) 5))
      clear hu hE hb7 hmr hZb
      go_wp2_with fail
      refine (frame_next _ (List.replicate m 0) _ Hmr.out (noughts_by m)).mono ?_
      intro e w9 hu
      obtain ⟨rfl, hb9⟩ := next_no hu (noughts_bad m)
      have HB9 := Lib.hid (HB8.out.trans (hb9.mono HB8.out.size))
      have hE := HE.out
      clear hu hb9 mk
      rcases hA : ((t : Int) == (F.length : Int)) <;> rcases hN : ((nn : Int) == 0)
      all_goals
        rw [hA, hN] at hE
        simp only [Bool.and_true, Bool.and_false, Bool.and_self] at hE
        go_wp2
        go_ret
        exact ⟨rfl, HB9.out⟩
end Go.Proofs.Yteebojnabifccaa
