import Derived.Test.YtaccjifhgohfpaaDoorUtfBytes
/- The examples that each law of layer 2 runs first. -/
namespace Go.Proofs.YtaccjifhgohfpaaDoor
open Go.RowKit Go.Shelf Go.Proofs.YtaccjifhgohfpaaDoorW.PrintWords Go.Proofs.YtaccjifhgohfpaaDoorW.PrintMore

theorem rd_oneN (k : IntKind) (W : World) (x : Int) (t : TypeId) (fz : Nat × Nat) : RdN k (W.alloc (.cells #[.int k x] t fz)) (.slice (some ⟨W.heap.size, 0, none⟩) 1 1) [x] :=
  ⟨_, _, rfl, Nat.le_refl _, rfl, by show 1 ≤ 9223372036854775807; decide, fun _ => ⟨_, rfl, fun j hj => by
    obtain rfl : j = 0 := by simpa using hj
    rw [show (⟨W.heap.size, 0, none⟩ : Addr).add 0 = ⟨W.heap.size, 0, none⟩ from if_pos rfl]
    unfold World.cell?
    rw [heap_alloc_new]
    rfl⟩⟩
theorem cell_at0 {W : World} {ad : Addr} {x : Option Value} (h : W.cell? (ad.add 0) = x) : W.cell? ad = x := (congrArg W.cell? (if_pos rfl : ad.add 0 = ad)).symm.trans h
theorem cell_at {W : World} {ad : Addr} {x : Option Value} {i : Nat} (hi : i ≠ 0) (h : W.cell? (ad.add i) = x) : W.cell? ⟨ad.block, ad.off + i, none⟩ = x := (congrArg W.cell? (if_neg hi : ad.add i = _)).symm.trans h
theorem runes_ff : runes [255, 65] = [65533, 65] ∧ places [255, 65] = [0, 1] := by decide +kernel
theorem good_ff : allGood [255] = false ∧ allGood [195, 169] = true ∧ encs' [233] = [195, 169] := by decide +kernel

set_option maxHeartbeats 1000000 in
set_option maxRecDepth 100000 in
theorem known2 (w : World) (hT : Tabs w) : Calls Tryd.prog 13 #[] w fun e w' => e = .returned (.bool true) ∧ Below w.heap.size w w' := by
  have HT := Lib.hid hT
  clear hT
  have HB0 := Lib.hid (below_alloc (Below.refl _ w) (.cells (nums .u8 [255, 65]).toArray 5))
  have Hl := Lib.hid (rd_lit w [255, 65] (0, 0) (by decide))
  have kc := conv_const
  go_enter Tryd.func13, Tryd.ntmps13
  go_wp2_with fail
  refine (utf_runes _ [255, 65] _ (HT.out.below HB0.out) Hl.out (by decide) (by decide)).mono ?_
  rintro e w1 ⟨u, v, rfl, hu, hv, hb⟩
  have HB1 := Lib.hid (HB0.out.trans (hb.mono HB0.out.size))
  rw [runes_ff.1] at hu
  rw [runes_ff.2] at hv
  have hv' := hv.rd
  obtain ⟨A, c, rfl, hc, hl, hm, hrd⟩ := hu.rd
  obtain ⟨ad, rfl, hcell⟩ := hrd (by decide)
  have c0 := cell_at0 (hcell 0 (by decide))
  have c1 := cell_at (by decide) (hcell 1 (by decide))
  obtain ⟨A2, c2, rfl, hc2, hl2, hm2, hrd2⟩ := hv.rd
  obtain ⟨ad2, rfl, hcell2⟩ := hrd2 (by decide)
  have d1 := cell_at (by decide) (hcell2 1 (by decide))
  simp only [List.length_cons, List.length_nil, Nat.reduceAdd, List.getD_cons_zero, List.getD_cons_succ] at hc hc2 c0 c1 d1 hv' ⊢
  have HV := Lib.hid hv'
  clear hb hu hv hrd hcell hrd2 hcell2 hl hm hl2 hm2 hv' Hl
  go_wp2_with fail
  have HB2a := Lib.hid (HB1.out.alloc HB1.out.size (.cells (nums .u8 [255]).toArray 5))
  refine (utf_good _ [255] _ (HT.out.below HB2a.out) (rd_lit w1 [255] (0, 0) (by decide)) (by decide)).mono ?_
  rw [good_ff.1]
  rintro e w2 ⟨rfl, hb2⟩
  have HB12 := Lib.hid ((Below.refl w1.heap.size w1).alloc (Nat.le_refl _) (.cells (nums .u8 [255]).toArray 5) |>.trans (hb2.mono (by simp)))
  have HB2 := Lib.hid (HB1.out.trans (HB12.out.mono HB1.out.size))
  have HV2 := Lib.hid (HV.out.below HB12.out)
  clear hb2 c0 c1 d1 HV HB12 HB2a
  go_wp2_with fail
  have HB3a := Lib.hid (HB2.out.alloc HB2.out.size (.cells (nums .u8 [195, 169]).toArray 5 (2, 3)))
  refine (utf_good _ [195, 169] _ (HT.out.below HB3a.out) (rd_lit w2 [195, 169] (2, 3) (by decide)) (by decide)).mono ?_
  rw [good_ff.2.1]
  rintro e w3 ⟨rfl, hb3⟩
  have HB23 := Lib.hid ((Below.refl w2.heap.size w2).alloc (Nat.le_refl _) (.cells (nums .u8 [195, 169]).toArray 5 (2, 3)) |>.trans (hb3.mono (by simp)))
  have HB3 := Lib.hid (HB2.out.trans (HB23.out.mono HB2.out.size))
  have HV3 := Lib.hid (HV2.out.below HB23.out)
  clear hb3 HV2 HB23 HB3a
  go_wp2_with fail
  have HB4a := Lib.hid ((Below.refl w3.heap.size w3).alloc (Nat.le_refl _) (.cells #[.int .i32 233] 21))
  refine (utf_bytes _ [233] _ (rd_oneN .i32 w3 233 _ (0, 0)) (fun x hx => by simp at hx; omega) (by decide)).mono ?_
  rw [good_ff.2.2]
  rintro e w4 ⟨u4, rfl, hu4, hb4⟩
  have HB34 := Lib.hid (HB4a.out.trans (hb4.mono (by simp)))
  have HB4 := Lib.hid (HB3.out.trans (HB34.out.mono HB3.out.size))
  have HV4 := Lib.hid (HV3.out.below HB34.out)
  obtain ⟨A4, c4, rfl, hc4, hr4⟩ := hu4.rd
  have e4 := conv_bytes_string (P := Tryd.prog) 22 5 9 Tryd.underlying22 Tryd.underlying5 Tryd.underlying9 hr4 c4
  have hst : strOfNums [195, 169] = ByteArray.mk #[195, 169] := by decide +kernel
  rw [hst] at e4
  simp only [List.length_cons, List.length_nil, Nat.reduceAdd] at e4
  have q1 := Lib.hid (utf_at _ [0, 1] 2 2 w4 HV4.out)
  have q2 := Lib.hid (utf_at _ [0, 1] 2 3 w4 HV4.out)
  clear hb4 hu4 hr4 hst HV3 HB34 HB4a
  go_wp2_with fail
  refine q1.out.mono ?_
  rintro e w5 ⟨rfl, rfl⟩
  rw [show atV [0, 1] 2 2 = 2 from by decide]
  go_wp2_with fail
  refine q2.out.mono ?_
  rintro e w5 ⟨rfl, rfl⟩
  rw [show atV [0, 1] 2 3 = -1 from by decide]
  go_wp2
  go_ret
  exact ⟨rfl, HB4.out⟩
end Go.Proofs.YtaccjifhgohfpaaDoor
