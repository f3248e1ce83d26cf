import Derived.Test.YtaccjifhgohfpaaDoorKnown2
/- UtfCuts: bytes cut anywhere between two code points have the code points of both parts, one behind the other. -/
namespace Go.Proofs.YtaccjifhgohfpaaDoor
open Go.RowKit Go.Shelf Go.Proofs.YtaccjifhgohfpaaDoorW.PrintWords Go.Proofs.YtaccjifhgohfpaaDoorW.PrintMore

theorem RdB.reads {w : World} {A : Option Addr} {n c : Nat} {xs : List Int} (h : RdB w (.slice A n c) xs) : ReadsInt w .u8 A xs.length xs := by
  obtain ⟨A', c', e, _, hr⟩ := h
  injection e with e1 e2 e3
  rw [e1]; exact hr
theorem cut_toN {A : Option Addr} {c : Nat} {xs : List Int} (hc : xs.length ≤ c) (j : Nat) (h1 : j ≤ xs.length) :
    (∀ W : World, (Instr.slice 23 (.slice A xs.length c) none (some (.int .i64 (j : Int))) none).run Tryd.prog W = .ok (.slice A j c) W) ∧ (∀ W : World, ReadsInt W .i32 A xs.length xs → RdN .i32 W (.slice A j c) (xs.take j)) := by
  obtain ⟨i8, hi8, hz8, hs8, hb8⟩ := info_parts info32
  obtain ⟨ht1, ht2, ht3⟩ := print_take_of (P := Tryd.prog) (Value.int .i32) (0 : Int) 23 21 .i64 Tryd.underlying23 hi8 hs8 A c xs (j : Int) (by omega) (by omega) hc
  have hl : (xs.take j).length = j := by rw [List.length_take]; omega
  rw [Int.toNat_natCast] at ht1 ht2 ht3
  rw [hl] at ht1 ht2
  exact ⟨ht1, fun W hr => ⟨A, c, by rw [hl], by rw [hl]; omega, by rw [hl]; exact ht2 W hr⟩⟩
theorem I32.take {xs : List Int} (h : I32 xs) (k : Nat) : I32 (xs.take k) := fun x hx => h x (List.mem_of_mem_take hx)
theorem encs'_split (ls : List Int) (q : Nat) : (encs' ls).drop (encs' (ls.take q)).length = encs' (ls.drop q) ∧ (encs' (ls.take q)).length ≤ (encs' ls).length := by
  have h : encs' ls = encs' (ls.take q) ++ encs' (ls.drop q) := by rw [← encs'_append, List.take_append_drop]
  rw [h]
  exact ⟨by rw [List.drop_append_of_le_length (Nat.le_refl _), List.drop_length, List.nil_append], by rw [List.length_append]; omega⟩

set_option maxHeartbeats 8000000 in
set_option maxRecDepth 100000 in
theorem utfCuts_walk (v : Value) (ls : List Int) (cut : Int) (v' : Value) (ts : List Int) (w : World) (hT : Tabs w) (hr : RdN .i32 w v ls) (hi : I32 ls) (hcut : 0 ≤ cut ∧ cut < 256) (hr2 : RdB w v' ts) (hby : By ts) (_hz : ts.length ≤ 140737488351232) :
    Calls Tryd.prog 5 #[v, .int .u8 cut, v'] w fun e w' => e = .returned (.bool true) ∧ Below w.heap.size w w' := by
  have HT := Lib.hid hT
  have Hr0 := Lib.hid hr
  have Hr20 := Lib.hid hr2
  obtain ⟨A, c, rfl, hcap, hread⟩ := hr
  obtain ⟨A2, c2, rfl, hcap2, hread2⟩ := hr2
  have hml := hread.2.1
  have Hr := Lib.hid hread
  have Hr2 := Lib.hid hread2
  clear hread hread2 hT
  by_cases h1 : 100 < ls.length
  · go_enter Tryd.func5, Tryd.ntmps5
    go_wp2_with (go_at_call 13; refine (known2 _ HT.out).mono ?_; rintro e w1 ⟨rfl, hb1⟩)
    go_ret
    exact ⟨rfl, hb1⟩
  by_cases h2 : 100 < ts.length
  · go_enter Tryd.func5, Tryd.ntmps5
    go_wp2_with (go_at_call 13; refine (known2 _ HT.out).mono ?_; rintro e w1 ⟨rfl, hb1⟩)
    go_ret
    exact ⟨rfl, hb1⟩
  have hq : ∃ q : Nat, q ≤ ls.length ∧ ((¬ 0 < ls.length ∧ q = 0) ∨ (0 < ls.length ∧ cut.tmod ((ls.length : Int) + 1) = (q : Int))) := by
    by_cases h0 : 0 < ls.length
    · obtain ⟨q, hq⟩ := Int.eq_ofNat_of_zero_le (show 0 ≤ cut % ((ls.length : Int) + 1) from Int.emod_nonneg _ (by omega))
      have := Int.emod_lt_of_pos cut (show 0 < (ls.length : Int) + 1 by omega)
      exact ⟨q, by omega, .inr ⟨h0, (Int.tmod_eq_emod_of_nonneg hcut.1).trans hq⟩⟩
    · exact ⟨0, by omega, .inl ⟨h0, rfl⟩⟩
  obtain ⟨q, hqn, hq⟩ := hq
  obtain ⟨hc1, hc2⟩ := cut_toN (A := A) hcap q hqn
  have HC2 := Lib.hid hc2
  obtain ⟨hs1, hs2⟩ := encs'_split ls q
  have hrB := runes_encs ls
  have hrA := runes_encs (ls.take q)
  have hrD := runes_encs (ls.drop q)
  have hrU := runes_enc ls ts
  have hjoin : (ls.take q).map normR ++ (ls.drop q).map normR = ls.map normR := by rw [← List.map_append, List.take_append_drop]
  have hxl : ((ls.take q).map normR).length = q := by rw [List.length_map, List.length_take]; omega
  have hyl : ((ls.drop q).map normR).length ≤ 100 := by rw [List.length_map, List.length_drop]; omega
  have hzl : (ls.map normR).length ≤ 100 := by rw [List.length_map]; omega
  have hBby := encs'_by ls
  have hAby := encs'_by (ls.take q)
  have hDby := encs'_by (ls.drop q)
  have hBl := encs'_len ls
  have hAl := encs'_len (ls.take q)
  have hDl := encs'_len (ls.drop q)
  rw [List.length_take] at hAl
  rw [List.length_drop] at hDl
  have hwl : (runes ts).length ≤ ts.length := by simp [runes]; exact steps_length_le 0 ts
  obtain ⟨B, hB⟩ : ∃ B, encs' ls = B := ⟨_, rfl⟩
  obtain ⟨As, hA⟩ : ∃ As, encs' (ls.take q) = As := ⟨_, rfl⟩
  obtain ⟨Ds, hD⟩ : ∃ Ds, encs' (ls.drop q) = Ds := ⟨_, rfl⟩
  obtain ⟨X, hX⟩ : ∃ X, (ls.take q).map normR = X := ⟨_, rfl⟩
  obtain ⟨Y, hY⟩ : ∃ Y, (ls.drop q).map normR = Y := ⟨_, rfl⟩
  obtain ⟨Z, hZ⟩ : ∃ Z, ls.map normR = Z := ⟨_, rfl⟩
  obtain ⟨Wt, hWt⟩ : ∃ Wt, runes ts = Wt := ⟨_, rfl⟩
  have HEB := Lib.hid hB
  have HEA := Lib.hid hA
  have HW := Lib.hid hWt
  rw [hB] at hs1 hs2 hrB hrU hBby hBl
  rw [hA] at hs1 hs2 hrA hAby hAl
  rw [hD] at hs1 hrD hDby hDl
  rw [hX] at hrA hjoin hxl
  rw [hY] at hrD hjoin hyl
  rw [hZ] at hrB hrU hjoin hzl
  rw [hWt] at hrU hwl
  have HRB := Lib.hid hrB
  have HRA := Lib.hid hrA
  have HRD := Lib.hid hrD
  have HRU := Lib.hid hrU
  have HJ := Lib.hid hjoin
  have HXL := Lib.hid hxl
  have HS1 := Lib.hid hs1
  have HBB := Lib.hid hBby
  have HAB := Lib.hid hAby
  have HDB := Lib.hid hDby
  have hal : (As.length : Int) ≤ (B.length : Int) := by omega
  have hbl : B.length ≤ 400 := by omega
  have HAL : Hid (As.length ≤ 400) := Lib.hid (by omega)
  have HDL : Hid (Ds.length ≤ 400) := Lib.hid (by omega)
  have HI := Lib.hid hi
  have Hqn := Lib.hid hqn
  have Hn : Hid (ls.length ≤ 1000000000000) := Lib.hid (by omega)
  have Hl1 : Hid ((([] : List Int).length + B.length) * 1 ≤ 140737488355328) := Lib.hid (by simp; omega)
  have Hl2 : Hid ((([] ++ B : List Int).length + ts.length) * 1 ≤ 140737488355328) := Lib.hid (by simp; omega)
  have Hl3 : Hid ((([] : List Int).length + Z.length) * 4 ≤ 140737488355328) := Lib.hid (by simp; omega)
  have Hl4 : Hid ((([] ++ Z : List Int).length + Wt.length) * 4 ≤ 140737488355328) := Lib.hid (by simp; omega)
  have Hl5 : Hid ((([] : List Int).length + X.length) * 4 ≤ 140737488355328) := Lib.hid (by simp; omega)
  have Hl6 : Hid ((([] ++ X : List Int).length + Y.length) * 4 ≤ 140737488355328) := Lib.hid (by simp; omega)
  have Hul : Hid ((([] ++ B : List Int) ++ ts).length ≤ 1000000000000) := Lib.hid (by simp; omega)
  clear hc2 hs1 hs2 hrB hrA hrD hrU hjoin hxl hBby hAby hDby hBl hAl hDl hB hA hD hX hY hZ hWt hwl hyl hzl hi
  rcases hq with ⟨h0, hq⟩ | ⟨h0, hq⟩
  all_goals
    (try subst hq)
    go_enter Tryd.func5, Tryd.ntmps5
    go_wp2_with (go_at_call 13; refine (known2 _ HT.out).mono ?_; rintro e w1 ⟨rfl, hb1⟩)
    have HB1 := Lib.hid hb1
    refine (utf_bytes _ ls w1 (Hr0.out.below HB1.out) HI.out Hn.out).mono ?_
    rw [HEB.out]
    rintro e w2 ⟨b2, rfl, hb2o, hb2⟩
    have HB2 := Lib.hid (HB1.out.trans (hb2.mono HB1.out.size))
    have HBv := Lib.hid hb2o.rd
    obtain ⟨Ab, cb, rfl, hcb, -⟩ := hb2o.rd
    clear hb2o hb2 hb1
    obtain ⟨Dx, Ad, cd, hds, hd1, hd2, hd3⟩ := cut_fromT (A := Ab) hcb .i64 (As.length : Int) (Int.natCast_nonneg _) hal
    rw [Int.toNat_natCast, HS1.out] at hds
    rw [hds] at hd1 hd2
    have HD2 := Lib.hid hd2
    have HD1 := Lib.hid hd1
    clear hd1 hd2 hd3 hds
    go_wp2_with fail
    refine (utf_bytes _ _ w2 (HC2.out w2 (Hr.out.below HB2.out)) (HI.out.take _) (by rw [List.length_take]; have := Hn.out; omega)).mono ?_
    rw [HEA.out]
    rintro e w3 ⟨a3, rfl, ha3, hb3⟩
    have HB3 := Lib.hid (HB2.out.trans (hb3.mono HB2.out.size))
    have HBv3 := Lib.hid (HBv.out.below hb3)
    have HAv := Lib.hid ha3.rd
    clear ha3 hb3
    go_wp2_with fail
    refine (utf_runes _ As w3 (HT.out.below HB3.out) HAv.out HAB.out (by have := HAL.out; omega)).mono ?_
    unfold RunesP
    rw [HRA.out]
    rintro e w4 ⟨x4, p4, rfl, hx4, -, hb4⟩
    have HB4 := Lib.hid (HB3.out.trans (hb4.mono HB3.out.size))
    have HBv4 := Lib.hid (HBv3.out.below hb4)
    obtain ⟨Aa, ca, rfl, hca, -⟩ := HAv.out
    have hd1 := HD1.out
    have HX4 := Lib.hid hx4.rd
    clear HBv3 hx4 hb4
    go_wp2_with fail
    refine (utf_runes _ Ds w4 (HT.out.below HB4.out) (HD2.out w4 HBv4.out.reads) HDB.out (by have := HDL.out; omega)).mono ?_
    unfold RunesP
    rw [HRD.out]
    rintro e w5 ⟨y5, p5, rfl, hy5, -, hb5⟩
    have HB5 := Lib.hid (HB4.out.trans (hb5.mono HB4.out.size))
    have HBv5 := Lib.hid (HBv4.out.below hb5)
    have HX5 := Lib.hid (HX4.out.below hb5)
    have HY5 := Lib.hid hy5.rd
    clear HBv4 HX4 hd1
    go_wp2_with fail
    refine (utf_runes _ B w5 (HT.out.below HB5.out) HBv5.out HBB.out (by omega)).mono ?_
    unfold RunesP
    rw [HRB.out]
    rintro e w6 ⟨z6, p6, rfl, hz6, -, hb6⟩
    have HB6 := Lib.hid (HB5.out.trans (hb6.mono HB5.out.size))
    have HBv6 := Lib.hid (HBv5.out.below hb6)
    have HX6 := Lib.hid (HX5.out.below hb6)
    have HY6 := Lib.hid (HY5.out.below hb6)
    have HZ6 := Lib.hid hz6.rd
    clear hy5 hb5 hz6 hb6 HBv5 HX5 HY5
    go_wp2_with (first
      | (at_builtin; refine print_append_row (w0 := w6) w6.heap.size rfl _ _ _ _ .u8 1 rfl Tryd.underlying22 info8 (by omega) (.slice none 0 0) [] B Ab B.length cb rfl rfl (own_nil _ _ _ _) HBv6.out.reads (Below.refl _ _) (Nat.le_refl _) Hl1.out ?_; intro v7 w7 ho7 hb7 hg7 hat7; have HO7 := Lib.hid ho7; have HB7 := Lib.hid hb7; have HR7 := Lib.hid (Hr2.out.below (HB6.out.trans (hb7.mono HB6.out.size))); clear ho7 hb7 hg7 hat7)
      | (at_builtin; refine print_append_row (w0 := w6) w6.heap.size rfl _ _ _ _ .u8 1 rfl Tryd.underlying22 info8 (by omega) v7 ([] ++ B) ts A2 ts.length c2 rfl rfl HO7.out HR7.out HB7.out HB7.out.size Hl2.out ?_; intro v8 w8 ho8 hb8 hg8 hat8))
    rw [List.nil_append] at ho8
    have Hul' := Hul.out
    rw [List.nil_append] at Hul'
    have HB8 := Lib.hid (HB6.out.trans (hb8.mono HB6.out.size))
    have HX8 := Lib.hid (HX6.out.below hb8)
    have HY8 := Lib.hid (HY6.out.below hb8)
    have HZ8 := Lib.hid (HZ6.out.below hb8)
    refine (utf_runes _ (B ++ ts) w8 (HT.out.below HB8.out) (OwnB.rd ho8) (HBB.out.append hby) Hul').mono ?_
    unfold RunesP
    rw [HRU.out]
    rintro e w9 ⟨u9, p9, rfl, hu9, -, hb9⟩
    have HB9 := Lib.hid (HB8.out.trans (hb9.mono HB8.out.size))
    have HX9 := Lib.hid (HX8.out.below hb9)
    have HY9 := Lib.hid (HY8.out.below hb9)
    have HZ9 := Lib.hid (HZ8.out.below hb9)
    have HU9 := Lib.hid hu9.rd
    clear ho8 hb8 hg8 hat8 Hul' HX6 HY6 HZ6 HX8 HY8 HZ8 hu9 hb9 HO7 HB7 HR7
    go_wp2_with fail
    refine (utf_runes _ ts w9 (HT.out.below HB9.out) (Hr20.out.below HB9.out) hby (by omega)).mono ?_
    unfold RunesP
    rw [HW.out]
    rintro e w10 ⟨t10, p10, rfl, ht10, -, hb10⟩
    have HB10 := Lib.hid (HB9.out.trans (hb10.mono HB9.out.size))
    have HX := Lib.hid (HX9.out.below hb10)
    have HY := Lib.hid (HY9.out.below hb10)
    have HZ := Lib.hid (HZ9.out.below hb10)
    have HU := Lib.hid (HU9.out.below hb10)
    have HV := Lib.hid ht10.rd
    clear HX9 HY9 HZ9 HU9 ht10 hb10
    obtain ⟨Ax, cx, rfl, hcx, hrx⟩ := HX.out
    obtain ⟨Ay, cy, rfl, hcy, hry⟩ := HY.out
    obtain ⟨Az, cz, rfl, hcz, hrz⟩ := HZ.out
    obtain ⟨Aw, cw, rfl, hcw, hrw⟩ := HV.out
    have HRX := Lib.hid hrx
    have HRY := Lib.hid hry
    have HRZ := Lib.hid hrz
    have HRW := Lib.hid hrw
    clear hrx hry hrz hrw
    have hxq : ((X.length : Int) == ((X.length : Nat) : Int)) = true := beq_self_eq_true _
    rw (occs := [2]) [HXL.out] at hxq
    try simp only [Int.natCast_zero] at hxq
    go_wp2_with (first
      | (at_builtin; refine print_append_row (w0 := w10) w10.heap.size rfl _ _ _ _ .i32 4 rfl Tryd.underlying23 info32 (by omega) (.slice none 0 0) [] Z Az Z.length cz rfl rfl (own_nil _ _ _ _) HRZ.out (Below.refl _ _) (Nat.le_refl _) Hl3.out ?_; intro v11 w11 ho11 hb11 hg11 hat11; have HO11 := Lib.hid ho11; have HB11 := Lib.hid hb11; clear ho11 hb11 hg11 hat11)
      | (at_builtin; refine print_append_row (w0 := w10) w10.heap.size rfl _ _ _ _ .i32 4 rfl Tryd.underlying23 info32 (by omega) v11 ([] ++ Z) Wt Aw Wt.length cw rfl rfl HO11.out (HRW.out.below HB11.out) HB11.out HB11.out.size Hl4.out ?_; intro v12 w12 ho12 hb12 hg12 hat12; have HO12 := Lib.hid ho12; have HB12 := Lib.hid hb12; clear ho12 hb12 hg12 hat12)
      | (at_builtin; refine print_append_row (w0 := w12) w12.heap.size rfl _ _ _ _ .i32 4 rfl Tryd.underlying23 info32 (by omega) (.slice none 0 0) [] X Ax X.length cx rfl rfl (own_nil _ _ _ _) (HRX.out.below HB12.out) (Below.refl _ _) (Nat.le_refl _) Hl5.out ?_; intro v13 w13 ho13 hb13 hg13 hat13; have HO13 := Lib.hid ho13; have HB13 := Lib.hid hb13; clear ho13 hb13 hg13 hat13)
      | (at_builtin; refine print_append_row (w0 := w12) w12.heap.size rfl _ _ _ _ .i32 4 rfl Tryd.underlying23 info32 (by omega) v13 ([] ++ X) Y Ay Y.length cy rfl rfl HO13.out ((HRY.out.below HB12.out).below HB13.out) HB13.out HB13.out.size Hl6.out ?_; intro v14 w14 ho14 hb14 hg14 hat14; have HO14 := Lib.hid ho14; have HB14 := Lib.hid hb14; clear ho14 hb14 hg14 hat14))
    have hB14 : Below w10.heap.size w10 w14 := HB12.out.trans (HB14.out.mono HB12.out.size)
    have HZ14 := Lib.hid (HZ.out.below hB14)
    have HU14 := Lib.hid (HU.out.below hB14)
    have HBA := Lib.hid (HB10.out.trans (hB14.mono HB10.out.size))
    have ho14 := HO14.out
    rw [List.nil_append, HJ.out] at ho14
    have ho12 := HO12.out
    rw [List.nil_append] at ho12
    have HS14 := Lib.hid (OwnN.rd (k := .i32) (xs := Z) ho14)
    have HJ12 := Lib.hid ((OwnN.rd (k := .i32) (xs := Z ++ Wt) ho12).below HB14.out)
    clear ho14 ho12 hB14
    refine (same_is _ _ Z Z w14 HS14.out HZ14.out).mono ?_
    rintro e w15 ⟨he, hb15⟩
    rw [decide_eq_true rfl] at he
    subst he
    go_wp2_with fail
    refine (same_is _ _ (Z ++ Wt) (Z ++ Wt) w15 (HU14.out.below hb15) (HJ12.out.below hb15)).mono ?_
    rintro e w16 ⟨he, hb16⟩
    rw [decide_eq_true rfl] at he
    subst he
    go_wp2
    go_ret
    exact ⟨rfl, HBA.out.trans ((hb15.trans (hb16.mono hb15.size)).mono HBA.out.size)⟩
end Go.Proofs.YtaccjifhgohfpaaDoor
