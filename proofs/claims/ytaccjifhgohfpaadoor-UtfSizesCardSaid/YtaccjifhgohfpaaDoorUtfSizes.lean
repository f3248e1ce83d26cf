import Derived.Test.YtaccjifhgohfpaaDoorKnown2
/- UtfSizes: a code point takes one to four bytes, by its size; what is none takes three. -/
namespace Go.Proofs.YtaccjifhgohfpaaDoor
open Go.RowKit Go.Shelf Go.Proofs.YtaccjifhgohfpaaDoorW.PrintWords Go.Proofs.YtaccjifhgohfpaaDoorW.PrintMore

theorem one_runes (r : Int) : runes (enc r) = [normR r] ∧ places (enc r) = [0] ∧ allGood (enc r) = true := by
  have h := steps_enc 0 r []
  rw [List.append_nil, steps_nil] at h
  unfold runes places allGood
  rw [h]
  exact ⟨rfl, rfl, rfl⟩

set_option maxHeartbeats 4000000 in
set_option maxRecDepth 100000 in
theorem utfSizes_walk (r : Int) (w : World) (hT : Tabs w) (hr : -2147483648 ≤ r ∧ r < 2147483648) :
    Calls Tryd.prog 6 #[.int .i32 r] w fun e w' => e = .returned (.bool true) ∧ Below w.heap.size w w' := by
  have HT := Lib.hid hT
  obtain ⟨hr0, hr1⟩ := hr
  have HI : Hid (I32 [r]) := Lib.hid (fun x hx => by simp at hx; subst hx; exact ⟨hr0, hr1⟩)
  have hcase : (r < 0 ∧ (enc r).length = 3 ∧ normR r = 65533) ∨ (0 ≤ r ∧ 1114111 < r ∧ (enc r).length = 3 ∧ normR r = 65533) ∨ (0 ≤ r ∧ r ≤ 1114111 ∧ 55296 ≤ r ∧ r ≤ 57343 ∧ (enc r).length = 3 ∧ normR r = 65533) ∨
      (0 ≤ r ∧ r ≤ 1114111 ∧ r < 55296 ∧ r < 128 ∧ (enc r).length = 1 ∧ normR r = r) ∨ (0 ≤ r ∧ r ≤ 1114111 ∧ r < 55296 ∧ 128 ≤ r ∧ r < 2048 ∧ (enc r).length = 2 ∧ normR r = r) ∨
      (0 ≤ r ∧ r ≤ 1114111 ∧ r < 55296 ∧ 2048 ≤ r ∧ r < 65536 ∧ (enc r).length = 3 ∧ normR r = r) ∨ (0 ≤ r ∧ r ≤ 1114111 ∧ 55296 ≤ r ∧ 57343 < r ∧ r < 65536 ∧ (enc r).length = 3 ∧ normR r = r) ∨
      (0 ≤ r ∧ r ≤ 1114111 ∧ 55296 ≤ r ∧ 57343 < r ∧ 65536 ≤ r ∧ (enc r).length = 4 ∧ normR r = r) := by
    unfold enc normR
    by_cases h1 : 0 ≤ r ∧ r ≤ 127
    · rw [Lib.encodeRuneZ_one h1.1 h1.2, if_neg (by omega)]; simp; omega
    by_cases h2 : 128 ≤ r ∧ r ≤ 2047
    · rw [Lib.encodeRuneZ_two h2.1 h2.2, if_neg (by omega)]; simp; omega
    by_cases h3 : (2048 ≤ r ∧ r < 55296) ∨ (57343 < r ∧ r ≤ 65535)
    · rw [Lib.encodeRuneZ_three h3, if_neg (by omega)]; simp; omega
    by_cases h4 : 65536 ≤ r ∧ r ≤ 1114111
    · rw [Lib.encodeRuneZ_four h4.1 h4.2, if_neg (by omega)]; simp; omega
    · rw [Lib.encodeRuneZ_bad (by omega), if_pos (by omega)]; simp; omega
  obtain ⟨h1, h2, h3⟩ := one_runes r
  have hE := encs'_cons r []
  rw [show encs' [] = [] from rfl, List.append_nil] at hE
  have hEb := enc_by r
  obtain ⟨E, hE0⟩ : ∃ E, enc r = E := ⟨_, rfl⟩
  obtain ⟨y, hy⟩ : ∃ y, normR r = y := ⟨_, rfl⟩
  rw [hE0] at h1 h2 h3 hE hEb hcase
  rw [hy] at h1 hcase
  have H1 := Lib.hid h1
  have H2 := Lib.hid h2
  have H3 := Lib.hid h3
  have HE := Lib.hid hE
  have HEb := Lib.hid hEb
  clear h1 h2 h3 hE hEb hE0 hy hT hr0 hr1
  rcases hcase with ⟨g1, hl, hy⟩ | ⟨g1, g2, hl, hy⟩ | ⟨g1, g2, g3, g4, hl, hy⟩ | ⟨g1, g2, g3, g4, hl, hy⟩ | ⟨g1, g2, g3, g4, g5, hl, hy⟩ | ⟨g1, g2, g3, g4, g5, hl, hy⟩ | ⟨g1, g2, g3, g4, g5, hl, hy⟩ | ⟨g1, g2, g3, g4, g5, hl, hy⟩
  all_goals
    have hyb : (y == 65533) = true ∨ (y == r) = true := by rw [hy]; simp
    have hyb2 := hyb
    first
      | (replace hyb : (y == 65533) = true := by (have := hy; subst this; rfl))
      | (replace hyb : (y == r) = true := by rw [hy]; simp)
    have Hl := Lib.hid hl
    clear hl hy hyb2
    go_enter Tryd.func6, Tryd.ntmps6
    go_wp2_with (go_at_call 13; refine (known2 _ HT.out).mono ?_; rintro e w1 ⟨rfl, hb1⟩)
    have HB1 := Lib.hid hb1
    have HB2 := Lib.hid (hb1.alloc hb1.size (.cells #[.int .i32 r] 21))
    refine (utf_bytes _ [r] _ (rd_oneN .i32 w1 r _ (0, 0)) HI.out (by simp)).mono ?_
    rw [HE.out]
    rintro e w3 ⟨u3, rfl, hu3, hb3⟩
    have HB3 := Lib.hid (HB2.out.trans (hb3.mono HB2.out.size))
    have HU3 := Lib.hid hu3.rd
    obtain ⟨A3, c3, rfl, hc3, -⟩ := hu3.rd
    rw [Hl.out] at hc3 ⊢
    clear hu3 hb3 hb1
    go_wp2_with fail
    rw [Hl.out] at HU3
    refine (utf_runes _ E w3 (HT.out.below HB3.out) HU3.out HEb.out (by rw [Hl.out]; decide)).mono ?_
    rintro e w4 ⟨u4, v4, rfl, hu4, hv4, hb4⟩
    rw [H1.out] at hu4
    rw [H2.out] at hv4
    have HB4 := Lib.hid (HB3.out.trans (hb4.mono HB3.out.size))
    have HU4 := Lib.hid (HU3.out.below hb4)
    obtain ⟨A, c, rfl, hc, hl, hm, hrd⟩ := hu4.rd
    obtain ⟨ad, rfl, hcell⟩ := hrd (by simp)
    have c0 := cell_at0 (hcell 0 (by simp))
    obtain ⟨A2, c2, rfl, hc2, hl2, hm2, hrd2⟩ := hv4.rd
    obtain ⟨ad2, rfl, hcell2⟩ := hrd2 (by simp)
    have d0 := cell_at0 (hcell2 0 (by simp))
    simp only [List.length_cons, List.length_nil, Nat.reduceAdd, List.getD_cons_zero] at hc hc2 c0 d0 ⊢
    clear hb4 hu4 hv4 hrd hrd2 hcell hcell2 hl hm hl2 hm2
    go_wp2_with fail
    refine (utf_good _ E w4 (HT.out.below HB4.out) HU4.out HEb.out).mono ?_
    rw [H3.out]
    rintro e w5 ⟨rfl, hb5⟩
    go_wp2
    go_ret
    refine ⟨?_, HB4.out.trans (hb5.mono HB4.out.size)⟩
    first
      | rfl
      | (refine congrArg Ending.returned (congrArg Value.bool ?_); simp; omega)
end Go.Proofs.YtaccjifhgohfpaaDoor
