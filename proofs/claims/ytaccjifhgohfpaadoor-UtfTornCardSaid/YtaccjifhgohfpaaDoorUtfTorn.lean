import Derived.Test.YtaccjifhgohfpaaDoorKnown2
import Derived.Test.YtaccjifhgohfpaaDoorUtfTornMath
/- UtfTorn: a sequence cut short is as many bytes of none as there are; what follows is read still. -/
namespace Go.Proofs.YtaccjifhgohfpaaDoor
open Go.RowKit Go.Shelf Go.Proofs.YtaccjifhgohfpaaDoorW.PrintWords Go.Proofs.YtaccjifhgohfpaaDoorW.PrintMore

theorem RdB.reads {w : World} {A : Option Addr} {n c : Nat} {xs : List Int} (h : RdB w (.slice A n c) xs) : ReadsInt w .u8 A xs.length xs := by
  obtain ⟨A', c', e, _, hr⟩ := h
  injection e with e1 e2 e3
  rw [e1]; exact hr
theorem cut_toB {A : Option Addr} {c : Nat} {xs : List Int} (hc : xs.length ≤ c) (j : Nat) (h1 : j ≤ xs.length) :
    (∀ W : World, (Instr.slice 22 (.slice A xs.length c) none (some (.int .i64 (j : Int))) none).run Tryd.prog W = .ok (.slice A j c) W) ∧ (∀ W : World, ReadsInt W .u8 A xs.length xs → ReadsInt W .u8 A j (xs.take j)) := by
  obtain ⟨i8, hi8, hz8, hs8, hb8⟩ := info_parts info8
  obtain ⟨ht1, ht2, ht3⟩ := print_take_of (P := Tryd.prog) (Value.int .u8) (0 : Int) 22 5 .i64 Tryd.underlying22 hi8 hs8 A c xs (j : Int) (by omega) (by omega) hc
  have hl : (xs.take j).length = j := by rw [List.length_take]; omega
  rw [Int.toNat_natCast] at ht1 ht2 ht3
  rw [hl] at ht1 ht2
  exact ⟨ht1, ht2⟩

set_option maxHeartbeats 8000000 in
set_option maxRecDepth 100000 in
theorem utfTorn_walk (r cut tail : Int) (w : World) (hT : Tabs w) (hr : -2147483648 ≤ r ∧ r < 2147483648) (hcut : 0 ≤ cut ∧ cut < 256) (_htail : -2147483648 ≤ tail ∧ tail < 2147483648) :
    Calls Tryd.prog 7 #[.int .i32 r, .int .u8 cut, .int .i32 tail] w fun e w' => e = .returned (.bool true) ∧ Below w.heap.size w w' := by
  have HT := Lib.hid hT
  have HI : Hid (I32 [r]) := Lib.hid (fun x hx => by simp at hx; subst hx; exact hr)
  obtain ⟨t, ht⟩ : ∃ t, tail.tmod 128 = t := ⟨_, rfl⟩
  have htb : -128 < t ∧ t < 128 ∧ (0 ≤ tail → 0 ≤ t) := by
    subst ht
    have h1 := Int.tmod_lt_of_pos tail (show (0 : Int) < 128 by decide)
    have h2 := Int.lt_tmod_of_pos tail (show (0 : Int) < 128 by decide)
    exact ⟨h2, h1, fun h => Int.tmod_nonneg 128 h⟩
  have HI2 : Hid (I32 [t]) := Lib.hid (fun x hx => by simp at hx; subst hx; omega)
  have hE := encs'_cons r []
  rw [show encs' [] = [] from rfl, List.append_nil] at hE
  have hE2 := encs'_cons t []
  rw [show encs' [] = [] from rfl, List.append_nil] at hE2
  have hel := enc_len r
  have hel2 := enc_len t
  have hEb := enc_by r
  have hEb2 := enc_by t
  obtain ⟨k, hk0⟩ := Int.eq_ofNat_of_zero_le (show 0 ≤ cut % ((enc r).length : Int) from Int.emod_nonneg _ (by omega))
  have hk1 := Int.emod_lt_of_pos cut (show 0 < ((enc r).length : Int) by omega)
  have hkl : k < (enc r).length := by omega
  have hkm : cut.tmod ((enc r).length : Int) = (k : Int) := (Int.tmod_eq_emod_of_nonneg hcut.1).trans hk0
  have hfacts := fun h : 0 ≤ t ∧ t < 128 => torn_facts r t h k hkl
  have hlow : 0 ≤ t ∧ t < 128 → enc t = [t] := enc_low
  have hk4 : k ≤ 3 := by omega
  obtain ⟨hcut0, hcut1⟩ := hcut
  clear hk0 hk1 hr
  obtain ⟨E, hE0⟩ : ∃ E, enc r = E := ⟨_, rfl⟩
  obtain ⟨F, hF0⟩ : ∃ F, enc t = F := ⟨_, rfl⟩
  rw [hE0] at hE hel hEb hkl hkm hfacts
  rw [hF0] at hE2 hel2 hEb2 hlow
  have HE := Lib.hid hE
  have HE2 := Lib.hid hE2
  have HEb := Lib.hid hEb
  have HEb2 := Lib.hid hEb2
  have HF := Lib.hid hfacts
  have HL := Lib.hid hlow
  have Hel := Lib.hid hel
  have Hkl := Lib.hid hkl
  have Hk4 := Lib.hid hk4
  have hpos : 0 < (E.length : Int) := by omega
  have hpos2 : ¬ (E.length : Int) = 0 := by omega
  have htl : (E.take k).length = k := by rw [List.length_take]; omega
  have HTL := Lib.hid htl
  have Hl1 : Hid ((([] : List Int).length + k) * 1 ≤ 140737488355328) := Lib.hid (by simp; omega)
  have Hl2 : Hid ((([] ++ E.take k : List Int).length + F.length) * 1 ≤ 140737488355328) := Lib.hid (by simp; omega)
  clear hE hE2 hEb hfacts hlow hE0 hF0 hT hel hkl hel2 hEb2 htl
  have hsg : tail < 0 ∨ (0 ≤ tail ∧ 0 ≤ t ∧ t < 128) := by omega
  have Htb := Lib.hid htb
  clear htb
  rcases hsg with hsg | ⟨hsg, hsg1, hsg2⟩
  all_goals
    go_enter Tryd.func7, Tryd.ntmps7
    go_wp2_with (go_at_call 13; refine (known2 _ HT.out).mono ?_; rintro e w1 ⟨rfl, hb1⟩)
    have HB1 := Lib.hid hb1
    have HB2 := Lib.hid (hb1.alloc hb1.size (.cells #[.int .i32 r] 21))
    refine (utf_bytes _ [r] _ (rd_oneN .i32 w1 r _ (0, 0)) HI.out (by simp)).mono ?_
    rw [HE.out]
    rintro e w3 ⟨u3, rfl, hu3, hb3⟩
    have HB3 := Lib.hid (HB2.out.trans (hb3.mono HB2.out.size))
    obtain ⟨A3, c3, rfl, hc3, hr3⟩ := hu3.rd
    obtain ⟨hs1, hs2⟩ := cut_toB (A := A3) hc3 k (Nat.le_of_lt Hkl.out)
    have HR3 := Lib.hid (hs2 w3 hr3)
    clear hs2 hr3 hu3 hb3 hb1
    go_wp2_with (at_builtin; refine print_append_row (w0 := w3) w3.heap.size rfl _ _ _ _ .u8 1 rfl Tryd.underlying22 info8 (by omega) (.slice none 0 0) [] (E.take k) A3 k c3 rfl rfl (own_nil _ _ _ _) HR3.out (Below.refl _ _) (Nat.le_refl _) Hl1.out ?_; intro v5 w5 ho5 hb5 hg5 hat5)
    have HO5 := Lib.hid (OwnB.below (base := w3.heap.size) ho5 (below_alloc (Below.refl _ w5) (.cells #[.int .i32 t] 21)))
    have HB5 := Lib.hid (hb5.alloc hb5.size (.cells #[.int .i32 t] 21))
    clear ho5 hb5 hg5 hat5 hs1 hc3
    refine (utf_bytes _ [t] _ (rd_oneN .i32 w5 t _ (0, 0)) HI2.out (by simp)).mono ?_
    rw [HE2.out]
    rintro e w6 ⟨u6, rfl, hu6, hb6⟩
    obtain ⟨A6, c6, rfl, hc6, hr6⟩ := hu6.rd
    have HR6 := Lib.hid hr6
    have HO6 := Lib.hid (OwnB.below HO5.out hb6)
    have HB6 := Lib.hid (HB5.out.trans (hb6.mono HB5.out.size))
    clear hr6 hu6 hb6 hc6
    go_wp2_with (at_builtin; refine print_append_row (w0 := w3) w3.heap.size rfl _ _ _ _ .u8 1 rfl Tryd.underlying22 info8 (by omega) v5 ([] ++ E.take k) F A6 F.length c6 rfl rfl HO6.out HR6.out HB6.out HB6.out.size Hl2.out ?_; intro v7 w7 ho7 hb7 hg7 hat7)
    rw [List.nil_append] at ho7
    have HB7 := Lib.hid (HB3.out.trans (hb7.mono HB3.out.size))
  · go_ret
    exact ⟨rfl, HB7.out⟩
  rw [HL.out ⟨hsg1, hsg2⟩] at ho7 HEb2
  obtain ⟨f1, f2, f3, f4, f5, f6⟩ := HF.out ⟨hsg1, hsg2⟩
  obtain ⟨C, hC⟩ : ∃ C, E.take k ++ [t] = C := ⟨_, rfl⟩
  have hCb : By C := by rw [← hC]; exact (HEb.out.take k).append (fun x hx => by simp at hx; omega)
  have hCl : C.length = k + 1 := by rw [← hC, List.length_append, HTL.out]; rfl
  rw [hC] at ho7 f1 f2 f3 f4 f5 f6
  have HU7 := Lib.hid (OwnB.rd ho7)
  obtain ⟨A7, c7, rfl, hc7, -⟩ := HU7.out
  refine (utf_runes _ C w7 (HT.out.below HB7.out) HU7.out hCb (by omega)).mono ?_
  unfold RunesP
  rintro e w8 ⟨u8, v8, rfl, hu8, hv8, hb8⟩
  have HB8 := Lib.hid (HB7.out.trans (hb8.mono HB7.out.size))
  have HU8 := Lib.hid (HU7.out.below hb8)
  obtain ⟨Al, cl, rfl, hcl, hll, hml, hrl⟩ := hu8.rd
  obtain ⟨al, rfl, hcell⟩ := hrl (by omega)
  obtain ⟨Ap, cp, rfl, hcp, hlp, hmp, hrp⟩ := hv8.rd
  obtain ⟨ap, rfl, hcell2⟩ := hrp (by omega)
  rw [f1] at hcl hcell ⊢
  rw [f2] at hcp hcell2 ⊢
  have HC := Lib.hid hcell
  have HC2 := Lib.hid hcell2
  have ck := hcell k (by omega)
  have ck2 := hcell2 k (by omega)
  rw [f3] at ck
  rw [f4] at ck2
  have HF5 := Lib.hid f5
  have HF6 := Lib.hid f6
  have IX := Lib.hid (fun (j : Nat) (hj : j ≤ k) W => (by
    have h2 : 0 ≤ (j : Int) ∧ (j : Int) < ((k : Int) + 1) := ⟨by omega, by omega⟩
    go_simp : (Instr.indexAt 23 (.slice (some al) (k + 1) cl) (.int .i64 (j : Int))).run Tryd.prog W = .ok (.pointer (some (al.add j))) W))
  have IX2 := Lib.hid (fun (j : Nat) (hj : j ≤ k) W => (by
    have h2 : 0 ≤ (j : Int) ∧ (j : Int) < ((k : Int) + 1) := ⟨by omega, by omega⟩
    go_simp : (Instr.indexAt 25 (.slice (some ap) (k + 1) cp) (.int .i64 (j : Int))).run Tryd.prog W = .ok (.pointer (some (ap.add j))) W))
  have hi1 := IX.out k (Nat.le_refl _)
  have hi2 := IX2.out k (Nat.le_refl _)
  have Hb8 := Lib.hid hb8
  have HCb := Lib.hid hCb
  have HCl := Lib.hid hCl
  clear hcell hcell2 hu8 hv8 hb8 f1 f2 f3 f4 f5 f6 hc7 hll hml hrl hlp hmp hrp hCb hCl hC ho7 hb7 hg7 hat7 hkm hpos hpos2
  go_wp2_with fail
  go_loopw [12] (fun i wr => ∃ j : Nat, j ≤ k ∧ i = .int .i64 (j : Int) ∧ wr = w8) (fun i _ => k - (intOf i).toNat)
  case atStart => exact ⟨0, Nat.zero_le _, rfl, rfl⟩
  case round =>
    obtain ⟨j, hj, rfl, rfl⟩ := hrel
    by_cases hlt : j < k
    · have dk := HC.out j (by omega)
      have dk2 := HC2.out j (by omega)
      obtain ⟨g1, g2⟩ := HF5.out j hlt
      rw [g1] at dk
      rw [g2] at dk2
      have hi3 := IX.out j (by omega)
      have hi4 := IX2.out j (by omega)
      go_wp2_with fail
      go_roundw
      case rel => exact ⟨j + 1, by omega, by go_num, trivial⟩
      case measure => simp [intOf]; omega
    · have hjk : j = k := by omega
      subst hjk
      go_wp2_with fail
      refine (utf_good _ C wr (HT.out.below HB8.out) (HU7.out.below Hb8.out) HCb.out).mono ?_
      rw [HF6.out]
      rintro e w9 ⟨rfl, hb9⟩
      go_wp2
      go_ret
      refine ⟨?_, HB8.out.trans (hb9.mono HB8.out.size)⟩
      refine congrArg Ending.returned (congrArg Value.bool ?_)
      rcases Nat.eq_zero_or_pos j with h | h
      · subst h; rfl
      · rw [decide_eq_false (by omega), show ((j : Int) == 0) = false from by rw [beq_eq_false_iff_ne]; omega]
        rfl
end Go.Proofs.YtaccjifhgohfpaaDoor
