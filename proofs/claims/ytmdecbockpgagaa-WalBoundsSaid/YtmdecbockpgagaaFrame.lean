import Derived.Test.YtmdecbockpgagaaCrcQ
import Derived.Test.YtmdecbockpgagaaCrcMath2
import Derived.Test.YtmdecbockpgagaaHeld2
import Derived.Lib.LazyBuf
/- The contracts of package frame: a frame of bytes, a copy. -/
namespace Go.Proofs.Ytmdecbockpgagaa
open Go.RowKit Go.Proofs.YtmdecbockpgagaaW.PrintWords Go.Proofs.YtmdecbockpgagaaW.PrintMore

/-- a length, a sum, the bytes -/
def frameB (xs : List Int) : List Int := le (xs.length : Int) 4 ++ le ((crcMore 0#32 (le (xs.length : Int) 4 ++ xs)).toNat : Int) 4 ++ xs

/-- What makes new memory and hands back bytes. -/
def NewB (ys : List Int) (w : World) (e : Ending) (w' : World) : Prop := ∃ v, e = .returned v ∧ OwnB w' w.heap.size v ys ∧ Below w.heap.size w w'

theorem crc_two (l xs : List Int) : crcMore (crcMore 0#32 l) xs = crcMore 0#32 (l ++ xs) := by
  unfold crcMore
  rw [BitVec.not_not, ← List.foldl_append]

set_option maxHeartbeats 400000 in
theorem frame_frame (v : Value) (xs : List Int) (w : World) (hr : RdB w v xs) (hby : By xs) (hz : xs.length ≤ 140737488351232) :
    Calls Try.prog 49 #[v] w (NewB (frameB xs) w) := by
  have hr0 := Lib.hid hr
  obtain ⟨A, c, rfl, hcap, hread⟩ := hr
  have hml := hread.2.1
  clear hread
  have hxl : (xs.length : Int) < 18446744073709551616 := by omega
  go_enter Try.func49, Try.ntmps49
  go_wp2_with fail
  have hp1 := crc_put w.heap.size (.slice none 0 0) [] (xs.length : Int) 4 w (OwnB.nil _ _) (Nat.le_refl _) (by simp)
  rw [show (crcW 4).toNat = 4 from rfl, List.nil_append] at hp1
  refine hp1.mono ?_
  rintro e w1 ⟨v1, rfl, ho1, hg1, _⟩
  have Hb1 := Lib.hid (below_of_grown hg1)
  obtain ⟨l4, hl4⟩ : ∃ l4, le (xs.length : Int) 4 = l4 := ⟨_, rfl⟩
  have hl4l : l4.length = 4 := by rw [← hl4, le_length]
  have hl4b : By l4 := by rw [← hl4]; exact le_by _ _
  rw [hl4] at ho1
  have Ho1 := Lib.hid ho1
  have Hl4l := Lib.hid hl4l
  have Hl4 := Lib.hid hl4
  clear hp1 hg1 ho1 hl4 hl4l
  go_wp2_with fail
  refine (crc_sum v1 l4 w1 Ho1.out.rd hl4b).mono ?_
  rintro e w2 ⟨rfl, rfl⟩
  go_wp2_with fail
  have hm := crc_more (crcMore 0#32 l4) (.slice A xs.length c) xs w1 (hr0.out.below Hb1.out) hby
  rw [crc_two] at hm
  refine hm.mono ?_
  rintro e w2 ⟨rfl, rfl⟩
  clear hm
  have hsl := (crcMore 0#32 (l4 ++ xs)).isLt
  obtain ⟨sm, hsm⟩ : ∃ sm, ((crcMore 0#32 (l4 ++ xs)).toNat : Int) = sm := ⟨_, rfl⟩
  rw [hsm]
  have hs0 : 0 ≤ sm := by omega
  have hs1 : sm < 4294967296 := by omega
  have Hsm := Lib.hid hsm
  clear hsm hsl
  go_wp2_with fail
  have hp2 := crc_put w.heap.size v1 l4 sm 4 w1 Ho1.out Hb1.out.size (by rw [Hl4l.out]; omega)
  rw [show (crcW 4).toNat = 4 from rfl] at hp2
  refine hp2.mono ?_
  rintro e w3 ⟨v3, rfl, ho3, hg3, hn3⟩
  have Hb3 := Lib.hid (Hb1.out.trans (below_of_own hg3 Ho1.out Hb1.out.size))
  have Hx3 := Lib.hid (hr0.out.below Hb3.out)
  have Hl3 := Lib.hid (show ((l4 ++ le sm 4).length + xs.length) * 1 ≤ 140737488355328 from by rw [List.length_append, le_length, Hl4l.out]; omega)
  obtain ⟨A', c', he', hc', hr'⟩ := Hx3.out
  injection he' with e1 e2 e3
  subst e1; subst e3
  have Hr' := Lib.hid hr'
  clear hp2 hg3 hn3 e2 hr' hc'
  go_wp2_with (at_builtin; refine print_append_row (w0 := w3) w.heap.size rfl _ _ _ _ .u8 1 rfl Try.underlying22 info8 (by omega) v3 (l4 ++ le sm 4) xs A xs.length c rfl rfl ho3 Hr'.out (Below.refl _ _) Hb3.out.size Hl3.out ?_; intro v4 w4 ho4 hb4 hg4 hat4)
  go_ret
  refine ⟨_, rfl, ?_, Hb3.out.trans hb4⟩
  unfold frameB
  rw [Hl4.out, Hsm.out]
  exact ho4

set_option maxHeartbeats 400000 in
theorem clone_row (v : Value) (xs : List Int) (w : World) (hr : RdB w v xs) (hz : xs.length ≤ 140737488351232) :
    Calls Try.prog 42 #[v] w (NewB xs w) := by
  obtain ⟨A, c, rfl, hcap, hread⟩ := hr
  have hml := hread.2.1
  have hnil := fun (W : World) (a : Option Addr) (n c : Nat) => Lib.run_eql_slice_nil (P := Try.prog) W 22 5 a n c 0 0 Try.underlying22
  rcases A with _ | ad
  · have h0 : xs = [] := by
      rcases Nat.eq_zero_or_pos xs.length with h0 | h0
      · exact List.eq_nil_of_length_eq_zero h0
      · obtain ⟨ad, h, _⟩ := hread.2.2 h0
        cases h
    subst h0
    clear hread
    go_enter Try.func42, Try.ntmps42
    go_wp2
    go_ret
    exact ⟨_, rfl, OwnB.nil _ _, Below.refl _ _⟩
  · have Hr := Lib.hid (ReadsInt.below hread (below_alloc (Below.refl _ _) (.cells #[] 5)))
    have Hl := Lib.hid (show (([] : List Int).length + xs.length) * 1 ≤ 140737488355328 from by simp; omega)
    have Ho := Lib.hid (own_litB w w.heap.size [] (Nat.le_refl _) (by simp))
    have Hb := Lib.hid (below_alloc (Below.refl _ w) (.cells #[] 5))
    clear hread
    go_enter Try.func42, Try.ntmps42
    go_wp2_with (at_builtin; refine print_append_row (w0 := w) w.heap.size rfl _ _ _ _ .u8 1 rfl Try.underlying22 info8 (by omega) (.slice (some ⟨w.heap.size, 0, none⟩) 0 0) [] xs (some ad) xs.length c rfl rfl Ho.out Hr.out Hb.out Hb.out.size Hl.out ?_; intro v4 w4 ho4 hb4 hg4 hat4)
    go_ret
    exact ⟨_, rfl, by rw [List.nil_append] at ho4; exact ho4, hb4⟩
end Go.Proofs.Ytmdecbockpgagaa
