import Derived.Test.YteebojnabifccaaCrcRef2
/- The examples that each law of layer 1 runs first. -/
namespace Go.Proofs.Yteebojnabifccaa
open Go.RowKit Go.Proofs.YteebojnabifccaaW.PrintWords Go.Proofs.YteebojnabifccaaW.PrintMore

theorem kn1 : getN [1, 2, 3] 2 = (513, [3], 0) := by decide
theorem kn2 : ((crcMore 0#32 [49, 50, 51, 52, 53, 54, 55, 56, 57]).toNat : Int) = 3421780262 := by decide +kernel
theorem kn3 : ((crcMore (crcMore 0#32 [49, 50, 51, 52]) [53, 54, 55, 56, 57]).toNat : Int) = 3421780262 := by decide +kernel
theorem kn4 : ([] : List Int) ++ le 513 (crcW 3).toNat = [1, 2, 0] := by decide

set_option maxHeartbeats 800000 in
theorem known1 (w : World) : Calls Try.prog 14 #[] w fun e w' => e = .returned (.bool true) ∧ Below w.heap.size w w' := by
  have hB := Lib.hid (Below.refl w.heap.size w)
  have kc := conv_const
  have kc2 := conv_const2
  go_enter Try.func14, Try.ntmps14
  go_wp2_with fail
  refine (crc_get _ [1, 2, 3] 2 _ (own_litB w w.heap.size [1, 2, 3] (Nat.le_refl _) (by decide)).rd (by decide)).mono ?_
  unfold GetP
  rw [kn1]
  rintro e w1 ⟨u, rfl, hu, hb1⟩
  have HB1 := Lib.hid (below_then (B := w.heap.size) (hB.out.alloc (Nat.le_refl _) _) (by simp) hb1)
  obtain ⟨A1, c1, rfl, hc1, hr1⟩ := hu
  clear hB hb1 hr1
  go_wp2_with fail
  have hs := crc_sum _ [49, 50, 51, 52, 53, 54, 55, 56, 57] _ (rd_lit w1 [49, 50, 51, 52, 53, 54, 55, 56, 57] (9, 10) (by decide)) (by decide)
  rw [kn2] at hs
  refine hs.mono ?_
  rintro e w2 ⟨rfl, rfl⟩
  clear hs
  have HB2 := Lib.hid (HB1.out.alloc (HB1.out.size) (.cells (nums .u8 [49, 50, 51, 52, 53, 54, 55, 56, 57]).toArray 5 (9, 10)))
  clear HB1
  go_wp2_with fail
  have hp := crc_put 0 (.slice none 0 0) [] 513 3 (w1.alloc (.cells (nums .u8 [49, 50, 51, 52, 53, 54, 55, 56, 57]).toArray 5 (9, 10))) (OwnB.nil _ _) (Nat.zero_le _) (by simp)
  rw [kn4] at hp
  refine hp.mono ?_
  rintro e w3 ⟨v3, rfl, ho3, hg3, _⟩
  have HB3 := Lib.hid (below_then (B := w.heap.size) HB2.out HB2.out.size (below_of_grown hg3))
  have hr3 := ho3.rd
  obtain ⟨A3, c3, rfl, hc3, hr3⟩ := hr3
  have hcv : (convert 22 9 (.slice A3 3 c3)).run Try.prog w3 = .ok (.string ⟨#[1, 2, 0]⟩) w3 :=
    conv_bytes_string (P := Try.prog) 22 5 9 Try.underlying22 Try.underlying5 Try.underlying9 hr3 c3
  clear HB2 hp ho3 hg3 hr3
  go_wp2_with fail
  refine (crc_sum _ [49, 50, 51, 52] _ (rd_lit w3 [49, 50, 51, 52] (4, 5) (by decide)) (by decide)).mono ?_
  rintro e w4 ⟨rfl, rfl⟩
  have HB4 := Lib.hid (HB3.out.alloc (HB3.out.size) (.cells (nums .u8 [49, 50, 51, 52]).toArray 5 (4, 5)))
  clear hcv HB3
  go_wp2_with fail
  have hm := crc_more (crcMore 0#32 [49, 50, 51, 52]) _ [53, 54, 55, 56, 57] _ (rd_lit2 w3 (.cells (nums .u8 [49, 50, 51, 52]).toArray 5 (4, 5)) [53, 54, 55, 56, 57] (5, 6) (by decide)) (by decide)
  rw [kn3] at hm
  refine hm.mono ?_
  rintro e w5 ⟨rfl, rfl⟩
  have HB5 := Lib.hid (HB4.out.alloc (HB4.out.size) (.cells (nums .u8 [53, 54, 55, 56, 57]).toArray 5 (5, 6)))
  clear hm HB4
  go_wp2
  go_ret
  exact ⟨rfl, HB5.out⟩
end Go.Proofs.Yteebojnabifccaa
