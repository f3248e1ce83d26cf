import Derived.Test.YthgjpppbpgndcaaGreatDoorTagSmall
import Derived.Test.YthgjpppbpgndcaaGreatDoorTagMath
import Derived.Lib.SplitLaws
/- The functions of package strings that package tag calls, over lists of bytes. -/
namespace Go.Proofs.YthgjpppbpgndcaaGreatDoor
open Go.RowKit Go.Shelf Go.Proofs.YthgjpppbpgndcaaGreatDoorW.PrintWords Go.Proofs.YthgjpppbpgndcaaGreatDoorW.PrintMore

/-- The library's own variable holds a number. -/
def ML (w : World) : Prop := ∃ m, w.cell? ⟨1, 0, none⟩ = some (.int .i64 m)
theorem ML.below {w w1 : World} (h : ML w) (hb : Below w.heap.size w w1) : ML w1 := by
  obtain ⟨m, hm⟩ := h
  exact ⟨m, pw_cell_below hb hm⟩
theorem TryzlayRepX : Builder.Extra Tryz.prog TryzlayRep_ren := ⟨⟨by kernel_rfl, by kernel_rfl⟩, Tryz.underlying5, Tryz.isAgg5, Tryz.sizeOf5, Tryz.zeroValue5, by kernel_rfl, by kernel_rfl, by kernel_rfl, by decide⟩
theorem TryzlayJoinX : Builder.Extra Tryz.prog TryzlayJoin_ren := ⟨⟨by kernel_rfl, by kernel_rfl⟩, Tryz.underlying5, Tryz.isAgg5, Tryz.sizeOf5, Tryz.zeroValue5, by kernel_rfl, by kernel_rfl, by kernel_rfl, by decide⟩
theorem TryzlayUpX : Builder.Extra Tryz.prog TryzlayUp_ren := ⟨⟨by kernel_rfl, by kernel_rfl⟩, Tryz.underlying5, Tryz.isAgg5, Tryz.sizeOf5, Tryz.zeroValue5, by kernel_rfl, by kernel_rfl, by kernel_rfl, by decide⟩

theorem lib_index (s : List UInt8) (hs : s.length ≤ 1000000) (w : World) (hM : ML w) : Calls Tryz.prog 103 #[.string (S s), .string (S [45])] w fun e w' => e = .returned (.int .i64 (Lib.index s [45])) ∧ w' = w := by
  obtain ⟨m, hm⟩ := hM
  exact Any.strings_Index TryzlayIdx (S s) (S [45]) m w (by rw [S_size]; omega) hm
theorem lib_replace (s : List UInt8) (hs : s.length ≤ 1000000) (w : World) (hM : ML w) : Calls Tryz.prog 64 #[.string (S s), .string (S [95]), .string (S [45])] w fun e w' => e = .returned (.string (S (s.map dashU))) ∧ Below w.heap.size w w' := by
  obtain ⟨m, hm⟩ := hM
  have hc := Lib.countB_mul_le (S [95]) (by decide) (S s).size (S s) (Nat.le_refl _)
  rw [S_size, S_size] at hc
  refine (Any.strings_ReplaceAll TryzlayRep TryzlayRepX (S s) (S [95]) (S [45]) m w (by rw [S_size]; omega) hm (by decide) (by rw [S_size, S_size]; simp at hc ⊢; omega)).mono ?_
  rintro e w' ⟨rfl, hb⟩
  refine ⟨?_, hb⟩
  have key : Lib.replaceAll (S s).data.toList (S [95]).data.toList (S [45]).data.toList = s.map dashU := by
    show Lib.replaceAll s [95] [45] = _
    unfold Lib.replaceAll Lib.replace Lib.replaceNum
    rw [if_neg (by decide), if_pos (.inl (by decide)), Lib.count_one]
    exact replaceK_all _ _ (Nat.le_refl _)
  rw [key]
  rfl
theorem lib_upper (s : List UInt8) (hs : s.length ≤ 1000000) (ha : ∀ b ∈ s, b.toNat < 128) (w : World) : Calls Tryz.prog 48 #[.string (S s)] w fun e w' => e = .returned (.string (S (s.map Lib.upperB))) ∧ Below w.heap.size w w' :=
  Any.strings_ToUpper_ascii TryzlayUp TryzlayUpX (S s) w (by rw [S_size]; omega) (fun j b hb => ha b (List.mem_of_getElem? hb))
end Go.Proofs.YthgjpppbpgndcaaGreatDoor
