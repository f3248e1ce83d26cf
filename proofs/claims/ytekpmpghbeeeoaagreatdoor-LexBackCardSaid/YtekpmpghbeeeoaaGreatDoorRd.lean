import Derived.Test.YtekpmpghbeeeoaaGreatDoorBase
/- Rows of other things than bytes, as they are read. -/
namespace Go.Proofs.YtekpmpghbeeeoaaGreatDoor
open Go.RowKit Go.Proofs.YtekpmpghbeeeoaaGreatDoorW.PrintWords
def RdU (w : World) (v : Value) (xs : List Int) : Prop := ∃ A c, v = .slice A xs.length c ∧ xs.length ≤ c ∧ ReadsOf (Value.int .u64) 0 w A xs.length xs
def RdS (w : World) (v : Value) (xs : List ByteArray) : Prop := ∃ A c, v = .slice A xs.length c ∧ xs.length ≤ c ∧ ReadsOf Value.string ByteArray.empty w A xs.length xs

theorem RdU.below {w w1 : World} {v : Value} {xs : List Int} (h : RdU w v xs) (hb : Below w.heap.size w w1) : RdU w1 v xs := by
  obtain ⟨A, c, rfl, hc, hr⟩ := h
  exact ⟨A, c, rfl, hc, hr.below hb⟩
theorem RdS.below {w w1 : World} {v : Value} {xs : List ByteArray} (h : RdS w v xs) (hb : Below w.heap.size w w1) : RdS w1 v xs := by
  obtain ⟨A, c, rfl, hc, hr⟩ := h
  exact ⟨A, c, rfl, hc, hr.below hb⟩
end Go.Proofs.YtekpmpghbeeeoaaGreatDoor
