import Derived.Test.YtmdecbockpgagaaFrameAll
import Derived.Test.YtmdecbockpgagaaHeld2
/- Rows of rows of bytes that are read. -/
namespace Go.Proofs.Ytmdecbockpgagaa
open Go.RowKit Go.Proofs.YtmdecbockpgagaaW.PrintWords Go.Proofs.YtmdecbockpgagaaW.PrintMore

/-- A row of rows of bytes is read. -/
def RdBB (w : World) (v : Value) (ls : List (List Int)) : Prop :=
  ∃ A c, v = .slice A ls.length c ∧ ls.length ≤ c ∧ ls.length ≤ 9223372036854775807 ∧
    (0 < ls.length → ∃ ad, A = some ad ∧ ∀ i, i < ls.length → ∃ u, w.cell? (ad.add i) = some u ∧ RdB w u (ls.getD i []))
theorem RdBB.below {w w1 : World} {v : Value} {ls : List (List Int)} (h : RdBB w v ls) (hb : Below w.heap.size w w1) : RdBB w1 v ls := by
  obtain ⟨A, c, rfl, hc, hm, hr⟩ := h
  refine ⟨A, c, rfl, hc, hm, fun h0 => ?_⟩
  obtain ⟨ad, rfl, h⟩ := hr h0
  refine ⟨ad, rfl, fun i hi => ?_⟩
  obtain ⟨u, h1, h2⟩ := h i hi
  exact ⟨u, pw_cell_below hb h1, h2.below hb⟩
theorem RdBB.nil (w : World) : RdBB w (.slice none 0 0) [] := ⟨none, 0, rfl, Nat.le_refl _, by simp, fun h => absurd h (by simp)⟩
end Go.Proofs.Ytmdecbockpgagaa
