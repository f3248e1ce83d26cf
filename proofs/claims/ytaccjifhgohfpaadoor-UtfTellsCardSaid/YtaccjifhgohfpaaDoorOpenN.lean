import Derived.Test.YtaccjifhgohfpaaDoorOpen
import Derived.Test.YtaccjifhgohfpaaDoorUtfBytes
/- The arguments of a law, opened: rows of numbers. -/
namespace Go.Proofs.YtaccjifhgohfpaaDoor
open Go.ChangeShapes Go.WideShapes Go.ChangeAt Go.RowKit Go.Proofs.YtaccjifhgohfpaaDoorW Go.Proofs.YtaccjifhgohfpaaDoorW.PrintWords

set_option maxRecDepth 100000 in
theorem open_i32s {H : Type} {enc : TypeId × Value → H} {W : World} {v : Value} {d : DataW H} {ps : List MemPlace} {ts : List TypeId} {ds : List (DataW H)} {j : Nat}
    (_hsz : (DataW.weightsEach Tryd.prog ts ds).all (· ≤ reachBytes) = true) (_ht : ts[j]? = some 23) (_hd : ds[j]? = some d)
    (h : DataW.Trod enc Tryd.prog W 0 (fun _ => true) true 23 v d ps) (hv : Value.okWide Tryd.prog W .any 0 23 v) :
    ∃ xs : List Int, RdN .i32 W v xs ∧ I32 xs ∧ True := by
  obtain ⟨a, len, cap, rfl⟩ := okWide_slice Tryd.underlying23 hv
  obtain ⟨fuel, hf⟩ := h
  rcases open_ints Tryd.underlying23 Tryd.underlying21 (by kernel_rfl) hf with ⟨hcs, _⟩ | ⟨x, l, c, zs, hcs, _, hl2, hm, hz, _, hcell, hwz⟩
  · simp [Value.cells] at hcs
    obtain ⟨rfl, rfl, rfl⟩ := hcs
    exact ⟨[], ⟨none, 0, rfl, Nat.le_refl _, rfl, by simp, fun h => absurd h (by simp)⟩, fun _ h => by simp at h, trivial⟩
  · simp [Value.cells] at hcs
    obtain ⟨rfl, rfl, rfl⟩ := hcs
    have hz' : zs.length = cap := by simpa using hz
    have htl : (zs.take len).length = len := by rw [List.length_take]; omega
    refine ⟨zs.take len, ⟨some x, cap, by rw [htl], by omega, by rw [htl], ?_, fun _ => ⟨x, rfl, fun j hj => ?_⟩⟩, fun y hy => ?_, trivial⟩
    · rw [htl]; simp only [maxLen] at hm; omega
    · rw [hcell j (by omega)]
      rw [htl] at hj
      simp [List.getD_eq_getElem?_getD, hj]
    · exact wf_i32 (hwz y (List.mem_of_mem_take hy))
end Go.Proofs.YtaccjifhgohfpaaDoor
