import Derived.Test.YteebojnabifccaaOpen
import Derived.Test.YteebojnabifccaaRd
import Derived.Deep.Strs
/- The arguments of a law, opened: rows of numbers and of texts. -/
namespace Go.Proofs.Yteebojnabifccaa
open Go.ChangeShapes Go.WideShapes Go.ChangeAt Go.RowKit Go.Proofs.YteebojnabifccaaW Go.Proofs.YteebojnabifccaaW.PrintWords

theorem open_u64s {H : Type} {enc : TypeId × Value → H} {W : World} {v : Value} {d : DataW H} {ps : List MemPlace} {ts : List TypeId} {ds : List (DataW H)} {j : Nat}
    (hsz : (DataW.weightsEach Try.prog ts ds).all (· ≤ reachBytes) = true) (ht : ts[j]? = some 45) (hd : ds[j]? = some d)
    (h : DataW.Trod enc Try.prog W 0 (fun _ => true) true 45 v d ps) (hv : Value.okWide Try.prog W .any 0 45 v) :
    ∃ xs : List Int, RdU W v xs ∧ (∀ x ∈ xs, 0 ≤ x ∧ x < 18446744073709551616) ∧ xs.length * 8 ≤ 140737488351232 := by
  obtain ⟨a, len, cap, rfl⟩ := okWide_slice Try.underlying45 hv
  have hl := sized_ints hsz ht hd Try.underlying45 Try.underlying23 (by kernel_rfl) (B := 8) (by kernel_rfl) h
  obtain ⟨fuel, hf⟩ := h
  rcases open_ints Try.underlying45 Try.underlying23 (by kernel_rfl) hf with ⟨hcs, _⟩ | ⟨x, l, c, zs, hcs, _, hl2, hm, hz, _, hcell, hwz⟩
  · simp [Value.cells] at hcs
    obtain ⟨rfl, rfl, rfl⟩ := hcs
    exact ⟨[], ⟨none, 0, rfl, Nat.le_refl _, rfl, by simp, fun h => absurd h (by simp)⟩, fun _ h => by simp at h, by simp⟩
  · simp [Value.cells] at hcs
    obtain ⟨rfl, rfl, rfl⟩ := hcs
    have hz' : zs.length = cap := by simpa using hz
    have htl : (zs.take len).length = len := by rw [List.length_take]; omega
    refine ⟨zs.take len, ⟨some x, cap, by rw [htl], by omega, by rw [htl], ?_, fun _ => ⟨x, rfl, fun j hj => ?_⟩⟩, fun y hy => ?_, by omega⟩
    · rw [htl]; simp only [maxLen] at hm; omega
    · rw [hcell j (by omega)]
      rw [htl] at hj
      simp [List.getD_eq_getElem?_getD, hj]
    · exact wf_u64 (hwz y (List.mem_of_mem_take hy))

theorem open_strsz {H : Type} {enc : TypeId × Value → H} {W : World} {v : Value} {d : DataW H} {ps : List MemPlace} {ts : List TypeId} {ds : List (DataW H)} {j : Nat}
    (_hsz : (DataW.weightsEach Try.prog ts ds).all (· ≤ reachBytes) = true) (_ht : ts[j]? = some 46) (_hd : ds[j]? = some d)
    (h : DataW.Trod enc Try.prog W 0 (fun _ => true) true 46 v d ps) (hv : Value.okWide Try.prog W .any 0 46 v) :
    ∃ xs : List ByteArray, RdS W v xs ∧ True := by
  obtain ⟨a, len, cap, rfl⟩ := okWide_slice Try.underlying46 hv
  obtain ⟨fuel, hf⟩ := h
  rcases Go.Deep.open_strs Try.underlying46 Try.underlying9 (by kernel_rfl) hf with ⟨hcs, _⟩ | ⟨x, l, c, m, Sx, hcs, _, hl2, hm, hmm, _, hcell⟩
  · simp [Value.cells] at hcs
    obtain ⟨rfl, rfl, rfl⟩ := hcs
    exact ⟨[], ⟨none, 0, rfl, Nat.le_refl _, rfl, by simp, fun h => absurd h (by simp)⟩, trivial⟩
  · simp [Value.cells] at hcs
    obtain ⟨rfl, rfl, rfl⟩ := hcs
    have htl : ((List.range len).map Sx).length = len := by simp
    have hlm : len ≤ m := by rw [hmm]; split <;> omega
    refine ⟨(List.range len).map Sx, ⟨some x, cap, by rw [htl], by rw [htl]; exact hl2, htl.trans htl.symm, ?_, fun _ => ⟨x, rfl, fun j hj => ?_⟩⟩, trivial⟩
    · rw [htl]; simp only [maxLen] at hm; omega
    · rw [htl] at hj
      rw [(hcell j (by omega)).1]
      simp [List.getD_eq_getElem?_getD, hj]
end Go.Proofs.Yteebojnabifccaa
