import Derived.Test.YteebojnabifccaaOpen2
import Derived.Test.YteebojnabifccaaTexts
import Derived.Deep.Matrix
/- The arguments of a law, opened: rows of rows of bytes. -/
namespace Go.Proofs.Yteebojnabifccaa
open Go.ChangeShapes Go.WideShapes Go.ChangeAt Go.RowKit Go.Proofs.YteebojnabifccaaW Go.Proofs.YteebojnabifccaaW.PrintWords

theorem open_bytess {H : Type} {enc : TypeId × Value → H} {W : World} {v : Value} {d : DataW H} {ps : List MemPlace} {ts : List TypeId} {ds : List (DataW H)} {j : Nat}
    (_hsz : (DataW.weightsEach Try.prog ts ds).all (· ≤ reachBytes) = true) (_ht : ts[j]? = some 59) (_hd : ds[j]? = some d)
    (h : DataW.Trod enc Try.prog W 0 (fun _ => true) true 59 v d ps) (hv : Value.okWide Try.prog W .any 0 59 v) :
    ∃ xs : List (List Int), RdBB W v xs ∧ (∀ l ∈ xs, By l) ∧ xs.length ≤ 9223372036854775807 := by
  obtain ⟨a, len, cap, rfl⟩ := okWide_slice Try.underlying59 hv
  obtain ⟨fuel, hf⟩ := h
  rcases Go.Deep.open_int_rows Try.underlying59 Try.underlying22 Try.underlying5 (by kernel_rfl) (by kernel_rfl) hf with ⟨hcs, _⟩ | ⟨x, l, c, A, L, C, Z, hcs, _, hl2, hm, _, hrow⟩
  · simp [Value.cells] at hcs
    obtain ⟨rfl, rfl, rfl⟩ := hcs
    exact ⟨[], RdBB.nil _, fun _ h => by simp at h, by simp⟩
  · simp [Value.cells] at hcs
    obtain ⟨rfl, rfl, rfl⟩ := hcs
    simp only [maxLen] at hm
    have hml : len ≤ 9223372036854775807 := by omega
    have htl : ((List.range len).map fun r => (Z r).take (L r)).length = len := by simp
    refine ⟨(List.range len).map fun r => (Z r).take (L r), ⟨some x, cap, by rw [htl], by rw [htl]; exact hl2, by rw [htl]; exact hml, fun _ => ⟨x, rfl, fun i hi => ?_⟩⟩, fun y hy => ?_, by rw [htl]; exact hml⟩
    · rw [htl] at hi
      obtain ⟨h1, h2, h3, h4, h5, h6, h7⟩ := hrow i (by omega)
      have hg : ((List.range len).map fun r => (Z r).take (L r)).getD i [] = (Z i).take (L i) := by simp [List.getD_eq_getElem?_getD, hi]
      have hzl : ((Z i).take (L i)).length = L i := by rw [List.length_take]; omega
      refine ⟨_, h1, ?_⟩
      rw [hg]
      simp only [maxLen] at h3
      refine ⟨A i, C i, by rw [hzl], by rw [hzl]; exact h2, by rw [hzl], by rw [hzl]; omega, fun h0 => ?_⟩
      rw [hzl] at h0
      cases hA : A i with
      | none => have := h6 hA; omega
      | some a' =>
        refine ⟨a', rfl, fun k hk => ?_⟩
        rw [hzl] at hk
        rw [((h7 a' hA).2 k (by omega))]
        simp [List.getD_eq_getElem?_getD, hk]
    · obtain ⟨r, hr, rfl⟩ := List.mem_map.1 hy
      rw [List.mem_range] at hr
      obtain ⟨_, _, _, _, h5, _, _⟩ := hrow r (by omega)
      exact fun z hz => wf_u8 (h5 z (List.mem_of_mem_take hz))
end Go.Proofs.Yteebojnabifccaa
