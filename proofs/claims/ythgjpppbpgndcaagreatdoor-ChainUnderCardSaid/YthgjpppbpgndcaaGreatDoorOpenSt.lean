import Derived.Test.YthgjpppbpgndcaaGreatDoorOpen
import Derived.Test.YthgjpppbpgndcaaGreatDoorChainKnown2
import Derived.Deep.Slices
import Derived.Deep.Strs
/- A row of steps, read: three cells each. -/
namespace Go.Proofs.YthgjpppbpgndcaaGreatDoor
open Go.ChangeShapes Go.WideShapes Go.ChangeAt Go.RowKit

/-- A row of steps: a bool and two strings each. -/
def RdSt (w : World) (v : Value) (xs : List (Bool × Nm × Nm)) : Prop := ∃ A c, v = .slice A xs.length c ∧ xs.length ≤ c ∧ (0 < xs.length → ∃ a, A = some a ∧ ∀ (j : Nat) x, xs[j]? = some x →
  w.cell? (a.add (j * 3)) = some (.bool x.1) ∧ w.cell? (a.add (j * 3 + 1)) = some (.string (S x.2.1)) ∧ w.cell? (a.add (j * 3 + 2)) = some (.string (S x.2.2)) ∧ x.2.1.length ≤ 140737488351232 ∧ x.2.2.length ≤ 140737488351232)
theorem weightsAll_memS {H : Type} {P : Program} {e : TypeId} : ∀ {l : List (DataW H)} {d : DataW H}, d ∈ l → ∀ n ∈ d.weights P e, n ∈ DataW.weightsAll P e l
  | d' :: r, d, hd, n, hn => by
    simp only [DataW.weightsAll, List.mem_append]
    rcases List.mem_cons.1 hd with rfl | h
    · exact Or.inl hn
    · exact Or.inr (weightsAll_memS h n hn)
set_option maxRecDepth 100000 in
theorem open_steps {H : Type} {enc : TypeId × Value → H} {W : World} {v : Value} {d : DataW H} {ps : List MemPlace} {ts : List TypeId} {ds : List (DataW H)} {j : Nat}
    (hsz : (DataW.weightsEach Tryz.prog ts ds).all (· ≤ reachBytes) = true) (ht : ts[j]? = some 22) (hd : ds[j]? = some d)
    (h : DataW.Trod enc Tryz.prog W 0 (fun _ => true) true 22 v d ps) (hv : Value.okWide Tryz.prog W .any 0 22 v) :
    ∃ xs, RdSt W v xs := by
  obtain ⟨a, len, cap, rfl⟩ := okWide_slice Tryz.underlying22 hv
  obtain ⟨fuel, hf⟩ := h
  rcases Go.Deep.open_slice Tryz.underlying22 hf with ⟨hcs, _⟩ | ⟨x, l, c, m, n, D, Pl, hcs, _, hl2, hm, hmm, hxe, hx⟩
  · simp [Value.cells] at hcs
    obtain ⟨rfl, rfl, rfl⟩ := hcs
    exact ⟨[], none, 0, rfl, Nat.le_refl _, fun h => absurd h (by simp)⟩
  · simp [Value.cells] at hcs
    obtain ⟨rfl, rfl, rfl⟩ := hcs
    have hlm : len ≤ m := by rw [hmm]; split <;> omega
    simp only [Prod.mk.injEq] at hxe
    have each : ∀ i, i < len → ∃ q : Bool × Nm × Nm, W.cell? (x.add (i * 3)) = some (.bool q.1) ∧ W.cell? (x.add (i * 3 + 1)) = some (.string (S q.2.1)) ∧ W.cell? (x.add (i * 3 + 2)) = some (.string (S q.2.2)) ∧ q.2.1.length ≤ 140737488351232 ∧ q.2.2.length ≤ 140737488351232 := by
      intro i hi
      obtain ⟨cs, h1, h2⟩ := hx i (by omega)
      rw [show Tryz.prog.cellsOf 29 = 3 by kernel_rfl] at h1
      obtain ⟨_, hlen, hcell⟩ := World.cells?_some h1
      obtain ⟨y0, y1, y2, k, hD, _, g0, g1, g2⟩ := Go.Deep.trod_struct3 Tryz.underlying29 h2
      match cs, hlen with
      | [v0, v1, v2], _ =>
      have e0 := hcell 0 (by omega)
      have e1 := hcell 1 (by omega)
      have e2 := hcell 2 (by omega)
      rw [Go.Deep.add_add] at e0 e1 e2
      rw [show Tryz.prog.cellsOf 4 = 1 by kernel_rfl] at g0
      rw [show Tryz.prog.cellsOf 9 = 1 by kernel_rfl] at g1 g2
      simp only [List.drop_zero, List.drop_succ_cons, List.take_succ_cons, List.take_zero] at g0 g1 g2
      obtain ⟨b, hb, hy0⟩ := DataW.trod_bool Tryz.underlying4 g0
      obtain ⟨s1, hs1, hy1, -⟩ := DataW.trod_string Tryz.underlying9 g1
      obtain ⟨s2, hs2, hy2, -⟩ := DataW.trod_string Tryz.underlying9 g2
      simp only [List.cons.injEq, and_true] at hb hs1 hs2
      subst hb hs1 hs2 hy0 hy1 hy2
      simp only [Prod.mk.injEq] at hD
      have hmem : D i ∈ (List.range len).map D := List.mem_map.2 ⟨i, List.mem_range.2 hi, rfl⟩
      have hw : ∀ n ∈ (D i).weights Tryz.prog 29, n ≤ reachBytes := fun n hn => by
        refine of_decide_eq_true (List.all_eq_true.1 hsz _ (DataW.weights_mem_each ht hd _ ?_))
        rw [hxe.1]
        simp only [DataW.weights, Tryz.underlying22, List.mem_cons, List.mem_append]
        exact Or.inr (Or.inl (weightsAll_memS hmem _ hn))
      rw [hD.1] at hw
      simp only [DataW.weights, Tryz.underlying29] at hw
      have w1 := hw s1.data.toList.length (by simp [DataW.weightsEach, DataW.weights])
      have w2 := hw s2.data.toList.length (by simp [DataW.weightsEach, DataW.weights])
      exact ⟨(b, s1.data.toList, s2.data.toList), by simpa using e0, by simpa [S_of] using e1, by simpa [S_of] using e2, w1, w2⟩
    obtain ⟨q, hq⟩ := Go.Deep.choose_lt each
    have htl : ((List.range len).map q).length = len := by simp
    refine ⟨(List.range len).map q, some x, cap, by rw [htl], by rw [htl]; exact hl2, fun h0 => ⟨x, rfl, fun i y hy => ?_⟩⟩
    rw [List.getElem?_map] at hy
    obtain ⟨i', hi', rfl⟩ := Option.map_eq_some_iff.1 hy
    obtain ⟨hi1, hi2⟩ := List.getElem?_eq_some_iff.1 hi'
    rw [List.length_range] at hi1
    rw [List.getElem_range] at hi2
    subst hi2
    exact hq i hi1
theorem RdSt.below {w w1 : World} {v : Value} {xs : List (Bool × Nm × Nm)} (h : RdSt w v xs) (hb : Below w.heap.size w w1) : RdSt w1 v xs := by
  obtain ⟨A, c, rfl, hc, hr⟩ := h
  refine ⟨A, c, rfl, hc, fun h0 => ?_⟩
  obtain ⟨a, rfl, hx⟩ := hr h0
  refine ⟨a, rfl, fun j x hj => ?_⟩
  obtain ⟨h1, h2, h3, h4⟩ := hx j x hj
  exact ⟨Go.Proofs.YthgjpppbpgndcaaGreatDoorW.PrintWords.pw_cell_below hb h1, Go.Proofs.YthgjpppbpgndcaaGreatDoorW.PrintWords.pw_cell_below hb h2, Go.Proofs.YthgjpppbpgndcaaGreatDoorW.PrintWords.pw_cell_below hb h3, h4⟩
end Go.Proofs.YthgjpppbpgndcaaGreatDoor
