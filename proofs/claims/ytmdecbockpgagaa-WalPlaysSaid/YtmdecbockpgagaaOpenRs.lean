import Derived.Test.YtmdecbockpgagaaOpen
import Derived.Test.YtmdecbockpgagaaWalFrame
import Derived.Deep.Slices
import Derived.Deep.Strs
/- Rows of records, and rows of such rows, as a law's arguments. -/
namespace Go.Proofs.Ytmdecbockpgagaa
open Go.ChangeShapes Go.WideShapes Go.ChangeAt Go.RowKit

/-- The sizes of an argument's texts. -/
def Fits (rs : List Rc) : Prop := ∀ r ∈ rs, r.tag.size ≤ 140737488351232 ∧ r.text.size ≤ 140737488351232
/-- A row of groups that is read, wherever it lies. -/
def RdGs (w : World) (v : Value) (gs : List (List Rc)) : Prop := ∃ A c, v = .slice A gs.length c ∧ gs.length ≤ c ∧ gs.length ≤ 9223372036854775807 ∧
  (0 < gs.length → ∃ a, A = some a ∧ ∀ (i : Nat) (x : List Rc), gs[i]? = some x → ∃ u, w.cell? (a.add i) = some u ∧ RdR w u x)
instance : Inhabited Rc := ⟨⟨0, ByteArray.empty, ByteArray.empty⟩⟩
theorem weightsAll_memR {H : Type} {P : Program} {e : TypeId} : ∀ {l : List (DataW H)} {d : DataW H}, d ∈ l → ∀ n ∈ d.weights P e, n ∈ DataW.weightsAll P e l
  | d' :: r, d, hd, n, hn => by
    simp only [DataW.weightsAll, List.mem_append]
    rcases List.mem_cons.1 hd with rfl | h
    · exact Or.inl hn
    · exact Or.inr (weightsAll_memR h n hn)
theorem add_nought (a : Addr) : a.add 0 = a := by
  unfold Addr.add
  simp
theorem add_two (a : Addr) : a.add 2 = ⟨a.block, a.off + 2, none⟩ := by
  unfold Addr.add
  rw [if_neg (by omega)]
theorem add_one' (a : Addr) : a.add 1 = ⟨a.block, a.off + 1, none⟩ := by
  unfold Addr.add
  rw [if_neg (by omega)]
set_option maxRecDepth 100000 in
theorem recs_in {H : Type} {enc : TypeId × Value → H} {W : World} {fuel : Nat} {cs : List Value} {X : DataW H × List MemPlace}
    (h : DataW.trod enc Try.prog W 0 (fun _ => true) true fuel 32 cs = some X) (hw : ∀ n ∈ X.1.weights Try.prog 32, n ≤ reachBytes) :
    ∃ v rs, cs = [v] ∧ RdR W v rs ∧ Fits rs := by
  rcases Go.Deep.open_slice Try.underlying32 h with ⟨hcs, _⟩ | ⟨x, len, cap, m, n, D, Pl, hcs, _, hl2, hm, hmm, hxe, hx⟩
  · exact ⟨_, [], hcs, RdR.nil W, fun r hr => by simp at hr⟩
  · have hlm : len ≤ m := by rw [hmm]; split <;> omega
    have each : ∀ i, i < len → ∃ q : Rc, RcAt W (x.add (i * 3)) q ∧ q.tag.size ≤ 140737488351232 ∧ q.text.size ≤ 140737488351232 := by
      intro i hi
      obtain ⟨cs, h1, h2⟩ := hx i (by omega)
      rw [show Try.prog.cellsOf 50 = 3 by kernel_rfl] at h1
      obtain ⟨_, hlen, hcell⟩ := World.cells?_some h1
      obtain ⟨y0, y1, y2, k, hD, _, g0, g1, g2⟩ := Go.Deep.trod_struct3 Try.underlying50 h2
      match cs, hlen with
      | [v0, v1, v2], _ =>
      have e0 := hcell 0 (by omega)
      have e1 := hcell 1 (by omega)
      have e2 := hcell 2 (by omega)
      rw [add_nought] at e0
      rw [add_one'] at e1
      rw [add_two] at e2
      rw [show Try.prog.cellsOf 5 = 1 by kernel_rfl] at g0
      rw [show Try.prog.cellsOf 9 = 1 by kernel_rfl] at g1 g2
      simp only [List.drop_zero, List.drop_succ_cons, List.take_succ_cons, List.take_zero] at g0 g1 g2
      obtain ⟨b, hb, hy0, -⟩ := DataW.trod_int Try.underlying5 g0
      obtain ⟨s1, hs1, hy1, -⟩ := DataW.trod_string Try.underlying9 g1
      obtain ⟨s2, hs2, hy2, -⟩ := DataW.trod_string Try.underlying9 g2
      simp only [List.cons.injEq, and_true] at hb hs1 hs2
      subst hb hs1 hs2 hy0 hy1 hy2
      simp only [Prod.mk.injEq] at hD
      have hmem : D i ∈ (List.range len).map D := List.mem_map.2 ⟨i, List.mem_range.2 hi, rfl⟩
      have hw' : ∀ n ∈ (D i).weights Try.prog 50, n ≤ reachBytes := fun n hn => by
        refine hw n ?_
        rw [hxe]
        simp only [DataW.weights, Try.underlying32, List.mem_cons, List.mem_append]
        exact Or.inr (Or.inl (weightsAll_memR hmem _ hn))
      rw [hD.1] at hw'
      simp only [DataW.weights, Try.underlying50] at hw'
      have w1 := hw' s1.data.toList.length (by simp [DataW.weightsEach, DataW.weights])
      have w2 := hw' s2.data.toList.length (by simp [DataW.weightsEach, DataW.weights])
      exact ⟨⟨b, s1, s2⟩, ⟨by simpa using e0, by simpa using e1, by simpa using e2⟩, (by simpa using w1 : s1.size ≤ reachBytes), (by simpa using w2 : s2.size ≤ reachBytes)⟩
    obtain ⟨q, hq⟩ := Go.Deep.choose_lt each
    have htl : ((List.range len).map q).length = len := by simp
    simp only [maxLen] at hm
    refine ⟨_, (List.range len).map q, hcs, ⟨some x, cap, by rw [htl], by rw [htl]; exact hl2, by rw [htl]; omega, fun h0 => ⟨x, rfl, fun i y hy => ?_⟩⟩, fun r hr => ?_⟩
    · rw [List.getElem?_map] at hy
      obtain ⟨i', hi', rfl⟩ := Option.map_eq_some_iff.1 hy
      obtain ⟨hi1, hi2⟩ := List.getElem?_eq_some_iff.1 hi'
      rw [List.length_range] at hi1
      rw [List.getElem_range] at hi2
      subst hi2
      exact (hq i hi1).1
    · obtain ⟨i, hi, rfl⟩ := List.mem_map.1 hr
      rw [List.mem_range] at hi
      exact (hq i hi).2
set_option maxRecDepth 100000 in
theorem open_recs {H : Type} {enc : TypeId × Value → H} {W : World} {v : Value} {d : DataW H} {ps : List MemPlace} {ts : List TypeId} {ds : List (DataW H)} {j : Nat}
    (hsz : (DataW.weightsEach Try.prog ts ds).all (· ≤ reachBytes) = true) (ht : ts[j]? = some 32) (hd : ds[j]? = some d)
    (h : DataW.Trod enc Try.prog W 0 (fun _ => true) true 32 v d ps) (hv : Value.okWide Try.prog W .any 0 32 v) :
    ∃ rs, RdR W v rs ∧ Fits rs := by
  obtain ⟨a, len, cap, rfl⟩ := okWide_slice Try.underlying32 hv
  obtain ⟨fuel, hf⟩ := h
  obtain ⟨v, rs, hcs, h1, h2⟩ := recs_in hf (fun n hn => of_decide_eq_true (List.all_eq_true.1 hsz _ (DataW.weights_mem_each ht hd _ hn)))
  simp [Value.cells] at hcs
  exact ⟨rs, by rw [hcs]; exact h1, h2⟩
set_option maxRecDepth 100000 in
theorem open_groups {H : Type} {enc : TypeId × Value → H} {W : World} {v : Value} {d : DataW H} {ps : List MemPlace} {ts : List TypeId} {ds : List (DataW H)} {j : Nat}
    (hsz : (DataW.weightsEach Try.prog ts ds).all (· ≤ reachBytes) = true) (ht : ts[j]? = some 27) (hd : ds[j]? = some d)
    (h : DataW.Trod enc Try.prog W 0 (fun _ => true) true 27 v d ps) (hv : Value.okWide Try.prog W .any 0 27 v) :
    ∃ gs, RdGs W v gs ∧ ∀ g ∈ gs, Fits g := by
  obtain ⟨a, len, cap, rfl⟩ := okWide_slice Try.underlying27 hv
  obtain ⟨fuel, hf⟩ := h
  rcases Go.Deep.open_slice1 Try.underlying27 (by kernel_rfl) hf with ⟨hcs, _⟩ | ⟨x, l, c, m, n, V, D, Pl, hcs, _, hl2, hm, hmm, hxe, hx⟩
  · simp [Value.cells] at hcs
    obtain ⟨rfl, rfl, rfl⟩ := hcs
    exact ⟨[], ⟨none, 0, rfl, Nat.le_refl _, by simp, fun h => absurd h (by simp)⟩, fun g hg => by simp at hg⟩
  · simp [Value.cells] at hcs
    obtain ⟨rfl, rfl, rfl⟩ := hcs
    have hlm : len ≤ m := by rw [hmm]; split <;> omega
    simp only [Prod.mk.injEq] at hxe
    have each : ∀ i, i < len → ∃ q : List Rc, (∃ u, W.cell? (x.add i) = some u ∧ RdR W u q) ∧ Fits q := by
      intro i hi
      obtain ⟨h1, h2⟩ := hx i (by omega)
      have hmem : D i ∈ (List.range len).map D := List.mem_map.2 ⟨i, List.mem_range.2 hi, rfl⟩
      obtain ⟨v, rs, hcs, h3, h4⟩ := recs_in h2 (fun n hn => by
        refine of_decide_eq_true (List.all_eq_true.1 hsz _ (DataW.weights_mem_each ht hd _ ?_))
        rw [hxe.1]
        simp only [DataW.weights, Try.underlying27, List.mem_cons, List.mem_append]
        exact Or.inr (Or.inl (weightsAll_memR hmem _ hn)))
      simp only [List.cons.injEq, and_true] at hcs
      exact ⟨rs, ⟨_, h1, by rw [hcs]; exact h3⟩, h4⟩
    obtain ⟨q, hq⟩ := Go.Deep.choose_lt each
    have htl : ((List.range len).map q).length = len := by simp
    simp only [maxLen] at hm
    refine ⟨(List.range len).map q, ⟨some x, cap, by rw [htl], by rw [htl]; exact hl2, by rw [htl]; omega, fun h0 => ⟨x, rfl, fun i y hy => ?_⟩⟩, fun r hr => ?_⟩
    · rw [List.getElem?_map] at hy
      obtain ⟨i', hi', rfl⟩ := Option.map_eq_some_iff.1 hy
      obtain ⟨hi1, hi2⟩ := List.getElem?_eq_some_iff.1 hi'
      rw [List.length_range] at hi1
      rw [List.getElem_range] at hi2
      subst hi2
      exact (hq i hi1).1
    · obtain ⟨i, hi, rfl⟩ := List.mem_map.1 hr
      rw [List.mem_range] at hi
      exact (hq i hi).2
theorem RdGs.below {w w1 : World} {v : Value} {gs : List (List Rc)} (h : RdGs w v gs) (hb : Below w.heap.size w w1) : RdGs w1 v gs := by
  obtain ⟨A, c, rfl, hc, hm, hr⟩ := h
  refine ⟨A, c, rfl, hc, hm, fun h0 => ?_⟩
  obtain ⟨a, rfl, hx⟩ := hr h0
  refine ⟨a, rfl, fun i x hi => ?_⟩
  obtain ⟨u, h1, h2⟩ := hx i x hi
  exact ⟨u, Go.Proofs.YtmdecbockpgagaaW.PrintWords.pw_cell_below hb h1, h2.below hb⟩
end Go.Proofs.Ytmdecbockpgagaa
