import Derived.Test.YthgjpppbpgndcaaGreatDoorTagCanonMath
import Derived.Sort.BigQuietIn
import Derived.Test.YthgjpppbpgndcaaGreatDoorRowSame
/- tag.Canon. -/
namespace Go.Proofs.YthgjpppbpgndcaaGreatDoor
open Go.RowKit Go.Shelf Go.Proofs.YthgjpppbpgndcaaGreatDoorW.PrintWords Go.Proofs.YthgjpppbpgndcaaGreatDoorW.PrintMore

attribute [local go_sem] Oper.semAt_some

theorem boxes0 (w : World) : Boxed ((w.alloc (.cells #[.string (S [])] 9)).alloc (.cells #[.int .i64 0] 26)) w.heap.size 9 (.string (S [])) ∧
    Boxed ((w.alloc (.cells #[.string (S [])] 9)).alloc (.cells #[.int .i64 0] 26)) (w.heap.size + 1) 26 (.int .i64 0) ∧
    Below w.heap.size w ((w.alloc (.cells #[.string (S [])] 9)).alloc (.cells #[.int .i64 0] 26)) ∧ ((w.alloc (.cells #[.string (S [])] 9)).alloc (.cells #[.int .i64 0] 26)).heap.size = w.heap.size + 2 := by
  have b1 := Boxed.new w 9 (.string (S []))
  have b2 := Boxed.new (w.alloc (.cells #[.string (S [])] 9)) 26 (.int .i64 0)
  simp only [World.size_alloc] at b2
  exact ⟨b1.alloc _, b2, ((Below.refl _ w).alloc (Nat.le_refl _) _).alloc (by simp) _, by simp⟩
/-- Both results are set. -/
theorem set_two {W : World} {R : Nat} {a b : Value} (h0 : Boxed W R 9 a) (h1 : Boxed W (R + 1) 26 b) (x y : Value) :
    Boxed ((W.setCell ⟨R, 0, none⟩ x).setCell ⟨R + 1, 0, none⟩ y) R 9 x ∧ Boxed ((W.setCell ⟨R, 0, none⟩ x).setCell ⟨R + 1, 0, none⟩ y) (R + 1) 26 y :=
  ⟨(h0.set x).other (by omega) _, (h1.other (by omega) _).set y⟩
theorem below_two {n : Nat} {w W : World} (h : Below n w W) {R : Nat} (hR : n ≤ R) (x y : Value) : Below n w ((W.setCell ⟨R, 0, none⟩ x).setCell ⟨R + 1, 0, none⟩ y) :=
  (h.setCell (p := ⟨R, 0, none⟩) hR x).setCell (p := ⟨R + 1, 0, none⟩) (by simp; omega) y

theorem canon_results (tmps : Array Value) (R : Nat) (h2 : tmps[2]?.getD undef = .pointer (some ⟨R, 0, none⟩)) (h3 : tmps[3]?.getD undef = .pointer (some ⟨R + 1, 0, none⟩)) (W : World) (x y : Value) (hx : W.cell? ⟨R, 0, none⟩ = some x) (hy : W.cell? ⟨R + 1, 0, none⟩ = some y) :
    (results Tryz.f34 tmps).run Tryz.prog W = .ok (.tuple #[x, y]) W := by
  simp [results, Tryz.f34, go_sem, h2, h3, hx, hy]

/-- The world behind 'x = append(x, ..)', x boxed in B: all but B and the row's own block is as it was. -/
theorem app_same {W w1 : World} {tmp : Obj} {row : Option Nat} (hg : (W.alloc tmp).grownBy w1 row) (B : Nat) (u : Value) :
    ∀ k, k < W.heap.size → k ≠ B → some k ≠ row → (w1.setCell ⟨B, 0, none⟩ u).heap[k]? = W.heap[k]? := fun k hk hB hr =>
  (Below.heap_setCell w1 ⟨B, 0, none⟩ u k hB).trans ((hg.block k (by simp; omega) hr).trans (Below.heap_alloc W tmp k hk))
theorem app_meta {W w1 : World} {tmp : Obj} {row : Option Nat} (hg : (W.alloc tmp).grownBy w1 row) {n B : Nat} (hn : n ≤ W.heap.size) (hB : n ≤ B) (hr : ∀ k, row = some k → n ≤ k) (u : Value) : Below n W (w1.setCell ⟨B, 0, none⟩ u) :=
  (((Below.refl n W).alloc hn tmp).grown hg (by simp; omega) hr).setCell (p := ⟨B, 0, none⟩) hB u

theorem undef_ne (b : Bool) : undef ≠ Value.bool b := fun h => by cases h
/-- A call whose guard is off. -/
theorem skip_off {f : FuncId} {K : Act → World → Prop} {a : Act} {w : World} (h : K a w) : Fence.wide.fn f ∧ K a w := ⟨trivial, h⟩
theorem cell_one_set (W : World) (q : Addr) (u x : Value) (T : TypeId) : ∀ (j : Nat) (y : Value), [x][j]? = some y → ((W.setCell q u).alloc (.cells #[x] T)).cell? ((⟨W.heap.size, 0, none⟩ : Addr).add j) = some y := by
  have h := cell_one_new (W.setCell q u) x T
  have e : (W.setCell q u).heap.size = W.heap.size := by unfold World.setCell; simp
  rwa [e] at h

theorem split_len (l : List UInt8) : ∀ p ∈ splitL l, p.length ≤ l.length := by
  obtain ⟨n, hn⟩ : ∃ n, l.length = n := ⟨_, rfl⟩
  induction n using Nat.strongRecOn generalizing l with
  | ind n ih =>
    intro p hp
    rcases split_index l with ⟨_, h1, _⟩ | ⟨i, hi, _, h3, _, _⟩
    · rw [h1] at hp
      obtain rfl : p = l := by simpa using hp
      exact Nat.le_refl _
    · rw [h3] at hp
      rcases List.mem_cons.1 hp with rfl | hp
      · rw [List.length_take]; omega
      · have := ih (l.drop (i + 1)).length (by rw [List.length_drop]; omega) _ rfl p hp
        rw [List.length_drop] at this
        omega
theorem split_count (l : List UInt8) : (splitL l).length ≤ l.length + 1 := by
  obtain ⟨n, hn⟩ : ∃ n, l.length = n := ⟨_, rfl⟩
  induction n using Nat.strongRecOn generalizing l with
  | ind n ih =>
    rcases split_index l with ⟨_, h1, _⟩ | ⟨i, hi, _, h3, _, _⟩
    · rw [h1]; simp
    · rw [h3, List.length_cons]
      have := ih (l.drop (i + 1)).length (by rw [List.length_drop]; omega) _ rfl
      rw [List.length_drop] at this
      omega
theorem ascii_low {a b : Nat} {t : List UInt8} (h : allP isLow a b t = true) : ∀ c ∈ t, c.toNat < 128 := fun c hc => by
  unfold allP at h
  rw [Bool.and_eq_true] at h
  have := List.all_eq_true.1 h.1 c hc
  simp [isLow] at this
  omega
theorem ascii_dig {a b : Nat} {t : List UInt8} (h : allP isDig a b t = true) : ∀ c ∈ t, c.toNat < 128 := fun c hc => by
  unfold allP at h
  rw [Bool.and_eq_true] at h
  have := List.all_eq_true.1 h.1 c hc
  simp [isDig] at this
  omega
theorem low_len {t : List UInt8} (h : allP isLow 4 4 t = true) : 1 ≤ t.length := by
  unfold allP at h
  simp only [Bool.and_eq_true, decide_eq_true_eq] at h
  omega
theorem stepC_le {next n' : Nat} {out : List (List UInt8)} {x t' : List UInt8} (h : stepC next out x = some (n', t')) : 1 ≤ n' ∧ n' ≤ 3 := by
  unfold stepC at h
  repeat' split at h
  all_goals first | (cases h; exact ⟨by decide, by decide⟩) | cases h

def CanI (w : World) (o base : Nat) (pre : List (List UInt8)) (W : World) : Prop :=
  (Below w.heap.size w W ∧ base ≤ W.heap.size) ∧ Boxed W w.heap.size 9 (.string (S [])) ∧ Boxed W (w.heap.size + 1) 26 (.int .i64 0) ∧
  ∃ (next : Nat) (out : List (List UInt8)) (u : Value), loopC 0 [] pre = some (next, out) ∧ next ≤ 3 ∧ (0 < next → out ≠ []) ∧ Boxed W o 30 u ∧ Boxed W (o + 1) 3 (.int .i64 (next : Int)) ∧ OwnS W base u out
def CanX (w : World) (c : Code) (pre : List (List UInt8)) (W : World) : Prop :=
  c = .ret ∧ Below w.heap.size w W ∧ Boxed W w.heap.size 9 (.string (S [])) ∧ Boxed W (w.heap.size + 1) 26 (.int .i64 100) ∧ loopC 0 [] pre = none
theorem CanI.turn {w X Y : World} {o bw B : Nat} {pre : List (List UInt8)} (h : CanI w o (bw + 3) pre X) (hw : w.heap.size + 1 < o) (ho : o + 1 < bw) (hB : w.heap.size ≤ B) (t : Turn B (· = bw) X Y) : CanI w o (bw + 3) pre Y := by
  obtain ⟨⟨h1, h2⟩, h3, h4, next, out, u, h5, h6, h7, h8, h9, h10⟩ := h
  exact ⟨⟨t.below h1 (Nat.le_refl _) hB (fun k e => by omega), Nat.le_trans h2 t.size⟩, t.boxed h3 (by omega), t.boxed h4 (by omega), next, out, u, h5, h6, h7, t.boxed h8 (by omega), t.boxed h9 (by omega), t.row h10 (fun k hk e => by omega)⟩
theorem CanX.turn {w X Y : World} {bw B : Nat} {c : Code} {pre : List (List UInt8)} (h : CanX w c pre X) (hw : w.heap.size + 1 < bw) (hB : w.heap.size ≤ B) (t : Turn B (· = bw) X Y) : CanX w c pre Y := by
  obtain ⟨h0, h1, h3, h4, h5⟩ := h
  exact ⟨h0, t.below h1 (Nat.le_refl _) hB (fun k e => by omega), t.boxed h3 (by omega), t.boxed h4 (by omega), h5⟩

theorem canon_own {W Wa : World} {o bw : Nat} {out : List (List UInt8)} {u v : Value} {tmp : Obj} (ho : o + 1 < bw) (hown : OwnS W (bw + 3) u out) (hba : Below W.heap.size W Wa) :
    ((Wa.setCell ⟨o + 1, 0, none⟩ v).alloc tmp).ownsRow (bw + 3) 9 1 u out.length (out.map fun s => Value.string (S s)) :=
  World.ownsRow.alloc (row_same hown (fun k hk hky => by
    have := (hown.lt k hky.symm).1
    exact (Below.heap_setCell Wa ⟨o + 1, 0, none⟩ v k (by show k ≠ o + 1; omega)).trans (hba.block k hk))) tmp

theorem canon_tail {w W Wa : World} {o bw : Nat} {pre : List (List UInt8)} {x t' : List UInt8} {next n' : Nat} {out : List (List UInt8)} {u : Value} (hw : w.heap.size + 1 < o) (ho : o + 1 < bw)
    (h1 : Below w.heap.size w W) (hbs : bw + 3 ≤ W.heap.size) (b0 : Boxed W w.heap.size 9 (.string (S []))) (b1 : Boxed W (w.heap.size + 1) 26 (.int .i64 0)) (hlc : loopC 0 [] pre = some (next, out))
    (bo : Boxed W o 30 u) (bn : Boxed W (o + 1) 3 (.int .i64 (next : Int))) (hown : OwnS W (bw + 3) u out) (hst : stepC next out x = some (n', t')) (hba : Below W.heap.size W Wa) :
    ∀ (w1 : World) (g' cap' : Nat), ((Wa.setCell ⟨o + 1, 0, none⟩ (.int .i64 (n' : Int))).alloc (.cells #[.string (S t')] 9)).grownBy w1 u.ownBlock →
      w1.ownsRow (bw + 3) 9 1 (.slice (some ⟨g', 0, none⟩) (out.length + 1) cap') (out.length + 1) ((out.map fun s => Value.string (S s)) ++ [.string (S t')]) →
      KeepsOthers W (w1.setCell ⟨o, 0, none⟩ (.slice (some ⟨g', 0, none⟩) (out.length + 1) cap')) ∧ TKp w.heap.size bw W (w1.setCell ⟨o, 0, none⟩ (.slice (some ⟨g', 0, none⟩) (out.length + 1) cap')) ∧
        CanI w o (bw + 3) (pre ++ [x]) (w1.setCell ⟨o, 0, none⟩ (.slice (some ⟨g', 0, none⟩) (out.length + 1) cap')) := by
  intro w1 g' cap' hgrow hown'
  obtain ⟨v', hv'⟩ : ∃ v' : Value, Value.slice (some ⟨g', 0, none⟩) (out.length + 1) cap' = v' := ⟨_, rfl⟩
  have hsz : W.heap.size ≤ (Wa.setCell ⟨o + 1, 0, none⟩ (.int .i64 (n' : Int))).heap.size := Nat.le_trans hba.size (KeepsWalks.setCell Wa _ _).size
  have hm : Below w.heap.size W (Wa.setCell ⟨o + 1, 0, none⟩ (.int .i64 (n' : Int))) := (hba.mono h1.size).setCell (p := ⟨o + 1, 0, none⟩) (by show w.heap.size ≤ o + 1; omega) _
  have hBW : Below w.heap.size W (w1.setCell ⟨o, 0, none⟩ v') := hm.trans (app_meta hgrow (Nat.le_trans h1.size hsz) (by omega) (fun k e => by have := (hown.lt k e).1; omega) _)
  have sm : ∀ k, k < W.heap.size → k ≠ o → k ≠ o + 1 → some k ≠ u.ownBlock → (w1.setCell ⟨o, 0, none⟩ v').heap[k]? = W.heap[k]? := fun k hk h1 h2 h3 =>
    (app_same hgrow o v' k (by omega) h1 h3).trans ((Below.heap_setCell Wa ⟨o + 1, 0, none⟩ _ k h2).trans (hba.block k hk))
  have hbo : Boxed (Wa.setCell ⟨o + 1, 0, none⟩ (.int .i64 (n' : Int))) o 30 u := Boxed.other ((hba.block _ bo.lt).trans bo) (by omega) _
  have hb1 : Boxed w1 o 30 u := (hbo.alloc _).kept hgrow (row_ne hown (by omega))
  have hbn : Boxed (Wa.setCell ⟨o + 1, 0, none⟩ (.int .i64 (n' : Int))) (o + 1) 3 (.int .i64 (n' : Int)) := Boxed.set _ ((hba.block _ bn.lt).trans bn)
  have hbn2 : Boxed (w1.setCell ⟨o, 0, none⟩ v') (o + 1) 3 (.int .i64 (n' : Int)) := (app_same hgrow o v' (o + 1) hbn.lt (by omega) (row_ne hown (by omega))).trans hbn
  rw [hv'] at hown' ⊢
  refine ⟨⟨hBW.size, fun k ob hk hob => ?_⟩, ⟨hBW, sm _ (by omega) (by omega) (by omega) (row_ne hown (by omega)), sm _ (by omega) (by omega) (by omega) (row_ne hown (by omega)), sm _ (by omega) (by omega) (by omega) (row_ne hown (by omega))⟩,
    ⟨h1.trans hBW, Nat.le_trans hbs hBW.size⟩, (sm _ (by omega) (by omega) (by omega) (row_ne hown (by omega))).trans b0, (sm _ (by omega) (by omega) (by omega) (row_ne hown (by omega))).trans b1, n', out ++ [t'], v', ?_, (stepC_le hst).2, fun _ => by simp, hb1.set _, hbn2, ?_⟩
  · refine (sm k (Array.getElem?_eq_some_iff.1 hk).1 ?_ ?_ ?_).trans hk
    · rintro rfl; rw [show W.heap[k]? = _ from bo] at hk; cases hk; cases hob
    · rintro rfl; rw [show W.heap[o + 1]? = _ from bn] at hk; cases hk; cases hob
    · intro e; obtain ⟨cs, rfl⟩ := row_cells hown e hk; cases hob
  · rw [loopC_append, hlc]
    show (stepC next out x).bind _ = _
    rw [hst]
    rfl
  · show World.ownsRow _ _ _ _ _ _ _
    rw [List.length_append, List.length_singleton, List.map_append]
    refine row_same hown' (fun k hk hky => Below.heap_setCell w1 ⟨o, 0, none⟩ _ k ?_)
    have := (hown'.lt k hky.symm).1
    show k ≠ o
    omega
theorem canon_stop {w W Wa : World} {pre : List (List UInt8)} {x : List UInt8} {next : Nat} {out : List (List UInt8)} (h1 : Below w.heap.size w W) (b0 : Boxed W w.heap.size 9 (.string (S []))) (b1 : Boxed W (w.heap.size + 1) 26 (.int .i64 0)) (hlc : loopC 0 [] pre = some (next, out))
    (hs : stepC next out x = none) (hba : Below W.heap.size W Wa) :
    KeepsOthers W ((Wa.setCell ⟨w.heap.size, 0, none⟩ (.string (S []))).setCell ⟨w.heap.size + 1, 0, none⟩ (.int .i64 100)) ∧ CanX w .ret (pre ++ [x]) ((Wa.setCell ⟨w.heap.size, 0, none⟩ (.string (S []))).setCell ⟨w.heap.size + 1, 0, none⟩ (.int .i64 100)) := by
  have d0 : Boxed Wa w.heap.size 9 (.string (S [])) := (hba.block _ b0.lt).trans b0
  have d1 : Boxed Wa (w.heap.size + 1) 26 (.int .i64 0) := (hba.block _ b1.lt).trans b1
  obtain ⟨s0, s1⟩ := set_two d0 d1 (.string (S [])) (.int .i64 100)
  have hB := below_two (hba.mono h1.size) (Nat.le_refl w.heap.size) (.string (S [])) (.int .i64 100)
  refine ⟨⟨hB.size, fun k ob hk hob => ?_⟩, rfl, h1.trans hB, s0, s1, ?_⟩
  · have hne : k ≠ w.heap.size := by rintro rfl; rw [show W.heap[w.heap.size]? = _ from b0] at hk; cases hk; cases hob
    have hne1 : k ≠ w.heap.size + 1 := by rintro rfl; rw [show W.heap[w.heap.size + 1]? = _ from b1] at hk; cases hk; cases hob
    exact (Below.heap_setCell _ ⟨w.heap.size + 1, 0, none⟩ _ k hne1).trans ((Below.heap_setCell _ ⟨w.heap.size, 0, none⟩ _ k hne).trans ((hba.block k (Array.getElem?_eq_some_iff.1 hk).1).trans hk))
  · rw [loopC_append, hlc]
    show (stepC next out x).bind _ = _
    rw [hs]
    rfl

end Go.Proofs.YthgjpppbpgndcaaGreatDoor
