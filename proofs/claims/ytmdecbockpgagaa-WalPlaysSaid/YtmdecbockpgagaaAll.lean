import Derived.Test.YtmdecbockpgagaaFrames
import Derived.Sort.BigQuietIn
/- frame.All: the rows of all frames, and the place where none begins any more. -/
namespace Go.Proofs.Ytmdecbockpgagaa
open Go.RowKit Go.Shelf Go.Proofs.YtmdecbockpgagaaW.PrintWords Go.Proofs.YtmdecbockpgagaaW.PrintMore

attribute [local go_sem] Oper.semAt_some

/-- Two rows of different elements lie in different blocks. -/
theorem rows_apart {W : World} {b1 b2 : Nat} {e1 e2 : TypeId} {s1 s2 : Nat} {v1 v2 : Value} {n1 n2 : Nat} {x1 x2 : List Value} (h1 : W.ownsRow b1 e1 s1 v1 n1 x1) (h2 : W.ownsRow b2 e2 s2 v2 n2 x2) (hne : e1 ≠ e2) : v1.ownBlock = none ∨ v1.ownBlock ≠ v2.ownBlock := by
  rcases h1.2 with ⟨rfl, _⟩ | ⟨g, cap, cur, rfl, _, hg, _⟩
  · exact .inl rfl
  · refine .inr fun e => ?_
    rcases h2.2 with ⟨rfl, _⟩ | ⟨g2, cap2, cur2, rfl, _, hg2, _⟩
    · cases e
    · obtain rfl : g = g2 := by simpa [Value.ownBlock] using e
      rw [hg] at hg2
      cases hg2
      exact hne rfl
/-- A row's block lies at or beyond its base. -/
theorem row_ne {W : World} {b : Nat} {e : TypeId} {s : Nat} {v : Value} {n : Nat} {x : List Value} (h : W.ownsRow b e s v n x) {k : Nat} (hk : k < b) : some k ≠ v.ownBlock := fun e => by
  have := (h.lt k e.symm).1
  omega

/-- A row's block holds cells. -/
theorem row_cells {W : World} {b : Nat} {e : TypeId} {s : Nat} {v : Value} {n : Nat} {x : List Value} (h : W.ownsRow b e s v n x) {k : Nat} {o : Obj} (hk : some k = v.ownBlock) (ho : W.heap[k]? = some o) : o.isCells = true := by
  rcases h.2 with ⟨rfl, _⟩ | ⟨g, cap, cur, rfl, _, hg, _⟩
  · cases hk
  · obtain rfl : k = g := by simpa [Value.ownBlock] using hk
    rw [hg] at ho
    cases ho
    rfl
/-- What is the same where blocks outside T are. -/
theorem row_same {W Y : World} {b : Nat} {e : TypeId} {s : Nat} {v : Value} {n : Nat} {x : List Value} (h : W.ownsRow b e s v n x) (hs : ∀ k, k < W.heap.size → some k = v.ownBlock → Y.heap[k]? = W.heap[k]?) : Y.ownsRow b e s v n x := by
  refine ⟨h.1, ?_⟩
  rcases h.2 with h' | ⟨g, cap, cur, rfl, hb, hg, hr⟩
  · exact .inl h'
  · exact .inr ⟨g, cap, cur, rfl, hb, (hs g (h.lt g rfl).2 rfl).trans hg, hr⟩
/-- The world behind 'x = append(x, ..)', x boxed in B: all but B and the row's own block is as it was. -/
theorem app_same {W w1 : World} {tmp : Obj} {row : Option Nat} (hg : (W.alloc tmp).grownBy w1 row) (B : Nat) (u : Value) :
    ∀ k, k < W.heap.size → k ≠ B → some k ≠ row → (w1.setCell ⟨B, 0, none⟩ u).heap[k]? = W.heap[k]? := fun k hk hB hr =>
  (Below.heap_setCell w1 ⟨B, 0, none⟩ u k hB).trans ((hg.block k (by simp; omega) hr).trans (Below.heap_alloc W tmp k hk))
theorem app_meta {W w1 : World} {tmp : Obj} {row : Option Nat} (hg : (W.alloc tmp).grownBy w1 row) {n B : Nat} (hn : n ≤ W.heap.size) (hB : n ≤ B) (hr : ∀ k, row = some k → n ≤ k) (u : Value) : Below n W (w1.setCell ⟨B, 0, none⟩ u) :=
  (((Below.refl n W).alloc hn tmp).grown hg (by simp; omega) hr).setCell (p := ⟨B, 0, none⟩) hB u

/-- Rows of rows that are owned are read. -/
theorem RdBB.of_own {Y : World} {base : Nat} {u : Value} {us : List Value} {ls : List (List Int)} (hl : ls.length = us.length) (hm : us.length ≤ 9223372036854775807) (h : Y.ownsRow base 22 1 u us.length us) (hx : ∀ i y, us[i]? = some y → RdB Y y (ls.getD i [])) : RdBB Y u ls := by
  have h' := h
  rcases h.2 with ⟨rfl, h0⟩ | ⟨g, cap, cur, rfl, _, hg, hc, _, _, _⟩
  · have : ls = [] := List.length_eq_zero_iff.1 (hl.trans h0)
    subst this
    exact RdBB.nil Y
  · refine ⟨some ⟨g, 0, none⟩, cap, by rw [hl], by rw [hl]; omega, by rw [hl]; exact hm, fun h0 => ⟨_, rfl, fun i hi => ?_⟩⟩
    rw [hl] at hi
    exact ⟨us[i], h'.cells rfl i _ (List.getElem?_eq_getElem hi), hx i _ (List.getElem?_eq_getElem hi)⟩

/-- How many frames there are, and what is left behind them. -/
def AllN (bs : List Int) (k : Nat) : Prop := (∀ i, i < k → NextOk (restAt bs i)) ∧ ¬ NextOk (restAt bs k)
def rowsOf (bs : List Int) (k : Nat) : List (List Int) := (List.range k).map fun i => nextX (restAt bs i)
def AllP (bs : List Int) (w : World) (e : Ending) (w' : World) : Prop :=
  ∃ k v, AllN bs k ∧ e = .returned (.tuple #[v, .int .i64 ((bs.length : Int) - (restAt bs k).length)]) ∧ RdBB w' v (rowsOf bs k) ∧ Below w.heap.size w w'

/-- .. with the rows' own blocks. -/
def AllO (bs : List Int) (w : World) (e : Ending) (w' : World) : Prop :=
  ∃ k v us, AllN bs k ∧ e = .returned (.tuple #[v, .int .i64 ((bs.length : Int) - (restAt bs k).length)]) ∧ us.length = k ∧ k ≤ 9223372036854775807 ∧ w'.ownsRow w.heap.size 22 1 v us.length us ∧
    (∀ i y, us[i]? = some y → OwnB w' w.heap.size y (nextX (restAt bs i))) ∧ Below w.heap.size w w'
theorem AllO.p {bs : List Int} {w w' : World} {e : Ending} (h : AllO bs w e w') : AllP bs w e w' := by
  obtain ⟨k, v, us, h1, h2, rfl, h4, h5, h6, h7⟩ := h
  refine ⟨us.length, v, h1, h2, RdBB.of_own (us := us) (by simp [rowsOf]) h4 h5 (fun i y hy => ?_), h7⟩
  have hlt : i < us.length := (List.getElem?_eq_some_iff.1 hy).1
  have : (rowsOf bs us.length).getD i [] = nextX (restAt bs i) := by simp [rowsOf, List.getD_eq_getElem?_getD, hlt]
  rw [this]
  exact (h6 i y hy).rd
theorem restAt_sum {bs : List Int} {k : Nat} (h : ∀ i, i < k → NextOk (restAt bs i)) : 8 * k + (restAt bs k).length ≤ bs.length := by
  induction k with
  | zero => exact Nat.le_of_eq (by simp [restAt])
  | succ k ih =>
    have h1 := ih (fun i hi => h i (by omega))
    have h2 := restAt_len (h k (by omega))
    omega

/-- What lies between two rounds of All's. -/
def AllI (bs : List Int) (v : Value) (w : World) (pre : List FEl) (W : World) : Prop :=
  (Below w.heap.size w W ∧ w.heap.size + 4 ≤ W.heap.size) ∧ (∀ i, i < pre.length → NextOk (restAt bs i)) ∧
  Boxed W w.heap.size 22 v ∧ Boxed W (w.heap.size + 1 + 1) 3 (.int .i64 ((bs.length : Int) - (restAt bs pre.length).length)) ∧
  (∃ u, Boxed W (w.heap.size + 1) 102 u ∧ W.ownsRow (w.heap.size + 4) 22 1 u pre.length (pre.map (·.1))) ∧
  (∀ (i : Nat) (x : FEl), pre[i]? = some x → OwnB W (w.heap.size + 4) x.1 (nextX (restAt bs i)))

theorem AllI.turn {bs : List Int} {v : Value} {w X Y : World} {pre : List FEl} {B : Nat} (h : AllI bs v w pre X) (hB : w.heap.size ≤ B) (t : Turn B (· = w.heap.size + 1 + 1 + 1) X Y) : AllI bs v w pre Y := by
  obtain ⟨h1, h2, h3, h4, ⟨u, h5, h6⟩, h7⟩ := h
  exact ⟨⟨t.below h1.1 (Nat.le_refl _) hB (fun k e => by omega), Nat.le_trans h1.2 t.size⟩, h2, t.boxed h3 (by omega), t.boxed h4 (by omega), ⟨u, t.boxed h5 (by omega), t.row h6 (fun k hk e => by omega)⟩, fun i x hi => t.row (h7 i x hi) (fun k hk e => by omega)⟩

theorem info22 : (Try.prog.info? 22).map (fun i => (i.zero, i.size, i.bytes)) = some (some (.slice none 0 0), 1, 24) := by kernel_rfl

set_option maxRecDepth 100000 in
set_option maxHeartbeats 2000000 in
theorem frame_all_in (n : Nat) (hn : 1 ≤ n) (A : Option Addr) (c : Nat) (bs : List Int) (w : World) (hr : RdB w (.slice A bs.length c) bs) (hby : By bs) (hlen : bs.length ≤ 1000000000000) :
    CallsIn Fence.wide n Try.prog 71 #[.slice A bs.length c] w (AllO bs w) := by
  obtain ⟨i0, hi, hz0, hz1, hz2⟩ := info_parts info22
  refine callsIn_of_wp_marks Try.func71 rfl trivial ?_ rfl
  simp only [Try.ntmps71, List.size_toArray, List.length_cons, List.length_nil, Nat.reduceAdd, Nat.reduceSub, Array.replicate_succ, Array.replicate_zero, List.push_toArray, List.append_toArray, List.nil_append, List.cons_append]
  gi_wp2_with fail
  refine ⟨trivial, (frames_in (n - 1) A bs.length c _).mono ?_⟩
  rintro e w' ⟨rfl, rfl⟩
  have b0 := Boxed.new w 22 (.slice A bs.length c)
  have b1 := Boxed.new (w.alloc (.cells #[.slice A bs.length c] 22)) 102 (.slice none 0 0)
  have b2 := Boxed.new ((w.alloc (.cells #[.slice A bs.length c] 22)).alloc (.cells #[.slice none 0 0] 102)) 3 (.int .i64 0)
  have b3 := Boxed.new (((w.alloc (.cells #[.slice A bs.length c] 22)).alloc (.cells #[.slice none 0 0] 102)).alloc (.cells #[.int .i64 0] 3)) 22 (.slice A bs.length c)
  simp only [World.size_alloc] at b1 b2 b3
  have hB0 : Below w.heap.size w ((((w.alloc (.cells #[.slice A bs.length c] 22)).alloc (.cells #[.slice none 0 0] 102)).alloc (.cells #[.int .i64 0] 3)).alloc (.cells #[.slice A bs.length c] 22)) := ((((Below.refl _ w).alloc (Nat.le_refl _) _).alloc (by simp) _).alloc (by simp; omega) _).alloc (by simp; omega) _
  have hI0 : AllI bs (.slice A bs.length c) w [] ((((w.alloc (.cells #[.slice A bs.length c] 22)).alloc (.cells #[.slice none 0 0] 102)).alloc (.cells #[.int .i64 0] 3)).alloc (.cells #[.slice A bs.length c] 22)) :=
    ⟨⟨hB0, by simp⟩, fun i h => absurd h (by simp), ((b0.alloc _).alloc _).alloc _, by rw [show ((bs.length : Int) - (restAt bs ([] : List FEl).length).length) = 0 from by simp [restAt]]; exact b2.alloc _, ⟨_, (b1.alloc _).alloc _, World.ownsRow_nil _ _ _ _⟩, fun i x h => by simp at h⟩
  have hsz : ((((w.alloc (.cells #[.slice A bs.length c] 22)).alloc (.cells #[.slice none 0 0] 102)).alloc (.cells #[.int .i64 0] 3)).alloc (.cells #[.slice A bs.length c] 22)).heap.size = w.heap.size + 4 := by simp
  generalize ((((w.alloc (.cells #[.slice A bs.length c] 22)).alloc (.cells #[.slice none 0 0] 102)).alloc (.cells #[.int .i64 0] 3)).alloc (.cells #[.slice A bs.length c] 22)) = W0 at b3 hB0 hI0 hsz ⊢
  clear b0 b1 b2
  simp only [World.size_alloc]
  gi_wp2_with fail
  refine wpIn_rangeT (gf := 89) (lb := #[.pointer (some ⟨w.heap.size + 1 + 1 + 1, 0, none⟩)]) rfl (enters_of Try.func89 (by kernel_rfl) rfl)
    (frames_seq (n - 1) (w.heap.size + 1 + 1 + 1) w.heap.size w W0 (.slice A bs.length c) bs rfl hr hby (by omega) hB0 b3)
    (fun h k => ⟨h.1.trans k.1, k.2.trans h.2⟩) (fun W => ⟨Below.refl _ W, rfl⟩)
    (fun W l o o' hl ho hc => ⟨(Below.refl _ W).grown (grownBy_putObj' W l o') (by have := (Array.getElem?_eq_some_iff.1 ho).1; omega) (fun k e => by cases e; omega), World.putObj_heap_other (by omega)⟩)
    (Below.refl _ _) (fun _ => rfl) (fun k e => by omega)
    (fun s x X Y h t => ⟨h.1, t.row h.2.1 (fun k hk e => by omega), h.2.2⟩)
    (AllI bs (.slice A bs.length c) w) (fun _ _ _ => False)
    (fun s X Y h t => h.turn (by omega) t) (fun _ _ _ _ h _ => h) hI0
    (fun x => { tmps := #[.slice A bs.length c, .pointer (some ⟨w.heap.size, 0, none⟩), .slice none 0 0, .int .i64 0, .pointer (some ⟨w.heap.size + 1, 0, none⟩), .pointer (some ⟨w.heap.size + 1 + 1, 0, none⟩), x.1, x.2, .slice A bs.length c, .func (.func 89) #[] #[.pointer (some ⟨w.heap.size + 1 + 1 + 1, 0, none⟩)], x.1, x.2, undef, undef, undef, undef, undef, undef, undef, undef, undef, undef, undef], defers := [] }) ?assign ?body ?done ?stop
  case assign =>
    intro l x W K hK
    gi_wp2
    exact hK
  case body =>
    rintro l pre x W ⟨h1, h2, h3, h4, ⟨u, h5, h6⟩, h7⟩ ⟨g1, g2, Ar, cr, g3⟩
    obtain ⟨x1, x2⟩ := x
    dsimp only at g2 g3 ⊢
    subst g3
    have c3 := h3.cell
    have c5 := h5.cell
    obtain ⟨Ax, cx, rfl, -, -⟩ := g2.rd
    have hpl : 8 * pre.length + (restAt bs pre.length).length ≤ bs.length := restAt_sum h2
    have hpl2 := restAt_len g1
    have hwt : w.heap.size + 4 ≤ W.heap.size := h1.2
    gi_wp2_with (gi_at_builtin; refine wpListIn_append_own _ rfl _ _ 102 rfl (w.heap.size + 4) 22 i0 (.slice none 0 0) 1 24 Try.underlying102 hi hz0 hz1 hz2 rfl (by decide) _ _ _ rfl (h6.alloc _) ⟨W.heap.size, 0, none⟩ 1 1 [.slice Ax (nextX (restAt bs pre.length)).length cx] rfl rfl (cell_one_new _ _ _) (by simp [Value.oneCell']) (by have : maxLen = 9223372036854775807 := rfl; omega) (by omega) (by simp; omega) ?_; intro v' w1 hown' hgrow _; obtain ⟨g', cap', rfl⟩ := ownsRow_succ hown'; have hsm := app_same hgrow (w.heap.size + 1) (.slice (some ⟨g', 0, none⟩) (pre.length + 1) cap'); have hc1 : w1.cell? ⟨w.heap.size + 1, 0, none⟩ = some u := Boxed.cell ((h5.alloc _).kept hgrow (row_ne h6 (by omega))); have hf1 : w1.frozen? ⟨w.heap.size + 1, 0, none⟩ = false := Boxed.frozen ((h5.alloc _).kept hgrow (row_ne h6 (by omega))); have hc0 : (w1.setCell ⟨w.heap.size + 1, 0, none⟩ (.slice (some ⟨g', 0, none⟩) (pre.length + 1) cap')).cell? ⟨w.heap.size, 0, none⟩ = some (.slice A bs.length c) := Boxed.cell ((hsm _ (by omega) (by omega) (row_ne h6 (by omega))).trans h3); have hb4 : Boxed (w1.setCell ⟨w.heap.size + 1, 0, none⟩ (.slice (some ⟨g', 0, none⟩) (pre.length + 1) cap')) (w.heap.size + 1 + 1) _ _ := (hsm _ (by omega) (by omega) (row_ne h6 (by omega))).trans h4; have hc4 := hb4.cell; have hf4 := hb4.frozen)
    have hszw : W.heap.size + 1 ≤ w1.heap.size := by have := hgrow.size; simpa using this
    have hxx : ∀ (Y : World) (base : Nat) (xs : List Int) (y : Value), OwnB W base y xs → w.heap.size + 4 ≤ base → (∀ k, k < W.heap.size → k ≠ w.heap.size + 1 → k ≠ w.heap.size + 1 + 1 → some k ≠ u.ownBlock → Y.heap[k]? = W.heap[k]?) → OwnB Y (w.heap.size + 4) y xs := fun Y base xs y ho hb hs => by
      refine OwnB.lower (w := Y) (v := y) (xs := xs) (row_same ho (fun k hk hky => ?_)) hb
      have hkb := (ho.lt k hky.symm).1
      refine hs k hk (by omega) (by omega) (fun e => ?_)
      rcases rows_apart ho h6 (by decide) with h | h
      · rw [h] at hky; cases hky
      · exact h (hky.symm.trans e)
    have sm3 : ∀ k, k < W.heap.size → k ≠ w.heap.size + 1 → k ≠ w.heap.size + 1 + 1 → some k ≠ u.ownBlock → ((w1.setCell ⟨w.heap.size + 1, 0, none⟩ (.slice (some ⟨g', 0, none⟩) (pre.length + 1) cap')).setCell ⟨w.heap.size + 1 + 1, 0, none⟩ (.int .i64 ((bs.length : Int) - (restAt bs (pre.length + 1)).length))).heap[k]? = W.heap[k]? := fun k hk h1 h2 h3 =>
      (Below.heap_setCell _ ⟨w.heap.size + 1 + 1, 0, none⟩ _ k h2).trans (hsm k hk h1 h3)
    have hBW : Below w.heap.size W ((w1.setCell ⟨w.heap.size + 1, 0, none⟩ (.slice (some ⟨g', 0, none⟩) (pre.length + 1) cap')).setCell ⟨w.heap.size + 1 + 1, 0, none⟩ (.int .i64 ((bs.length : Int) - (restAt bs (pre.length + 1)).length))) :=
      (app_meta hgrow (by omega) (by omega) (fun k e => by have := (h6.lt k e).1; omega) _).setCell (p := ⟨w.heap.size + 1 + 1, 0, none⟩) (by simp; omega) _
    have hln : ∀ y : FEl, (pre ++ [y]).length = pre.length + 1 := fun y => by simp
    have hb1 : Boxed w1 (w.heap.size + 1) 102 u := (h5.alloc _).kept hgrow (row_ne h6 (by omega))
    refine ⟨⟨hBW.size, fun k o hk ho => ?_⟩, ⟨hBW, sm3 _ (by omega) (by omega) (by omega) (row_ne h6 (by omega))⟩, ⟨h1.1.trans hBW, Nat.le_trans hwt hBW.size⟩, ?_, ?_, ?_, ?_, ?_⟩
    · refine (sm3 k (Array.getElem?_eq_some_iff.1 hk).1 ?_ ?_ ?_).trans hk
      · rintro rfl; rw [show W.heap[w.heap.size + 1]? = _ from h5] at hk; cases hk; cases ho
      · rintro rfl; rw [show W.heap[w.heap.size + 1 + 1]? = _ from h4] at hk; cases hk; cases ho
      · intro e; rw [row_cells h6 e hk] at ho; cases ho
    · intro i hi
      rw [hln] at hi
      rcases Nat.lt_succ_iff_lt_or_eq.1 hi with h | rfl
      · exact h2 i h
      · exact g1
    · exact (sm3 _ (by omega) (by omega) (by omega) (row_ne h6 (by omega))).trans h3
    · rw [hln]
      exact hb4.set _
    · refine ⟨.slice (some ⟨g', 0, none⟩) (pre.length + 1) cap', (Below.heap_setCell _ ⟨w.heap.size + 1 + 1, 0, none⟩ _ _ (by simp)).trans (hb1.set _), ?_⟩
      rw [hln, List.map_append]
      have hlt := hown'.lt g' rfl
      refine row_same hown' (fun k hk hky => ?_)
      obtain rfl : k = g' := by simpa [Value.ownBlock] using hky
      exact (Below.heap_setCell _ ⟨w.heap.size + 1 + 1, 0, none⟩ _ k (by simp; omega)).trans (Below.heap_setCell _ ⟨w.heap.size + 1, 0, none⟩ _ k (by simp; omega))
    · intro i x hi'
      rcases Nat.lt_or_ge i pre.length with h | h
      · rw [List.getElem?_append_left h] at hi'
        exact hxx _ _ _ _ (h7 i x hi') (Nat.le_refl _) sm3
      · rw [List.getElem?_append_right h] at hi'
        have hi0 : i = pre.length := by
          rcases Nat.lt_or_ge (i - pre.length) 1 with h' | h'
          · omega
          · rw [List.getElem?_eq_none (by simpa using h')] at hi'; cases hi'
        subst hi0
        simp only [Nat.sub_self, List.getElem?_cons_zero, Option.some.injEq] at hi'
        subst hi'
        exact hxx _ _ _ _ g2 (by omega) sm3
  case done =>
    rintro D xs W hD hall ⟨h1, h2, h3, h4, ⟨u, h5, h6⟩, h7⟩ hK
    have c4 := h4.cell
    have c5 := h5.cell
    gi_wp2
    gi_big_quiet_th (fail)
    have hK' : (W.drewN nq).heap[D]? = some (.deferred (some [])) := hK
    gi_wp2
    refine ⟨by simp, .inl ⟨_, _, rfl, run_takeDeferred hK', ?_⟩⟩
    have hne : ∀ {b : Nat} {e : TypeId} {s : Nat} {v : Value} {m : Nat} {x : List Value}, W.ownsRow b e s v m x → ((W.drewN nq).putObj D (.deferred none)).ownsRow b e s v m x := fun {_ _ _ _ _ _} h =>
      row_same h (fun k _ hky => World.putObj_heap_other (w := W.drewN nq) (fun e => by rw [e] at hky; have := row_cells h hky hK; cases this))
    have hps := restAt_sum h2
    refine ⟨_, results_tmp2 rfl _ _ _, xs.length, u, xs.map (·.1), hall, rfl, by simp, by omega, own_weaken (by simpa using hne h6) (by omega), fun i y hy => ?_, h1.1.trans (pw_below_drewN (Below.refl _ _) nq |>.trans (belowK_b (w := w) (Nat.le_refl _) (W.drewN nq) D _ _ (by omega) hK' rfl rfl))⟩
    rw [List.getElem?_map] at hy
    cases hxi : xs[i]? with
    | none => rw [hxi] at hy; cases hy
    | some x =>
      rw [hxi] at hy
      cases hy
      exact OwnB.lower (hne (h7 i x hxi)) (by omega)
  case stop =>
    rintro D c pre W _ _ h _
    exact h.elim

theorem frame_allO (v : Value) (bs : List Int) (w : World) (hr : RdB w v bs) (hby : By bs) (hlen : bs.length ≤ 1000000000000) :
    Calls Try.prog 71 #[v] w (AllO bs w) := by
  have hr' := hr
  obtain ⟨A, c, rfl, -, -⟩ := hr
  exact callsIn_wide.1 (frame_all_in 1 (Nat.le_refl _) A c bs w hr' hby hlen)
theorem frame_all (v : Value) (bs : List Int) (w : World) (hr : RdB w v bs) (hby : By bs) (hlen : bs.length ≤ 1000000000000) :
    Calls Try.prog 71 #[v] w (AllP bs w) := (frame_allO v bs w hr hby hlen).mono fun _ _ h => h.p
end Go.Proofs.Ytmdecbockpgagaa
