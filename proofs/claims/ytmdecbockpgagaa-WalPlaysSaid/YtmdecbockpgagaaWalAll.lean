import Derived.Test.YtmdecbockpgagaaWalGroups
/- package wal: Groups. -/
namespace Go.Proofs.Ytmdecbockpgagaa
open Go.RowKit Go.Shelf Go.Proofs.YtmdecbockpgagaaW.PrintWords Go.Proofs.YtmdecbockpgagaaW.PrintMore

attribute [local go_sem] Oper.semAt_some

/-- THE ITERATOR's CONTRACT. -/
theorem groups_seq (n Bn : Nat) (hn : 1 ≤ n) (w₀ w : World) (v : Value) (bs : List Int) (hr : RdB w₀ v bs) (hby : By bs) (hlen : bs.length ≤ 1000000000) (hW : Below w₀.heap.size w₀ w) (hbox : Boxed w Bn 22 v) :
    SeqT n Try.prog 70 #[.pointer (some ⟨Bn, 0, none⟩)] (fun x : GEl => #[x.1, .int .i64 (x.2 : Int)]) (GG bs w.heap.size) (fun _ => False) Kg
      (fun ys => ys.length = (gB bs).length) (fun _ => True) w := fun l J Jx W hb hJ _ hY h0 =>
  groups1_in n l Bn w.heap.size W.heap.size hn w₀ v bs hr hby hlen J Jx hJ hY W (hW.trans (hb.mono hW.size)) hb.size ((hb.block Bn hbox.lt).trans hbox) h0
/-- An own row of groups. -/
def OwnG (w : World) (base : Nat) (v : Value) (gs : List (List Rc)) : Prop := ∃ us : List Value, us.length = gs.length ∧ w.ownsRow base 32 1 v us.length us ∧ ∀ (i : Nat) (y : Value) (g : List Rc), us[i]? = some y → gs[i]? = some g → OwnR w base y g
def GrpP (bs : List Int) (w : World) (e : Ending) (w' : World) : Prop :=
  ∃ v, e = .returned (.tuple #[v, .int .i64 (endOf bs : Int)]) ∧ OwnG w' w.heap.size v (gsOf bs) ∧ Below w.heap.size w w'
def lastOf (pre : List GEl) : Nat := (pre.getLast?.map (·.2)).getD 0
theorem lastOf_snoc (pre : List GEl) (x : GEl) : lastOf (pre ++ [x]) = x.2 := by simp [lastOf]
/-- What lies between two rounds of Groups'. -/
def AG (bs : List Int) (w : World) (pre : List GEl) (W : World) : Prop :=
  (Below w.heap.size w W ∧ w.heap.size + 3 ≤ W.heap.size) ∧ Boxed W (w.heap.size + 1) 3 (.int .i64 (lastOf pre : Int)) ∧
  (∃ u, Boxed W w.heap.size 27 u ∧ W.ownsRow (w.heap.size + 3) 32 1 u pre.length (pre.map (·.1))) ∧
  (∀ (i : Nat) (x : GEl), pre[i]? = some x → ∃ g, (gB bs)[i]? = some (g, x.2) ∧ OwnR W (w.heap.size + 3) x.1 g)
theorem AG.turn {bs : List Int} {w X Y : World} {pre : List GEl} {B : Nat} (h : AG bs w pre X) (hB : w.heap.size ≤ B) (t : Turn B (fun _ => False) X Y) : AG bs w pre Y := by
  obtain ⟨h1, h4, ⟨u, h5, h6⟩, h7⟩ := h
  exact ⟨⟨t.below h1.1 (Nat.le_refl _) hB (fun k e => e.elim), Nat.le_trans h1.2 t.size⟩, t.boxed h4 (fun e => e), ⟨u, t.boxed h5 (fun e => e), t.row h6 (fun k hk e => e)⟩, fun i x hi => by
    obtain ⟨g, hg, ho⟩ := h7 i x hi
    exact ⟨g, hg, t.row ho (fun k hk e => e)⟩⟩
theorem infoRs : (Try.prog.info? 32).map (fun i => (i.zero, i.size, i.bytes)) = some (some (.slice none 0 0), 1, 24) := by kernel_rfl
theorem wal_groups_in (n : Nat) (A : Option Addr) (k c : Nat) (w : World) :
    CallsIn Fence.wide n Try.prog 48 #[.slice A k c] w fun e w' => e = .returned (.func (.func 70) #[] #[.pointer (some ⟨w.heap.size, 0, none⟩)]) ∧ w' = w.alloc (.cells #[.slice A k c] 22) := by
  refine callsIn_of_wp Try.func48 rfl trivial ?_ rfl
  simp only [Try.ntmps48, List.size_toArray, List.length_cons, List.length_nil, Nat.reduceAdd, Nat.reduceSub, Array.replicate_succ, Array.replicate_zero, List.push_toArray, List.append_toArray, List.nil_append, List.cons_append]
  gi_wp2
  go_ret
  exact ⟨rfl, rfl⟩
theorem gB_many (bs : List Int) : (gB bs).length ≤ bs.length := by
  have h1 : ∀ (xs : List (List Int)) (now : List Rc) (a : Nat), (groupsF xs now a).length ≤ xs.length := by
    intro xs
    induction xs with
    | nil => intro now a; exact Nat.le_refl _
    | cons x xs ih =>
      intro now a
      unfold groupsF
      cases recOf x with
      | some r => simp only; exact Nat.le_trans (ih _ _) (Nat.le_succ _)
      | none =>
        simp only
        split
        · rw [List.length_cons, List.length_cons]; exact Nat.succ_le_succ (ih _ _)
        · simp
  have h2 : ∀ (n : Nat) (bs : List Int), (allF n bs).length ≤ bs.length := by
    intro n
    induction n with
    | zero => intro bs; simp [allF]
    | succ n ih =>
      intro bs
      unfold allF
      by_cases h : NextOk bs
      · rw [if_pos h, List.length_cons]
        have := ih (nextR bs)
        have := nextR_len h
        omega
      · rw [if_neg h]; simp
  exact Nat.le_trans (h1 _ _ _) (h2 _ _)
set_option maxRecDepth 100000 in
set_option maxHeartbeats 4000000 in
theorem groups_in (n : Nat) (hn : 2 ≤ n) (A : Option Addr) (c : Nat) (bs : List Int) (w : World) (hr : RdB w (.slice A bs.length c) bs) (hby : By bs) (hlen : bs.length ≤ 1000000000) :
    CallsIn Fence.wide n Try.prog 24 #[.slice A bs.length c] w (GrpP bs w) := by
  obtain ⟨i0, hi, hz0, hz1, hz2⟩ := info_parts infoRs
  have hn1 : 1 ≤ n := by omega
  refine callsIn_of_wp_marks Try.func24 rfl trivial ?_ rfl
  simp only [Try.ntmps24, List.size_toArray, List.length_cons, List.length_nil, Nat.reduceAdd, Nat.reduceSub, Array.replicate_succ, Array.replicate_zero, List.push_toArray, List.append_toArray, List.nil_append, List.cons_append]
  gi_wp2_with fail
  refine ⟨trivial, (wal_groups_in (n - 1) A bs.length c _).mono ?_⟩
  rintro e w' ⟨rfl, rfl⟩
  have b0 := Boxed.new w 27 (.slice none 0 0)
  have b1 := Boxed.new (w.alloc (.cells #[.slice none 0 0] 27)) 3 (.int .i64 0)
  have b2 := Boxed.new ((w.alloc (.cells #[.slice none 0 0] 27)).alloc (.cells #[.int .i64 0] 3)) 22 (.slice A bs.length c)
  simp only [World.size_alloc] at b1 b2
  have hB0 : Below w.heap.size w (((w.alloc (.cells #[.slice none 0 0] 27)).alloc (.cells #[.int .i64 0] 3)).alloc (.cells #[.slice A bs.length c] 22)) := (((Below.refl _ w).alloc (Nat.le_refl _) _).alloc (by simp) _).alloc (by simp; omega) _
  have hI0 : AG bs w [] (((w.alloc (.cells #[.slice none 0 0] 27)).alloc (.cells #[.int .i64 0] 3)).alloc (.cells #[.slice A bs.length c] 22)) :=
    ⟨⟨hB0, by simp⟩, b1.alloc _, ⟨_, (b0.alloc _).alloc _, World.ownsRow_nil _ _ _ _⟩, fun i x h => by simp at h⟩
  have hsz : (((w.alloc (.cells #[.slice none 0 0] 27)).alloc (.cells #[.int .i64 0] 3)).alloc (.cells #[.slice A bs.length c] 22)).heap.size = w.heap.size + 3 := by simp
  generalize (((w.alloc (.cells #[.slice none 0 0] 27)).alloc (.cells #[.int .i64 0] 3)).alloc (.cells #[.slice A bs.length c] 22)) = W0 at b2 hB0 hI0 hsz ⊢
  clear b0 b1
  simp only [World.size_alloc]
  gi_wp2_with fail
  refine wpIn_rangeT (gf := 70) (lb := #[.pointer (some ⟨w.heap.size + 1 + 1, 0, none⟩)]) rfl (enters_of Try.func70 (by kernel_rfl) rfl)
    (groups_seq (n - 1) (w.heap.size + 1 + 1) (by omega) w W0 (.slice A bs.length c) bs hr hby hlen hB0 b2)
    (fun h k => h.trans k) (fun W => Kg.refl W)
    (fun W l o o' hl ho hc => ⟨by simp, fun k cs t fz hk _ => (World.putObj_heap_other (fun e => by rw [e, ho] at hk; injection hk with hk; rw [hk] at hc; cases hc)).trans hk⟩)
    (Below.refl _ _) (fun _ => rfl) (fun k e => e.elim)
    (fun s x X Y h t => by obtain ⟨g, h1, h2⟩ := h; exact ⟨g, h1, t.row h2 (fun k hk e => e)⟩)
    (AG bs w) (fun _ _ _ => False)
    (fun s X Y h t => h.turn (by omega) t) (fun _ _ _ _ h _ => h) hI0
    (fun x => { tmps := #[.slice A bs.length c, undef, .slice none 0 0, .int .i64 0, .pointer (some ⟨w.heap.size, 0, none⟩), .pointer (some ⟨w.heap.size + 1, 0, none⟩), x.1, .int .i64 (x.2 : Int), .slice A bs.length c, .func (.func 70) #[] #[.pointer (some ⟨w.heap.size + 1 + 1, 0, none⟩)], x.1, .int .i64 (x.2 : Int), undef, undef, undef, undef, undef, undef, undef], defers := [] }) ?assign ?body ?done ?stop
  case assign =>
    intro l x W K hK
    gi_wp2
    exact hK
  case body =>
    rintro l pre x W ⟨h1, h4, ⟨u, h5, h6⟩, h7⟩ ⟨gg, hgg, hog⟩
    obtain ⟨x1, x2⟩ := x
    dsimp only at hgg hog ⊢
    have c5 := h5.cell
    obtain ⟨Ax, cx, rfl⟩ := hog.sl
    have hwt : w.heap.size + 3 ≤ W.heap.size := h1.2
    have hpl : pre.length < (gB bs).length := (List.getElem?_eq_some_iff.1 hgg).1
    have hgm := gB_many bs
    have h2 := hsz
    gi_wp2_with (gi_at_builtin; refine wpListIn_append_own _ rfl _ _ 27 rfl (w.heap.size + 3) 32 i0 (.slice none 0 0) 1 24 Try.underlying27 hi hz0 hz1 hz2 rfl (by decide) _ _ _ rfl (h6.alloc _) ⟨W.heap.size, 0, none⟩ 1 1 [.slice Ax gg.length cx] rfl rfl (cell_one_new _ _ _) (by simp [Value.oneCell']) (by have : maxLen = 9223372036854775807 := rfl; omega) (by omega) (by simp; omega) ?_; intro v' w1 hown' hgrow _; obtain ⟨g', cap', rfl⟩ := ownsRow_succ hown'; have hsm := app_same hgrow w.heap.size (.slice (some ⟨g', 0, none⟩) (pre.length + 1) cap'); have hc1 : w1.cell? ⟨w.heap.size, 0, none⟩ = some u := Boxed.cell ((h5.alloc _).kept hgrow (row_ne h6 (by omega))); have hf1 : w1.frozen? ⟨w.heap.size, 0, none⟩ = false := Boxed.frozen ((h5.alloc _).kept hgrow (row_ne h6 (by omega))); have hb4 : Boxed (w1.setCell ⟨w.heap.size, 0, none⟩ (.slice (some ⟨g', 0, none⟩) (pre.length + 1) cap')) (w.heap.size + 1) _ _ := (hsm _ (by omega) (by omega) (row_ne h6 (by omega))).trans h4; have hc4 := hb4.cell; have hf4 := hb4.frozen)
    have hszw : W.heap.size + 1 ≤ w1.heap.size := by have := hgrow.size; simpa using this
    have sm3 : ∀ k, k < W.heap.size → k ≠ w.heap.size → k ≠ w.heap.size + 1 → some k ≠ u.ownBlock → ((w1.setCell ⟨w.heap.size, 0, none⟩ (.slice (some ⟨g', 0, none⟩) (pre.length + 1) cap')).setCell ⟨w.heap.size + 1, 0, none⟩ (.int .i64 (x2 : Int))).heap[k]? = W.heap[k]? := fun k hk h1 h2 h3 =>
      (Below.heap_setCell _ ⟨w.heap.size + 1, 0, none⟩ _ k h2).trans (hsm k hk h1 h3)
    have hBW : Below w.heap.size W ((w1.setCell ⟨w.heap.size, 0, none⟩ (.slice (some ⟨g', 0, none⟩) (pre.length + 1) cap')).setCell ⟨w.heap.size + 1, 0, none⟩ (.int .i64 (x2 : Int))) :=
      (app_meta hgrow (by omega) (Nat.le_refl _) (fun k e => by have := (h6.lt k e).1; omega) _).setCell (p := ⟨w.heap.size + 1, 0, none⟩) (by simp) _
    have hln : ∀ y : GEl, (pre ++ [y]).length = pre.length + 1 := fun y => by simp
    have hb1 : Boxed w1 w.heap.size 27 u := (h5.alloc _).kept hgrow (row_ne h6 (by omega))
    have hxx : ∀ (base : Nat) (xs : List Rc) (y : Value), OwnR W base y xs → w.heap.size + 3 ≤ base → OwnR ((w1.setCell ⟨w.heap.size, 0, none⟩ (.slice (some ⟨g', 0, none⟩) (pre.length + 1) cap')).setCell ⟨w.heap.size + 1, 0, none⟩ (.int .i64 (x2 : Int))) (w.heap.size + 3) y xs := fun base xs y ho hb => by
      refine own_weaken (row_same ho (fun k hk hky => ?_)) hb
      have hkb := (ho.lt k hky.symm).1
      refine sm3 k hk (by omega) (by omega) (fun e => ?_)
      rcases rows_apart ho h6 (by decide) with h | h
      · rw [h] at hky; cases hky
      · exact h (hky.symm.trans e)
    refine ⟨⟨hBW.size, fun k o hk ho => ?_⟩, ⟨hBW.size, fun k cs t fz hk ht => ?_⟩, ⟨h1.1.trans hBW, Nat.le_trans hwt hBW.size⟩, ?_, ?_, ?_⟩
    · refine (sm3 k (Array.getElem?_eq_some_iff.1 hk).1 ?_ ?_ ?_).trans hk
      · rintro rfl; rw [show W.heap[w.heap.size]? = _ from h5] at hk; cases hk; cases ho
      · rintro rfl; rw [show W.heap[w.heap.size + 1]? = _ from h4] at hk; cases hk; cases ho
      · intro e; rw [row_cells h6 e hk] at ho; cases ho
    · refine (sm3 k (Array.getElem?_eq_some_iff.1 hk).1 ?_ ?_ ?_).trans hk
      · rintro rfl; rw [show W.heap[w.heap.size]? = _ from h5] at hk; injection hk with hk; injection hk with _ hk; rw [← hk] at ht; exact absurd ht (by decide)
      · rintro rfl; rw [show W.heap[w.heap.size + 1]? = _ from h4] at hk; injection hk with hk; injection hk with _ hk; rw [← hk] at ht; exact absurd ht (by decide)
      · intro e
        rcases h6.2 with ⟨rfl, _⟩ | ⟨gz, capz, curz, rfl, _, hgz, _⟩
        · cases e
        · injection e with e
          subst e
          rw [hgz] at hk; injection hk with hk; injection hk with _ hk; rw [← hk] at ht; exact absurd ht (by decide)
    · rw [lastOf_snoc]
      exact hb4.set _
    · refine ⟨.slice (some ⟨g', 0, none⟩) (pre.length + 1) cap', (Below.heap_setCell _ ⟨w.heap.size + 1, 0, none⟩ _ _ (by simp)).trans (hb1.set _), ?_⟩
      rw [hln, List.map_append]
      have hlt := hown'.lt g' rfl
      refine row_same hown' (fun k hk hky => ?_)
      obtain rfl : k = g' := by simpa [Value.ownBlock] using hky
      exact (Below.heap_setCell _ ⟨w.heap.size + 1, 0, none⟩ _ k (by simp; omega)).trans (Below.heap_setCell _ ⟨w.heap.size, 0, none⟩ _ k (by simp; omega))
    · intro i x hi'
      rcases Nat.lt_or_ge i pre.length with h | h
      · rw [List.getElem?_append_left h] at hi'
        obtain ⟨g, hg1, hg2⟩ := h7 i x hi'
        exact ⟨g, hg1, hxx _ _ _ hg2 (Nat.le_refl _)⟩
      · rw [List.getElem?_append_right h] at hi'
        have hi0 : i = pre.length := by
          rcases Nat.lt_or_ge (i - pre.length) 1 with h' | h'
          · omega
          · rw [List.getElem?_eq_none (by simpa using h')] at hi'; cases hi'
        subst hi0
        simp only [Nat.sub_self, List.getElem?_cons_zero, Option.some.injEq] at hi'
        subst hi'
        exact ⟨gg, hgg, hxx _ _ _ hog (by omega)⟩
  case done =>
    rintro D xs W hD hall ⟨h1, h4, ⟨u, h5, h6⟩, h7⟩ hK
    have c4 := h4.cell
    have c5 := h5.cell
    gi_wp2
    gi_big_quiet_th (fail)
    have hK' : (W.drewN nq).heap[D]? = some (.deferred (some [])) := hK
    gi_wp2
    refine ⟨by simp, .inl ⟨_, _, rfl, run_takeDeferred hK', ?_⟩⟩
    have hne : ∀ {b : Nat} {e : TypeId} {s : Nat} {v : Value} {m : Nat} {x : List Value}, W.ownsRow b e s v m x → ((W.drewN nq).putObj D (.deferred none)).ownsRow b e s v m x := fun {_ _ _ _ _ _} h =>
      row_same h (fun k _ hky => World.putObj_heap_other (w := W.drewN nq) (fun e => by rw [e] at hky; have := row_cells h hky hK; cases this))
    have hlast : lastOf xs = endOf bs := by
      unfold lastOf endOf
      have : xs.map (·.2) = (gB bs).map (·.2) := by
        apply List.ext_getElem?
        intro i
        rw [List.getElem?_map, List.getElem?_map]
        cases hx : xs[i]? with
        | none =>
          have : (gB bs)[i]? = none := by rw [List.getElem?_eq_none_iff] at hx ⊢; omega
          rw [this]; rfl
        | some x =>
          obtain ⟨g, hg, -⟩ := h7 i x hx
          rw [hg]; rfl
      have e1 : xs.getLast?.map (fun p : GEl => p.2) = (xs.map (fun p : GEl => p.2)).getLast? := by rw [List.getLast?_map]
      have e2 : (gB bs).getLast?.map (fun p : List Rc × Nat => p.2) = ((gB bs).map (fun p : List Rc × Nat => p.2)).getLast? := by rw [List.getLast?_map]
      rw [e1, e2, this]
    refine ⟨_, results_tmp2 rfl _ _ _, u, by rw [← hlast]; rfl, ⟨xs.map (·.1), by rw [List.length_map]; unfold gsOf; rw [List.length_map]; exact hall, own_weaken (by simpa using hne h6) (by omega), fun i y g hy hg => ?_⟩, h1.1.trans (pw_below_drewN (Below.refl _ _) nq |>.trans (belowK_b (w := w) (Nat.le_refl _) (W.drewN nq) D _ _ (by omega) hK' rfl rfl))⟩
    rw [List.getElem?_map] at hy
    cases hxi : xs[i]? with
    | none => rw [hxi] at hy; cases hy
    | some x =>
      rw [hxi] at hy
      cases hy
      obtain ⟨g2, hg2, ho⟩ := h7 i x hxi
      unfold gsOf at hg
      rw [List.getElem?_map, hg2] at hg
      cases hg
      exact own_weaken (hne ho) (by omega)
  case stop =>
    rintro D c pre W _ _ h _
    exact h.elim
theorem wal_groups (v : Value) (bs : List Int) (w : World) (hr : RdB w v bs) (hby : By bs) (hlen : bs.length ≤ 1000000000) : Calls Try.prog 24 #[v] w (GrpP bs w) := by
  have hr' := hr
  obtain ⟨A, c, rfl, -, -⟩ := hr
  exact callsIn_wide.1 (groups_in 2 (Nat.le_refl _) A c bs w hr' hby hlen)
end Go.Proofs.Ytmdecbockpgagaa
