import Derived.Test.YtekpmpghbeeeoaaGreatDoorRound
/- A statement whose order is open and that stores at its end: what is held may depend on what has come up. -/
namespace Go.Proofs.YtekpmpghbeeeoaaGreatDoor
open Go.RowKit Go.Proofs.YtekpmpghbeeeoaaGreatDoorW.PrintWords Go.Proofs.YtekpmpghbeeeoaaGreatDoorW.PrintMore
section
variable {P : Program} {ops : Array Oper} {Q : Exit → Act → World → Prop} {md : Region.Mode} {S : Array Bool → World → Prop}

/-- Whatever order is picked from here on, and S holds behind every operation, at what has come up then. -/
def wpAnyL (P : Program) (md : Region.Mode) (ops : Array Oper) (Q : Exit → Act → World → Prop) (S : Array Bool → World → Prop) : Nat → Array Bool → Act → World → Prop
  | 0, listed, a, w => Region.ready md ops listed = [] ∧ Q .normal a w
  | fuel + 1, listed, a, w =>
    (Region.ready md ops listed = [] → Q .normal a w) ∧
    ∀ i ∈ Region.ready md ops listed, wpOp P ops Q i (fun a' w' => S (listed.setIfInBounds i true) w' ∧ wpAnyL P md ops Q S fuel (listed.setIfInBounds i true) a' w') a w

theorem wpAny_of_late : ∀ (fuel : Nat) (listed : Array Bool) (a : Act) (w : World), wpAnyL P md ops Q S fuel listed a w → wpAny P md ops Q fuel listed a w
  | 0, _, _, _, h => h
  | fuel + 1, _, _, _, h => ⟨h.1, fun i hi => wpOp_mono (fun a' w' h' => wpAny_of_late fuel _ a' w' h'.2) (h.2 i hi)⟩

/-- j waits for i. -/
def waitsB (md : Region.Mode) (ops : Array Oper) (j i : Nat) : Bool := match ops[j]? with | some o => o.after.toList.any (fun e => Region.binds md e && e.on == i) | none => false
def noneYet (md : Region.Mode) (ops : Array Oper) (listed : Array Bool) (i : Nat) : Bool := (List.range ops.size).all fun j => !(waitsB md ops j i) || !(listed.getD j true)

theorem waits_size {j i : Nat} (h : waitsB md ops j i = true) : j < ops.size := by
  unfold waitsB at h
  cases ho : ops[j]? with
  | none => rw [ho] at h; cases h
  | some o => exact (Array.getElem?_eq_some_iff.1 ho).1
theorem noneYet_spec {listed : Array Bool} {i : Nat} (h : noneYet md ops listed i = true) (j : Nat) (hj : waitsB md ops j i = true) : listed.getD j true = false := by
  have h1 := List.all_eq_true.1 h j (List.mem_range.2 (waits_size hj))
  rw [hj] at h1
  simpa using h1

theorem wpAnyL_first {i : Nat} {oi : Oper} {v : Value} (hi : ops[i]? = some oi) (hsel : ∀ (j : Nat) (o : Oper) cs b, ops[j]? = some o → o.op ≠ .select cs b)
    (hQ : ∀ c a w, Q (.panic c) (a.put oi.dst v) w → Q (.panic c) a w) (hSi : ∀ L w, S L w ↔ S (L.setIfInBounds i true) w) :
    ∀ (fuel : Nat) (listed : Array Bool) (a : Act) (w : World),
      (∀ j oj, ops[j]? = some oj → j ≠ i → listed.getD j true = false → (∀ e ∈ oj.after, Region.binds md e = true → e.on ≠ i) → oi.apart ops oj = true) →
      i ∈ Region.ready md ops listed → (∀ j, waitsB md ops j i = true → listed.getD j true = false) →
      YieldsIf P ops (fun w => ∃ L : Array Bool, (∀ j, waitsB md ops j i = true → L.getD j true = false) ∧ S L w) oi v a → S listed w →
      wpAnyL P md ops Q S fuel (listed.setIfInBounds i true) (a.put oi.dst v) w → wpAnyL P md ops Q S (fuel + 1) listed a w := by
  intro fuel
  induction fuel with
  | zero =>
    intro listed a w _ hr hw hy hS H
    refine ⟨fun h => (by rw [h] at hr; cases hr), fun j hj => ?_⟩
    by_cases hji : j = i
    · subst hji; exact hy.wpOp hi ⟨listed, hw, hS⟩ ⟨(hSi _ _).1 hS, H⟩
    · have := ready_mono hj hji
      rw [H.1] at this
      cases this
  | succ fuel ih =>
    intro listed a w hfree hr hw hy hS H
    refine ⟨fun h => (by rw [h] at hr; cases hr), fun j hj => ?_⟩
    by_cases hji : j = i
    · subst hji; exact hy.wpOp hi ⟨listed, hw, hS⟩ ⟨(hSi _ _).1 hS, H⟩
    · have h1 := H.2 j (ready_mono hj hji)
      obtain ⟨hjun, oj, hoj, hall⟩ := mem_ready.1 hj
      have hnot : ∀ e ∈ oj.after, Region.binds md e = true → e.on ≠ i := fun e he hb heq => by
        have h1 := hall e he hb
        have h0 := (mem_ready.1 hr).1
        rw [heq] at h1
        rcases Nat.lt_or_ge i listed.size with h' | h'
        · simp [h'] at h0 h1; rw [h0] at h1; cases h1
        · simp [Array.getElem?_eq_none h'] at h1
      have hjw : waitsB md ops j i = false := by
        unfold waitsB
        rw [hoj]
        simp only [List.any_eq_false]
        intro e he h
        simp only [Bool.and_eq_true, beq_iff_eq] at h
        exact hnot e (Array.mem_toList_iff.1 he) h.1 h.2
      have h2 := wpOp_putIf hoj (hfree j oj hoj hji hjun hnot) (fun cs b => hsel i oi cs b hi) (fun cs b => hsel j oj cs b hoj) hQ hy h1
      have hfree' : ∀ k ok, ops[k]? = some ok → k ≠ i → (listed.setIfInBounds j true).getD k true = false →
          (∀ e ∈ ok.after, Region.binds md e = true → e.on ≠ i) → oi.apart ops ok = true := fun k ok hk hki hun hno => by
        refine hfree k ok hk hki ?_ hno
        by_cases hjk : j = k
        · subst hjk; exact hjun
        · rw [getD_set_ne true hjk] at hun; exact hun
      have hw' : ∀ k, waitsB md ops k i = true → (listed.setIfInBounds j true).getD k true = false := fun k hk => by
        rw [getD_set_ne true (fun e => by subst e; rw [hjw] at hk; cases hk)]
        exact hw k hk
      refine wpOp_mono (fun a' w' h3 => ?_) h2
      have hs3 := h3.2.1
      rw [Array.setIfInBounds_comm _ _ (Ne.symm hji)] at hs3
      have hs4 := (hSi _ _).2 hs3
      refine ⟨hs4, ih (listed.setIfInBounds j true) a' w' hfree' (ready_mono hr (Ne.symm hji)) hw' h3.1 hs4 ?_⟩
      rw [Array.setIfInBounds_comm _ _ hji]
      exact h3.2.2

variable {l : List Oper}
/-- Take number i first: it reads, and what it reads nobody turns who could come before it. -/
theorem late_take {i : Nat} {oi : Oper} {v : Value} {fuel : Nat} {listed : Array Bool} {a : Act} {w : World} (hi : l[i]? = some oi)
    (hs : Region.noSelect l.toArray = true) (hf : Region.free md l.toArray listed i = true) (hr : (Region.ready md l.toArray listed).contains i = true) (hn : noneYet md l.toArray listed i = true)
    (hQ : ∀ c a w, Q (.panic c) (a.put oi.dst v) w → Q (.panic c) a w) (hw : Region.wanted oi (yielded l.toArray a.tmps) = true) (hSi : ∀ L w, S L w ↔ S (L.setIfInBounds i true) w) (hS : S listed w)
    (hy : ∀ (L : Array Bool) (w : World), (∀ j, waitsB md l.toArray j i = true → L.getD j true = false) → S L w → (execOp a.eval oi).run P w = .ok (.value v) w)
    (h : wpAnyL P md l.toArray Q S fuel (listed.setIfInBounds i true) (a.put oi.dst v) w) : wpAnyL P md l.toArray Q S (fuel + 1) listed a w :=
  wpAnyL_first (by simpa using hi) (Region.noSelect_spec hs) hQ hSi fuel listed a w (Region.free_spec (by simpa using hi) hf) (by simpa using hr) (noneYet_spec hn) (.inl ⟨hw, fun w ⟨L, hL, hSL⟩ => hy L w hL hSL⟩) hS h

theorem late_one {i : Nat} {oi : Oper} {fuel : Nat} {listed : Array Bool} {a : Act} {w : World} (hr : Region.ready md l.toArray listed = [i]) (hi : l[i]? = some oi) (hw : Region.wanted oi (yielded l.toArray a.tmps) = true)
    (h : ∀ K : Act → World → Prop, Hid (∀ a' w', S (listed.setIfInBounds i true) w' → wpAnyL P md l.toArray Q S fuel (listed.setIfInBounds i true) a' w' → K a' w') → Oper.wp P oi a w K Q) : wpAnyL P md l.toArray Q S (fuel + 1) listed a w := by
  replace h := h (fun a' w' => S (listed.setIfInBounds i true) w' ∧ wpAnyL P md l.toArray Q S fuel (listed.setIfInBounds i true) a' w') (Lib.hid (fun a' w' h1 h2 => ⟨h1, h2⟩))
  refine ⟨fun h0 => absurd (hr ▸ h0) (by simp), fun j hj => ?_⟩
  rw [hr] at hj
  obtain rfl : j = i := by simpa using hj
  unfold Go.wpOp
  rw [show l.toArray[j]? = some oi from by simpa using hi]
  simp only [hw, if_true]
  exact .inl h
theorem late_two {i k : Nat} {oi ok : Oper} {fuel : Nat} {listed : Array Bool} {a : Act} {w : World} (hr : Region.ready md l.toArray listed = [i, k]) (hi : l[i]? = some oi) (hk : l[k]? = some ok)
    (hw : Region.wanted oi (yielded l.toArray a.tmps) = true) (hw2 : Region.wanted ok (yielded l.toArray a.tmps) = true)
    (h : ∀ K : Act → World → Prop, Hid (∀ a' w', S (listed.setIfInBounds i true) w' → wpAnyL P md l.toArray Q S fuel (listed.setIfInBounds i true) a' w' → K a' w') → Oper.wp P oi a w K Q)
    (h2 : ∀ K : Act → World → Prop, Hid (∀ a' w', S (listed.setIfInBounds k true) w' → wpAnyL P md l.toArray Q S fuel (listed.setIfInBounds k true) a' w' → K a' w') → Oper.wp P ok a w K Q) : wpAnyL P md l.toArray Q S (fuel + 1) listed a w := by
  replace h := h (fun a' w' => S (listed.setIfInBounds i true) w' ∧ wpAnyL P md l.toArray Q S fuel (listed.setIfInBounds i true) a' w') (Lib.hid (fun a' w' h1 h2 => ⟨h1, h2⟩))
  replace h2 := h2 (fun a' w' => S (listed.setIfInBounds k true) w' ∧ wpAnyL P md l.toArray Q S fuel (listed.setIfInBounds k true) a' w') (Lib.hid (fun a' w' h1 h2 => ⟨h1, h2⟩))
  refine ⟨fun h0 => absurd (hr ▸ h0) (by simp), fun j hj => ?_⟩
  rw [hr] at hj
  unfold Go.wpOp
  rcases List.mem_cons.1 hj with rfl | hj
  · rw [show l.toArray[j]? = some oi from by simpa using hi]
    simp only [hw, if_true]
    exact .inl h
  · obtain rfl : j = k := by simpa using hj
    rw [show l.toArray[j]? = some ok from by simpa using hk]
    simp only [hw2, if_true]
    exact .inl h2
theorem late_done {listed : Array Bool} {a : Act} {w : World} (hr : Region.ready md ops listed = []) (h : Q .normal a w) :
    ∀ fuel, wpAnyL P md ops Q S fuel listed a w
  | 0 => ⟨hr, h⟩
  | _ + 1 => ⟨fun _ => h, by rw [hr]; simp⟩
end

/-- THE DRAWN STATEMENT IN A ROUND. -/
theorem wpIn_round_late {l n : Nat} {P : Program} {id : Nat} {ops : Array Oper} {Q : Exit → Act → World → Prop} (S : Array Bool → World → Prop) {a : Act} {w : World} (hnd : ops.all (fun o => match o.op with | .defer _ => false | _ => true) = true)
    (hno : ¬ LetsOut Q) (hm : P.follows .mixedOrders = true) (h : wpAnyL P .any ops Q S ops.size (Array.replicate ops.size false) a w.drew) : (Code.region id ops true).wpIn (Fence.wide.inRound l) n P Q a w :=
  wpIn_region_any hm (anyIn_round (fun i o ho c e => by
    have := Array.all_eq_true.1 hnd i (Array.getElem?_eq_some_iff.1 ho).1
    rw [(Array.getElem?_eq_some_iff.1 ho).2, e] at this
    cases this) hno _ _ _ _ (wpAny_of_late _ _ _ _ h))

/-- 'append(v, y)' of one number onto a row that is owned. -/
theorem wp_append_one {P : Program} {W : World} {o : Oper} {a : Act} {K : Act → World → Prop} {Q : Exit → Act → World → Prop} (base : Nat) (s x : Operand) (t e : TypeId) (k : IntKind) (bytes : Nat)
    (ho : o.op = .call { callee := .builtin .append, args := #[s, x], argTypes := #[t, t] }) (ht : P.underlying t = some (.slice e))
    (hinfo : (P.info? e).map (fun i => (i.zero, i.size, i.bytes)) = some (some (.int k 0), 1, bytes))
    (v : Value) (xs : List Int) (g : Nat) (y : Int) (hs : a.eval s = v) (hx : a.eval x = .slice (some ⟨g, 0, none⟩) 1 1)
    (HO : W.ownsRow base e 1 v xs.length (nums k xs)) (hc : W.cell? ⟨g, 0, none⟩ = some (.int k y)) (hbase : base ≤ W.heap.size) (hm : xs.length + 1 ≤ 9223372036854775807) (hl : (xs.length + 1) * bytes ≤ 140737488355328)
    (h : ∀ v1 w1, w1.ownsRow base e 1 v1 (xs ++ [y]).length (nums k (xs ++ [y])) → W.grownBy w1 v.ownBlock → K (a.put o.dst v1) w1) : o.wp P a W K Q := by
  obtain ⟨i, hi, hz, hsz, hby⟩ := info_parts hinfo
  obtain ⟨v', w', hrun, r1, r2, -⟩ := run_append_own (P := P) W base t o.type e i (.int k 0) 1 bytes ht hi hz hsz hby rfl (by omega) v xs.length (nums k xs) HO ⟨g, 0, none⟩ 1 1 [.int k y] rfl
    (fun j u hj => by
      cases j with
      | zero => simp at hj; subst hj; exact hc
      | succ j => simp at hj) (by simp [Value.oneCell']) hm hl hbase
  unfold Oper.wp execOp
  simp only [ho, resolve, invoke, builtin, Sem.run_bind, Sem.run_pure, Result.andThen_ok, List.map_toArray, List.map_cons, List.map_nil, hs, hx, hrun]
  refine h v' w' ?_ r2
  rw [List.length_append, show nums k (xs ++ [y]) = nums k xs ++ [.int k y] from by simp [nums]]
  exact r1
end Go.Proofs.YtekpmpghbeeeoaaGreatDoor
