import Derived.Test.YthgjpppbpgndcaaGreatDoorChainKnown2
/- Chains that end, as plain data. -/
namespace Go.Proofs.YthgjpppbpgndcaaGreatDoor
open Go.RowKit Go.Maps

/-- What holds of a chain from place m on. -/
def RoadAt (F : FM) (m : Nat) (c : List Nm) : Prop := ∀ k x, m ≤ k → c[k]? = some x → (nextF F x).2.2 = 0 ∧ (nextF F x).2.1 = decide (k + 1 < c.length) ∧ (k + 1 < c.length → c[k + 1]? = some (nextF F x).1)
theorem chainN_road (F : FM) : ∀ (n : Nat) (out : List Nm) (t : Nm) (c : List Nm), chainN F n out t = (c, 0) → out.Nodup → (∃ r, c = out ++ t :: r) ∧ c.length ≤ 6 ∧ c.Nodup ∧ RoadAt F out.length c
  | 0, out, t, c, h, _ => by unfold chainN at h; cases h
  | n + 1, out, t, c, h, hnd => by
    unfold chainN at h
    by_cases h1 : t ∈ out
    · rw [if_pos h1] at h; cases h
    rw [if_neg h1] at h
    by_cases h2 : 6 ≤ out.length
    · rw [if_pos h2] at h; cases h
    rw [if_neg h2] at h
    by_cases h3 : (nextF F t).2.2 = 0
    · rw [if_neg (by simpa using h3)] at h
      have hnd2 : (out ++ [t]).Nodup := by
        rw [List.nodup_append]
        exact ⟨hnd, by simp, fun a ha b hb e => by rw [List.mem_singleton] at hb; subst hb; subst e; exact h1 ha⟩
      cases h4 : (nextF F t).2.1 with
      | true =>
        rw [if_pos h4] at h
        obtain ⟨⟨r, hr⟩, hl, hn, hroad⟩ := chainN_road F n (out ++ [t]) (nextF F t).1 c h hnd2
        rw [List.append_assoc] at hr
        refine ⟨⟨_, hr⟩, hl, hn, fun k x hk hx => ?_⟩
        rcases Nat.lt_or_ge out.length k with h5 | h5
        · exact hroad k x (by simp; omega) hx
        · obtain rfl : k = out.length := by omega
          have hx' : x = t := by
            rw [hr, List.getElem?_append_right (Nat.le_refl _), Nat.sub_self] at hx
            simpa using hx.symm
          subst hx'
          have hlen : out.length + 1 < c.length := by rw [hr]; simp
          refine ⟨h3, by rw [h4, decide_eq_true hlen], fun _ => ?_⟩
          rw [hr, List.getElem?_append_right (by omega), show out.length + 1 - out.length = 1 by omega]
          rfl
      | false =>
        rw [if_neg (by rw [h4]; decide)] at h
        simp only [Prod.mk.injEq, and_true] at h
        subst h
        refine ⟨⟨[], rfl⟩, by simp; omega, hnd2, fun k x hk hx => ?_⟩
        have hk2 : k < (out ++ [t]).length := (List.getElem?_eq_some_iff.1 hx).1
        rw [List.length_append, List.length_singleton] at hk2
        obtain rfl : k = out.length := by omega
        have hx' : x = t := by
          rw [List.getElem?_append_right (Nat.le_refl _), Nat.sub_self] at hx
          simpa using hx.symm
        subst hx'
        have hlen : ¬ (out.length + 1 < (out ++ [x]).length) := by simp
        exact ⟨h3, by rw [h4, decide_eq_false hlen], fun h => absurd h hlen⟩
    · rw [if_pos h3] at h
      simp only [Prod.mk.injEq] at h
      exact absurd h.2 h3
theorem chainF_road {F : FM} {t : Nm} {c : List Nm} (h : chainF F t = (c, 0)) : c[0]? = some t ∧ c.length ≤ 6 ∧ c.Nodup ∧ RoadAt F 0 c := by
  obtain ⟨⟨r, hr⟩, h1, h2, h3⟩ := chainN_road F 7 [] t c h List.nodup_nil
  exact ⟨by rw [hr]; rfl, h1, h2, h3⟩
theorem chainN_bad (F : FM) : ∀ (n : Nat) (out : List Nm) (t : Nm), (chainN F n out t).2 ≠ 0 → (chainN F n out t).1 = []
  | 0, out, t, _ => by unfold chainN; rfl
  | n + 1, out, t, h => by
    unfold chainN at h ⊢
    by_cases h1 : t ∈ out
    · rw [if_pos h1]
    rw [if_neg h1] at h ⊢
    by_cases h2 : 6 ≤ out.length
    · rw [if_pos h2]
    rw [if_neg h2] at h ⊢
    by_cases h3 : (nextF F t).2.2 = 0
    · rw [if_neg (by simpa using h3)] at h ⊢
      cases h4 : (nextF F t).2.1 with
      | true =>
        rw [h4, if_pos rfl] at h
        rw [if_pos rfl]
        exact chainN_bad F n _ _ h
      | false => rw [h4, if_neg (by decide)] at h; exact absurd rfl h
    · rw [if_pos h3]
theorem checkF_all {F : FM} {t : Nm} (h : checkF F = (t, 0)) : ∀ x ∈ F.map (·.1), (chainF F x).2 = 0 := by
  intro x hx
  unfold checkF at h
  cases hf : (F.map (·.1)).find? fun t => decide ((chainF F t).2 ≠ 0) with
  | some y =>
    rw [hf] at h
    simp only [Prod.mk.injEq] at h
    have := List.find?_some hf
    simp only [decide_eq_true_eq] at this
    exact absurd h.2 this
  | none =>
    have := List.find?_eq_none.1 hf x hx
    simpa using this
theorem setF_len (F : FM) (t q : Nm) : (setF F t q).2.length ≤ F.length + 1 := by
  unfold setF
  split
  · exact fput_len_le F t q
  · exact Nat.le_succ _
theorem dropF_len (F : FM) (t : Nm) : (dropF F t).2.length ≤ F.length := by
  unfold dropF
  split
  · exact fdel_len_le F t
  · exact Nat.le_refl _
theorem nodup_ne {c : List Nm} (h : c.Nodup) {j k : Nat} {x y : Nm} (hj : c[j]? = some x) (hk : c[k]? = some y) (hjk : j < k) : x ≠ y := by
  obtain ⟨h1, h2⟩ := List.getElem?_eq_some_iff.1 hj
  obtain ⟨h3, h4⟩ := List.getElem?_eq_some_iff.1 hk
  rw [← h2, ← h4]
  exact List.pairwise_iff_getElem.1 h j k h1 h3 hjk
end Go.Proofs.YthgjpppbpgndcaaGreatDoor

/- Who is under one, and what a drop leaves, as plain data. -/
namespace Go.Proofs.YthgjpppbpgndcaaGreatDoor
open Go.RowKit Go.Maps

theorem road_has {F : FM} {o t : Nm} {c : List Nm} (h : chainF F o = (c, 0)) : (∃ j, 1 ≤ j ∧ c[j]? = some t) ↔ (o ≠ t ∧ t ∈ c) := by
  obtain ⟨h0, -, hnd, -⟩ := chainF_road h
  constructor
  · rintro ⟨j, hj, hc⟩
    exact ⟨nodup_ne hnd h0 hc (by omega), List.mem_of_getElem? hc⟩
  · rintro ⟨hne, hm⟩
    obtain ⟨j, hj⟩ := List.getElem?_of_mem hm
    refine ⟨j, ?_, hj⟩
    rcases Nat.eq_zero_or_pos j with rfl | hp
    · rw [h0] at hj
      injection hj with hj
      exact absurd hj hne
    · exact hp
/-- Is one under another? -/
def undB (F : FM) (t o : Nm) : Bool := !(decide (o = t) || !decide (t ∈ (chainF F o).1))
theorem undB_err {F : FM} {t o : Nm} (h : (chainF F o).2 ≠ 0) : undB F t o = false := by
  unfold undB
  rw [show (chainF F o).1 = [] from chainN_bad F 7 [] o h]
  simp
theorem undB_has {F : FM} {t o : Nm} {c : List Nm} (h : chainF F o = (c, 0)) {b : Bool} (hb : b = true ↔ ∃ j, 1 ≤ j ∧ c[j]? = some t) : undB F t o = b := by
  have h2 := hb.trans (road_has h)
  unfold undB
  rw [h]
  cases b with
  | true =>
    obtain ⟨h3, h4⟩ := h2.1 rfl
    simp [h3, h4]
  | false =>
    by_cases h3 : o = t
    · simp [h3]
    · have h4 : t ∉ c := fun h4 => by have := h2.2 ⟨h3, h4⟩; cases this
      simp [h4]
theorem filter_at {α : Type} {p : α → Bool} {l : List α} {i : Nat} {x : α} (h : l[i]? = some x) (hp : p x = true) : (l.filter p)[((l.take i).filter p).length]? = some x ∧ ((l.take (i + 1)).filter p).length = ((l.take i).filter p).length + 1 := by
  obtain ⟨h1, h2⟩ := List.getElem?_eq_some_iff.1 h
  have e : l = l.take i ++ x :: l.drop (i + 1) := by rw [← h2, ← List.drop_eq_getElem_cons h1, List.take_append_drop]
  constructor
  · have : l.filter p = (l.take i).filter p ++ x :: (l.drop (i + 1)).filter p := by
      conv => lhs; rw [e]
      rw [List.filter_append, List.filter_cons_of_pos hp]
    rw [this, List.getElem?_append_right (Nat.le_refl _), Nat.sub_self]
    rfl
  · rw [List.take_add_one, h, List.filter_append]
    simp [hp]
theorem filter_skip {α : Type} {p : α → Bool} {l : List α} {i : Nat} {x : α} (h : l[i]? = some x) (hp : p x = false) : ((l.take (i + 1)).filter p).length = ((l.take i).filter p).length := by
  rw [List.take_add_one, h, List.filter_append]
  simp [hp]
theorem filter_in {α : Type} {p : α → Bool} (l : List α) (i : Nat) : ((l.take i).filter p).length ≤ (l.filter p).length := by
  conv => rhs; rw [← List.take_append_drop i l, List.filter_append]
  simp
theorem flk_del (F : FM) (t : Nm) : flk (fdel F t) t = none := by
  unfold flk fdel
  rw [Option.map_eq_none_iff, List.find?_eq_none]
  intro p hp
  have := (List.mem_filter.1 hp).2
  simp only [Bool.not_eq_true', beq_eq_false_iff_ne] at this
  simp [this]
theorem key_in {F : FM} {t : Nm} (h : t ∈ F.map (·.1)) : (flk F t).isSome = true := by
  obtain ⟨p, hp, rfl⟩ := List.mem_map.1 h
  exact flk_some hp
theorem fdel_one {F : FM} (hr : F.Pairwise fun p q => bytesBefore p.1 q.1 = true) {t : Nm} (h : t ∈ F.map (·.1)) : (fdel F t).length + 1 = F.length := by
  induction F with
  | nil => cases h
  | cons p r ih =>
    rw [List.pairwise_cons] at hr
    by_cases hp : p.1 = t
    · have : fdel (p :: r) t = r := by
        unfold fdel
        rw [List.filter_cons_of_neg (by simp [hp])]
        refine List.filter_eq_self.2 (fun q hq => ?_)
        have := hr.1 q hq
        simp only [Bool.not_eq_true', beq_eq_false_iff_ne]
        intro e
        rw [hp, ← e, bb_irrefl] at this
        cases this
      rw [this]; rfl
    · have : fdel (p :: r) t = p :: fdel r t := by
        unfold fdel
        rw [List.filter_cons_of_pos (by simp [hp])]
      rw [this, List.length_cons, List.length_cons, ih hr.2 ?_]
      rw [List.map_cons] at h
      rcases List.mem_cons.1 h with h | h
      · exact absurd h.symm hp
      · exact h
end Go.Proofs.YthgjpppbpgndcaaGreatDoor
