import Derived.Test.YthgjpppbpgndcaaDoorChainTexts
/- Chains that end, as plain data. -/
namespace Go.Proofs.YthgjpppbpgndcaaDoor
open Go.RowKit Go.Maps

/-- What holds of a chain from place m on. -/
def RoadAt (F : FM) (m : Nat) (c : List Nm) : Prop := ∀ k x, m ≤ k → c[k]? = some x → (nextF F x).2.2 = 0 ∧ (nextF F x).2.1 = decide (k + 1 < c.length) ∧ (k + 1 < c.length → c[k + 1]? = some (nextF F x).1)
theorem chainN_road (F : FM) : ∀ (n : Nat) (out : List Nm) (t : Nm) (c : List Nm), chainN F n out t = (c, 0) → out.Nodup → (∃ r, c = out ++ t :: r) ∧ c.length ≤ 6 ∧ c.Nodup ∧ RoadAt F out.length c
  | 0, out, t, c, h, _ => by unfold chainN at h; cases h
  | n + 1, out, t, c, h, hnd => by
    unfold chainN at h
    by_cases h1 : t ∈ out
    · rw [if_pos h1] at h; cases h
    rw [if_neg h1] at h
    by_cases h2 : 6 ≤ out.length
    · rw [if_pos h2] at h; cases h
    rw [if_neg h2] at h
    by_cases h3 : (nextF F t).2.2 = 0
    · rw [if_neg (by simpa using h3)] at h
      have hnd2 : (out ++ [t]).Nodup := by
        rw [List.nodup_append]
        exact ⟨hnd, by simp, fun a ha b hb e => by rw [List.mem_singleton] at hb; subst hb; subst e; exact h1 ha⟩
      cases h4 : (nextF F t).2.1 with
      | true =>
        rw [if_pos h4] at h
        obtain ⟨⟨r, hr⟩, hl, hn, hroad⟩ := chainN_road F n (out ++ [t]) (nextF F t).1 c h hnd2
        rw [List.append_assoc] at hr
        refine ⟨⟨_, hr⟩, hl, hn, fun k x hk hx => ?_⟩
        rcases Nat.lt_or_ge out.length k with h5 | h5
        · exact hroad k x (by simp; omega) hx
        · obtain rfl : k = out.length := by omega
          have hx' : x = t := by
            rw [hr, List.getElem?_append_right (Nat.le_refl _), Nat.sub_self] at hx
            simpa using hx.symm
          subst hx'
          have hlen : out.length + 1 < c.length := by rw [hr]; simp
          refine ⟨h3, by rw [h4, decide_eq_true hlen], fun _ => ?_⟩
          rw [hr, List.getElem?_append_right (by omega), show out.length + 1 - out.length = 1 by omega]
          rfl
      | false =>
        rw [if_neg (by rw [h4]; decide)] at h
        simp only [Prod.mk.injEq, and_true] at h
        subst h
        refine ⟨⟨[], rfl⟩, by simp; omega, hnd2, fun k x hk hx => ?_⟩
        have hk2 : k < (out ++ [t]).length := (List.getElem?_eq_some_iff.1 hx).1
        rw [List.length_append, List.length_singleton] at hk2
        obtain rfl : k = out.length := by omega
        have hx' : x = t := by
          rw [List.getElem?_append_right (Nat.le_refl _), Nat.sub_self] at hx
          simpa using hx.symm
        subst hx'
        have hlen : ¬ (out.length + 1 < (out ++ [x]).length) := by simp
        exact ⟨h3, by rw [h4, decide_eq_false hlen], fun h => absurd h hlen⟩
    · rw [if_pos h3] at h
      simp only [Prod.mk.injEq] at h
      exact absurd h.2 h3
theorem chainF_road {F : FM} {t : Nm} {c : List Nm} (h : chainF F t = (c, 0)) : c[0]? = some t ∧ c.length ≤ 6 ∧ c.Nodup ∧ RoadAt F 0 c := by
  obtain ⟨⟨r, hr⟩, h1, h2, h3⟩ := chainN_road F 7 [] t c h List.nodup_nil
  exact ⟨by rw [hr]; rfl, h1, h2, h3⟩
theorem chainN_bad (F : FM) : ∀ (n : Nat) (out : List Nm) (t : Nm), (chainN F n out t).2 ≠ 0 → (chainN F n out t).1 = []
  | 0, out, t, _ => by unfold chainN; rfl
  | n + 1, out, t, h => by
    unfold chainN at h ⊢
    by_cases h1 : t ∈ out
    · rw [if_pos h1]
    rw [if_neg h1] at h ⊢
    by_cases h2 : 6 ≤ out.length
    · rw [if_pos h2]
    rw [if_neg h2] at h ⊢
    by_cases h3 : (nextF F t).2.2 = 0
    · rw [if_neg (by simpa using h3)] at h ⊢
      cases h4 : (nextF F t).2.1 with
      | true =>
        rw [h4, if_pos rfl] at h
        rw [if_pos rfl]
        exact chainN_bad F n _ _ h
      | false => rw [h4, if_neg (by decide)] at h; exact absurd rfl h
    · rw [if_pos h3]
theorem checkF_all {F : FM} {t : Nm} (h : checkF F = (t, 0)) : ∀ x ∈ F.map (·.1), (chainF F x).2 = 0 := by
  intro x hx
  unfold checkF at h
  cases hf : (F.map (·.1)).find? fun t => decide ((chainF F t).2 ≠ 0) with
  | some y =>
    rw [hf] at h
    simp only [Prod.mk.injEq] at h
    have := List.find?_some hf
    simp only [decide_eq_true_eq] at this
    exact absurd h.2 this
  | none =>
    have := List.find?_eq_none.1 hf x hx
    simpa using this
theorem setF_len (F : FM) (t q : Nm) : (setF F t q).2.length ≤ F.length + 1 := by
  unfold setF
  split
  · exact fput_len_le F t q
  · exact Nat.le_succ _
theorem dropF_len (F : FM) (t : Nm) : (dropF F t).2.length ≤ F.length := by
  unfold dropF
  split
  · exact fdel_len_le F t
  · exact Nat.le_refl _
theorem nodup_ne {c : List Nm} (h : c.Nodup) {j k : Nat} {x y : Nm} (hj : c[j]? = some x) (hk : c[k]? = some y) (hjk : j < k) : x ≠ y := by
  obtain ⟨h1, h2⟩ := List.getElem?_eq_some_iff.1 hj
  obtain ⟨h3, h4⟩ := List.getElem?_eq_some_iff.1 hk
  rw [← h2, ← h4]
  exact List.pairwise_iff_getElem.1 h j k h1 h3 hjk
end Go.Proofs.YthgjpppbpgndcaaDoor
