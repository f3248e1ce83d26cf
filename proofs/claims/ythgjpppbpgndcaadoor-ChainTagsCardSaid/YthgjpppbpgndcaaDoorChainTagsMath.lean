import Derived.Test.YthgjpppbpgndcaaDoorChainTexts
import Derived.Test.YthgjpppbpgndcaaDoorTagPlain
/- Chains without named parents. -/
namespace Go.Proofs.YthgjpppbpgndcaaDoor
open Go.RowKit Go.Maps
variable {F : FM}

theorem upsN_mu : ∀ (n : Nat) (t x : Nm), x ∈ upsN n t → tmu x < tmu t
  | 0, _, _, h => by cases h
  | n + 1, t, x, h => by
    unfold upsN at h
    by_cases hp : parentL t = []
    · rw [if_pos hp] at h; cases h
    · rw [if_neg hp] at h
      have h1 := parent_mu hp
      rcases List.mem_cons.1 h with rfl | h
      · exact h1
      · have := upsN_mu n _ x h
        omega
theorem ups_mu {t x : Nm} (h : x ∈ ups t) : tmu x < tmu t := upsN_mu _ t x h
theorem ups_none {t : Nm} (h : parentL t = []) : ups t = [] := by rw [ups_is, h]; exact if_pos rfl
theorem ups_some {t : Nm} (h : parentL t ≠ []) : ups t = parentL t :: ups (parentL t) := by rw [ups_is]; exact if_neg h
theorem ups_rest : ∀ (pre : List Nm) (t p : Nm) (r : List Nm), ups t = pre ++ p :: r → r = ups p
  | [], t, p, r, h => by
    by_cases hp : parentL t = []
    · rw [ups_none hp] at h; cases h
    · rw [ups_some hp] at h
      injection h with h1 h2
      rw [← h1, h2]
  | a :: pre, t, p, r, h => by
    by_cases hp : parentL t = []
    · rw [ups_none hp] at h; cases h
    · rw [ups_some hp] at h
      injection h with h1 h2
      exact ups_rest pre _ p r h2
abbrev desc (t : Nm) : List Nm := t :: ups t
theorem desc_rest {pre : List Nm} {t p : Nm} {r : List Nm} (h : desc t = pre ++ p :: r) : r = ups p := by
  cases pre with
  | nil => injection h with h1 h2; rw [← h1, h2]
  | cons a pre => injection h with h1 h2; exact ups_rest pre t p r h2
theorem upsN_nodup : ∀ (n : Nat) (t : Nm), (upsN n t).Nodup
  | 0, _ => List.nodup_nil
  | n + 1, t => by
    unfold upsN
    by_cases hp : parentL t = []
    · rw [if_pos hp]; exact List.nodup_nil
    · rw [if_neg hp]
      refine List.nodup_cons.2 ⟨fun h => ?_, upsN_nodup n _⟩
      have := upsN_mu n _ _ h
      omega
theorem desc_nodup (t : Nm) : (desc t).Nodup := List.nodup_cons.2 ⟨fun h => by have := ups_mu h; omega, upsN_nodup _ t⟩
theorem filter_sub {l₁ l₂ : List Nm} (h : l₁.Sublist l₂) (hn : l₂.Nodup) : l₂.filter (fun x => decide (x ∈ l₁)) = l₁ := by
  induction h with
  | slnil => rfl
  | cons a h ih =>
    obtain ⟨h1, h2⟩ := List.nodup_cons.1 hn
    rw [List.filter_cons_of_neg (by simp; exact fun hm => h1 (h.subset hm))]
    exact ih h2
  | cons_cons a h ih =>
    obtain ⟨h1, h2⟩ := List.nodup_cons.1 hn
    rw [List.filter_cons_of_pos (by simp)]
    congr 1
    conv => rhs; rw [← ih h2]
    refine List.filter_congr fun x hx => ?_
    have : x ≠ a := fun e => h1 (e ▸ hx)
    simp [this]
/-- A forest of these names, none with a named parent. -/
def Bare (F : FM) (want : List Nm) : Prop := ∀ x, flk F x = if x ∈ want then some [] else none
theorem chain_along {want : List Nm} (hF : Bare F want) : ∀ (n : Nat) (out : List Nm) (q : Nm), q ∈ want → (∀ y ∈ out, y ∉ desc q) → out.length + ((desc q).filter fun x => decide (x ∈ want)).length ≤ 6 → ((desc q).filter fun x => decide (x ∈ want)).length ≤ n →
    chainN F n out q = (out ++ (desc q).filter (fun x => decide (x ∈ want)), 0)
  | 0, out, q, hq, _, _, h => by
    rw [List.filter_cons_of_pos (by simpa using hq)] at h
    simp at h
  | n + 1, out, q, hq, ho, h6, hn => by
    have hqo : q ∉ out := fun h => ho q h List.mem_cons_self
    rw [List.filter_cons_of_pos (by simpa using hq)] at h6 hn ⊢
    simp only [List.length_cons] at h6 hn
    have hl : ¬ 6 ≤ out.length := by omega
    have hnx : nextF F q = _ := nextF_loop (F := F) (t := q) (by rw [hF q, if_pos hq])
    have hP : ∀ x, (flk F x).isSome = decide (x ∈ want) := fun x => by
      rw [hF x]
      by_cases h : x ∈ want
      · rw [if_pos h, decide_eq_true h]; rfl
      · rw [if_neg h, decide_eq_false h]; rfl
    cases hf : firstUp F (ups q) with
    | none =>
      have he : (ups q).filter (fun x => decide (x ∈ want)) = [] := by
        rw [List.filter_eq_nil_iff]
        intro x hx
        have := List.find?_eq_none.1 hf x hx
        rw [hP] at this
        exact this
      rw [hf] at hnx
      rw [chainN_end n hqo hl (by rw [hnx]) (by rw [hnx]), he]
    | some p =>
      rw [hf] at hnx
      obtain ⟨hp, pre, r, hup, hpre⟩ := List.find?_eq_some_iff_append.1 hf
      have hr := ups_rest pre q p r hup
      subst hr
      rw [hP] at hp
      have he : (ups q).filter (fun x => decide (x ∈ want)) = (desc p).filter fun x => decide (x ∈ want) := by
        rw [hup, List.filter_append, List.filter_eq_nil_iff.2 (fun x hx => by have := hpre x hx; rw [hP] at this; simpa using this), List.nil_append]
      rw [he] at h6 hn ⊢
      rw [chainN_on n hqo hl (by rw [hnx]) (by rw [hnx]), hnx]
      have hpm : p ∈ want := by simpa using hp
      rw [chain_along hF n (out ++ [q]) p hpm (fun y hy => ?_) (by simp only [List.length_append, List.length_singleton]; omega) (by omega), List.append_assoc, List.singleton_append]
      rcases List.mem_append.1 hy with h | h
      · intro hd
        exact ho y h (List.mem_cons_of_mem _ (by rw [hup]; exact List.mem_append_right _ hd))
      · rw [List.mem_singleton.1 h]
        intro hd
        have hq2 : q ∈ ups q := by rw [hup]; exact List.mem_append_right _ hd
        have := ups_mu hq2
        omega
theorem fins_perm (x : Nm × Nm) : ∀ m : FM, (fins x m).Perm (x :: m)
  | [] => List.Perm.refl _
  | y :: r => by
    unfold fins
    split
    · exact List.Perm.refl _
    · exact ((fins_perm x r).cons y).trans (List.Perm.swap x y r)
theorem find_fins_ne {x : Nm × Nm} {s : Nm} (h : x.1 ≠ s) : ∀ m : FM, (fins x m).find? (fun p => p.1 == s) = m.find? (fun p => p.1 == s)
  | [] => by
    unfold fins
    rw [List.find?_cons_of_neg (by simpa using h)]
  | y :: r => by
    unfold fins
    split
    · rw [List.find?_cons_of_neg (by simpa using h)]
    · rw [List.find?_cons, List.find?_cons, find_fins_ne h r]
theorem find_fins_eq {x : Nm × Nm} : ∀ m : FM, (∀ p ∈ m, p.1 ≠ x.1) → (fins x m).find? (fun p => p.1 == x.1) = some x
  | [], _ => by
    unfold fins
    rw [List.find?_cons_of_pos (by simp)]
  | y :: r, h => by
    unfold fins
    split
    · rw [List.find?_cons_of_pos (by simp)]
    · rw [List.find?_cons_of_neg (by simpa using h y List.mem_cons_self)]
      exact find_fins_eq r (fun p hp => h p (List.mem_cons_of_mem _ hp))
theorem flk_put (m : FM) (k v s : Nm) : flk (fput m k v) s = if s = k then some v else flk m s := by
  unfold flk fput
  by_cases h : s = k
  · subst h
    rw [if_pos rfl, find_fins_eq (x := (s, v)) _ (fun p hp => by
      have := (List.mem_filter.1 hp).2
      simpa using this)]
    rfl
  · rw [if_neg h, find_fins_ne (x := (k, v)) (fun e => h e.symm)]
    unfold fdel
    rw [List.find?_filter]
    congr 2
    funext p
    by_cases hp : p.1 = s
    · simp [hp, h]
    · simp [hp]
theorem fdel_none {m : FM} {k : Nm} (h : flk m k = none) : fdel m k = m := by
  unfold fdel
  rw [List.filter_eq_self]
  intro p hp
  have h1 : p.1 ≠ k := fun e => by
    have := flk_some hp
    rw [e, h] at this
    cases this
  simpa using h1
/-- The forest that has these names alone, in whatever order. -/
structure Wood (F : FM) (want : List Nm) : Prop where
  bare : Bare F want
  perm : (F.map (·.1)).Perm want
theorem Wood.nil : Wood [] [] := ⟨fun _ => rfl, List.Perm.refl _⟩
theorem Wood.put {want : List Nm} (h : Wood F want) {t : Nm} (ht : t ∉ want) : Wood (fput F t []) (want ++ [t]) := by
  constructor
  · intro x
    rw [flk_put, h.bare x]
    by_cases hx : x = t
    · subst hx; simp
    · simp [hx]
  · have hn : flk F t = none := by rw [h.bare t, if_neg ht]
    unfold fput
    rw [fdel_none hn]
    refine ((fins_perm (t, []) F).map (·.1)).trans ?_
    rw [List.map_cons]
    exact (h.perm.cons t).trans (List.perm_append_singleton t want).symm
/-- The names are some of those on the way up from t0, t0 the first of them. -/
structure Way (t0 : Nm) (want : List Nm) : Prop where
  sub : want.Sublist (desc t0)
  six : want.length ≤ 6
  has : t0 ∈ want
theorem Way.filter {t0 : Nm} {want : List Nm} (h : Way t0 want) : (desc t0).filter (fun x => decide (x ∈ want)) = want := filter_sub h.sub (desc_nodup t0)
theorem Way.part {t0 : Nm} {want : List Nm} (h : Way t0 want) {x : Nm} (hx : x ∈ want) : ∃ l, want = l ++ (desc x).filter fun y => decide (y ∈ want) := by
  obtain ⟨pre, r, hd⟩ := List.append_of_mem (h.sub.subset hx)
  have hr := desc_rest hd
  subst hr
  refine ⟨pre.filter fun y => decide (y ∈ want), ?_⟩
  conv => lhs; rw [← h.filter]
  rw [hd, List.filter_append]
theorem Way.chain {t0 : Nm} {want : List Nm} (h : Way t0 want) (hF : Wood F want) {x : Nm} (hx : x ∈ want) : chainF F x = ((desc x).filter (fun y => decide (y ∈ want)), 0) := by
  obtain ⟨l, hl⟩ := h.part hx
  have h2 := congrArg List.length hl
  rw [List.length_append] at h2
  have h6 := h.six
  exact chain_along hF.bare 7 [] x hx (fun y hy => by cases hy) (by simp only [List.length_nil]; omega) (by omega)
theorem Way.first {t0 : Nm} {want : List Nm} (h : Way t0 want) (hF : Wood F want) : chainF F t0 = (want, 0) := by rw [h.chain hF h.has, h.filter]
theorem Way.check {t0 : Nm} {want : List Nm} (h : Way t0 want) (hF : Wood F want) : checkF F = ([], 0) := by
  unfold checkF
  rw [List.find?_eq_none.2 (fun x hx => ?_)]
  have hw : x ∈ want := hF.perm.subset hx
  rw [h.chain hF hw]
  simp
theorem Way.under {t0 : Nm} {l : List Nm} {z : Nm} (h : Way t0 (l ++ [z])) (hF : Wood F (l ++ [z])) : (underF F z).length = l.length := by
  have hnd : (l ++ [z]).Nodup := List.Nodup.sublist h.sub (desc_nodup t0)
  have hzl : z ∉ l := fun hm => by
    have := (List.nodup_append.1 hnd).2.2 z hm z (List.mem_singleton.2 rfl)
    exact this rfl
  unfold underF
  rw [((hF.perm).filter _).length_eq]
  have e : (l ++ [z]).filter (fun o => !(decide (o = z) || !decide (z ∈ (chainF F o).1))) = (l ++ [z]).filter (fun o => !decide (o = z)) := by
    refine List.filter_congr fun o ho => ?_
    have hz : z ∈ (chainF F o).1 := by
      rw [h.chain hF ho]
      obtain ⟨k, hk⟩ := h.part ho
      have hne : (desc o).filter (fun y => decide (y ∈ l ++ [z])) ≠ [] := fun e => by
        have : o ∈ (desc o).filter (fun y => decide (y ∈ l ++ [z])) := List.mem_filter.2 ⟨List.mem_cons_self, by simpa using ho⟩
        rw [e] at this
        cases this
      obtain ⟨m, y, hm⟩ : ∃ m y, (desc o).filter (fun y => decide (y ∈ l ++ [z])) = m ++ [y] := ⟨_, _, (List.dropLast_concat_getLast hne).symm⟩
      rw [hm, ← List.append_assoc] at hk
      obtain ⟨-, hzy⟩ := List.append_inj' hk rfl
      injection hzy with hzy
      rw [hm, hzy]
      simp
    simp [hz]
  rw [e, List.filter_append, List.filter_eq_self.2 (fun o ho => by
    have : o ≠ z := fun e => hzl (e ▸ ho)
    simpa using this)]
  simp
end Go.Proofs.YthgjpppbpgndcaaDoor
