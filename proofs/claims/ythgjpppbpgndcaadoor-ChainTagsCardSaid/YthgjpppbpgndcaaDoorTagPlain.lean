import Derived.Test.YthgjpppbpgndcaaDoorTagCalls
/- Canonical tags: what they are made of; their parents. -/
namespace Go.Proofs.YthgjpppbpgndcaaDoor

theorem all256 {p : UInt8 → Prop} (h : ∀ n : Fin 256, p (UInt8.ofNat n.1)) (b : UInt8) : p b := by
  have := h ⟨b.toNat, b.toNat_lt⟩
  simpa using this
def noHy (p : List UInt8) : Prop := ∀ b ∈ p, isHy b = false
theorem low_low (b : UInt8) : lowU (lowU b) = lowU b := all256 (p := fun b => lowU (lowU b) = lowU b) (by decide +kernel) b
theorem hy_lowU (b : UInt8) : isHy (lowU b) = isHy b := all256 (p := fun b => isHy (lowU b) = isHy b) (by decide +kernel) b
theorem low_up (b : UInt8) : lowU (Lib.upperB b) = lowU b := all256 (p := fun b => lowU (Lib.upperB b) = lowU b) (by decide +kernel) b
theorem hy_is (b : UInt8) : isHy b = false ↔ b ≠ 45 ∧ b ≠ 95 := by
  unfold isHy
  rw [Bool.or_eq_false_iff, beq_eq_false_iff_ne, beq_eq_false_iff_ne]
theorem small_small (p : List UInt8) : smallL (smallL p) = smallL p := by
  unfold smallL
  rw [List.map_map]
  exact List.map_congr_left (fun b _ => low_low b)
theorem noHy_small {p : List UInt8} : noHy (smallL p) ↔ noHy p := by
  unfold noHy smallL
  constructor
  · intro h b hb
    rw [← hy_lowU]
    exact h _ (List.mem_map.2 ⟨b, hb, rfl⟩)
  · intro h b hb
    obtain ⟨c, hc, rfl⟩ := List.mem_map.1 hb
    rw [hy_lowU]
    exact h c hc
theorem noHy_45 {p : List UInt8} (h : noHy p) : (45 : UInt8) ∉ p := fun hm => absurd (h _ hm) (by decide)

theorem splitR_parts (l : List UInt8) : ∀ p ∈ splitR l, noHy p := by
  induction l with
  | nil =>
    intro p hp
    obtain rfl : p = [] := by simpa [splitR] using hp
    intro b hb
    cases hb
  | cons b l ih =>
    intro p hp
    unfold splitR at hp
    cases hb : isHy b with
    | true =>
      rw [hb, if_pos rfl] at hp
      rcases List.mem_cons.1 hp with rfl | h
      · intro c hc
        cases hc
      · exact ih p h
    | false =>
      rw [hb, if_neg (by decide)] at hp
      cases hs : splitR l with
      | nil => exact absurd hs (splitR_ne l)
      | cons q qs =>
        rw [hs] at hp ih
        rcases List.mem_cons.1 hp with rfl | h
        · intro c hc
          rcases List.mem_cons.1 hc with rfl | hc
          · exact hb
          · exact ih q (by simp) c hc
        · exact ih p (by simp [h])
theorem splitR_none {p : List UInt8} (h : noHy p) : splitR p = [p] := by
  induction p with
  | nil => rfl
  | cons b p ih =>
    unfold splitR
    rw [if_neg (by rw [h b (by simp)]; decide), ih (fun c hc => h c (by simp [hc]))]
theorem splitR_cons {p : List UInt8} (h : noHy p) (r : List UInt8) : splitR (p ++ 45 :: r) = p :: splitR r := by
  induction p with
  | nil => simp [splitR, isHy]
  | cons b p ih =>
    rw [List.cons_append]
    conv => lhs; unfold splitR
    rw [if_neg (by rw [h b (by simp)]; decide), ih (fun c hc => h c (by simp [hc]))]
theorem splitR_join : ∀ (ps : List (List UInt8)), ps ≠ [] → (∀ p ∈ ps, noHy p) → splitR (joinL ps) = ps
  | [], h, _ => absurd rfl h
  | [p], _, h => splitR_none (h p (by simp))
  | p :: q :: ps, _, h => by
    unfold joinL
    rw [splitR_cons (h p (by simp)), splitR_join (q :: ps) (by simp) (fun x hx => h x (by simp [hx]))]

theorem step_small {n : Nat} {out : List (List UInt8)} {t : List UInt8} {q : Nat × List UInt8} (ht : smallL t = t) (h : stepC n out t = some q) : smallL q.2 = t := by
  have hu : smallL (t.map Lib.upperB) = t := by
    conv => rhs; rw [← ht]
    unfold smallL
    rw [List.map_map]
    exact List.map_congr_left (fun b _ => low_up b)
  have hc : smallL (capU t) = t := by
    conv => rhs; rw [← ht, ← List.take_append_drop 1 t]
    unfold capU smallL
    rw [List.map_append, List.map_append, List.map_map]
    congr 1
    exact List.map_congr_left (fun b _ => low_up b)
  unfold stepC at h
  repeat' split at h
  all_goals first | (cases h; first | exact ht | exact hc | exact hu) | cases h
theorem loop_small : ∀ (ts : List (List UInt8)) (n : Nat) (out : List (List UInt8)) (p : Nat × List (List UInt8)), loopC n out ts = some p → (∀ t ∈ ts, smallL t = t) → ∃ us, p.2 = out ++ us ∧ us.map smallL = ts
  | [], n, out, p, h, _ => by cases h; exact ⟨[], by simp, rfl⟩
  | t :: ts, n, out, p, h, hs => by
    rw [loopC_cons] at h
    cases hq : stepC n out t with
    | none => rw [hq] at h; cases h
    | some q =>
      rw [hq] at h
      obtain ⟨us, h1, h2⟩ := loop_small ts q.1 (out ++ [q.2]) p h (fun x hx => hs x (by simp [hx]))
      refine ⟨q.2 :: us, by rw [h1]; simp, ?_⟩
      rw [List.map_cons, h2, step_small (hs t (by simp)) hq]

/-- A canonical tag's parts. -/
structure Tg (us : List (List UInt8)) : Prop where
  ne : us ≠ []
  hy : ∀ p ∈ us, noHy p
  loop : ∃ n, loopC 0 [] (us.map smallL) = some (n, us)
  len : (joinL us).length ≤ 40
theorem norm_root (l : List UInt8) : smallL l = rootL ↔ normL l = rootL := by
  unfold normL
  constructor
  · intro h
    rw [h]
    decide
  · intro h
    have hd : ∀ (a : List UInt8), (45 : UInt8) ∉ a.map dashU → a.map dashU = a := fun a ha => by
      conv => rhs; rw [← List.map_id a]
      refine List.map_congr_left (fun b hb => ?_)
      unfold dashU
      by_cases e : b = 95
      · exfalso
        refine ha (List.mem_map.2 ⟨b, hb, ?_⟩)
        unfold dashU
        rw [if_pos e]
      · rw [if_neg e]
        rfl
    rw [hd _ (by rw [h]; decide)] at h
    exact h
def canonN (m : List UInt8) : Option (List UInt8) := if 40 < m.length then none else if m = rootL then some rootL else (loopC 0 [] (splitL m)).map fun p => joinL p.2
theorem canon_norm (l : List UInt8) : canonL l = canonN (normL l) := by
  unfold canonL canonN
  rw [normL_length]
  by_cases h : smallL l = rootL
  · rw [if_pos h, if_pos ((norm_root l).1 h)]
  · rw [if_neg h, if_neg (fun e => h ((norm_root l).2 e))]
theorem Tg.split {us : List (List UInt8)} (h : Tg us) : splitL (joinL us) = us := splitL_join us h.ne (fun p hp => noHy_45 (h.hy p hp))
theorem Tg.norm {us : List (List UInt8)} (h : Tg us) : splitL (normL (joinL us)) = us.map smallL := by rw [splitR_small, splitR_join us h.ne h.hy]
theorem Tg.noroot {us : List (List UInt8)} (h : Tg us) : normL (joinL us) ≠ rootL := fun e => by
  obtain ⟨n, hl⟩ := h.loop
  rw [← h.norm, e, show splitL rootL = [rootL] from by decide +kernel] at hl
  rw [show loopC 0 [] [rootL] = none from by decide +kernel] at hl
  cases hl
theorem Tg.canon {us : List (List UInt8)} (h : Tg us) : canonL (joinL us) = some (joinL us) := by
  rw [canon_norm]
  unfold canonN
  have := h.len
  rw [if_neg (by rw [normL_length]; omega), if_neg h.noroot, h.norm]
  obtain ⟨n, hl⟩ := h.loop
  rw [hl]
  rfl
theorem Tg.not_root {us : List (List UInt8)} (h : Tg us) : joinL us ≠ rootL := fun e => h.noroot (by rw [e]; decide)
theorem canon_root : canonL rootL = some rootL := by decide +kernel
theorem canon_len {l c : List UInt8} (h : canonL l = some c) : l.length ≤ 40 := by
  unfold canonL at h
  by_cases h1 : 40 < l.length
  · rw [if_pos h1] at h; cases h
  · omega
theorem canon_cases {l c : List UInt8} (h : canonL l = some c) : c = rootL ∨ ∃ us, Tg us ∧ c = joinL us ∧ splitL (normL l) = us.map smallL := by
  have hlen := canon_len h
  rw [canon_norm] at h
  unfold canonN at h
  rw [if_neg (by rw [normL_length]; omega)] at h
  by_cases h2 : normL l = rootL
  · rw [if_pos h2] at h
    exact .inl (Option.some.inj h).symm
  rw [if_neg h2] at h
  cases hl : loopC 0 [] (splitL (normL l)) with
  | none => rw [hl] at h; cases h
  | some p =>
    rw [hl] at h
    have hc : joinL p.2 = c := Option.some.inj h
    have hsm : ∀ t ∈ splitL (normL l), smallL t = t ∧ noHy t := fun t ht => by
      rw [splitR_small] at ht
      obtain ⟨q, hq, rfl⟩ := List.mem_map.1 ht
      exact ⟨small_small q, noHy_small.2 (splitR_parts l q hq)⟩
    obtain ⟨us, h3, h4⟩ := loop_small _ 0 [] p hl (fun t ht => (hsm t ht).1)
    rw [List.nil_append] at h3
    refine .inr ⟨us, ⟨fun e => ?_, fun q hq => ?_, ⟨p.1, ?_⟩, ?_⟩, by rw [← hc, h3], h4.symm⟩
    · rw [e] at h4
      exact splitL_ne _ h4.symm
    · rw [← noHy_small]
      exact (hsm _ (by rw [← h4]; exact List.mem_map.2 ⟨q, hq, rfl⟩)).2
    · rw [h4, hl, ← h3]
    · have h5 := joinL_len (loopC_lens _ 0 [] p hl)
      rw [List.nil_append, joinL_split, normL_length, h3] at h5
      omega
theorem canon_again {l c : List UInt8} (h : canonL l = some c) : canonL c = some c := by
  rcases canon_cases h with rfl | ⟨us, hT, rfl, _⟩
  · exact canon_root
  · exact hT.canon
theorem isC_iff (l : List UInt8) : isC l = true ↔ canonL l = some l := by unfold isC; simp
theorem isC_cases {l : List UInt8} (h : isC l = true) : l = rootL ∨ ∃ us, Tg us ∧ l = joinL us := by
  rcases canon_cases ((isC_iff l).1 h) with h | ⟨us, h1, h2, _⟩
  · exact .inl h
  · exact .inr ⟨us, h1, h2⟩
theorem Tg.isC {us : List (List UInt8)} (h : Tg us) : isC (joinL us) = true := (isC_iff _).2 h.canon
theorem isC_root : isC rootL = true := (isC_iff _).2 canon_root
theorem parts_root : partsL rootL = [rootL] := by decide +kernel
theorem parent_root : parentL rootL = [] := by unfold parentL; rw [if_neg (by simp)]
theorem Tg.parts {us : List (List UInt8)} (h : Tg us) : partsL (joinL us) = us := by
  unfold partsL
  rw [h.isC, if_pos rfl, h.split]
theorem Tg.parent {us : List (List UInt8)} (h : Tg us) : parentL (joinL us) = if us.length = 1 then rootL else joinL us.dropLast := by
  unfold parentL
  rw [if_pos ⟨h.isC, h.not_root⟩, h.split]
theorem joinL_drop : ∀ (us : List (List UInt8)), (joinL us.dropLast).length ≤ (joinL us).length
  | [] => Nat.le_refl _
  | [p] => by simp [joinL]
  | [p, q] => by simp [joinL]
  | p :: q :: r :: us => by
    have ih := joinL_drop (q :: r :: us)
    rw [List.dropLast_cons_cons] at ih ⊢
    rw [List.dropLast_cons_cons]
    unfold joinL
    simp only [List.length_append, List.length_cons]
    omega
theorem Tg.drop {us : List (List UInt8)} (h : Tg us) (h2 : us.length ≠ 1) : Tg us.dropLast := by
  have hn := List.length_pos_iff.2 h.ne
  have hne : us.dropLast ≠ [] := fun e => by
    have := congrArg List.length e
    rw [List.length_dropLast] at this
    simp at this
    omega
  refine ⟨hne, fun p hp => h.hy p (List.dropLast_subset _ hp), ?_, Nat.le_trans (joinL_drop us) h.len⟩
  obtain ⟨n, hl⟩ := h.loop
  obtain ⟨x, hx⟩ : ∃ x, us = us.dropLast ++ [x] := ⟨us.getLast h.ne, (List.dropLast_concat_getLast h.ne).symm⟩
  generalize us.dropLast = vs at hx
  subst hx
  rw [List.map_append, loopC_append] at hl
  cases hv : loopC 0 [] (vs.map smallL) with
  | none => rw [hv] at hl; cases hl
  | some p =>
    rw [hv] at hl
    have hl' : loopC p.1 p.2 [smallL x] = some (n, vs ++ [x]) := hl
    rw [loopC_cons] at hl'
    cases hq : stepC p.1 p.2 (smallL x) with
    | none => rw [hq] at hl'; cases hl'
    | some q =>
      rw [hq] at hl'
      have he : some (q.1, p.2 ++ [q.2]) = some (n, vs ++ [x]) := hl'
      have h3 := congrArg Prod.snd (Option.some.inj he)
      have h4 : p.2 = vs := (List.append_inj' h3 rfl).1
      exact ⟨p.1, by rw [← h4]⟩
/-- Case turned, hyphens as low lines. -/
def turnU (b : UInt8) : UInt8 := if 97 ≤ b.toNat ∧ b.toNat ≤ 122 then b - 32 else if 65 ≤ b.toNat ∧ b.toNat ≤ 90 then b + 32 else if b = 45 then 95 else b
theorem turn_norm (b : UInt8) : dashU (lowU (turnU b)) = dashU (lowU b) := all256 (p := fun b => dashU (lowU (turnU b)) = dashU (lowU b)) (by decide +kernel) b
theorem canon_turn (l : List UInt8) : canonL (l.map turnU) = canonL l := by
  rw [canon_norm, canon_norm]
  congr 1
  unfold normL smallL
  rw [List.map_map, List.map_map, List.map_map]
  exact List.map_congr_left (fun b _ => turn_norm b)
end Go.Proofs.YthgjpppbpgndcaaDoor
