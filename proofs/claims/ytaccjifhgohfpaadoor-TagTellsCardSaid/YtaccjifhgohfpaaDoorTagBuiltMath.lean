import Derived.Test.YtaccjifhgohfpaaDoorTagPart
/- Tags put together of letters: what Canon tells of them. -/
namespace Go.Proofs.YtaccjifhgohfpaaDoor

/-- Letters, small ones. -/
def lows (p : List UInt8) : Prop := ∀ b ∈ p, isLow b = true
def ups (p : List UInt8) : Prop := ∀ b ∈ p, isUp b = true
theorem part_low (n : UInt8) (k : Nat) : lows (partL n 97 k) := fun b hb => by
  unfold partL at hb
  obtain ⟨i, _, rfl⟩ := List.mem_map.1 hb
  exact all256 (p := fun b => isLow (97 + b % 26) = true) (by decide +kernel) (n + UInt8.ofNat i)
theorem part_up (n : UInt8) (k : Nat) : ups (partL n 65 k) := fun b hb => by
  unfold partL at hb
  obtain ⟨i, _, rfl⟩ := List.mem_map.1 hb
  exact all256 (p := fun b => isUp (65 + b % 26) = true) (by decide +kernel) (n + UInt8.ofNat i)
theorem low_same (b : UInt8) (h : isLow b = true) : lowU b = b ∧ isHy b = false ∧ isDig b = false := by
  have := all256 (p := fun b => isLow b = true → lowU b = b ∧ isHy b = false ∧ isDig b = false) (by decide +kernel) b
  exact this h
theorem up_same (b : UInt8) (h : isUp b = true) : isLow (lowU b) = true ∧ isHy b = false ∧ Lib.upperB (lowU b) = b := by
  have := all256 (p := fun b => isUp b = true → isLow (lowU b) = true ∧ isHy b = false ∧ Lib.upperB (lowU b) = b) (by decide +kernel) b
  exact this h
theorem lows.small {p : List UInt8} (h : lows p) : smallL p = p := by
  unfold smallL
  conv => rhs; rw [← List.map_id p]
  exact List.map_congr_left (fun b hb => (low_same b (h b hb)).1)
theorem lows.hy {p : List UInt8} (h : lows p) : noHy p := fun b hb => (low_same b (h b hb)).2.1
theorem lows.all {p : List UInt8} (h : lows p) (a b : Nat) : allP isLow a b p = (decide (a ≤ p.length) && decide (p.length ≤ b)) := by
  unfold allP
  rw [List.all_eq_true.2 h, Bool.true_and]
theorem lows.ei {p : List UInt8} (h : lows p) (a b : Nat) : allP isEi a b p = (decide (a ≤ p.length) && decide (p.length ≤ b)) := by
  unfold allP
  rw [List.all_eq_true.2 (fun b hb => by unfold isEi; rw [h b hb]; rfl), Bool.true_and]
theorem lows.dig {p : List UInt8} (h : lows p) (a b : Nat) (hp : p ≠ []) : allP isDig a b p = false := by
  unfold allP
  cases p with
  | nil => exact absurd rfl hp
  | cons x p =>
    have := (low_same x (h x (by simp))).2.2
    simp [this]
theorem lows.variant {p : List UInt8} (h : lows p) : variantB p = (decide (5 ≤ p.length) && decide (p.length ≤ 8)) := by
  unfold variantB
  rw [h.ei, h.ei]
  have : isDig (p.headD 0) = false := by
    cases p with
    | nil => decide
    | cons x p => exact (low_same x (h x (by simp))).2.2
  rw [this, Bool.and_false, Bool.or_false]
theorem ups.low {p : List UInt8} (h : ups p) : lows (smallL p) := fun b hb => by
  unfold smallL at hb
  obtain ⟨c, hc, rfl⟩ := List.mem_map.1 hb
  exact (up_same c (h c hc)).1
theorem ups.hy {p : List UInt8} (h : ups p) : noHy p := fun b hb => (up_same b (h b hb)).2.1
theorem ups.up {p : List UInt8} (h : ups p) : (smallL p).map Lib.upperB = p := by
  unfold smallL
  rw [List.map_map]
  conv => rhs; rw [← List.map_id p]
  exact List.map_congr_left (fun b hb => (up_same b (h b hb)).2.2)

/-! ### single steps over small letters -/
theorem st_lang {t : List UInt8} (h : lows t) (h2 : 2 ≤ t.length) (h3 : t.length ≤ 3) (out : List (List UInt8)) : stepC 0 out t = some (1, t) := by
  unfold stepC
  rw [if_pos rfl, h.all, if_pos (by simp; omega)]
theorem st_nolang {t : List UInt8} (h : allP isLow 2 3 t = false) (out : List (List UInt8)) : stepC 0 out t = none := by
  unfold stepC
  rw [if_pos rfl, h]
  rfl
theorem st_script {t : List UInt8} (h : lows t) (h4 : t.length = 4) (out : List (List UInt8)) : stepC 1 out t = some (2, capU t) := by
  unfold stepC
  rw [if_neg (by decide), if_pos ⟨rfl, by rw [h.all, h4]; decide⟩]
theorem st_region {n : Nat} (hn : n = 1 ∨ n = 2) {t : List UInt8} (h : lows t) (h2 : t.length = 2) (out : List (List UInt8)) : stepC n out t = some (3, t.map Lib.upperB) :=
  step_region n hn out t (fun _ => by rw [h.all, h2]; decide) (by rw [h.all, h2]; rfl)
theorem st_variant {n : Nat} (hn : n = 1 ∨ n = 2 ∨ n = 3) {t : List UInt8} (h : lows t) (h5 : 5 ≤ t.length) (h8 : t.length ≤ 8) (out : List (List UInt8)) (hc : (out.drop 1).contains t = false) : stepC n out t = some (3, t) := by
  have h3 : stepC 3 out t = some (3, t) := by
    unfold stepC
    rw [if_neg (by decide), if_neg (by omega), if_neg (by omega), if_pos ⟨by rw [h.variant]; simp; omega, hc⟩]
  have hne : t ≠ [] := fun e => by rw [e] at h5; simp at h5
  rcases hn with rfl | rfl | rfl
  · rw [step23 1 (.inl rfl) out t (fun _ => by rw [h.all]; simp; omega) (by rw [h.all, h.dig _ _ hne]; simp; omega)]; exact h3
  · rw [step23 2 (.inr rfl) out t (fun e => absurd e (by decide)) (by rw [h.all, h.dig _ _ hne]; simp; omega)]; exact h3
  · exact h3
theorem st3_none {t : List UInt8} (out : List (List UInt8)) (h : variantB t = false ∨ (out.drop 1).contains t = true) : stepC 3 out t = none := by
  unfold stepC
  rw [if_neg (by decide), if_neg (by omega), if_neg (by omega), if_neg (by rintro ⟨h1, h2⟩; rcases h with h | h; · rw [h] at h1; cases h1
                                                                           · rw [h] at h2; cases h2)]

/-- What the parts tell, whichever way they were written. -/
theorem canon_parts (us : List (List UInt8)) (hne : us ≠ []) (hy : ∀ p ∈ us, noHy p) (hl : (joinL us).length ≤ 40) (hr : loopC 0 [] (us.map smallL) = none) (hnr : smallL (joinL us) ≠ rootL) : canonL (joinL us) = none := by
  unfold canonL
  rw [if_neg (by omega), if_neg hnr, splitR_small, splitR_join us hne hy, hr]
  rfl
/-- It begins with a language: no root. -/
theorem no_root {p : List UInt8} {ps : List (List UInt8)} (hy : ∀ q ∈ p :: ps, noHy q) (hp : p.length ≤ 3) : smallL (joinL (p :: ps)) ≠ rootL := fun e => by
  have h := splitR_small (joinL (p :: ps))
  rw [splitR_join _ (by simp) hy, (norm_root _).1 e, show splitL rootL = [rootL] from by decide +kernel, List.map_cons] at h
  have := congrArg List.length (List.cons.inj h).1
  rw [small_len] at this
  have h4 : rootL.length = 4 := rfl
  omega
theorem loop_one (n : Nat) (out : List (List UInt8)) (t : List UInt8) (ts : List (List UInt8)) (m : Nat) (t' : List UInt8) (h : stepC n out t = some (m, t')) : loopC n out (t :: ts) = loopC m (out ++ [t']) ts := by
  rw [loopC_cons, h]
  rfl
theorem loop_stop (n : Nat) (out : List (List UInt8)) (t : List UInt8) (ts : List (List UInt8)) (h : stepC n out t = none) : loopC n out (t :: ts) = none := by
  rw [loopC_cons, h]
  rfl
theorem scr_facts {a b : List UInt8} (ha : ups a) (h1 : a.length = 1) (hb : lows b) (h3 : b.length = 3) : lows (smallL (a ++ b)) ∧ (smallL (a ++ b)).length = 4 ∧ capU (smallL (a ++ b)) = a ++ b ∧ noHy (a ++ b) := by
  have e : smallL (a ++ b) = smallL a ++ b := by
    unfold smallL
    rw [List.map_append]
    congr 1
    exact hb.small
  have hl : (smallL a).length = 1 := by rw [small_len, h1]
  refine ⟨fun x hx => ?_, by rw [small_len, List.length_append]; omega, ?_, fun x hx => ?_⟩
  · rw [e] at hx
    rcases List.mem_append.1 hx with h | h
    · exact ha.low x h
    · exact hb x h
  · rw [e]
    unfold capU
    rw [List.take_append_of_le_length (by omega), List.take_of_length_le (by omega), ha.up, List.drop_append_of_le_length (by omega), List.drop_eq_nil_of_le (by omega), List.nil_append]
  · rcases List.mem_append.1 hx with h | h
    · exact ha.hy x h
    · exact hb.hy x h

/-- The parts that are there. -/
def usB (L Sc R V : List UInt8) (s r v : Bool) : List (List UInt8) := L :: ((if s then [Sc] else []) ++ (if r then [R] else []) ++ (if v then [V] else []))
theorem usB_len (L Sc R V : List UInt8) (s r v : Bool) (h1 : L.length ≤ 3) (h2 : Sc.length = 4) (h3 : R.length = 2) (h4 : V.length ≤ 8) : (joinL (usB L Sc R V s r v)).length ≤ 20 := by
  cases s <;> cases r <;> cases v <;> simp [usB, joinL] <;> omega
set_option linter.unusedSimpArgs false in
theorem built_tg {L a b R V : List UInt8} (hL : lows L) (hL2 : 2 ≤ L.length) (hL3 : L.length ≤ 3) (ha : ups a) (h1 : a.length = 1) (hb : lows b) (h3 : b.length = 3) (hR : ups R) (hR2 : R.length = 2) (hV : lows V) (hV5 : 5 ≤ V.length) (hV8 : V.length ≤ 8) (s r v : Bool) : Tg (usB L (a ++ b) R V s r v) := by
  obtain ⟨c1, c2, c3, c4⟩ := scr_facts ha h1 hb h3
  have hsc : (a ++ b).length = 4 := by rw [List.length_append]; omega
  refine ⟨by simp [usB], fun p hp => ?_, ?_, by have := usB_len L (a ++ b) R V s r v hL3 hsc hR2 hV8; omega⟩
  · have : p = L ∨ p = a ++ b ∨ p = R ∨ p = V := by
      cases s <;> cases r <;> cases v <;> simp [usB] at hp ⊢ <;> rcases hp with h | h | h | h <;> simp_all
    rcases this with rfl | rfl | rfl | rfl
    · exact hL.hy
    · exact c4
    · exact hR.hy
    · exact hV.hy
  · have sL := st_lang (t := smallL L) (by rw [hL.small]; exact hL) (by rw [small_len]; exact hL2) (by rw [small_len]; exact hL3) []
    rw [hL.small] at sL
    have sS := st_script c1 c2
    rw [c3] at sS
    have sR := fun n hn out => st_region (n := n) hn hR.low (by rw [small_len]; exact hR2) out
    rw [hR.up] at sR
    have sV := fun n hn out hc => st_variant (n := n) hn hV hV5 hV8 out hc
    have n1 : a ++ b ≠ V := fun e => by rw [e] at hsc; omega
    have n2 : R ≠ V := fun e => by rw [e] at hR2; omega
    have n1' : V ≠ a ++ b := fun e => n1 e.symm
    have n2' : V ≠ R := fun e => n2 e.symm
    have vs := hV.small
    have ls := hL.small
    unfold usB
    rw [List.map_cons, ls, loop_one 0 [] L _ 1 L sL]
    cases s <;> cases r <;> cases v
    · exact ⟨1, rfl⟩
    · simp only [List.map_append, List.map_cons, List.map_nil, Bool.false_eq_true, if_false, if_true, List.nil_append, vs]
      exact ⟨3, by rw [loop_one _ _ V _ 3 V (sV 1 (.inl rfl) _ (by simp))]; rfl⟩
    · simp only [List.map_append, List.map_cons, List.map_nil, Bool.false_eq_true, if_false, if_true, List.nil_append, List.append_nil]
      exact ⟨3, by rw [loop_one _ _ _ _ 3 R (sR 1 (.inl rfl) _)]; rfl⟩
    · simp only [List.map_append, List.map_cons, List.map_nil, Bool.false_eq_true, if_false, if_true, List.nil_append, vs, List.cons_append]
      exact ⟨3, by rw [loop_one _ _ _ _ 3 R (sR 1 (.inl rfl) _), loop_one _ _ V _ 3 V (sV 3 (.inr (.inr rfl)) _ (by simp [n2']))]; rfl⟩
    · simp only [List.map_append, List.map_cons, List.map_nil, Bool.false_eq_true, if_false, if_true, List.append_nil]
      exact ⟨2, by rw [loop_one _ _ _ _ 2 (a ++ b) (sS _)]; rfl⟩
    · simp only [List.map_cons, List.map_nil, Bool.false_eq_true, if_false, if_true, List.append_nil, vs, List.cons_append, List.nil_append]
      exact ⟨3, by rw [loop_one _ _ _ _ 2 (a ++ b) (sS _), loop_one _ _ V _ 3 V (sV 2 (.inr (.inl rfl)) _ (by simp [n1']))]; rfl⟩
    · simp only [List.map_cons, List.map_nil, Bool.false_eq_true, if_false, if_true, List.append_nil, List.cons_append, List.nil_append]
      exact ⟨3, by rw [loop_one _ _ _ _ 2 (a ++ b) (sS _), loop_one _ _ _ _ 3 R (sR 2 (.inr rfl) _)]; rfl⟩
    · simp only [List.map_cons, List.map_nil, if_true, vs, List.cons_append, List.nil_append]
      exact ⟨3, by rw [loop_one _ _ _ _ 2 (a ++ b) (sS _), loop_one _ _ _ _ 3 R (sR 2 (.inr rfl) _), loop_one _ _ V _ 3 V (sV 3 (.inr (.inr rfl)) _ (by simp [n1', n2']))]; rfl⟩
/-- Three orders that are none. -/
theorem built_no {L a b R V : List UInt8} (hL : lows L) (hL2 : 2 ≤ L.length) (hL3 : L.length ≤ 3) (ha : ups a) (h1 : a.length = 1) (hb : lows b) (h3 : b.length = 3) (hR : ups R) (hR2 : R.length = 2) (hV : lows V) (hV5 : 5 ≤ V.length) (hV8 : V.length ≤ 8) :
    canonL (joinL [L, R, a ++ b]) = none ∧ canonL (joinL [L, V, R]) = none ∧ canonL (joinL [L, V, V]) = none := by
  obtain ⟨c1, c2, c3, c4⟩ := scr_facts ha h1 hb h3
  have hsc : (a ++ b).length = 4 := by rw [List.length_append]; omega
  have sL := st_lang hL hL2 hL3 []
  have sV := st_variant (n := 1) (.inl rfl) hV hV5 hV8 ([] ++ [L]) (by simp)
  have sR := st_region (n := 1) (.inl rfl) hR.low (by rw [small_len]; exact hR2) ([] ++ [L])
  have mk : ∀ p q, noHy p → noHy q → p.length ≤ 8 → q.length ≤ 8 → loopC 0 [] ([L, p, q].map smallL) = none → canonL (joinL [L, p, q]) = none := fun p q hp hq h5 h6 h => by
    have hy : ∀ x ∈ [L, p, q], noHy x := fun x hx => by
      rcases List.mem_cons.1 hx with rfl | hx
      · exact hL.hy
      rcases List.mem_cons.1 hx with rfl | hx
      · exact hp
      · obtain rfl : x = q := by simpa using hx
        exact hq
    exact canon_parts _ (by simp) hy (by simp [joinL]; omega) h (no_root hy hL3)
  refine ⟨mk _ _ hR.hy c4 (by omega) (by omega) ?_, mk _ _ hV.hy hR.hy hV8 (by omega) ?_, mk _ _ hV.hy hV.hy hV8 hV8 ?_⟩
  · simp only [List.map_cons, List.map_nil, hL.small]
    rw [loop_one 0 [] L _ 1 L sL, loop_one _ _ _ _ 3 _ sR, loop_stop]
    exact st3_none _ (.inl (by rw [c1.variant, c2]; decide))
  · simp only [List.map_cons, List.map_nil, hL.small, hV.small]
    rw [loop_one 0 [] L _ 1 L sL, loop_one _ _ _ _ 3 _ sV, loop_stop]
    exact st3_none _ (.inl (by rw [hR.low.variant, small_len, hR2]; decide))
  · simp only [List.map_cons, List.map_nil, hL.small, hV.small]
    rw [loop_one 0 [] L _ 1 L sL, loop_one _ _ _ _ 3 _ sV, loop_stop]
    exact st3_none _ (.inr (by simp))
end Go.Proofs.YtaccjifhgohfpaaDoor
