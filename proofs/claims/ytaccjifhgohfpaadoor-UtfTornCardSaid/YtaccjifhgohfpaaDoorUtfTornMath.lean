import Derived.Test.YtaccjifhgohfpaaDoorUtfMath
/- A sequence cut short is as many bytes of none as there are. -/
namespace Go.Proofs.YtaccjifhgohfpaaDoor
open Go.Lib

theorem steps_bad (a : Nat) {b : Int} {bs : List Int} (h : dec (b :: bs) = (65533, 1)) : steps a (b :: bs) = (65533, a, false) :: steps (a + 1) bs := by
  rw [steps_cons a (by simp), h]
  rfl
theorem steps_one (a : Nat) {t : Int} (ht : 0 ≤ t ∧ t < 128) : steps a [t] = [(t, a, true)] := by
  have h : dec [t] = (t.toNat, 1) := by
    rw [dec_one]
    unfold decodeN
    rw [if_pos (by omega)]
  rw [steps_cons a (by simp), h]
  simp only [List.drop_one, List.tail_cons, steps_nil]
  refine congrArg (· :: []) (Prod.ext (by simp only; omega) (Prod.ext rfl ?_))
  unfold isGood
  simp only [decide_eq_true_eq]
  omega
theorem dec_lone {b : Int} {bs : List Int} (hb : 128 ≤ b ∧ b < 192) : dec (b :: bs) = (65533, 1) := by
  rw [dec_one]
  unfold decodeN
  rw [if_neg (by omega), if_neg (by omega), if_neg (by omega), if_neg (by omega)]
theorem dec_cut1 {b t : Int} (hb : 128 ≤ b) (ht : 0 ≤ t ∧ t < 128) : dec [b, t] = (65533, 1) := by
  rw [dec_one]
  simp only [List.getD_cons_zero]
  unfold decodeN
  rw [if_neg (by omega), if_neg (by omega), if_neg (by omega), if_neg (by omega)]
theorem dec_cut2 {b c t : Int} (hb : 224 ≤ b) (ht : 0 ≤ t ∧ t < 128) : dec [b, c, t] = (65533, 1) := by
  rw [dec_one]
  simp only [List.getD_cons_zero, List.getD_cons_succ]
  unfold decodeN
  rw [if_neg (by omega), if_neg (by omega), if_neg (by omega), if_neg (by omega)]
theorem dec_cut3 {b c d t : Int} (hb : 240 ≤ b) (ht : 0 ≤ t ∧ t < 128) : dec [b, c, d, t] = (65533, 1) := by
  rw [dec_one]
  simp only [List.getD_cons_zero, List.getD_cons_succ]
  unfold decodeN
  rw [if_neg (by omega), if_neg (by omega), if_neg (by omega), if_neg (by omega)]

theorem torn_steps (r t : Int) (ht : 0 ≤ t ∧ t < 128) (k a : Nat) (hk : k < (enc r).length) :
    steps a ((enc r).take k ++ [t]) = ((List.range k).map fun i => ((65533 : Int), a + i, false)) ++ [(t, a + k, true)] := by
  have key2 : ∀ (b c : Int), 128 ≤ b → k < 2 → steps a ([b, c].take k ++ [t]) = ((List.range k).map fun i => ((65533 : Int), a + i, false)) ++ [(t, a + k, true)] := by
    intro b c hb hk
    obtain rfl | rfl : k = 0 ∨ k = 1 := by omega
    · exact steps_one a ht
    · exact (steps_bad a (dec_cut1 hb ht)).trans (congrArg _ (steps_one (a + 1) ht))
  have key3 : ∀ (b c d : Int), 224 ≤ b → (128 ≤ c ∧ c < 192) → k < 3 → steps a ([b, c, d].take k ++ [t]) = ((List.range k).map fun i => ((65533 : Int), a + i, false)) ++ [(t, a + k, true)] := by
    intro b c d hb hc hk
    obtain rfl | rfl | rfl : k = 0 ∨ k = 1 ∨ k = 2 := by omega
    · exact steps_one a ht
    · exact (steps_bad a (dec_cut1 (by omega) ht)).trans (congrArg _ (steps_one (a + 1) ht))
    · exact (steps_bad a (dec_cut2 hb ht)).trans (congrArg _ ((steps_bad (a + 1) (dec_lone hc)).trans (congrArg _ (steps_one (a + 2) ht))))
  have key4 : ∀ (b c d e : Int), 240 ≤ b → (128 ≤ c ∧ c < 192) → (128 ≤ d ∧ d < 192) → k < 4 → steps a ([b, c, d, e].take k ++ [t]) = ((List.range k).map fun i => ((65533 : Int), a + i, false)) ++ [(t, a + k, true)] := by
    intro b c d e hb hc hd hk
    obtain rfl | rfl | rfl | rfl : k = 0 ∨ k = 1 ∨ k = 2 ∨ k = 3 := by omega
    · exact steps_one a ht
    · exact (steps_bad a (dec_cut1 (by omega) ht)).trans (congrArg _ (steps_one (a + 1) ht))
    · exact (steps_bad a (dec_cut2 (by omega) ht)).trans (congrArg _ ((steps_bad (a + 1) (dec_lone hc)).trans (congrArg _ (steps_one (a + 2) ht))))
    · exact (steps_bad a (dec_cut3 hb ht)).trans (congrArg _ ((steps_bad (a + 1) (dec_lone hc)).trans (congrArg _ ((steps_bad (a + 2) (dec_lone hd)).trans (congrArg _ (steps_one (a + 3) ht))))))
  unfold enc at hk ⊢
  by_cases h1 : 0 ≤ r ∧ r ≤ 127
  · rw [encodeRuneZ_one h1.1 h1.2] at hk ⊢
    obtain rfl : k = 0 := by simpa using hk
    exact steps_one a ht
  by_cases h2 : 128 ≤ r ∧ r ≤ 2047
  · rw [encodeRuneZ_two h2.1 h2.2] at hk ⊢
    exact key2 _ _ (by omega) hk
  by_cases h3 : (2048 ≤ r ∧ r < 55296) ∨ (57343 < r ∧ r ≤ 65535)
  · rw [encodeRuneZ_three h3] at hk ⊢
    exact key3 _ _ _ (by omega) (by omega) hk
  by_cases h4 : 65536 ≤ r ∧ r ≤ 1114111
  · rw [encodeRuneZ_four h4.1 h4.2] at hk ⊢
    exact key4 _ _ _ _ (by omega) (by omega) (by omega) hk
  · rw [encodeRuneZ_bad (by omega)] at hk ⊢
    exact key3 _ _ _ (by omega) (by omega) hk

theorem torn_facts (r t : Int) (ht : 0 ≤ t ∧ t < 128) (k : Nat) (hk : k < (enc r).length) :
    (runes ((enc r).take k ++ [t])).length = k + 1 ∧ (places ((enc r).take k ++ [t])).length = k + 1 ∧ (runes ((enc r).take k ++ [t])).getD k 0 = t ∧ (places ((enc r).take k ++ [t])).getD k 0 = (k : Int) ∧
      (∀ i, i < k → (runes ((enc r).take k ++ [t])).getD i 0 = 65533 ∧ (places ((enc r).take k ++ [t])).getD i 0 = (i : Int)) ∧ allGood ((enc r).take k ++ [t]) = decide (k = 0) := by
  unfold runes places allGood
  rw [torn_steps r t ht k 0 hk]
  refine ⟨by simp, by simp, ?_, ?_, fun i hi => ⟨?_, ?_⟩, ?_⟩
  · simp [List.getD_eq_getElem?_getD]
  · simp [List.getD_eq_getElem?_getD]
  · simp [List.getD_eq_getElem?_getD, List.getElem?_append_left, hi]
  · simp [List.getD_eq_getElem?_getD, List.getElem?_append_left, hi]
  · rcases Nat.eq_zero_or_pos k with rfl | h
    · rfl
    · obtain ⟨m, rfl⟩ : ∃ m, k = m + 1 := ⟨k - 1, by omega⟩
      rw [decide_eq_false (by omega), List.range_succ_eq_map]
      rfl
theorem enc_low {t : Int} (ht : 0 ≤ t ∧ t < 128) : enc t = [t] := encodeRuneZ_one ht.1 (by omega)
end Go.Proofs.YtaccjifhgohfpaaDoor
