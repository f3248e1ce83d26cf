import Derived.Test.YtekpmpghbeeeoaaGreatDoorUtfMath
/- What is well-formed is itself to and fro; what isn't is longer. -/
namespace Go.Proofs.YtekpmpghbeeeoaaGreatDoor
open Go.Lib

theorem getD0 (bs : List Int) (h : By bs) (i : Nat) : 0 ≤ bs.getD i 0 ∧ bs.getD i 0 < 256 := by
  rcases Nat.lt_or_ge i bs.length with hi | hi
  · exact h.at_ hi
  · rw [List.getD_eq_getElem?_getD, List.getElem?_eq_none hi]; decide

theorem dec_valid {bs : List Int} (h : By bs) : normR ((dec bs).1 : Int) = ((dec bs).1 : Int) := by
  have h0 := getD0 bs h 0
  unfold normR
  rw [if_neg]
  unfold dec decodeN
  repeat' split
  all_goals simp only
  all_goals omega

theorem take_shape (bs : List Int) (n : Nat) (hn : n ≤ bs.length) : bs.take n = (List.range n).map fun i => bs.getD i 0 := by
  refine List.ext_getElem (by simp; omega) (fun i h1 h2 => ?_)
  have hi : i < bs.length := by simp at h1; omega
  simp [List.getD_eq_getElem?_getD, hi]
theorem decodeN_good (n b0 b1 b2 b3 : Nat) (hg : (decodeN n b0 b1 b2 b3).1 ≠ 65533 ∨ 1 < (decodeN n b0 b1 b2 b3).2) :
    (b0 < 128 ∧ decodeN n b0 b1 b2 b3 = (b0, 1)) ∨
    (b0 / 32 = 6 ∧ b1 / 64 = 2 ∧ 128 ≤ b0 % 32 * 64 + b1 % 64 ∧ decodeN n b0 b1 b2 b3 = (b0 % 32 * 64 + b1 % 64, 2)) ∨
    (b0 / 16 = 14 ∧ b1 / 64 = 2 ∧ b2 / 64 = 2 ∧ 2048 ≤ b0 % 16 * 4096 + b1 % 64 * 64 + b2 % 64 ∧ (b0 % 16 * 4096 + b1 % 64 * 64 + b2 % 64 < 55296 ∨ 57344 ≤ b0 % 16 * 4096 + b1 % 64 * 64 + b2 % 64) ∧ decodeN n b0 b1 b2 b3 = (b0 % 16 * 4096 + b1 % 64 * 64 + b2 % 64, 3)) ∨
    (b0 / 8 = 30 ∧ b1 / 64 = 2 ∧ b2 / 64 = 2 ∧ b3 / 64 = 2 ∧ 65536 ≤ b0 % 8 * 262144 + b1 % 64 * 4096 + b2 % 64 * 64 + b3 % 64 ∧ b0 % 8 * 262144 + b1 % 64 * 4096 + b2 % 64 * 64 + b3 % 64 ≤ 1114111 ∧ decodeN n b0 b1 b2 b3 = (b0 % 8 * 262144 + b1 % 64 * 4096 + b2 % 64 * 64 + b3 % 64, 4)) := by
  unfold decodeN at hg ⊢
  by_cases c1 : b0 < 128
  · exact .inl ⟨c1, if_pos c1⟩
  rw [if_neg c1] at hg ⊢
  by_cases c2 : b0 / 32 = 6 ∧ (1 < n ∧ b1 / 64 = 2)
  · rw [if_pos c2] at hg ⊢
    by_cases c : b0 % 32 * 64 + b1 % 64 ≥ 128
    · exact .inr (.inl ⟨c2.1, c2.2.2, c, if_pos c⟩)
    · rw [if_neg c] at hg; exact absurd hg (by decide)
  rw [if_neg c2] at hg ⊢
  by_cases c3 : b0 / 16 = 14 ∧ (1 < n ∧ b1 / 64 = 2) ∧ (2 < n ∧ b2 / 64 = 2)
  · rw [if_pos c3] at hg ⊢
    by_cases c : b0 % 16 * 4096 + b1 % 64 * 64 + b2 % 64 ≥ 2048 ∧ (b0 % 16 * 4096 + b1 % 64 * 64 + b2 % 64 < 55296 ∨ (57344 ≤ b0 % 16 * 4096 + b1 % 64 * 64 + b2 % 64 ∧ b0 % 16 * 4096 + b1 % 64 * 64 + b2 % 64 ≤ 1114111))
    · exact .inr (.inr (.inl ⟨c3.1, c3.2.1.2, c3.2.2.2, c.1, c.2.imp id And.left, if_pos c⟩))
    · rw [if_neg c] at hg; exact absurd hg (by decide)
  rw [if_neg c3] at hg ⊢
  by_cases c4 : b0 / 8 = 30 ∧ (1 < n ∧ b1 / 64 = 2) ∧ (2 < n ∧ b2 / 64 = 2) ∧ (3 < n ∧ b3 / 64 = 2)
  · rw [if_pos c4] at hg ⊢
    by_cases c : b0 % 8 * 262144 + b1 % 64 * 4096 + b2 % 64 * 64 + b3 % 64 ≥ 65536 ∧ (b0 % 8 * 262144 + b1 % 64 * 4096 + b2 % 64 * 64 + b3 % 64 < 55296 ∨ (57344 ≤ b0 % 8 * 262144 + b1 % 64 * 4096 + b2 % 64 * 64 + b3 % 64 ∧ b0 % 8 * 262144 + b1 % 64 * 4096 + b2 % 64 * 64 + b3 % 64 ≤ 1114111))
    · exact .inr (.inr (.inr ⟨c4.1, c4.2.1.2, c4.2.2.1.2, c4.2.2.2.2, c.1, by omega, if_pos c⟩))
    · rw [if_neg c] at hg; exact absurd hg (by decide)
  rw [if_neg c4] at hg
  exact absurd hg (by decide)
theorem dec_good {bs : List Int} (h : By bs) (hne : bs ≠ []) (hg : isGood (dec bs) = true) : bs.take (dec bs).2 = enc ((dec bs).1 : Int) := by
  have h0 := getD0 bs h 0
  have h1 := getD0 bs h 1
  have h2 := getD0 bs h 2
  have h3 := getD0 bs h 3
  have hw := dec_width hne
  rw [take_shape bs _ hw.2.1]
  unfold isGood at hg
  rw [decide_eq_true_iff] at hg
  unfold dec at hg hw ⊢
  unfold enc
  rcases decodeN_good _ _ _ _ _ hg with ⟨c, e⟩ | ⟨c1, c2, c3, e⟩ | ⟨c1, c2, c3, c4, c5, e⟩ | ⟨c1, c2, c3, c4, c5, c6, e⟩
  all_goals rw [e]
  · rw [encodeRuneZ_one (by simp only; omega) (by simp only; omega)]
    show [bs.getD 0 0] = [((bs.getD 0 0).toNat : Int)]
    rw [Int.toNat_of_nonneg h0.1]
  · rw [encodeRuneZ_two (by simp only; omega) (by simp only; omega)]
    simp only [List.range_succ, List.range_zero, List.nil_append, List.map_cons, List.map_nil, List.cons_append]
    generalize bs.getD 0 0 = b0 at *
    generalize bs.getD 1 0 = b1 at *
    exact List.cons_eq_cons.2 ⟨by omega, List.cons_eq_cons.2 ⟨by omega, rfl⟩⟩
  · rw [encodeRuneZ_three (by simp only; omega)]
    simp only [List.range_succ, List.range_zero, List.nil_append, List.map_cons, List.map_nil, List.cons_append]
    generalize bs.getD 0 0 = b0 at *
    generalize bs.getD 1 0 = b1 at *
    generalize bs.getD 2 0 = b2 at *
    exact List.cons_eq_cons.2 ⟨by omega, List.cons_eq_cons.2 ⟨by omega, List.cons_eq_cons.2 ⟨by omega, rfl⟩⟩⟩
  · rw [encodeRuneZ_four (by simp only; omega) (by simp only; omega)]
    simp only [List.range_succ, List.range_zero, List.nil_append, List.map_cons, List.map_nil, List.cons_append]
    generalize bs.getD 0 0 = b0 at *
    generalize bs.getD 1 0 = b1 at *
    generalize bs.getD 2 0 = b2 at *
    generalize bs.getD 3 0 = b3 at *
    exact List.cons_eq_cons.2 ⟨by omega, List.cons_eq_cons.2 ⟨by omega, List.cons_eq_cons.2 ⟨by omega, List.cons_eq_cons.2 ⟨by omega, rfl⟩⟩⟩⟩

/-- What comes back is never shorter, and is longer where something is ill-formed. -/
theorem back_length : ∀ (n : Nat) (bs : List Int), bs.length = n → By bs → (allGood bs = true → encs' (runes bs) = bs) ∧ (allGood bs = false → bs.length < (encs' (runes bs)).length) := by
  intro n
  induction n using Nat.strongRecOn with
  | ind n ih =>
    intro bs hn hby
    by_cases h : bs = []
    · subst h; exact ⟨fun _ => rfl, fun h => (by cases h)⟩
    · have hw := dec_width h
      have hl := List.length_pos_iff.2 h
      obtain ⟨i1, i2⟩ := ih (bs.drop (dec bs).2).length (by rw [List.length_drop]; omega) (bs.drop (dec bs).2) rfl (fun x hx => hby x (List.mem_of_mem_drop hx))
      rw [runes_cons h, encs'_cons, allGood_cons h]
      have hdl : (bs.drop (dec bs).2).length = bs.length - (dec bs).2 := List.length_drop
      have hle : (bs.drop (dec bs).2).length ≤ (encs' (runes (bs.drop (dec bs).2))).length := by
        cases hg : allGood (bs.drop (dec bs).2) with
        | true => rw [i1 hg]; exact Nat.le_refl _
        | false => exact Nat.le_of_lt (i2 hg)
      cases hg : isGood (dec bs) with
      | true =>
        have ht := dec_good hby h hg
        rw [Bool.true_and, ← ht]
        refine ⟨fun hh => by rw [i1 hh, List.take_append_drop], fun hh => ?_⟩
        have := i2 hh
        rw [List.length_append, List.length_take]
        omega
      | false =>
        rw [Bool.false_and]
        refine ⟨fun hh => (by cases hh), fun _ => ?_⟩
        unfold isGood at hg
        rw [decide_eq_false_iff_not, not_or] at hg
        have h1 : (dec bs).1 = 65533 := by omega
        have h2 : (dec bs).2 = 1 := by omega
        rw [List.length_append, h1, show (enc ((65533 : Nat) : Int)).length = 3 from by decide]
        omega
theorem good_iff {bs : List Int} (h : By bs) : allGood bs = decide (bs = encs' (runes bs)) := by
  obtain ⟨h1, h2⟩ := back_length _ bs rfl h
  cases hg : allGood bs with
  | true => rw [decide_eq_true (h1 hg).symm]
  | false =>
    rw [decide_eq_false (fun e => ?_)]
    have := h2 hg
    rw [← e] at this
    omega
theorem runes_valid : ∀ (n : Nat) (bs : List Int), bs.length = n → By bs → (runes bs).map normR = runes bs := by
  intro n
  induction n using Nat.strongRecOn with
  | ind n ih =>
    intro bs hn hby
    by_cases h : bs = []
    · subst h; rfl
    · have hw := dec_width h
      rw [runes_cons h, List.map_cons, dec_valid hby, ih (bs.drop (dec bs).2).length (by have := List.length_pos_iff.2 h; rw [List.length_drop]; omega) _ rfl (fun x hx => hby x (List.mem_of_mem_drop hx))]
theorem runes_back {bs : List Int} (h : By bs) : runes (encs' (runes bs)) = runes bs := by rw [runes_encs, runes_valid _ bs rfl h]
theorem runes_i32 : ∀ (n : Nat) (bs : List Int), bs.length = n → By bs → ∀ x ∈ runes bs, 0 ≤ x ∧ x ≤ 1114111 := by
  intro n
  induction n using Nat.strongRecOn with
  | ind n ih =>
    intro bs hn hby x hx
    by_cases h : bs = []
    · subst h; cases hx
    · have hw := dec_width h
      rw [runes_cons h] at hx
      rcases List.mem_cons.1 hx with rfl | hx
      · have hv := dec_valid hby
        unfold normR at hv
        split at hv <;> omega
      · exact ih (bs.drop (dec bs).2).length (by have := List.length_pos_iff.2 h; rw [List.length_drop]; omega) _ rfl (fun x hx => hby x (List.mem_of_mem_drop hx)) x hx
theorem runes_length (bs : List Int) : (runes bs).length = (places bs).length := by simp [runes, places]
theorem places_chain : ∀ (n : Nat) (bs : List Int) (a : Nat), bs.length = n → (∀ s, (steps a bs)[0]? = some s → s.2.1 = a) ∧
    ∀ i s t, (steps a bs)[i]? = some s → (steps a bs)[i + 1]? = some t → s.2.1 < t.2.1 ∧ t.2.1 ≤ s.2.1 + 4 := by
  intro n
  induction n using Nat.strongRecOn with
  | ind n ih =>
    intro bs a hn
    by_cases h : bs = []
    · subst h; exact ⟨fun s hs => (by simp [steps_nil] at hs), fun i s t hs => (by simp [steps_nil] at hs)⟩
    · have hw := dec_width h
      obtain ⟨i1, i2⟩ := ih (bs.drop (dec bs).2).length (by have := List.length_pos_iff.2 h; rw [List.length_drop]; omega) (bs.drop (dec bs).2) (a + (dec bs).2) rfl
      rw [steps_cons a h]
      refine ⟨fun s hs => (by rw [List.getElem?_cons_zero, Option.some.injEq] at hs; rw [← hs]), fun i s t hs ht => ?_⟩
      cases i with
      | zero =>
        rw [List.getElem?_cons_succ] at ht
        have := i1 t ht
        rw [List.getElem?_cons_zero, Option.some.injEq] at hs
        rw [← hs]
        simp only
        omega
      | succ i =>
        simp only [List.getElem?_cons_succ] at hs ht
        exact i2 i s t hs ht
theorem place_lt : ∀ (n : Nat) (bs : List Int) (a : Nat), bs.length = n → ∀ s ∈ steps a bs, s.2.1 < a + bs.length := by
  intro n
  induction n using Nat.strongRecOn with
  | ind n ih =>
    intro bs a hn s hs
    by_cases h : bs = []
    · subst h; cases hs
    · have hw := dec_width h
      have hl := List.length_pos_iff.2 h
      rw [steps_cons a h] at hs
      rcases List.mem_cons.1 hs with rfl | hs
      · show a < a + bs.length
        omega
      · have := ih (bs.drop (dec bs).2).length (by rw [List.length_drop]; omega) (bs.drop (dec bs).2) (a + (dec bs).2) rfl s hs
        rw [List.length_drop] at this
        omega
/-- The places, one by one. -/
theorem places_get {bs : List Int} {k : Nat} (hk : k < (places bs).length) : 0 ≤ (places bs).getD k 0 ∧ (places bs).getD k 0 < bs.length ∧ (k = 0 → (places bs).getD k 0 = 0) ∧ (0 < k → (places bs).getD (k - 1) 0 < (places bs).getD k 0 ∧ (places bs).getD k 0 ≤ (places bs).getD (k - 1) 0 + 4) := by
  have hk' : k < (steps 0 bs).length := by simpa [places] using hk
  have hg : ∀ j (hj : j < (steps 0 bs).length), (places bs).getD j 0 = (((steps 0 bs)[j]).2.1 : Int) := fun j hj => by simp [places, List.getD_eq_getElem?_getD, hj]
  obtain ⟨c1, c2⟩ := places_chain _ bs 0 rfl
  have hlt := place_lt _ bs 0 rfl _ (List.getElem_mem hk')
  refine ⟨by rw [hg k hk']; omega, by rw [hg k hk']; omega, fun h0 => ?_, fun h0 => ?_⟩
  · subst h0
    rw [hg 0 hk', c1 _ (List.getElem?_eq_getElem hk')]
    rfl
  · obtain ⟨j, rfl⟩ : ∃ j, k = j + 1 := ⟨k - 1, by omega⟩
    have := c2 j _ _ (List.getElem?_eq_getElem (by omega)) (List.getElem?_eq_getElem hk')
    rw [Nat.add_sub_cancel, hg (j + 1) hk', hg j (by omega)]
    omega
end Go.Proofs.YtekpmpghbeeeoaaGreatDoor
