import Derived.Test.YtekpmpghbeeeoaaGreatDoorLexMath
/- The plain laws of scanning: a text's signs, one by one. -/
namespace Go.Proofs.YtekpmpghbeeeoaaGreatDoor

theorem wordL_len : ∀ (k : Nat) (l b : List UInt8) (n : Nat) (x : List UInt8 × Nat), l.length ≤ k → wordL l b n = some x → n + 1 ≤ x.2 ∧ x.2 ≤ n + l.length := by
  intro k
  induction k with
  | zero =>
    intro l b n x hk h
    obtain rfl := List.eq_nil_of_length_eq_zero (Nat.le_zero.1 hk)
    rw [wordL] at h
    cases h
  | succ k ih =>
    intro l b n x hk h
    match l, hk, h with
    | [], _, h => rw [wordL] at h; cases h
    | c :: r, hk, h =>
      rw [wordL.eq_def] at h
      simp only at h
      rw [List.length_cons] at hk ⊢
      split at h
      · injection h with h; subst h; exact ⟨Nat.le_refl _, by simp only; omega⟩
      · split at h
        · cases h
        · split at h
          · match r, h, hk with
            | [], h, _ => cases h
            | e :: r', h, hk =>
              simp only at h
              split at h
              · have := ih _ _ _ _ (by simp at hk; omega) h
                rw [List.length_cons]
                omega
              · cases h
          · have := ih _ _ _ _ (by omega) h
            omega
/-- What a sign's bytes are. -/
def OkOne (l : List UInt8) (o : One) : Prop := 1 ≤ o.n ∧ o.n ≤ l.length ∧ 1 ≤ o.kind ∧ o.kind ≤ 8
theorem oneT_len {l : List UInt8} {o : One} (h : oneT l = some o) : OkOne l o := by
  match l, h with
  | [], h => cases h
  | c :: rest, h =>
    simp only [oneT] at h
    unfold OkOne
    rw [List.length_cons]
    split at h
    · injection h with h; subst h; simp
    split at h
    · unfold nameT at h
      split at h
      · injection h with h; subst h
        have := cnt_le eid rest
        simp only
        omega
      · cases h
    split at h
    · rename_i hd
      unfold numT at h
      split at h
      · cases h
      · injection h with h; subst h
        have := cnt_le dgt (c :: rest)
        rw [List.length_cons] at this
        have := cnt_yes hd rest
        simp only
        omega
    split at h
    · rename_i hd
      unfold identT at h
      injection h with h; subst h
      have := cnt_le idn (c :: rest)
      rw [List.length_cons] at this
      have := cnt_yes (p := idn) (b := c) (by unfold idn; rw [hd]; rfl) rest
      simp only
      omega
    split at h
    · unfold wordT at h
      cases hx : wordL rest [] 1 with
      | none => rw [hx] at h; cases h
      | some x =>
        rw [hx] at h
        injection h with h; subst h
        have := wordL_len _ rest [] 1 x (Nat.le_refl _) hx
        simp only
        omega
    split at h
    · unfold charT at h
      split at h
      · rename_i hc
        have hl : 3 ≤ rest.length := by
          have := congrArg List.length hc
          simp at this
          omega
        unfold escT at h
        split at h
        · rename_i h2
          injection h with h; subst h
          have h3 : cnt hexd (rest.drop 3) < (rest.drop 3).length := by
            rcases Nat.lt_or_ge (cnt hexd (rest.drop 3)) (rest.drop 3).length with h' | h'
            · exact h'
            · have := h2.2.2.1; rw [List.getElem?_eq_none h'] at this; cases this
          rw [List.length_drop] at h3
          simp only
          omega
        · cases h
      · split at h
        · cases h
        · rename_i hne
          split at h
          · cases h
          · injection h with h; subst h
            have := dec_width (nl_ne hne)
            rw [nl_length] at this
            simp only
            omega
    split at h
    · unfold propT at h
      split at h
      · rename_i h2
        injection h with h; subst h
        have h3 : cnt ltr rest < rest.length := by
          rcases Nat.lt_or_ge (cnt ltr rest) rest.length with h' | h'
          · exact h'
          · have := h2.2; rw [List.getElem?_eq_none h'] at this; cases this
        simp only
        omega
      · cases h
    · unfold signT at h
      split at h
      · rename_i h2
        injection h with h; subst h
        have : 1 ≤ rest.length := by
          rcases h2 with h2 | h2
          all_goals
            have := congrArg List.length h2
            simp at this
            omega
        simp only
        omega
      · simp only at h
        split at h
        · injection h with h; subst h; simp
        · cases h
/-- No sign begins with what counts for nothing. -/
theorem oneT_head {l : List UInt8} {o : One} (h : oneT l = some o) : blankN l = 0 := by
  match l, h with
  | [], h => rfl
  | c :: rest, h =>
    have key : blk c = false ∧ c ≠ 35 := by
      have hx : ∀ b : UInt8, b = 32 ∨ b = 9 ∨ b = 13 ∨ b = 35 → oneT (b :: rest) = none := by
        rintro b (rfl | rfl | rfl | rfl) <;> simp [oneT, dgt, ltr, signT, signs]
      constructor
      · cases hb : blk c with
        | false => rfl
        | true =>
          unfold blk at hb
          simp only [Bool.or_eq_true, beq_iff_eq] at hb
          rw [hx c (by rcases hb with (h1 | h1) | h1; exact .inl h1; exact .inr (.inl h1); exact .inr (.inr (.inl h1)))] at h
          cases h
      · intro e
        rw [hx c (.inr (.inr (.inr e)))] at h
        cases h
    unfold blankN
    rw [cnt_no key.1, List.drop_zero, List.head?_cons, if_neg (by simpa using key.2)]
theorem tkF_fuel : ∀ (f g a : Nat) (l : List UInt8), l.length ≤ f → l.length ≤ g → tkF f a l = tkF g a l := by
  intro f
  induction f with
  | zero =>
    intro g a l h _
    obtain rfl := List.eq_nil_of_length_eq_zero (Nat.le_zero.1 h)
    cases g with
    | zero => rfl
    | succ g => rw [tkF, tkF]; rfl
  | succ f ih =>
    intro g a l hf hg
    cases g with
    | zero =>
      obtain rfl := List.eq_nil_of_length_eq_zero (Nat.le_zero.1 hg)
      rw [tkF, tkF]; rfl
    | succ g =>
      rw [tkF, tkF]
      split
      · rfl
      · cases h : oneT (l.drop (blankN l)) with
        | none => rfl
        | some o =>
          have hl := oneT_len h
          unfold OkOne at hl
          rw [List.length_drop] at hl
          simp only
          rw [ih g _ _ (by simp only [List.length_drop]; omega) (by simp only [List.length_drop]; omega)]
theorem tk_end {a : Nat} {l : List UInt8} (h : l.drop (blankN l) = []) : tk a l = ([], none) := by
  unfold tk
  cases l with
  | nil => rfl
  | cons c r => rw [List.length_cons, tkF, if_pos h]
theorem tk_none {a : Nat} {l : List UInt8} (h : l.drop (blankN l) ≠ []) (ho : oneT (l.drop (blankN l)) = none) : tk a l = ([], some (a + blankN l)) := by
  unfold tk
  cases l with
  | nil => simp at h
  | cons c r => rw [List.length_cons, tkF, if_neg h, ho]
theorem tk_some {a : Nat} {l : List UInt8} {o : One} (ho : oneT (l.drop (blankN l)) = some o) :
    tk a l = (⟨o.kind, a + blankN l, o.text, o.r⟩ :: (tk (a + blankN l + o.n) ((l.drop (blankN l)).drop o.n)).1, (tk (a + blankN l + o.n) ((l.drop (blankN l)).drop o.n)).2) := by
  unfold tk
  have hl := oneT_len ho
  unfold OkOne at hl
  cases l with
  | nil => simp at hl; omega
  | cons c r =>
    have hne : (c :: r).drop (blankN (c :: r)) ≠ [] := by
      intro e
      rw [e] at ho
      cases ho
    rw [List.length_drop, List.length_cons] at hl
    rw [List.length_cons, tkF, if_neg hne, ho]
    simp only
    rw [tkF_fuel r.length _ _ _ (by simp only [List.length_drop, List.length_cons]; omega) (Nat.le_refl _)]
theorem tk_congr {a b : Nat} {l m : List UInt8} (h1 : l.drop (blankN l) = m.drop (blankN m)) (h2 : a + blankN l = b + blankN m) : tk a l = tk b m := by
  by_cases he : l.drop (blankN l) = []
  · rw [tk_end he, tk_end (h1 ▸ he)]
  · cases ho : oneT (l.drop (blankN l)) with
    | none => rw [tk_none he ho, tk_none (h1 ▸ he) (h1 ▸ ho), h2]
    | some o => rw [tk_some ho, tk_some (l := m) (by rw [← h1]; exact ho), h1, h2]
theorem tk_nil (a : Nat) : tk a [] = ([], none) := rfl
theorem blankN_cons {c : UInt8} (h : blk c = true) (l : List UInt8) : blankN (c :: l) = blankN l + 1 := by
  unfold blankN
  rw [cnt_yes h, List.drop_succ_cons]
  split <;> omega
theorem tk_blank {c : UInt8} (h : blk c = true) (a : Nat) (l : List UInt8) : tk a (c :: l) = tk (a + 1) l :=
  tk_congr (by rw [blankN_cons h, List.drop_succ_cons]) (by rw [blankN_cons h]; omega)
theorem blankN_hash (l : List UInt8) : blankN (35 :: l) = cnt noLine l + 1 := by
  unfold blankN
  rw [cnt_no (by decide), List.drop_zero, List.head?_cons, if_pos rfl, cnt_yes (by decide)]
  omega
theorem blankN_line (l : List UInt8) : blankN (10 :: l) = 0 := by
  unfold blankN
  rw [cnt_no (by decide), List.drop_zero, List.head?_cons, if_neg (by decide)]
theorem drop_noLine (l : List UInt8) : l.drop (cnt noLine l) = [] ∨ ∃ r, l.drop (cnt noLine l) = 10 :: r := by
  rcases Nat.lt_or_ge (cnt noLine l) l.length with h | h
  · right
    have h1 := cnt_at h
    rw [List.drop_eq_getElem_cons h]
    have key : ∀ b : UInt8, noLine b = false → b = 10 := fun b hb => by unfold noLine at hb; simpa using hb
    rw [key _ h1]
    exact ⟨_, rfl⟩
  · left
    exact List.drop_eq_nil_of_le h
theorem tk_hash (a : Nat) (l : List UInt8) : tk a (35 :: l) = tk (a + 1 + cnt noLine l) (l.drop (cnt noLine l)) := by
  have hz : blankN (l.drop (cnt noLine l)) = 0 := by
    rcases drop_noLine l with h | ⟨r, h⟩
    · rw [h]; rfl
    · rw [h, blankN_line]
  exact tk_congr (by rw [blankN_hash, List.drop_succ_cons, hz, List.drop_zero]) (by rw [blankN_hash, hz]; omega)
theorem tk_tok {p t : List UInt8} {o : One} (a : Nat) (ho : oneT (p ++ t) = some o) (hn : o.n = p.length) :
    tk a (p ++ t) = (⟨o.kind, a, o.text, o.r⟩ :: (tk (a + p.length) t).1, (tk (a + p.length) t).2) := by
  have hb := oneT_head ho
  have ho' : oneT ((p ++ t).drop (blankN (p ++ t))) = some o := by rw [hb]; exact ho
  rw [tk_some ho', hb, Nat.add_zero, List.drop_zero, hn, List.drop_append_of_le_length (Nat.le_refl _), List.drop_length, List.nil_append]
def sh (d : Nat) (t : Tok) : Tok := ⟨t.kind, t.at_ + d, t.text, t.r⟩
theorem tk_shift (d : Nat) : ∀ (k : Nat) (a : Nat) (l : List UInt8), l.length ≤ k → tk (a + d) l = ((tk a l).1.map (sh d), (tk a l).2.map (· + d)) := by
  intro k
  induction k with
  | zero =>
    intro a l h
    obtain rfl := List.eq_nil_of_length_eq_zero (Nat.le_zero.1 h)
    rfl
  | succ k ih =>
    intro a l h
    by_cases he : l.drop (blankN l) = []
    · rw [tk_end he, tk_end he]; rfl
    · cases ho : oneT (l.drop (blankN l)) with
      | none => rw [tk_none he ho, tk_none he ho]; simp; omega
      | some o =>
        have hl := oneT_len ho
        unfold OkOne at hl
        rw [List.length_drop] at hl
        rw [tk_some ho, tk_some ho]
        have e : a + d + blankN l + o.n = (a + blankN l + o.n) + d := by omega
        rw [e, ih _ _ (by simp only [List.length_drop]; omega)]
        simp only [List.map_cons, sh]
        congr 2
        congr 1
        omega
theorem blankN_app {l : List UInt8} (h : blankN l < l.length) (t : List UInt8) : blankN (l ++ t) = blankN l := by
  have h1 : cnt blk l < l.length := by
    unfold blankN at h
    split at h <;> omega
  unfold blankN at h ⊢
  rw [cnt_app_stop h1, List.drop_append_of_le_length (Nat.le_of_lt h1)]
  have hd : (l.drop (cnt blk l) ++ t).head? = (l.drop (cnt blk l)).head? := by
    rw [List.drop_eq_getElem_cons h1]
    rfl
  rw [hd]
  split
  · rename_i h2
    rw [if_pos h2] at h
    rw [cnt_app_stop (by rw [List.length_drop]; omega)]
  · rfl
/-- What ends a line: it counts for nothing, and hides nothing but itself. -/
structure Tail (t : List UInt8) : Prop where
  sep : Sep t
  flat : ∀ b ∈ t, b ≠ 10
  full : blankN t = t.length
theorem Tail.noLine {t : List UInt8} (h : Tail t) : cnt noLine t = t.length := cnt_of_all fun x hx => by
  have := h.flat x hx
  unfold Go.Proofs.YtekpmpghbeeeoaaGreatDoor.noLine
  simpa using this
theorem tk_tail {t : List UInt8} (ht : Tail t) : ∀ (k : Nat) (a : Nat) (l : List UInt8), l.length ≤ k → (tk a l).2 = none → tk a (l ++ t) = tk a l := by
  intro k
  induction k with
  | zero =>
    intro a l h _
    obtain rfl := List.eq_nil_of_length_eq_zero (Nat.le_zero.1 h)
    rw [List.nil_append, tk_nil, tk_end (by rw [ht.full, List.drop_length])]
  | succ k ih =>
    intro a l h hn
    have hble := blankN_le l
    by_cases he : l.drop (blankN l) = []
    · have hb : blankN l = l.length := by
        have := congrArg List.length he
        rw [List.length_drop] at this
        simp only [List.length_nil] at this
        omega
      have hfull : blankN (l ++ t) = (l ++ t).length := by
        rw [List.length_append]
        have hc := cnt_le blk l
        rcases Nat.lt_or_ge (cnt blk l) l.length with h1 | h1
        · unfold blankN at hb ⊢
          rw [cnt_app_stop h1, List.drop_append_of_le_length hc]
          have hd : (l.drop (cnt blk l) ++ t).head? = (l.drop (cnt blk l)).head? := by
            rw [List.drop_eq_getElem_cons h1]
            rfl
          rw [hd]
          split
          · rename_i h2
            rw [if_pos h2] at hb
            rw [cnt_app_full (by rw [List.length_drop]; omega), ht.noLine, List.length_drop]
            omega
          · rename_i h2
            rw [if_neg h2] at hb
            omega
        · have h2 : cnt blk l = l.length := by omega
          have hf := ht.full
          unfold blankN at hf ⊢
          rw [cnt_app_full h2, List.drop_append, List.drop_eq_nil_of_le (by omega), List.nil_append, show l.length + cnt blk t - l.length = cnt blk t from by omega]
          split
          · rename_i h3
            rw [if_pos h3] at hf
            omega
          · rename_i h3
            rw [if_neg h3] at hf
            omega
      rw [tk_end he, tk_end (by rw [hfull, List.drop_length])]
    · have hlt : blankN l < l.length := by
        rcases Nat.lt_or_ge (blankN l) l.length with h' | h'
        · exact h'
        · exact absurd (List.drop_eq_nil_of_le h') he
      cases ho : oneT (l.drop (blankN l)) with
      | none => rw [tk_none he ho] at hn; cases hn
      | some o =>
        have hl := oneT_len ho
        unfold OkOne at hl
        have hl2 := hl.2.1
        rw [List.length_drop] at hl2
        have hd : (l ++ t).drop (blankN (l ++ t)) = l.drop (blankN l) ++ t := by
          rw [blankN_app hlt, List.drop_append_of_le_length (Nat.le_of_lt hlt)]
        have ho2 : oneT ((l ++ t).drop (blankN (l ++ t))) = some o := by
          rw [hd]
          exact oneT_app ho ht.sep
        rw [tk_some ho2, tk_some ho, hd, blankN_app hlt, List.drop_append_of_le_length hl.2.1]
        rw [tk_some ho] at hn
        rw [ih _ _ (by simp only [List.length_drop]; omega) hn]
/-- Signs stand one behind the other, each within the text. -/
theorem tk_order : ∀ (k : Nat) (a : Nat) (l : List UInt8), l.length ≤ k → (∀ t ∈ (tk a l).1, a ≤ t.at_ ∧ t.at_ < a + l.length) ∧ (tk a l).1.Pairwise (fun x y => x.at_ ≤ y.at_) ∧ (∀ p, (tk a l).2 = some p → a ≤ p ∧ p < a + l.length) ∧ (tk a l).1.length ≤ l.length := by
  intro k
  induction k with
  | zero =>
    intro a l h
    obtain rfl := List.eq_nil_of_length_eq_zero (Nat.le_zero.1 h)
    rw [tk_nil]
    exact ⟨fun t h => (by cases h), List.Pairwise.nil, fun p h => (by cases h), Nat.le_refl _⟩
  | succ k ih =>
    intro a l h
    have hble := blankN_le l
    by_cases he : l.drop (blankN l) = []
    · rw [tk_end he]
      exact ⟨fun t h => (by cases h), List.Pairwise.nil, fun p h => (by cases h), Nat.zero_le _⟩
    · have hlt : blankN l < l.length := by
        rcases Nat.lt_or_ge (blankN l) l.length with h' | h'
        · exact h'
        · exact absurd (List.drop_eq_nil_of_le h') he
      cases ho : oneT (l.drop (blankN l)) with
      | none =>
        rw [tk_none he ho]
        exact ⟨fun t h => (by cases h), List.Pairwise.nil, fun p h => (by injection h with h; omega), Nat.zero_le _⟩
      | some o =>
        have hl := oneT_len ho
        unfold OkOne at hl
        rw [List.length_drop] at hl
        obtain ⟨h1, h2, h3, h4⟩ := ih (a + blankN l + o.n) ((l.drop (blankN l)).drop o.n) (by simp only [List.length_drop]; omega)
        simp only [List.length_drop] at h1 h3 h4
        rw [tk_some ho]
        refine ⟨fun t ht => ?_, List.pairwise_cons.2 ⟨fun t ht => ?_, h2⟩, fun p hp => ?_, by rw [List.length_cons]; omega⟩
        · rcases List.mem_cons.1 ht with rfl | ht
          · simp only; omega
          · have := h1 t ht; omega
        · have := h1 t ht
          simp only; omega
        · have := h3 p hp; omega
end Go.Proofs.YtekpmpghbeeeoaaGreatDoor
