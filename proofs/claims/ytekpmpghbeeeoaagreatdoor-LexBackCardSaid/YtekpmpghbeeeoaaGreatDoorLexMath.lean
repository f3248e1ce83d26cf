import Derived.Test.YtekpmpghbeeeoaaGreatDoorLexPlain
import Derived.Test.YtekpmpghbeeeoaaGreatDoorUtfBackMath
/- The plain laws of scanning: what stands behind a sign, blanks ahead of it, a text's signs one by one. -/
namespace Go.Proofs.YtekpmpghbeeeoaaGreatDoor

theorem cnt_app (p : UInt8 → Bool) (l t : List UInt8) : cnt p (l ++ t) = if cnt p l = l.length then l.length + cnt p t else cnt p l := by
  induction l with
  | nil => simp [cnt_nil]
  | cons b l ih =>
    rw [List.cons_append]
    cases h : p b with
    | true => rw [cnt_yes h, cnt_yes h, ih, List.length_cons]; split <;> split <;> omega
    | false => rw [cnt_no h, cnt_no h, List.length_cons, if_neg (by omega)]
theorem cnt_app_stop {p : UInt8 → Bool} {l : List UInt8} (h : cnt p l < l.length) (t : List UInt8) : cnt p (l ++ t) = cnt p l := by
  rw [cnt_app, if_neg (by omega)]
theorem cnt_app_full {p : UInt8 → Bool} {l : List UInt8} (h : cnt p l = l.length) (t : List UInt8) : cnt p (l ++ t) = l.length + cnt p t := by
  rw [cnt_app, if_pos h]
theorem cnt_of_all {p : UInt8 → Bool} {l : List UInt8} (h : ∀ x ∈ l, p x = true) : cnt p l = l.length := by
  induction l with
  | nil => rfl
  | cons b l ih => rw [cnt_yes (h b (List.mem_cons_self ..)), ih (fun x hx => h x (List.mem_cons_of_mem _ hx)), List.length_cons]
theorem cnt_at {p : UInt8 → Bool} {l : List UInt8} (h : cnt p l < l.length) : p l[cnt p l] = false := by
  have := (cnt_step (Nat.le_refl _) h)
  cases hp : p l[cnt p l] with
  | false => rfl
  | true => exact absurd (this.2 hp) (Nat.lt_irrefl _)
theorem cnt_mem {p : UInt8 → Bool} : ∀ {l : List UInt8} {x : UInt8}, x ∈ l.take (cnt p l) → p x = true
  | [], x, h => by simp at h
  | b :: l, x, h => by
    cases hb : p b with
    | false => rw [cnt_no hb] at h; simp at h
    | true =>
      rw [cnt_yes hb, List.take_succ_cons] at h
      rcases List.mem_cons.1 h with rfl | h
      · exact hb
      · exact cnt_mem h
/-- What may stand behind a sign that ends by itself. -/
def sepB (b : UInt8) : Bool := ((((b == 32) || (b == 9)) || (b == 13)) || (b == 35)) || (b == 10)
def Sep (t : List UInt8) : Prop := ∀ b, t.head? = some b → sepB b = true
theorem sepB_cases {b : UInt8} (h : sepB b = true) : b = 32 ∨ b = 9 ∨ b = 13 ∨ b = 35 ∨ b = 10 := by
  unfold sepB at h
  simp only [Bool.or_eq_true, beq_iff_eq] at h
  rcases h with (((h | h) | h) | h) | h
  · exact .inl h
  · exact .inr (.inl h)
  · exact .inr (.inr (.inl h))
  · exact .inr (.inr (.inr (.inl h)))
  · exact .inr (.inr (.inr (.inr h)))
theorem sep_eid {b : UInt8} (h : sepB b = true) : eid b = false := by rcases sepB_cases h with rfl | rfl | rfl | rfl | rfl <;> decide
theorem sep_idn {b : UInt8} (h : sepB b = true) : idn b = false := by rcases sepB_cases h with rfl | rfl | rfl | rfl | rfl <;> decide
theorem sep_dgt {b : UInt8} (h : sepB b = true) : dgt b = false := by rcases sepB_cases h with rfl | rfl | rfl | rfl | rfl <;> decide
theorem cnt_sep {p : UInt8 → Bool} (hp : ∀ b, sepB b = true → p b = false) {t : List UInt8} (hs : Sep t) (l : List UInt8) : cnt p (l ++ t) = cnt p l := by
  rw [cnt_app]
  split
  · rename_i h
    cases t with
    | nil => rw [cnt_nil, h]; rfl
    | cons b t => rw [cnt_no (hp b (hs b rfl)), h]; rfl
  · rfl
theorem nl_append (l t : List UInt8) : nl (l ++ t) = nl l ++ nl t := by simp [nl]
theorem nl_by' (l : List UInt8) : By (nl l) := by
  intro x hx
  obtain ⟨b, -, rfl⟩ := List.mem_map.1 hx
  have := b.toNat_lt
  omega
theorem nl_ne {l : List UInt8} (h : l ≠ []) : nl l ≠ [] := by simpa [nl] using h
theorem dec_app {bs : List Int} (h : By bs) (hne : bs ≠ []) (hg : isGood (dec bs) = true) (t : List Int) : dec (bs ++ t) = dec bs := by
  have h1 := dec_good h hne hg
  have h2 : bs = enc ((dec bs).1 : Int) ++ bs.drop (dec bs).2 := by rw [← h1, List.take_append_drop]
  generalize hr : ((dec bs).1 : Int) = r at h2
  have h3 := dec_enc r (bs.drop (dec bs).2)
  rw [← h2] at h3
  have h4 := dec_enc r (bs.drop (dec bs).2 ++ t)
  rw [← List.append_assoc, ← h2] at h4
  apply Prod.ext
  · have := h3.1.trans h4.1.symm
    omega
  · exact h4.2.trans h3.2.symm
theorem nameT_app {l t : List UInt8} {o : One} (h : nameT l = some o) (hs : Sep t) : nameT (l ++ t) = some o := by
  unfold nameT at h ⊢
  split at h
  · rename_i hc
    rw [cnt_sep (fun b => sep_eid) hs, List.take_append_of_le_length (cnt_le _ _)]
    have hh : (l ++ t).head? = l.head? := by
      cases l with
      | nil => simp at hc
      | cons => rfl
    rw [hh, if_pos hc]
    exact h
  · cases h
theorem numT_app {c : UInt8} {l t : List UInt8} {o : One} (h : numT (c :: l) = some o) (hs : Sep t) : numT ((c :: l) ++ t) = some o := by
  unfold numT at h ⊢
  split at h
  · cases h
  · rename_i hc
    rw [cnt_sep (fun b => sep_dgt) hs, List.take_append_of_le_length (cnt_le _ _)]
    have hh : ((c :: l) ++ t).head? = (c :: l).head? := rfl
    rw [hh, if_neg hc]
    exact h
theorem identT_app {l t : List UInt8} {o : One} (h : identT l = some o) (hs : Sep t) : identT (l ++ t) = some o := by
  unfold identT at h ⊢
  rw [cnt_sep (fun b => sep_idn) hs, List.take_append_of_le_length (cnt_le _ _)]
  exact h
theorem wordL_app (t : List UInt8) : ∀ (k : Nat) (l b : List UInt8) (n : Nat) (x : List UInt8 × Nat), l.length ≤ k → wordL l b n = some x → wordL (l ++ t) b n = some x := by
  intro k
  induction k with
  | zero =>
    intro l b n x hk h
    obtain rfl := List.eq_nil_of_length_eq_zero (Nat.le_zero.1 hk)
    rw [wordL] at h
    cases h
  | succ k ih =>
    intro l b n x hk h
    match l, hk, h with
    | [], _, h => rw [wordL] at h; cases h
    | c :: r, hk, h =>
      rw [List.cons_append]
      rw [wordL.eq_def] at h ⊢
      simp only at h ⊢
      split
      · rename_i hc; rw [if_pos hc] at h; exact h
      · rename_i hc
        rw [if_neg hc] at h
        split
        · rename_i h2; rw [if_pos h2] at h; cases h
        · rename_i h2
          rw [if_neg h2] at h
          split
          · rename_i h3
            rw [if_pos h3] at h
            match r, h, hk with
            | [], h, _ => cases h
            | e :: r', h, hk =>
              simp only [List.cons_append] at h ⊢
              split
              · rename_i h4
                rw [if_pos h4] at h
                exact ih _ _ _ _ (by simp at hk; omega) h
              · rename_i h4; rw [if_neg h4] at h; cases h
          · rename_i h3
            rw [if_neg h3] at h
            exact ih _ _ _ _ (by simp at hk; omega) h
theorem wordT_app {l : List UInt8} {o : One} (h : wordT l = some o) (t : List UInt8) : wordT (l ++ t) = some o := by
  unfold wordT at h ⊢
  cases hx : wordL l [] 1 with
  | none => rw [hx] at h; cases h
  | some x => rw [wordL_app t _ l [] 1 x (Nat.le_refl _) hx]; rw [hx] at h; exact h
theorem escT_app {l : List UInt8} {o : One} (h : escT l = some o) (t : List UInt8) : escT (l ++ t) = some o := by
  unfold escT at h ⊢
  split at h
  · rename_i hc
    have hlt : cnt hexd l < l.length := by
      rcases Nat.lt_or_ge (cnt hexd l) l.length with h' | h'
      · exact h'
      · have := hc.2.2.1; rw [List.getElem?_eq_none h'] at this; cases this
    rw [cnt_app_stop hlt, List.take_append_of_le_length (Nat.le_of_lt hlt), List.getElem?_append_left hlt, if_pos hc]
    exact h
  · cases h
theorem dec_92 (r : List Int) : dec (92 :: r) = (92, 1) := by
  unfold dec Lib.decodeN
  simp
theorem charT_app {l : List UInt8} {o : One} (h : charT l = some o) (t : List UInt8) : charT (l ++ t) = some o := by
  unfold charT at h ⊢
  split at h
  · rename_i hc
    have hl : 3 ≤ l.length := by
      have := congrArg List.length hc
      simp at this
      omega
    rw [List.take_append_of_le_length hl, if_pos hc, List.drop_append_of_le_length hl]
    exact escT_app h t
  · rename_i hc
    split at h
    · cases h
    · rename_i hne
      split at h
      · cases h
      · rename_i hg
        have hgood : isGood (dec (nl l)) = true := by
          unfold isGood
          rw [decide_eq_true_iff]
          have hw := (dec_width (nl_ne hne)).1
          rcases Nat.lt_or_ge 1 (dec (nl l)).2 with h1 | h1
          · exact .inr h1
          · left
            intro e
            exact hg (.inl ⟨e, by omega⟩)
        have hhead : ∀ r, l ≠ 92 :: r := by
          rintro r rfl
          have : dec (nl (92 :: r)) = (92, 1) := dec_92 _
          rw [this] at hg
          exact hg (.inr (.inr rfl))
        have hnt : (l ++ t).take 3 ≠ [92, 117, 123] := by
          match l, hhead, hne with
          | [], _, hne => exact absurd rfl hne
          | c :: r, hh, _ =>
            intro e
            rw [List.cons_append, List.take_succ_cons] at e
            injection e with e1 _
            subst e1
            exact hh r rfl
        rw [if_neg hnt, if_neg (by simp [hne]), nl_append, dec_app (nl_by' l) (nl_ne hne) hgood, if_neg hg]
        exact h
theorem propT_app {l : List UInt8} {o : One} (h : propT l = some o) (t : List UInt8) : propT (l ++ t) = some o := by
  unfold propT at h ⊢
  split at h
  · rename_i hc
    have hlt : cnt ltr l < l.length := by
      rcases Nat.lt_or_ge (cnt ltr l) l.length with h' | h'
      · exact h'
      · have := hc.2; rw [List.getElem?_eq_none h'] at this; cases this
    rw [cnt_app_stop hlt, List.take_append_of_le_length (Nat.le_of_lt hlt), List.getElem?_append_left hlt, if_pos hc]
    exact h
  · cases h
theorem signT_app {l : List UInt8} {o : One} (h : signT l = some o) (t : List UInt8) : signT (l ++ t) = some o := by
  match l, h with
  | [], h => simp [signT] at h
  | [c], h =>
    have hm : c ∈ signs := by
      by_cases hm : c ∈ signs
      · exact hm
      · simp [signT, hm] at h
    have e : signT [c] = some ⟨6, [c], 0, 1⟩ := by simp [signT, hm]
    rw [e] at h
    rw [← h]
    have h62 : c ≠ 62 := by rintro rfl; revert hm; decide
    have h60 : c ≠ 60 := by rintro rfl; revert hm; decide
    cases t with
    | nil => exact e
    | cons d t => simp [signT, hm, h62, h60]
  | c :: d :: r, h =>
    have e : signT (c :: d :: r ++ t) = signT (c :: d :: r) := by simp [signT]
    rw [e]
    exact h
theorem oneT_app {l t : List UInt8} {o : One} (h : oneT l = some o) (hs : Sep t) : oneT (l ++ t) = some o := by
  match l, h with
  | [], h => cases h
  | c :: rest, h =>
    rw [List.cons_append]
    simp only [oneT] at h ⊢
    repeat' split at h
    all_goals simp only [*, if_true, if_false]
    · exact nameT_app h hs
    · exact numT_app h hs
    · exact identT_app h hs
    · exact wordT_app h t
    · exact charT_app h t
    · exact propT_app h t
    · exact signT_app h t
end Go.Proofs.YtekpmpghbeeeoaaGreatDoor
