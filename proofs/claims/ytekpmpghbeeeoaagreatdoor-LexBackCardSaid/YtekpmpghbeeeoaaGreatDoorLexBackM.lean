import Derived.Test.YtekpmpghbeeeoaaGreatDoorLexPrn
/- What is printed is read back: the plain law. -/
namespace Go.Proofs.YtekpmpghbeeeoaaGreatDoor

/-- A sign but for its place. -/
def er (t : Tok) : Tok := ⟨t.kind, 0, t.text, t.r⟩
theorem printF_er : ∀ (ts us : List Tok) (b : List UInt8), ts.map er = us.map er → printF b ts = printF b us
  | [], [], _, _ => rfl
  | [], _ :: _, _, h => by simp at h
  | _ :: _, [], _, h => by simp at h
  | t :: ts, u :: us, b, h => by
    rw [List.map_cons, List.map_cons] at h
    injection h with h1 h2
    unfold er at h1
    injection h1 with k1 _ k3 k4
    simp only [printF, putT]
    rw [k1, k3, k4]
    split
    · exact printF_er ts us _ h2
    · exact printF_er ts us _ h2
/-- What a sign is printed as is read as that sign. -/
def Back (o : One) : Prop := 1 ≤ o.kind ∧ o.kind ≤ 8 ∧ (o.kind = 7 → o.text = [] ∧ o.r = 0) ∧
  (o.kind ≠ 7 → putL o.kind o.text o.r ≠ [] ∧ (putL o.kind o.text o.r).getLast? ≠ some 10 ∧ ∀ t, Sep t → oneT (putL o.kind o.text o.r ++ t) = some ⟨o.kind, o.text, o.r, (putL o.kind o.text o.r).length⟩)
theorem last_ne {l : List UInt8} (h : ∀ b ∈ l, b ≠ 10) : l.getLast? ≠ some 10 := fun e => h 10 (List.mem_of_getLast? e) rfl
theorem last_end (l : List UInt8) {b : UInt8} (hb : b ≠ 10) : (l ++ [b]).getLast? ≠ some 10 := by simpa using hb
theorem take_all {p : UInt8 → Bool} (l : List UInt8) : cnt p (l.take (cnt p l)) = (l.take (cnt p l)).length := cnt_of_all fun _ hx => cnt_mem hx
theorem eid_ne {b : UInt8} (h : eid b = true) : b ≠ 10 := by rintro rfl; revert h; decide
theorem idn_ne {b : UInt8} (h : idn b = true) : b ≠ 10 := by rintro rfl; revert h; decide
theorem dgt_ne {b : UInt8} (h : dgt b = true) : b ≠ 10 := by rintro rfl; revert h; decide
theorem wordL_good : ∀ (k : Nat) (l b : List UInt8) (n : Nat) (x : List UInt8 × Nat), l.length ≤ k → wordL l b n = some x → (∀ y ∈ b, y ≠ 10) → (∀ y ∈ x.1, y ≠ 10) ∧ allGood (nl x.1) = true ∧ x.1.length ≤ b.length + l.length := by
  intro k
  induction k with
  | zero =>
    intro l b n x hk h _
    obtain rfl := List.eq_nil_of_length_eq_zero (Nat.le_zero.1 hk)
    rw [wordL] at h
    cases h
  | succ k ih =>
    intro l b n x hk h hb
    match l, hk, h with
    | [], _, h => rw [wordL] at h; cases h
    | c :: r, hk, h =>
      rw [wordL.eq_def] at h
      simp only at h
      rw [List.length_cons] at hk ⊢
      have hsn : ∀ e : UInt8, e ≠ 10 → ∀ y ∈ b ++ [e], y ≠ 10 := fun e he y hy => by
        rcases List.mem_append.1 hy with hy | hy
        · exact hb y hy
        · rw [List.mem_singleton.1 hy]; exact he
      split at h
      · rename_i hc
        injection h with h; subst h
        exact ⟨hb, hc.2, by simp only; omega⟩
      · split at h
        · cases h
        · rename_i h2
          split at h
          · match r, h, hk with
            | [], h, _ => cases h
            | e :: r', h, hk =>
              simp only at h
              split at h
              · rename_i h4
                have := ih _ _ _ _ (by simp at hk; omega) h (hsn e (by rcases h4 with rfl | rfl <;> decide))
                rw [List.length_append, List.length_singleton] at this
                rw [List.length_cons]
                exact ⟨this.1, this.2.1, by omega⟩
              · cases h
          · have := ih _ _ _ _ (by omega) h (hsn c (fun e => h2 (.inr e)))
            rw [List.length_append, List.length_singleton] at this
            exact ⟨this.1, this.2.1, by omega⟩
theorem one_back {l : List UInt8} {o : One} (h : oneT l = some o) : Back o ∧ o.text.length ≤ l.length := by
  match l, h with
  | [], h => cases h
  | c :: rest, h =>
    simp only [oneT] at h
    rw [List.length_cons]
    split at h
    · injection h with h; subst h
      exact ⟨⟨by simp, by simp, fun _ => ⟨rfl, rfl⟩, fun h => absurd rfl h⟩, Nat.zero_le _⟩
    rename_i h10
    split at h
    · unfold nameT at h
      split at h
      · rename_i hc
        injection h with h; subst h
        have hn := take_all (p := eid) rest
        refine ⟨⟨by simp, by simp, fun h => absurd h (by simp), fun _ => ?_⟩, by simp only [List.length_take]; omega⟩
        have e : putL 1 (rest.take (cnt eid rest)) 0 = 36 :: rest.take (cnt eid rest) := rfl
        simp only [e]
        refine ⟨by simp, last_ne (fun b hb => by
          rcases List.mem_cons.1 hb with rfl | hb
          · decide
          · exact eid_ne (cnt_mem hb)), fun t ht => ?_⟩
        show nameT (rest.take (cnt eid rest) ++ t) = _
        have h0 : 0 < cnt eid rest := by
          cases rest with
          | nil => simp at hc
          | cons d r =>
            have : eid d = true := by
              have := hc.1
              simp at this
              unfold eid
              rw [this]; rfl
            rw [cnt_yes this]
            omega
        have hh : (rest.take (cnt eid rest) ++ t).head? = rest.head? := by
          cases rest with
          | nil => simp at hc
          | cons d r =>
            obtain ⟨m, hm⟩ : ∃ m, cnt eid (d :: r) = m + 1 := ⟨cnt eid (d :: r) - 1, by omega⟩
            rw [hm, List.take_succ_cons]
            rfl
        unfold nameT
        have hle := cnt_le eid rest
        rw [cnt_sep (fun b => sep_eid) ht, hn, List.length_take, Nat.min_eq_left hle, hh, if_pos hc, List.take_append_of_le_length (by rw [List.length_take]; omega), List.take_take, Nat.min_self]
        simp [List.length_take, Nat.min_eq_left hle]
      · cases h
    rename_i h36
    split at h
    · rename_i hd
      unfold numT at h
      split at h
      · cases h
      · rename_i hc
        injection h with h; subst h
        have hn := take_all (p := dgt) (c :: rest)
        have hle := cnt_le dgt (c :: rest)
        refine ⟨⟨by simp, by simp, fun h => absurd h (by simp), fun _ => ?_⟩, by simp only [List.length_take]; rw [List.length_cons] at hle; omega⟩
        have e : putL 3 ((c :: rest).take (cnt dgt (c :: rest))) 0 = (c :: rest).take (cnt dgt (c :: rest)) := rfl
        simp only [e]
        obtain ⟨m, hm⟩ : ∃ m, cnt dgt (c :: rest) = m + 1 := ⟨_, cnt_yes hd rest⟩
        have htk : (c :: rest).take (cnt dgt (c :: rest)) = c :: rest.take m := by rw [hm, List.take_succ_cons]
        refine ⟨by rw [htk]; simp, last_ne (fun b hb => dgt_ne (cnt_mem hb)), fun t ht => ?_⟩
        rw [htk, List.cons_append]
        simp only [oneT, if_neg h10, if_neg h36, if_pos hd]
        rw [← List.cons_append, ← htk]
        unfold numT
        have hh : ((c :: rest).take (cnt dgt (c :: rest)) ++ t).head? = (c :: rest).head? := by rw [htk]; rfl
        rw [cnt_sep (fun b => sep_dgt) ht, hn, List.length_take, Nat.min_eq_left hle, hh, if_neg hc, List.take_append_of_le_length (by rw [List.length_take]; omega), List.take_take, Nat.min_self]
    rename_i hnd
    split at h
    · rename_i hd
      unfold identT at h
      injection h with h; subst h
      have hn := take_all (p := idn) (c :: rest)
      have hle := cnt_le idn (c :: rest)
      refine ⟨⟨by simp, by simp, fun h => absurd h (by simp), fun _ => ?_⟩, by simp only [List.length_take]; rw [List.length_cons] at hle; omega⟩
      have e : putL 8 ((c :: rest).take (cnt idn (c :: rest))) 0 = (c :: rest).take (cnt idn (c :: rest)) := rfl
      simp only [e]
      obtain ⟨m, hm⟩ : ∃ m, cnt idn (c :: rest) = m + 1 := ⟨_, cnt_yes (by unfold idn; rw [hd]; rfl) rest⟩
      have htk : (c :: rest).take (cnt idn (c :: rest)) = c :: rest.take m := by rw [hm, List.take_succ_cons]
      refine ⟨by rw [htk]; simp, last_ne (fun b hb => idn_ne (cnt_mem hb)), fun t ht => ?_⟩
      rw [htk, List.cons_append]
      simp only [oneT, if_neg h10, if_neg h36, if_neg hnd, if_pos hd]
      rw [← List.cons_append, ← htk]
      unfold identT
      rw [cnt_sep (fun b => sep_idn) ht, hn, List.length_take, Nat.min_eq_left hle, List.take_append_of_le_length (by rw [List.length_take]; omega), List.take_take, Nat.min_self]
    rename_i hnl
    split at h
    · unfold wordT at h
      cases hx : wordL rest [] 1 with
      | none => rw [hx] at h; cases h
      | some x =>
        rw [hx] at h
        injection h with h; subst h
        obtain ⟨g1, g2, g3⟩ := wordL_good _ rest [] 1 x (Nat.le_refl _) hx (fun y hy => by cases hy)
        refine ⟨⟨by simp, by simp, fun h => absurd h (by simp), fun _ => ?_⟩, by simp only; simp at g3; omega⟩
        have e : putL 2 x.1 0 = quoteL x.1 := rfl
        simp only [e]
        refine ⟨by simp [quoteL], ?_, fun t _ => oneT_quote t g1 g2⟩
        unfold quoteL
        rw [← List.cons_append]
        exact last_end _ (by decide)
    split at h
    · have key : o.kind = 4 ∧ o.text = [] ∧ 0 ≤ o.r ∧ o.r ≤ 1114111 := by
        unfold charT at h
        split at h
        · unfold escT at h
          split at h
          · rename_i hc
            injection h with h; subst h
            have := hc.2.2.2
            exact ⟨rfl, rfl, by simp only; omega, by simp only; omega⟩
          · cases h
        · split at h
          · cases h
          · rename_i hne
            split at h
            · cases h
            · injection h with h; subst h
              have hv := dec_valid (nl_by' rest)
              unfold normR at hv
              refine ⟨rfl, rfl, by simp only; omega, ?_⟩
              simp only
              split at hv <;> omega
      obtain ⟨k1, k2, k3, k4⟩ := key
      obtain ⟨ok, otx, orr, on⟩ := o
      simp only at k1 k2 k3 k4
      subst k1
      subst k2
      obtain ⟨m, rfl⟩ : ∃ m : Nat, orr = (m : Int) := ⟨orr.toNat, by omega⟩
      refine ⟨⟨by simp, by simp, fun h => absurd h (by simp), fun _ => ?_⟩, Nat.zero_le _⟩
      have e : putL 4 [] (m : Int) = codeL m := by
        show codeL (min (max (m : Int) 0) 1114111).toNat = codeL m
        rw [show (min (max (m : Int) 0) 1114111).toNat = m from by omega]
      simp only [e]
      refine ⟨by simp [codeL], ?_, fun t _ => oneT_code (by omega) t⟩
      unfold codeL
      rw [← List.cons_append, ← List.cons_append, ← List.cons_append, ← List.cons_append]
      exact last_end _ (by decide)
    split at h
    · unfold propT at h
      split at h
      · rename_i h2
        injection h with h; subst h
        have hle := cnt_le ltr rest
        have hn := take_all (p := ltr) rest
        refine ⟨⟨by simp, by simp, fun h => absurd h (by simp), fun _ => ?_⟩, by simp only [List.length_take]; omega⟩
        have e : putL 5 (rest.take (cnt ltr rest)) 0 = 123 :: (rest.take (cnt ltr rest) ++ [125]) := rfl
        simp only [e]
        refine ⟨by simp, by rw [← List.cons_append]; exact last_end _ (by decide), fun t _ => ?_⟩
        rw [List.cons_append]
        simp only [oneT]
        rw [if_neg (by decide), if_neg (by decide), if_neg (by decide), if_neg (by decide), if_neg (by decide), if_neg (by decide), if_pos trivial]
        unfold propT
        have hc : cnt ltr (rest.take (cnt ltr rest) ++ [125] ++ t) = cnt ltr rest := by
          rw [List.append_assoc, cnt_app_full hn, List.singleton_append, cnt_no (by decide), List.length_take, Nat.min_eq_left hle]
          rfl
        have hlen : (rest.take (cnt ltr rest)).length = cnt ltr rest := by rw [List.length_take, Nat.min_eq_left hle]
        rw [hc, List.append_assoc, List.take_append_of_le_length (by rw [hlen]; exact Nat.le_refl _), List.take_take, Nat.min_self, List.getElem?_append_right (by rw [hlen]; exact Nat.le_refl _), hlen, Nat.sub_self, if_pos ⟨h2.1, rfl⟩]
        simp [hlen]
      · cases h
    · rename_i h34 h39 h123
      unfold signT at h
      split at h
      · rename_i h2
        injection h with h; subst h
        refine ⟨⟨by simp, by simp, fun h => absurd h (by simp), fun _ => ?_⟩, by simp only [List.length_take, List.length_cons]; omega⟩
        have e : putL 6 ((c :: rest).take 2) 0 = (c :: rest).take 2 := rfl
        simp only [e]
        rcases h2 with h2 | h2
        · rw [h2]
          exact ⟨by simp, by decide, fun t _ => rfl⟩
        · rw [h2]
          exact ⟨by simp, by decide, fun t _ => rfl⟩
      · simp only at h
        split at h
        · rename_i hm
          injection h with h; subst h
          refine ⟨⟨by simp, by simp, fun h => absurd h (by simp), fun _ => ?_⟩, by simp⟩
          have e : putL 6 [c] 0 = [c] := rfl
          simp only [e]
          refine ⟨by simp, by simpa using h10, fun t _ => ?_⟩
          rw [List.singleton_append]
          simp only [oneT, if_neg h10, if_neg h36, if_neg hnd, if_neg hnl, if_neg h34, if_neg h39, if_neg h123]
          have h62 : c ≠ 62 := by rintro rfl; revert hm; decide
          have h60 : c ≠ 60 := by rintro rfl; revert hm; decide
          unfold signT
          rw [if_neg]
          · simp only [if_pos hm]
            rfl
          · rintro (h | h)
            · rw [List.take_succ_cons] at h
              injection h with h _
              exact h62 h
            · rw [List.take_succ_cons] at h
              injection h with h _
              exact h60 h
        · cases h
end Go.Proofs.YtekpmpghbeeeoaaGreatDoor
