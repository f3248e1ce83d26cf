import Derived.Test.YtekpmpghbeeeoaaGreatDoorLexEsc
/- package lex: characters; the sign that a text begins with. -/
namespace Go.Proofs.YtekpmpghbeeeoaaGreatDoor
open Go.RowKit Go.Shelf Go.Proofs.YtekpmpghbeeeoaaGreatDoorW.PrintWords Go.Proofs.YtekpmpghbeeeoaaGreatDoorW.PrintMore

theorem prefix4 (l : List UInt8) : [39, 92, 117, 123].isPrefixOf (39 :: l) = decide (l.take 3 = [92, 117, 123]) := by
  match l with
  | [] => rfl
  | [a] => simp [List.isPrefixOf]
  | [a, b] => simp [List.isPrefixOf]
  | a :: b :: c :: r =>
    rw [Bool.eq_iff_iff]
    simp only [List.isPrefixOf, Bool.and_eq_true, beq_iff_eq, decide_eq_true_eq, List.take_succ_cons, List.take_zero, List.cons.injEq]
    constructor
    · intro h; simp_all
    · intro h; simp_all
theorem dec_small (l : List UInt8) : (dec (nl l)).1 < 16777216 := by
  by_cases h : l = []
  · subst h; decide
  · have h1 := dec_valid (nl_by' l)
    unfold normR at h1
    split at h1
    · omega
    · omega
set_option maxRecDepth 100000 in
set_option maxHeartbeats 4000000 in
theorem lex_char (rest : List UInt8) (hl : rest.length < 900000) (W : World) (hT : Tabs W) :
    Calls Tryz.prog 48 #[.string (S (39 :: rest))] W fun e w' => OneR (charT rest) e ∧ Below W.heap.size W w' := by
  have HP := Lib.hid (fun W => lib_prefix (39 :: rest) [39, 92, 117, 123] W)
  rw [prefix4] at HP
  have e1 : S [39, 92, 117, 123] = { data := #[39, 92, 117, 123] } := rfl
  rw [e1] at HP
  clear e1
  have HT0 := Lib.hid (tok_new W)
  have HB0 := Lib.hid (tok_below W)
  have HZ0 := Lib.hid (tok_size W)
  have HTW := Lib.hid hT
  clear hT
  by_cases h3 : rest.take 3 = [92, 117, 123]
  · obtain ⟨t, rfl⟩ : ∃ t, rest = 92 :: 117 :: 123 :: t := ⟨rest.drop 3, by rw [← List.take_append_drop 3 rest, h3]; simp⟩
    have HE := Lib.hid (fun W => lex_escaped t (by simp at hl; omega) W)
    have HN : Hid (charT (92 :: 117 :: 123 :: t) = escT t) := Lib.hid (by unfold charT; rw [if_pos h3]; rfl)
    rw [decide_eq_true h3] at HP
    clear h3
    generalize S (39 :: 92 :: 117 :: 123 :: t) = s at *
    go_enter Tryz.func48, Tryz.ntmps48
    go_wp2_with fail
    refine (HP.out _).mono ?_
    rintro e w1 ⟨rfl, rfl⟩
    go_wp2_with fail
    refine (HE.out _).mono ?_
    rintro e w1 ⟨he, hb1⟩
    have HO : Hid (OneR (charT (92 :: 117 :: 123 :: t)) e) := Lib.hid (by rw [HN.out]; exact he)
    obtain ⟨k, m, tx, r, rfl⟩ := he.form
    clear he
    have HB1 : Hid (Below W.heap.size W w1) := Lib.hid (HB0.out.trans (hb1.mono HB0.out.size))
    obtain ⟨c0, c1, c2, c3, f0, f1, f2, f3⟩ := (HT0.out.below (hb1.mono (Nat.le_of_eq HZ0.out.symm))).cells
    clear hb1
    go_wp2_with fail
    refine bodyPost_ret (v := (.tuple #[.agg #[.int .i64 k, .int .i64 0, .string tx, .int .i32 r], .int .i64 m])) (by first | (simp [results, Tryz.results48, go_sem, c0, c1, c2, c3]; done) | (simp [results, Tryz.results48, go_sem, c0, c1, c2, c3]; rfl)) rfl ?_
    exact ⟨HO.out, ((((HB1.out.setCell (Nat.le_refl _) _).setCell (Nat.le_refl _) _).setCell (Nat.le_refl _) _).setCell (Nat.le_refl _) _)⟩
  · rw [decide_eq_false h3] at HP
    have hdr : ∀ W, (Instr.slice 9 (.string (S (39 :: rest))) (some (.int .i64 1)) none none).run Tryz.prog W = .ok (.string (S rest)) W := fun W => run_drop (39 :: rest) 1 (by simp) W
    have hN : charT rest = if rest = [] then none else if ((dec (nl rest)).1 = 65533 ∧ (dec (nl rest)).2 = 1) ∨ (dec (nl rest)).1 = 10 ∨ (dec (nl rest)).1 = 92 then none else some ⟨4, [], ((dec (nl rest)).1 : Int), (dec (nl rest)).2 + 1⟩ := by
      conv => lhs; unfold charT
      rw [if_neg h3]
    clear h3
    obtain ⟨o, ho⟩ : ∃ o, charT rest = o := ⟨_, rfl⟩
    rw [ho] at hN ⊢
    clear ho
    have HTW0 : Hid (Tabs (W.alloc (.cells #[.int .i64 0, .int .i64 0, .string ByteArray.empty, .int .i32 0] 33))) := Lib.hid (HTW.out.below HB0.out)
    by_cases hne : rest = []
    · have HE : Hid (OneR o (.returned (oneA 0 0 ByteArray.empty 0))) := Lib.hid (OneR.of (by rw [hN, if_pos hne]; rfl))
      subst hne
      have HD := Lib.hid (decode_str_nil _ HTW0.out)
      clear hN
      generalize S [] = s2 at *
      generalize S [39] = s at *
      go_enter Tryz.func48, Tryz.ntmps48
      go_wp2_with fail
      refine (HP.out _).mono ?_
      rintro e w1 ⟨rfl, rfl⟩
      go_wp2_with fail
      refine HD.out.mono ?_
      rintro e w1 ⟨he, hb1⟩
      subst he
      have HB1 : Hid (Below W.heap.size W w1) := Lib.hid (HB0.out.trans (hb1.mono HB0.out.size))
      obtain ⟨c0, c1, c2, c3, f0, f1, f2, f3⟩ := (HT0.out.below (hb1.mono (Nat.le_of_eq HZ0.out.symm))).cells
      clear hb1
      go_wp2_with fail
      refine bodyPost_ret (v := (oneA 0 0 ByteArray.empty 0)) (by first | (simp [results, Tryz.results48, go_sem, c0, c1, c2, c3]; done) | (simp [results, Tryz.results48, go_sem, c0, c1, c2, c3]; rfl)) rfl ?_
      exact ⟨HE.out, ((((HB1.out.setCell (Nat.le_refl _) _).setCell (Nat.le_refl _) _).setCell (Nat.le_refl _) _).setCell (Nat.le_refl _) _)⟩
    · rw [if_neg hne] at hN
      have HD := Lib.hid (decode_str rest hne _ HTW0.out)
      have hw := dec_width (nl_ne hne)
      have hs := dec_small rest
      clear hne
      obtain ⟨d, hd⟩ : ∃ d, dec (nl rest) = d := ⟨_, rfl⟩
      rw [hd] at hN HD hw hs
      clear hd
      obtain ⟨v, n⟩ := d
      dsimp only at hN HD hw hs
      have hn0 : ¬ (n : Int) = 0 := by omega
      have hn0b : ((n : Int) == 0) = false := by rw [beq_eq_false_iff_ne]; omega
      have hnb : n < 1000000 := by have := hw.2.2; omega
      clear hw
      generalize S rest = s2 at *
      generalize S (39 :: rest) = s at *
      by_cases h10 : v = 10
      · subst h10
        have HE : Hid (OneR o (.returned (oneA 0 0 ByteArray.empty 0))) := Lib.hid (OneR.of (by rw [hN, if_pos (.inr (.inl rfl))]; rfl))

        clear hN
        go_enter Tryz.func48, Tryz.ntmps48
        go_wp2_with fail
        refine (HP.out _).mono ?_
        rintro e w1 ⟨rfl, rfl⟩
        go_wp2_with fail
        refine HD.out.mono ?_
        rintro e w1 ⟨he, hb1⟩
        subst he
        have HB1 : Hid (Below W.heap.size W w1) := Lib.hid (HB0.out.trans (hb1.mono HB0.out.size))
        obtain ⟨c0, c1, c2, c3, f0, f1, f2, f3⟩ := (HT0.out.below (hb1.mono (Nat.le_of_eq HZ0.out.symm))).cells
        clear hb1
        go_wp2_with fail
        refine bodyPost_ret (v := (oneA 0 0 ByteArray.empty 0)) (by first | (simp [results, Tryz.results48, go_sem, c0, c1, c2, c3]; done) | (simp [results, Tryz.results48, go_sem, c0, c1, c2, c3]; rfl)) rfl ?_
        exact ⟨HE.out, ((((HB1.out.setCell (Nat.le_refl _) _).setCell (Nat.le_refl _) _).setCell (Nat.le_refl _) _).setCell (Nat.le_refl _) _)⟩
      · by_cases h92 : v = 92
        · subst h92
          have HE : Hid (OneR o (.returned (oneA 0 0 ByteArray.empty 0))) := Lib.hid (OneR.of (by rw [hN, if_pos (.inr (.inr rfl))]; rfl))

          clear hN
          go_enter Tryz.func48, Tryz.ntmps48
          go_wp2_with fail
          refine (HP.out _).mono ?_
          rintro e w1 ⟨rfl, rfl⟩
          go_wp2_with fail
          refine HD.out.mono ?_
          rintro e w1 ⟨he, hb1⟩
          subst he
          have HB1 : Hid (Below W.heap.size W w1) := Lib.hid (HB0.out.trans (hb1.mono HB0.out.size))
          obtain ⟨c0, c1, c2, c3, f0, f1, f2, f3⟩ := (HT0.out.below (hb1.mono (Nat.le_of_eq HZ0.out.symm))).cells
          clear hb1
          go_wp2_with fail
          refine bodyPost_ret (v := (oneA 0 0 ByteArray.empty 0)) (by first | (simp [results, Tryz.results48, go_sem, c0, c1, c2, c3]; done) | (simp [results, Tryz.results48, go_sem, c0, c1, c2, c3]; rfl)) rfl ?_
          exact ⟨HE.out, ((((HB1.out.setCell (Nat.le_refl _) _).setCell (Nat.le_refl _) _).setCell (Nat.le_refl _) _).setCell (Nat.le_refl _) _)⟩
        · have k10 : ¬ (v : Int) = 10 := by omega
          have k92 : ¬ (v : Int) = 92 := by omega
          have k10b : ((v : Int) == 10) = false := by rw [beq_eq_false_iff_ne]; omega
          have k92b : ((v : Int) == 92) = false := by rw [beq_eq_false_iff_ne]; omega
          by_cases hf : v = 65533
          · by_cases h1 : n = 1
            · subst hf
              subst h1
              have HE : Hid (OneR o (.returned (oneA 0 0 ByteArray.empty 0))) := Lib.hid (OneR.of (by rw [hN, if_pos (.inl ⟨rfl, rfl⟩)]; rfl))

              clear hN
              go_enter Tryz.func48, Tryz.ntmps48
              go_wp2_with fail
              refine (HP.out _).mono ?_
              rintro e w1 ⟨rfl, rfl⟩
              go_wp2_with fail
              refine HD.out.mono ?_
              rintro e w1 ⟨he, hb1⟩
              subst he
              have HB1 : Hid (Below W.heap.size W w1) := Lib.hid (HB0.out.trans (hb1.mono HB0.out.size))
              obtain ⟨c0, c1, c2, c3, f0, f1, f2, f3⟩ := (HT0.out.below (hb1.mono (Nat.le_of_eq HZ0.out.symm))).cells
              clear hb1
              go_wp2_with fail
              refine bodyPost_ret (v := (oneA 0 0 ByteArray.empty 0)) (by first | (simp [results, Tryz.results48, go_sem, c0, c1, c2, c3]; done) | (simp [results, Tryz.results48, go_sem, c0, c1, c2, c3]; rfl)) rfl ?_
              exact ⟨HE.out, ((((HB1.out.setCell (Nat.le_refl _) _).setCell (Nat.le_refl _) _).setCell (Nat.le_refl _) _).setCell (Nat.le_refl _) _)⟩
            · have k1 : ¬ (n : Int) = 1 := by omega
              have k1b : ((n : Int) == 1) = false := by rw [beq_eq_false_iff_ne]; omega
              have HE : Hid (OneR o (.returned (oneA 4 ((n : Int) + 1) ByteArray.empty (v : Int)))) := Lib.hid (OneR.of (by rw [hN, if_neg (by rintro (⟨-, h⟩ | h | h); exact h1 h; exact h10 h; exact h92 h)]; rfl))
              subst hf
              clear hN
              go_enter Tryz.func48, Tryz.ntmps48
              go_wp2_with fail
              refine (HP.out _).mono ?_
              rintro e w1 ⟨rfl, rfl⟩
              go_wp2_with fail
              refine HD.out.mono ?_
              rintro e w1 ⟨he, hb1⟩
              subst he
              have HB1 : Hid (Below W.heap.size W w1) := Lib.hid (HB0.out.trans (hb1.mono HB0.out.size))
              obtain ⟨c0, c1, c2, c3, f0, f1, f2, f3⟩ := (HT0.out.below (hb1.mono (Nat.le_of_eq HZ0.out.symm))).cells
              clear hb1
              go_wp2_with fail
              refine bodyPost_ret (v := (oneA 4 ((n : Int) + 1) ByteArray.empty 65533)) (by first | (simp [results, Tryz.results48, go_sem, c0, c1, c2, c3]; done) | (simp [results, Tryz.results48, go_sem, c0, c1, c2, c3]; rfl)) rfl ?_
              exact ⟨HE.out, ((((HB1.out.setCell (Nat.le_refl _) _).setCell (Nat.le_refl _) _).setCell (Nat.le_refl _) _).setCell (Nat.le_refl _) _)⟩
          · have kf : ¬ (v : Int) = 65533 := by omega
            have kfb : ((v : Int) == 65533) = false := by rw [beq_eq_false_iff_ne]; omega
            have HE : Hid (OneR o (.returned (oneA 4 ((n : Int) + 1) ByteArray.empty (v : Int)))) := Lib.hid (OneR.of (by rw [hN, if_neg (by rintro (⟨h, -⟩ | h | h); exact hf h; exact h10 h; exact h92 h)]; rfl))
            clear hN
            go_enter Tryz.func48, Tryz.ntmps48
            go_wp2_with fail
            refine (HP.out _).mono ?_
            rintro e w1 ⟨rfl, rfl⟩
            go_wp2_with fail
            refine HD.out.mono ?_
            rintro e w1 ⟨he, hb1⟩
            subst he
            have HB1 : Hid (Below W.heap.size W w1) := Lib.hid (HB0.out.trans (hb1.mono HB0.out.size))
            obtain ⟨c0, c1, c2, c3, f0, f1, f2, f3⟩ := (HT0.out.below (hb1.mono (Nat.le_of_eq HZ0.out.symm))).cells
            clear hb1
            go_wp2_with fail
            refine bodyPost_ret (v := (oneA 4 ((n : Int) + 1) ByteArray.empty (v : Int))) (by first | (simp [results, Tryz.results48, go_sem, c0, c1, c2, c3]; done) | (simp [results, Tryz.results48, go_sem, c0, c1, c2, c3]; rfl)) rfl ?_
            exact ⟨HE.out, ((((HB1.out.setCell (Nat.le_refl _) _).setCell (Nat.le_refl _) _).setCell (Nat.le_refl _) _).setCell (Nat.le_refl _) _)⟩

set_option maxRecDepth 100000 in
set_option maxHeartbeats 4000000 in
theorem lex_one (c : UInt8) (rest : List UInt8) (hl : rest.length < 900000) (W : World) (hT : Tabs W) :
    Calls Tryz.prog 27 #[.string (S (c :: rest))] W fun e w' => OneR (oneT (c :: rest)) e ∧ Below W.heap.size W w' := by
  have HIX : Hid (∀ W, (Instr.index 9 (.string (S (c :: rest))) (.int .i64 0)).run Tryz.prog W = .ok (.int .u8 ((c.toNat : Nat) : Int)) W) := Lib.hid (fun W => ixS (l := c :: rest) (k := 0) (by simp) W)
  have HT0 := Lib.hid (tok_new W)
  have HB0 := Lib.hid (tok_below W)
  have HZ0 := Lib.hid (tok_size W)
  have HTW0 : Hid (Tabs (W.alloc (.cells #[.int .i64 0, .int .i64 0, .string ByteArray.empty, .int .i32 0] 33))) := Lib.hid (hT.below HB0.out)
  have HD := Lib.hid (lex_digit c)
  have HLT := Lib.hid (lex_letter c)
  have hN : oneT (c :: rest) = if c = 10 then some ⟨7, [], 0, 1⟩
    else if c = 36 then nameT rest
    else if dgt c = true then numT (c :: rest)
    else if ltr c = true then identT (c :: rest)
    else if c = 34 then wordT rest
    else if c = 39 then charT rest
    else if c = 123 then propT rest
    else signT (c :: rest) := rfl
  obtain ⟨o, ho⟩ : ∃ o, oneT (c :: rest) = o := ⟨_, rfl⟩
  rw [ho] at hN ⊢
  clear ho hT
  have hu10 : c = 10 ↔ ((c.toNat : Nat) : Int) = 10 := u8_eq c 10 (by decide)
  have hu36 : c = 36 ↔ ((c.toNat : Nat) : Int) = 36 := u8_eq c 36 (by decide)
  have hu34 : c = 34 ↔ ((c.toNat : Nat) : Int) = 34 := u8_eq c 34 (by decide)
  have hu39 : c = 39 ↔ ((c.toNat : Nat) : Int) = 39 := u8_eq c 39 (by decide)
  have hu123 : c = 123 ↔ ((c.toNat : Nat) : Int) = 123 := u8_eq c 123 (by decide)
  have KNAME : Hid (∀ W, Calls Tryz.prog 42 #[.string (S (c :: rest))] W fun e w' => OneR (nameT rest) e ∧ Below W.heap.size W w') := Lib.hid (fun W => (lex_name c rest (by omega) W).mono (fun e w' h => ⟨OneR.of h.1, h.2⟩))
  have KNUM : Hid (∀ W, Calls Tryz.prog 44 #[.string (S (c :: rest))] W fun e w' => OneR (numT (c :: rest)) e ∧ Below W.heap.size W w') := Lib.hid (fun W => (lex_num (c :: rest) (by simp; omega) W).mono (fun e w' h => ⟨OneR.of h.1, h.2⟩))
  have KIDENT : Hid (∀ W, Calls Tryz.prog 46 #[.string (S (c :: rest))] W fun e w' => OneR (identT (c :: rest)) e ∧ Below W.heap.size W w') := Lib.hid (fun W => (lex_ident (c :: rest) (by simp; omega) W).mono (fun e w' h => ⟨OneR.of h.1, h.2⟩))
  have KPROP : Hid (∀ W, Calls Tryz.prog 49 #[.string (S (c :: rest))] W fun e w' => OneR (propT rest) e ∧ Below W.heap.size W w') := Lib.hid (fun W => (lex_prop c rest (by omega) W).mono (fun e w' h => ⟨OneR.of h.1, h.2⟩))
  have KSIGN : Hid (∀ W, Calls Tryz.prog 50 #[.string (S (c :: rest))] W fun e w' => OneR (signT (c :: rest)) e ∧ Below W.heap.size W w') := Lib.hid (fun W => lex_sign c rest (by omega) W)
  have KWORD := Lib.hid (lex_word c rest (by omega) _ HTW0.out)
  have KCHAR : Hid (c = 39 → Calls Tryz.prog 48 #[.string (S (c :: rest))] _ fun e w' => OneR (charT rest) e ∧ _) := Lib.hid (fun h => by rw [h]; exact lex_char rest hl _ HTW0.out)
  obtain ⟨x, hx⟩ : ∃ x : Int, ((c.toNat : Nat) : Int) = x := ⟨_, rfl⟩
  have HD' : Hid (∀ W, Calls Tryz.prog 43 #[.int .u8 x] W fun e w' => e = .returned (.bool (dgt c)) ∧ W = w') := Lib.hid (by rw [← hx]; exact HD.out)
  have HLT' : Hid (∀ W, Calls Tryz.prog 45 #[.int .u8 x] W fun e w' => e = .returned (.bool (ltr c)) ∧ W = w') := Lib.hid (by rw [← hx]; exact HLT.out)
  clear HD HLT
  rw [hx] at HIX hu10 hu36 hu34 hu39 hu123
  clear hx
  generalize S (c :: rest) = s at *
  have hix := HIX.out
  by_cases h10 : x = 10
  · have HE : Hid (OneR o (.returned (oneA 7 1 ByteArray.empty 0))) := Lib.hid (OneR.of (by rw [hN, if_pos (hu10.2 h10)]; rfl))
    subst h10
    clear hN
    go_enter Tryz.func27, Tryz.ntmps27
    go_wp2_with fail
    refine bodyPost_ret (v := (oneA 7 1 ByteArray.empty 0)) (by first | (simp [results, Tryz.results27, go_sem]; done) | (simp [results, Tryz.results27, go_sem]; rfl)) rfl ?_
    exact ⟨HE.out, (Below.refl _ _).alloc (Nat.le_refl _) _⟩
  · rw [if_neg (fun e => h10 (hu10.1 e))] at hN
    by_cases h36 : x = 36
    · have HN : Hid (o = nameT rest) := Lib.hid (by rw [hN, if_pos (hu36.2 h36)])
      clear hN
      subst h36
      go_enter Tryz.func27, Tryz.ntmps27
      go_wp2_with fail
      refine (KNAME.out _).mono ?_
      rintro e w1 ⟨he, hb1⟩
      have HO : Hid (OneR o e) := Lib.hid (by rw [HN.out]; exact he)
      obtain ⟨k, m, tx, r, rfl⟩ := he.form
      clear he
      have HB1 : Hid (Below W.heap.size W w1) := Lib.hid (HB0.out.trans (hb1.mono HB0.out.size))
      obtain ⟨c0, c1, c2, c3, f0, f1, f2, f3⟩ := (HT0.out.below (hb1.mono (Nat.le_of_eq HZ0.out.symm))).cells
      clear hb1
      go_wp2_with fail
      refine bodyPost_ret (v := (.tuple #[.agg #[.int .i64 k, .int .i64 0, .string tx, .int .i32 r], .int .i64 m])) (by first | (simp [results, Tryz.results27, go_sem, c0, c1, c2, c3]; done) | (simp [results, Tryz.results27, go_sem, c0, c1, c2, c3]; rfl)) rfl ?_
      exact ⟨HO.out, ((((HB1.out.setCell (Nat.le_refl _) _).setCell (Nat.le_refl _) _).setCell (Nat.le_refl _) _).setCell (Nat.le_refl _) _)⟩
    · rw [if_neg (fun e => h36 (hu36.1 e))] at hN
      cases hd : dgt c with
      | true =>
        rw [hd] at hN HD'
        have HN : Hid (o = numT (c :: rest)) := Lib.hid (by rw [hN, if_pos rfl])
        clear hN
        clear hd
        go_enter Tryz.func27, Tryz.ntmps27
        go_wp2_with fail
        refine (HD'.out _).mono ?_
        rintro e w1 ⟨rfl, rfl⟩
        go_wp2_with fail
        refine (KNUM.out _).mono ?_
        rintro e w1 ⟨he, hb1⟩
        have HO : Hid (OneR o e) := Lib.hid (by rw [HN.out]; exact he)
        obtain ⟨k, m, tx, r, rfl⟩ := he.form
        clear he
        have HB1 : Hid (Below W.heap.size W w1) := Lib.hid (HB0.out.trans (hb1.mono HB0.out.size))
        obtain ⟨c0, c1, c2, c3, f0, f1, f2, f3⟩ := (HT0.out.below (hb1.mono (Nat.le_of_eq HZ0.out.symm))).cells
        clear hb1
        go_wp2_with fail
        refine bodyPost_ret (v := (.tuple #[.agg #[.int .i64 k, .int .i64 0, .string tx, .int .i32 r], .int .i64 m])) (by first | (simp [results, Tryz.results27, go_sem, c0, c1, c2, c3]; done) | (simp [results, Tryz.results27, go_sem, c0, c1, c2, c3]; rfl)) rfl ?_
        exact ⟨HO.out, ((((HB1.out.setCell (Nat.le_refl _) _).setCell (Nat.le_refl _) _).setCell (Nat.le_refl _) _).setCell (Nat.le_refl _) _)⟩
      | false =>
        rw [hd, if_neg (by decide)] at hN
        rw [hd] at HD'
        clear hd
        cases hlt : ltr c with
        | true =>
          rw [hlt] at hN HLT'
          have HN : Hid (o = identT (c :: rest)) := Lib.hid (by rw [hN, if_pos rfl])
          clear hN
          clear hlt
          go_enter Tryz.func27, Tryz.ntmps27
          go_wp2_with fail
          refine (HD'.out _).mono ?_
          rintro e w1 ⟨rfl, rfl⟩
          go_wp2_with fail
          refine (HLT'.out _).mono ?_
          rintro e w1 ⟨rfl, rfl⟩
          go_wp2_with fail
          refine (KIDENT.out _).mono ?_
          rintro e w1 ⟨he, hb1⟩
          have HO : Hid (OneR o e) := Lib.hid (by rw [HN.out]; exact he)
          obtain ⟨k, m, tx, r, rfl⟩ := he.form
          clear he
          have HB1 : Hid (Below W.heap.size W w1) := Lib.hid (HB0.out.trans (hb1.mono HB0.out.size))
          obtain ⟨c0, c1, c2, c3, f0, f1, f2, f3⟩ := (HT0.out.below (hb1.mono (Nat.le_of_eq HZ0.out.symm))).cells
          clear hb1
          go_wp2_with fail
          refine bodyPost_ret (v := (.tuple #[.agg #[.int .i64 k, .int .i64 0, .string tx, .int .i32 r], .int .i64 m])) (by first | (simp [results, Tryz.results27, go_sem, c0, c1, c2, c3]; done) | (simp [results, Tryz.results27, go_sem, c0, c1, c2, c3]; rfl)) rfl ?_
          exact ⟨HO.out, ((((HB1.out.setCell (Nat.le_refl _) _).setCell (Nat.le_refl _) _).setCell (Nat.le_refl _) _).setCell (Nat.le_refl _) _)⟩
        | false =>
          rw [hlt, if_neg (by decide)] at hN
          rw [hlt] at HLT'
          clear hlt
          by_cases h34 : x = 34
          · have HN : Hid (o = wordT rest) := Lib.hid (by rw [hN, if_pos (hu34.2 h34)])
            clear hN
            subst h34
            go_enter Tryz.func27, Tryz.ntmps27
            go_wp2_with fail
            refine (HD'.out _).mono ?_
            rintro e w1 ⟨rfl, rfl⟩
            go_wp2_with fail
            refine (HLT'.out _).mono ?_
            rintro e w1 ⟨rfl, rfl⟩
            go_wp2_with fail
            refine (KWORD.out).mono ?_
            rintro e w1 ⟨he, hb1⟩
            have HO : Hid (OneR o e) := Lib.hid (by rw [HN.out]; exact he)
            obtain ⟨k, m, tx, r, rfl⟩ := he.form
            clear he
            have HB1 : Hid (Below W.heap.size W w1) := Lib.hid (HB0.out.trans (hb1.mono HB0.out.size))
            obtain ⟨c0, c1, c2, c3, f0, f1, f2, f3⟩ := (HT0.out.below (hb1.mono (Nat.le_of_eq HZ0.out.symm))).cells
            clear hb1
            go_wp2_with fail
            refine bodyPost_ret (v := (.tuple #[.agg #[.int .i64 k, .int .i64 0, .string tx, .int .i32 r], .int .i64 m])) (by first | (simp [results, Tryz.results27, go_sem, c0, c1, c2, c3]; done) | (simp [results, Tryz.results27, go_sem, c0, c1, c2, c3]; rfl)) rfl ?_
            exact ⟨HO.out, ((((HB1.out.setCell (Nat.le_refl _) _).setCell (Nat.le_refl _) _).setCell (Nat.le_refl _) _).setCell (Nat.le_refl _) _)⟩
          · rw [if_neg (fun e => h34 (hu34.1 e))] at hN
            by_cases h39 : x = 39
            · have HN : Hid (o = charT rest) := Lib.hid (by rw [hN, if_pos (hu39.2 h39)])
              clear hN
              have KC := Lib.hid (KCHAR.out (hu39.2 h39))
              subst h39
              go_enter Tryz.func27, Tryz.ntmps27
              go_wp2_with fail
              refine (HD'.out _).mono ?_
              rintro e w1 ⟨rfl, rfl⟩
              go_wp2_with fail
              refine (HLT'.out _).mono ?_
              rintro e w1 ⟨rfl, rfl⟩
              go_wp2_with fail
              refine (KC.out).mono ?_
              rintro e w1 ⟨he, hb1⟩
              have HO : Hid (OneR o e) := Lib.hid (by rw [HN.out]; exact he)
              obtain ⟨k, m, tx, r, rfl⟩ := he.form
              clear he
              have HB1 : Hid (Below W.heap.size W w1) := Lib.hid (HB0.out.trans (hb1.mono HB0.out.size))
              obtain ⟨c0, c1, c2, c3, f0, f1, f2, f3⟩ := (HT0.out.below (hb1.mono (Nat.le_of_eq HZ0.out.symm))).cells
              clear hb1
              go_wp2_with fail
              refine bodyPost_ret (v := (.tuple #[.agg #[.int .i64 k, .int .i64 0, .string tx, .int .i32 r], .int .i64 m])) (by first | (simp [results, Tryz.results27, go_sem, c0, c1, c2, c3]; done) | (simp [results, Tryz.results27, go_sem, c0, c1, c2, c3]; rfl)) rfl ?_
              exact ⟨HO.out, ((((HB1.out.setCell (Nat.le_refl _) _).setCell (Nat.le_refl _) _).setCell (Nat.le_refl _) _).setCell (Nat.le_refl _) _)⟩
            · rw [if_neg (fun e => h39 (hu39.1 e))] at hN
              by_cases h123 : x = 123
              · have HN : Hid (o = propT rest) := Lib.hid (by rw [hN, if_pos (hu123.2 h123)])
                clear hN
                subst h123
                go_enter Tryz.func27, Tryz.ntmps27
                go_wp2_with fail
                refine (HD'.out _).mono ?_
                rintro e w1 ⟨rfl, rfl⟩
                go_wp2_with fail
                refine (HLT'.out _).mono ?_
                rintro e w1 ⟨rfl, rfl⟩
                go_wp2_with fail
                refine (KPROP.out _).mono ?_
                rintro e w1 ⟨he, hb1⟩
                have HO : Hid (OneR o e) := Lib.hid (by rw [HN.out]; exact he)
                obtain ⟨k, m, tx, r, rfl⟩ := he.form
                clear he
                have HB1 : Hid (Below W.heap.size W w1) := Lib.hid (HB0.out.trans (hb1.mono HB0.out.size))
                obtain ⟨c0, c1, c2, c3, f0, f1, f2, f3⟩ := (HT0.out.below (hb1.mono (Nat.le_of_eq HZ0.out.symm))).cells
                clear hb1
                go_wp2_with fail
                refine bodyPost_ret (v := (.tuple #[.agg #[.int .i64 k, .int .i64 0, .string tx, .int .i32 r], .int .i64 m])) (by first | (simp [results, Tryz.results27, go_sem, c0, c1, c2, c3]; done) | (simp [results, Tryz.results27, go_sem, c0, c1, c2, c3]; rfl)) rfl ?_
                exact ⟨HO.out, ((((HB1.out.setCell (Nat.le_refl _) _).setCell (Nat.le_refl _) _).setCell (Nat.le_refl _) _).setCell (Nat.le_refl _) _)⟩
              · rw [if_neg (fun e => h123 (hu123.1 e))] at hN
                have HN : Hid (o = signT (c :: rest)) := Lib.hid hN
                clear hN
                go_enter Tryz.func27, Tryz.ntmps27
                go_wp2_with fail
                refine (HD'.out _).mono ?_
                rintro e w1 ⟨rfl, rfl⟩
                go_wp2_with fail
                refine (HLT'.out _).mono ?_
                rintro e w1 ⟨rfl, rfl⟩
                go_wp2_with fail
                refine (KSIGN.out _).mono ?_
                rintro e w1 ⟨he, hb1⟩
                have HO : Hid (OneR o e) := Lib.hid (by rw [HN.out]; exact he)
                obtain ⟨k, m, tx, r, rfl⟩ := he.form
                clear he
                have HB1 : Hid (Below W.heap.size W w1) := Lib.hid (HB0.out.trans (hb1.mono HB0.out.size))
                obtain ⟨c0, c1, c2, c3, f0, f1, f2, f3⟩ := (HT0.out.below (hb1.mono (Nat.le_of_eq HZ0.out.symm))).cells
                clear hb1
                go_wp2_with fail
                refine bodyPost_ret (v := (.tuple #[.agg #[.int .i64 k, .int .i64 0, .string tx, .int .i32 r], .int .i64 m])) (by first | (simp [results, Tryz.results27, go_sem, c0, c1, c2, c3]; done) | (simp [results, Tryz.results27, go_sem, c0, c1, c2, c3]; rfl)) rfl ?_
                exact ⟨HO.out, ((((HB1.out.setCell (Nat.le_refl _) _).setCell (Nat.le_refl _) _).setCell (Nat.le_refl _) _).setCell (Nat.le_refl _) _)⟩
end Go.Proofs.YtekpmpghbeeeoaaGreatDoor
