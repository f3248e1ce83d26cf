import Derived.Test.YtekpmpghbeeeoaaGreatDoorLexSigns
import Derived.Test.YtekpmpghbeeeoaaGreatDoorGood
/- package lex: words. -/
namespace Go.Proofs.YtekpmpghbeeeoaaGreatDoor
open Go.RowKit Go.Shelf Go.Proofs.YtekpmpghbeeeoaaGreatDoorW.PrintWords Go.Proofs.YtekpmpghbeeeoaaGreatDoorW.PrintMore

/-- A variable of a sign lies at a block. -/
def TokAt (W : World) (s : Nat) (k a : Int) (t : ByteArray) (r : Int) : Prop := W.heap[s]? = some (.cells #[.int .i64 k, .int .i64 a, .string t, .int .i32 r] 33 (0, 0))
theorem TokAt.below {W w : World} {s : Nat} {k a r : Int} {t : ByteArray} (h : TokAt W s k a t r) (hb : Below (s + 1) W w) : TokAt w s k a t r :=
  (hb.block s (by omega)).trans h
theorem nl_app (b : List UInt8) (c : UInt8) : nl (b ++ [c]) = nl b ++ [((c.toNat : Nat) : Int)] := by simp [nl]
theorem wordL_nil (b : List UInt8) (n : Nat) : wordL [] b n = none := by rw [wordL]
theorem wordL_end {r b : List UInt8} {n : Nat} (h : allGood (nl b) = true) : wordL (34 :: r) b n = some (b, n + 1) := by rw [wordL.eq_def]; simp [h]
theorem wordL_bad {r b : List UInt8} {n : Nat} (h : allGood (nl b) = false) : wordL (34 :: r) b n = none := by rw [wordL.eq_def]; simp [h]
theorem wordL_line {r b : List UInt8} {n : Nat} : wordL (10 :: r) b n = none := by rw [wordL.eq_def]; simp
theorem wordL_esc0 {b : List UInt8} {n : Nat} : wordL [92] b n = none := by rw [wordL.eq_def]; simp
theorem wordL_esc {e : UInt8} {r b : List UInt8} {n : Nat} (h : e = 34 ∨ e = 92) : wordL (92 :: e :: r) b n = wordL r (b ++ [e]) (n + 2) := by rw [wordL.eq_def]; simp [h]
theorem wordL_escN {e : UInt8} {r b : List UInt8} {n : Nat} (h : ¬ (e = 34 ∨ e = 92)) : wordL (92 :: e :: r) b n = none := by rw [wordL.eq_def]; simp [h]
theorem wordL_any {c : UInt8} {r b : List UInt8} {n : Nat} (h1 : c ≠ 34) (h2 : c ≠ 10) (h3 : c ≠ 92) : wordL (c :: r) b n = wordL r (b ++ [c]) (n + 1) := by rw [wordL.eq_def]; simp [h1, h2, h3]
theorem put_step' (base : Nat) (W : World) (v : Value) (xs ys : List Int) (ho : OwnB W base v xs) (hb : base ≤ W.heap.size) (hm : ys.length ≤ 4) :
    OwnB (W.alloc (.cells (nums .u8 ys).toArray 5)) base v xs ∧ ReadsInt (W.alloc (.cells (nums .u8 ys).toArray 5)) .u8 (some ⟨W.heap.size, 0, none⟩) ys.length ys ∧ Below base W (W.alloc (.cells (nums .u8 ys).toArray 5)) := by
  have hl := rd_lit W ys (0, 0) (by omega)
  obtain ⟨A, c, h1, h2, h3⟩ := hl
  injection h1 with e1 e2 e3
  subst e1
  exact ⟨OwnB.below ho (below_alloc (Below.refl _ W) _), h3, (Below.refl _ W).alloc hb _⟩
theorem TokAt.cells {W : World} {s : Nat} {k a r : Int} {t : ByteArray} (h : TokAt W s k a t r) : W.cell? ⟨s, 0, none⟩ = some (.int .i64 k) ∧ W.cell? ⟨s, 1, none⟩ = some (.int .i64 a) ∧ W.cell? ⟨s, 2, none⟩ = some (.string t) ∧ W.cell? ⟨s, 3, none⟩ = some (.int .i32 r) ∧
    W.frozen? ⟨s, 0, none⟩ = false ∧ W.frozen? ⟨s, 1, none⟩ = false ∧ W.frozen? ⟨s, 2, none⟩ = false ∧ W.frozen? ⟨s, 3, none⟩ = false := by
  unfold TokAt at h
  simp [World.cell?, World.frozen?, h]
set_option maxRecDepth 100000 in
set_option maxHeartbeats 4000000 in
theorem lex_word (c : UInt8) (rest : List UInt8) (hl : rest.length < 1000000) (W : World) (hT : Tabs W) :
    Calls Tryz.prog 47 #[.string (S (c :: rest))] W fun e w' => OneR (wordT rest) e ∧ Below W.heap.size W w' := by
  have hsz := S_size (c :: rest)
  rw [List.length_cons] at hsz
  have HN : Hid (wordT rest = (wordL rest [] 1).map fun x => ⟨2, x.1, 0, x.2⟩) := Lib.hid rfl
  have HTB := Lib.hid hT
  have HIX : Hid (∀ (k : Nat) (h : k < rest.length) W, (Instr.index 9 (.string (S (c :: rest))) (.int .i64 ((k : Int) + 1))).run Tryz.prog W = .ok (.int .u8 ((rest[k].toNat : Nat) : Int)) W) := Lib.hid (fun k h W => ixS (l := c :: rest) (k := k + 1) (by simp; omega) W)
  clear hT
  obtain ⟨o, ho⟩ : ∃ o, wordT rest = o := ⟨_, rfl⟩
  rw [ho] at HN ⊢
  clear ho
  generalize S (c :: rest) = s at *
  have B0 : Below W.heap.size W (W.alloc (.cells #[.int .i64 0, .int .i64 0, .string ByteArray.empty, .int .i32 0] 33)) := (Below.refl _ _).alloc (Nat.le_refl _) _
  have T0 : TokAt (W.alloc (.cells #[.int .i64 0, .int .i64 0, .string ByteArray.empty, .int .i32 0] 33)) W.heap.size 0 0 ByteArray.empty 0 := by
    unfold TokAt World.alloc
    simp
  have Z0 : W.heap.size + 1 ≤ (W.alloc (.cells #[.int .i64 0, .int .i64 0, .string ByteArray.empty, .int .i32 0] 33)).heap.size := by simp
  have HB0 := Lib.hid B0
  have HT0 := Lib.hid T0
  have HZ0 := Lib.hid Z0
  clear B0 T0 Z0
  go_enter Tryz.func47, Tryz.ntmps47
  go_wp2_with fail
  go_loopw [4, 5] (fun u i wr => ∃ (n : Nat) (b : List UInt8) (uu : Value), uu = u ∧ n ≤ rest.length ∧ i = .int .i64 ((n : Int) + 1) ∧ Hid (b.length ≤ n) ∧ Hid (wordL rest [] 1 = wordL (rest.drop n) b (n + 1)) ∧ Hid (OwnB wr (W.heap.size + 1) uu (nl b)) ∧ Hid (TokAt wr W.heap.size 0 0 ByteArray.empty 0) ∧ Hid (Below W.heap.size W wr) ∧ Hid (W.heap.size + 1 ≤ wr.heap.size)) (fun _ i _ => rest.length + 1 - (intOf i).toNat)
  case atStart => exact ⟨0, [], _, rfl, Nat.zero_le _, rfl, Lib.hid (Nat.zero_le _), Lib.hid rfl, Lib.hid (OwnB.nil _ _), HT0, HB0, HZ0⟩
  case round =>
    obtain ⟨n, b, u, rfl, hn, rfl, HBL, HWL, HO, HTK, HB, HZ⟩ := hrel
    by_cases hlt : n < rest.length
    · have hlt' : (n : Int) + 1 < (s.size : Int) := by rw [hsz]; omega
      have HX := Lib.hid (HIX.out n hlt)
      have HD : Hid (rest.drop n = rest[n] :: rest.drop (n + 1)) := Lib.hid (List.drop_eq_getElem_cons hlt)
      have HU34 := Lib.hid (u8_eq rest[n] 34 (by decide))
      have HU10 := Lib.hid (u8_eq rest[n] 10 (by decide))
      have HU92 := Lib.hid (u8_eq rest[n] 92 (by decide))
      have HNA := Lib.hid (nl_app b rest[n])
      obtain ⟨y, hy⟩ : ∃ y, rest[n] = y := ⟨_, rfl⟩
      rw [hy] at HX HD HU34 HU10 HU92 HNA
      clear hy
      obtain ⟨x, hx⟩ : ∃ x : Int, ((y.toNat : Nat) : Int) = x := ⟨_, rfl⟩
      rw [hx] at HX HU34 HU10 HU92 HNA
      clear hx
      have hix := HX.out
      by_cases h34 : x = 34
      · have HY : Hid (y = 34) := Lib.hid (HU34.out.2 h34)
        have HG := Lib.hid (fun W' (hT : Tabs W') (hr : RdB W' u (nl b)) => utf_good u (nl b) W' hT hr (nl_by b))
        have HEQ := Lib.hid h34
        clear h34 HU34 HU10 HU92 HNA
        cases hg : allGood (nl b) with
        | true =>
          have HE : Hid (OneR o (.returned (oneA 2 ((n : Int) + 2) (S b) 0))) := Lib.hid (OneR.of (by rw [HN.out, HWL.out, HD.out, HY.out, wordL_end hg]; rfl))
          rw [hg] at HG
          clear hg
          obtain ⟨A, cc, hu, -, -⟩ := HO.out.rd
          have HR := Lib.hid HO.out.rd
          have HTW : Hid (Tabs wr) := Lib.hid (HTB.out.below HB.out)
          subst hu
          have hE := HEQ.out
          clear HEQ
          subst hE
          go_wp2_with fail
          refine (HG.out _ HTW.out HR.out).mono ?_
          rintro e w1 ⟨he, hb1⟩
          subst he
          have HB1 : Hid (Below W.heap.size W w1) := Lib.hid (HB.out.trans (hb1.mono HB.out.size))
          obtain ⟨c0, c1, c2, c3, f0, f1, f2, f3⟩ := (HTK.out.below (hb1.mono HZ.out)).cells
          have hcv : (convert 39 9 (.slice A (nl b).length cc)).run Tryz.prog w1 = .ok (.string (S b)) w1 := by
            have hr1 : RdB w1 (.slice A (nl b).length cc) (nl b) := HR.out.below hb1
            obtain ⟨A', c', h1, -, h3⟩ := hr1
            injection h1 with e1 e2 e3
            subst e1
            rw [conv_bytes_string _ _ _ Tryz.underlying39 Tryz.underlying5 Tryz.underlying9 h3, nl_str]
          generalize S b = sb at hcv HE
          generalize (nl b).length = nlb at *
          clear hb1
          go_wp2_with fail
          refine bodyPost_ret (v := (oneA 2 ((n : Int) + 2) sb 0)) (by first | (simp [results, Tryz.results47, go_sem, c0, c1, c2, c3]; done) | (simp [results, Tryz.results47, go_sem, c0, c1, c2, c3]; rfl)) rfl ?_
          exact ⟨HE.out, ((((HB1.out.setCell (Nat.le_refl _) _).setCell (Nat.le_refl _) _).setCell (Nat.le_refl _) _).setCell (Nat.le_refl _) _)⟩
        | false =>
          have HE : Hid (OneR o (.returned (oneA 0 0 ByteArray.empty 0))) := Lib.hid (OneR.of (by rw [HN.out, HWL.out, HD.out, HY.out, wordL_bad hg]; rfl))
          rw [hg] at HG
          clear hg
          obtain ⟨A, cc, hu, -, -⟩ := HO.out.rd
          have HR := Lib.hid HO.out.rd
          have HTW : Hid (Tabs wr) := Lib.hid (HTB.out.below HB.out)
          subst hu
          have hE := HEQ.out
          clear HEQ
          subst hE
          go_wp2_with fail
          refine (HG.out _ HTW.out HR.out).mono ?_
          rintro e w1 ⟨he, hb1⟩
          subst he
          have HB1 : Hid (Below W.heap.size W w1) := Lib.hid (HB.out.trans (hb1.mono HB.out.size))
          obtain ⟨c0, c1, c2, c3, f0, f1, f2, f3⟩ := (HTK.out.below (hb1.mono HZ.out)).cells
          clear hb1
          go_wp2_with fail
          refine bodyPost_ret (v := (oneA 0 0 ByteArray.empty 0)) (by first | (simp [results, Tryz.results47, go_sem, c0, c1, c2, c3]; done) | (simp [results, Tryz.results47, go_sem, c0, c1, c2, c3]; rfl)) rfl ?_
          exact ⟨HE.out, ((((HB1.out.setCell (Nat.le_refl _) _).setCell (Nat.le_refl _) _).setCell (Nat.le_refl _) _).setCell (Nat.le_refl _) _)⟩
      · by_cases h10 : x = 10
        · have HE : Hid (OneR o (.returned (oneA 0 0 ByteArray.empty 0))) := Lib.hid (OneR.of (by have hY10 : y = 10 := HU10.out.2 h10; rw [HN.out, HWL.out, HD.out, hY10, wordL_line]; rfl))
          clear HU34 HU10 HU92 HNA h34
          obtain ⟨c0, c1, c2, c3, f0, f1, f2, f3⟩ := HTK.out.cells
          subst h10
          go_wp2_with fail
          refine bodyPost_ret (v := (oneA 0 0 ByteArray.empty 0)) (by first | (simp [results, Tryz.results47, go_sem, c0, c1, c2, c3]; done) | (simp [results, Tryz.results47, go_sem, c0, c1, c2, c3]; rfl)) rfl ?_
          exact ⟨HE.out, ((((HB.out.setCell (Nat.le_refl _) _).setCell (Nat.le_refl _) _).setCell (Nat.le_refl _) _).setCell (Nat.le_refl _) _)⟩
        · by_cases h92 : x = 92
          · have HY : Hid (y = 92) := Lib.hid (HU92.out.2 h92)
            have k34 : (x == 34) = false := by rw [beq_eq_false_iff_ne]; exact h34
            have k10 : (x == 10) = false := by rw [beq_eq_false_iff_ne]; exact h10
            clear HU34 HU10 HU92 HNA
            subst h92
            clear h34 h10 k34 k10
            by_cases hl2 : n + 1 < rest.length
            · have hne : ¬ (n : Int) + 1 + 1 = (s.size : Int) := by rw [hsz]; omega
              have hneb : ((n : Int) + 1 + 1 == (s.size : Int)) = false := by rw [beq_eq_false_iff_ne]; exact hne
              have hix2 : ∀ W, (Instr.index 9 (.string s) (.int .i64 ((n : Int) + 1 + 1))).run Tryz.prog W = .ok (.int .u8 ((rest[n + 1].toNat : Nat) : Int)) W := HIX.out (n + 1) hl2
              have HD2 : Hid (rest.drop (n + 1) = rest[n + 1] :: rest.drop (n + 2)) := Lib.hid (List.drop_eq_getElem_cons hl2)
              have HV34 := Lib.hid (u8_eq rest[n + 1] 34 (by decide))
              have HV92 := Lib.hid (u8_eq rest[n + 1] 92 (by decide))
              have HNA := Lib.hid (nl_app b rest[n + 1])
              obtain ⟨z, hz⟩ : ∃ z, rest[n + 1] = z := ⟨_, rfl⟩
              rw [hz] at hix2 HD2 HV34 HV92 HNA
              clear hz
              obtain ⟨q, hq⟩ : ∃ q : Int, ((z.toNat : Nat) : Int) = q := ⟨_, rfl⟩
              rw [hq] at hix2 HV34 HV92 HNA
              clear hq
              by_cases hq34 : q = 34
              · have HEN : Hid (wordL rest [] 1 = wordL (rest.drop (n + 2)) (b ++ [z]) (n + 2 + 1)) := Lib.hid (by rw [HWL.out, HD.out, HY.out, HD2.out, wordL_esc (.inl (HV34.out.2 hq34))])
                clear HV34 HV92
                subst hq34
                have HP := Lib.hid (put_step' (W.heap.size + 1) wr u (nl b) [34] HO.out HZ.out (by simp))
                have HLL : Hid ((nl b).length ≤ n) := Lib.hid (by rw [nl_length]; exact HBL.out)
                go_wp2_with (at_builtin; refine print_append_row (w0 := wr) (W.heap.size + 1) rfl _ _ _ _ .u8 1 rfl Tryz.underlying39 info8 (by omega) u (nl b) [34] (some ⟨wr.heap.size, 0, none⟩) 1 1 rfl rfl HP.out.1 HP.out.2.1 HP.out.2.2 (Nat.le_trans HZ.out HP.out.2.2.size) (by have := HLL.out; omega) ?_; intro v2 w2 ho2 hb2 hg2 hat2)
                go_round
                case rel => exact ⟨n + 2, b ++ [z], _, rfl, by omega, by go_num, Lib.hid (by have := HBL.out; rw [List.length_append, List.length_singleton]; omega), HEN, Lib.hid (by rw [HNA.out]; exact ho2), Lib.hid (HTK.out.below hb2), Lib.hid (HB.out.trans (hb2.mono (Nat.le_succ _))), Lib.hid (Nat.le_trans HZ.out hb2.size)⟩
                case measure => simp [intOf]; omega
              · by_cases hq92 : q = 92
                · have HEN : Hid (wordL rest [] 1 = wordL (rest.drop (n + 2)) (b ++ [z]) (n + 2 + 1)) := Lib.hid (by rw [HWL.out, HD.out, HY.out, HD2.out, wordL_esc (.inr (HV92.out.2 hq92))])
                  clear HV34 HV92
                  subst hq92
                  have HP := Lib.hid (put_step' (W.heap.size + 1) wr u (nl b) [92] HO.out HZ.out (by simp))
                  have HLL : Hid ((nl b).length ≤ n) := Lib.hid (by rw [nl_length]; exact HBL.out)
                  go_wp2_with (at_builtin; refine print_append_row (w0 := wr) (W.heap.size + 1) rfl _ _ _ _ .u8 1 rfl Tryz.underlying39 info8 (by omega) u (nl b) [92] (some ⟨wr.heap.size, 0, none⟩) 1 1 rfl rfl HP.out.1 HP.out.2.1 HP.out.2.2 (Nat.le_trans HZ.out HP.out.2.2.size) (by have := HLL.out; omega) ?_; intro v2 w2 ho2 hb2 hg2 hat2)
                  go_round
                  case rel => exact ⟨n + 2, b ++ [z], _, rfl, by omega, by go_num, Lib.hid (by have := HBL.out; rw [List.length_append, List.length_singleton]; omega), HEN, Lib.hid (by rw [HNA.out]; exact ho2), Lib.hid (HTK.out.below hb2), Lib.hid (HB.out.trans (hb2.mono (Nat.le_succ _))), Lib.hid (Nat.le_trans HZ.out hb2.size)⟩
                  case measure => simp [intOf]; omega
                · have HE : Hid (OneR o (.returned (oneA 0 0 ByteArray.empty 0))) := Lib.hid (OneR.of (by rw [HN.out, HWL.out, HD.out, HY.out, HD2.out, wordL_escN (by rintro (h | h); exact hq34 (HV34.out.1 h); exact hq92 (HV92.out.1 h))]; rfl))
                  clear HV34 HV92
                  have j34 : (q != 34) = true := by simp [hq34]
                  have j92 : (q != 92) = true := by simp [hq92]
                  obtain ⟨c0, c1, c2, c3, f0, f1, f2, f3⟩ := HTK.out.cells
                  go_wp2_with fail
                  refine bodyPost_ret (v := (oneA 0 0 ByteArray.empty 0)) (by first | (simp [results, Tryz.results47, go_sem, c0, c1, c2, c3]; done) | (simp [results, Tryz.results47, go_sem, c0, c1, c2, c3]; rfl)) rfl ?_
                  exact ⟨HE.out, ((((HB.out.setCell (Nat.le_refl _) _).setCell (Nat.le_refl _) _).setCell (Nat.le_refl _) _).setCell (Nat.le_refl _) _)⟩
            · have HE : Hid (OneR o (.returned (oneA 0 0 ByteArray.empty 0))) := Lib.hid (OneR.of (by rw [HN.out, HWL.out, HD.out, HY.out, List.drop_eq_nil_of_le (by omega), wordL_esc0]; rfl))
              have heq : (n : Int) + 1 + 1 = (s.size : Int) := by rw [hsz]; omega
              have heqb : ((n : Int) + 1 + 1 == (s.size : Int)) = true := by rw [beq_iff_eq]; exact heq
              obtain ⟨c0, c1, c2, c3, f0, f1, f2, f3⟩ := HTK.out.cells
              go_wp2_with fail
              refine bodyPost_ret (v := (oneA 0 0 ByteArray.empty 0)) (by first | (simp [results, Tryz.results47, go_sem, c0, c1, c2, c3]; done) | (simp [results, Tryz.results47, go_sem, c0, c1, c2, c3]; rfl)) rfl ?_
              exact ⟨HE.out, ((((HB.out.setCell (Nat.le_refl _) _).setCell (Nat.le_refl _) _).setCell (Nat.le_refl _) _).setCell (Nat.le_refl _) _)⟩
          · have HEN : Hid (wordL rest [] 1 = wordL (rest.drop (n + 1)) (b ++ [y]) (n + 1 + 1)) := Lib.hid (by rw [HWL.out, HD.out, wordL_any (fun e => h34 (HU34.out.1 e)) (fun e => h10 (HU10.out.1 e)) (fun e => h92 (HU92.out.1 e))])
            clear HU34 HU10 HU92
            have k34 : (x == 34) = false := by rw [beq_eq_false_iff_ne]; exact h34
            have k10 : (x == 10) = false := by rw [beq_eq_false_iff_ne]; exact h10
            have k92 : (x == 92) = false := by rw [beq_eq_false_iff_ne]; exact h92
            have HP := Lib.hid (put_step' (W.heap.size + 1) wr u (nl b) [x] HO.out HZ.out (by simp))
            have HLL : Hid ((nl b).length ≤ n) := Lib.hid (by rw [nl_length]; exact HBL.out)
            go_wp2_with (at_builtin; refine print_append_row (w0 := wr) (W.heap.size + 1) rfl _ _ _ _ .u8 1 rfl Tryz.underlying39 info8 (by omega) u (nl b) [x] (some ⟨wr.heap.size, 0, none⟩) 1 1 rfl rfl HP.out.1 HP.out.2.1 HP.out.2.2 (Nat.le_trans HZ.out HP.out.2.2.size) (by have := HLL.out; omega) ?_; intro v2 w2 ho2 hb2 hg2 hat2)
            go_round
            case rel => exact ⟨n + 1, b ++ [y], _, rfl, by omega, by go_num, Lib.hid (by have := HBL.out; rw [List.length_append, List.length_singleton]; omega), HEN, Lib.hid (by rw [HNA.out]; exact ho2), Lib.hid (HTK.out.below hb2), Lib.hid (HB.out.trans (hb2.mono (Nat.le_succ _))), Lib.hid (Nat.le_trans HZ.out hb2.size)⟩
            case measure => simp [intOf]; omega
    · obtain rfl : n = rest.length := by omega
      have hge : ¬ ((rest.length : Int) + 1 < (s.size : Int)) := by rw [hsz]; omega
      have HE : Hid (OneR o (.returned (oneA 0 0 ByteArray.empty 0))) := Lib.hid (OneR.of (by rw [HN.out, HWL.out, List.drop_length, wordL_nil]; rfl))
      obtain ⟨c0, c1, c2, c3, f0, f1, f2, f3⟩ := HTK.out.cells
      go_wp2_with fail
      refine bodyPost_ret (v := (oneA 0 0 ByteArray.empty 0)) (by first | (simp [results, Tryz.results47, go_sem, c0, c1, c2, c3]; done) | (simp [results, Tryz.results47, go_sem, c0, c1, c2, c3]; rfl)) rfl ?_
      exact ⟨HE.out, ((((HB.out.setCell (Nat.le_refl _) _).setCell (Nat.le_refl _) _).setCell (Nat.le_refl _) _).setCell (Nat.le_refl _) _)⟩
end Go.Proofs.YtekpmpghbeeeoaaGreatDoor
