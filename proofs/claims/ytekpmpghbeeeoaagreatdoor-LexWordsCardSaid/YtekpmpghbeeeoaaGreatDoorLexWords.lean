import Derived.Test.YtekpmpghbeeeoaaGreatDoorLexChars
/- LexWords: a word of any text without line feeds, quoted, is that text; without its last quote it is none. -/
namespace Go.Proofs.YtekpmpghbeeeoaaGreatDoor
open Go.RowKit Go.Shelf Go.Proofs.YtekpmpghbeeeoaaGreatDoorW.PrintWords Go.Proofs.YtekpmpghbeeeoaaGreatDoorW.PrintMore

theorem flat_take {s : List UInt8} {k : Nat} (h : k < s.length) : (s.take (k + 1)).flatMap escB = (s.take k).flatMap escB ++ escB s[k] := by
  rw [List.take_succ_eq_append_getElem h, List.flatMap_append]
  simp
set_option maxRecDepth 100000 in
set_option maxHeartbeats 4000000 in
theorem ref_quote (s : List UInt8) (hl : s.length ≤ 1000000) (W : World) :
    Calls Tryz.prog 17 #[.string (S s)] W fun e w' => e = .returned (.string (S (quoteL s))) ∧ W = w' := by
  have hsz := S_size s
  have HR : Hid (quoteL s = (34 :: s.flatMap escB) ++ [34]) := Lib.hid rfl
  obtain ⟨sr, hsr⟩ : ∃ x, S (quoteL s) = x := ⟨_, rfl⟩
  have HSR := Lib.hid hsr
  rw [hsr]
  have HC34 : Hid (S [34] = { data := #[34] }) := Lib.hid rfl
  have HC92 : Hid (S [92] = { data := #[92] }) := Lib.hid rfl
  have HIX := Lib.hid (fun k (h : k < s.length) W => ixS (l := s) h W)
  have HSB : Hid (∀ k (h : k < s.length) W, (Instr.slice 9 (.string (S s)) (some (.int .i64 (k : Int))) (some (.int .i64 ((k : Int) + 1))) none).run Tryz.prog W = .ok (.string (S [s[k]])) W) := Lib.hid (fun k h W => by
    have := run_sub s k (k + 1) (by omega) (by omega) W
    rw [show (s.take (k + 1)).drop k = [s[k]] from by rw [List.take_succ_eq_append_getElem h, List.drop_left' (by rw [List.length_take]; omega)]] at this
    exact this)
  clear hsr
  generalize S s = ss at *
  go_enter Tryz.func17, Tryz.ntmps17
  go_wp2_with fail
  go_loopw [3, 4] (fun ov iv wr => ∃ (k : Nat) (bs : List UInt8), iv = .int .i64 (k : Int) ∧ k ≤ s.length ∧ ov = .string (S bs) ∧ Hid (bs = 34 :: (s.take k).flatMap escB) ∧ Hid (bs.length ≤ 2 * k + 1) ∧ Hid (wr = W)) (fun _ iv _ => s.length - (intOf iv).toNat)
  case atStart => exact ⟨0, [34], rfl, Nat.zero_le _, by rw [HC34.out], Lib.hid rfl, Lib.hid (by simp), Lib.hid rfl⟩
  case round =>
    obtain ⟨k, bs, rfl, hk, rfl, HBS, HBL, HWR⟩ := hrel
    have hwr := HWR.out
    subst hwr
    by_cases hlt : k < s.length
    · have hlt' : (k : Int) < (ss.size : Int) := by omega
      have hix := HIX.out k hlt
      have hsb := HSB.out k hlt
      have HFT : Hid (34 :: (s.take (k + 1)).flatMap escB = bs ++ escB s[k]) := Lib.hid (by rw [flat_take hlt, HBS.out]; rfl)
      obtain ⟨y, hy⟩ : ∃ y, s[k] = y := ⟨_, rfl⟩
      rw [hy] at hix hsb HFT
      clear hy
      obtain ⟨e1, e2⟩ := add_str bs [y] (by have := HBL.out; omega) (by simp)
      obtain ⟨e3, e4⟩ := add_str bs [92] (by have := HBL.out; omega) (by simp)
      obtain ⟨e5, e6⟩ := add_str (bs ++ [92]) [y] (by have := HBL.out; simp; omega) (by simp)
      rw [HC92.out] at e3 e4
      have u34 : y = 34 ↔ ((y.toNat : Nat) : Int) = 34 := u8_eq y 34 (by decide)
      have u92 : y = 92 ↔ ((y.toNat : Nat) : Int) = 92 := u8_eq y 92 (by decide)
      obtain ⟨x, hx⟩ : ∃ x : Int, ((y.toNat : Nat) : Int) = x := ⟨_, rfl⟩
      rw [hx] at hix u34 u92
      clear hx
      by_cases h34 : x = 34
      · have HE : Hid (escB y = [92] ++ [y]) := Lib.hid (by rw [u34.2 h34]; rfl)
        subst h34
        clear u34 u92
        go_wp2_with fail
        go_round
        case rel => exact ⟨k + 1, bs ++ [92] ++ [y], by go_num, by omega, by rw [List.append_assoc]; rfl, Lib.hid (by rw [HFT.out, HE.out, List.append_assoc]), Lib.hid (by have := HBL.out; simp; omega), Lib.hid (by first | rfl | trivial)⟩
        case measure => simp [intOf]; omega
      · by_cases h92 : x = 92
        · have HE : Hid (escB y = [92] ++ [y]) := Lib.hid (by rw [u92.2 h92]; rfl)
          subst h92
          clear u34 u92
          go_wp2_with fail
          go_round
          case rel => exact ⟨k + 1, bs ++ [92] ++ [y], by go_num, by omega, by rw [List.append_assoc]; rfl, Lib.hid (by rw [HFT.out, HE.out, List.append_assoc]), Lib.hid (by have := HBL.out; simp; omega), Lib.hid (by first | rfl | trivial)⟩
          case measure => simp [intOf]; omega
        · have HE : Hid (escB y = [y]) := Lib.hid (by unfold escB; rw [if_neg (fun e => h92 (u92.1 e)), if_neg (fun e => h34 (u34.1 e))])
          have k34 : (x == 34) = false := by rw [beq_eq_false_iff_ne]; exact h34
          have k92 : (x == 92) = false := by rw [beq_eq_false_iff_ne]; exact h92
          clear u34 u92
          go_wp2_with fail
          go_round
          case rel => exact ⟨k + 1, bs ++ [y], by go_num, by omega, rfl, Lib.hid (by rw [HFT.out, HE.out]), Lib.hid (by have := HBL.out; simp; omega), Lib.hid (by first | rfl | trivial)⟩
          case measure => simp [intOf]; omega
    · obtain rfl : k = s.length := by omega
      have hge : ¬ ((s.length : Int)) < (ss.size : Int) := by omega
      obtain ⟨e1, e2⟩ := add_str bs [34] (by have := HBL.out; omega) (by simp)
      rw [HC34.out] at e1 e2
      have HF : Hid (S (bs ++ [34]) = sr) := Lib.hid (by rw [← HSR.out, HR.out, HBS.out, List.take_length])
      go_wp2_with fail
      go_ret
      exact ⟨by rw [← HF.out]; rfl, rfl⟩
/-- Signs that are printed by themselves. -/
def plainB (b : UInt8) : Bool := decide (32 ≤ b.toNat) && decide (b.toNat < 127)
theorem enc_ascii : ∀ {l : List UInt8}, (∀ b ∈ l, b.toNat < 128) → encs' (nl l) = nl l
  | [], _ => rfl
  | b :: l, h => by
    have hb := h b (List.mem_cons_self ..)
    show enc ((b.toNat : Nat) : Int) ++ encs' (nl l) = ((b.toNat : Nat) : Int) :: nl l
    rw [enc_ascii (fun x hx => h x (List.mem_cons_of_mem _ hx))]
    unfold enc
    rw [Lib.encodeRuneZ_one (by omega) (by omega)]
    rfl
theorem good_ascii {l : List UInt8} (h : ∀ b ∈ l, b.toNat < 128) : allGood (nl l) = true := by
  have := good_encs (nl l)
  rwa [enc_ascii h] at this
theorem wordL_open : ∀ (t b : List UInt8) (n : Nat), (∀ x ∈ t, x ≠ 10) → wordL (t.flatMap escB) b n = none
  | [], b, n, _ => by rw [List.flatMap_nil, wordL]
  | c :: t, b, n, h => by
    have hc := h c (List.mem_cons_self ..)
    have ih := fun b n => wordL_open t b n (fun x hx => h x (List.mem_cons_of_mem _ hx))
    rw [List.flatMap_cons]
    by_cases h92 : c = 92
    · subst h92
      show wordL (92 :: 92 :: t.flatMap escB) b n = none
      rw [wordL_esc (.inr rfl)]
      exact ih _ _
    · by_cases h34 : c = 34
      · subst h34
        show wordL (92 :: 34 :: t.flatMap escB) b n = none
        rw [wordL_esc (.inl rfl)]
        exact ih _ _
      · have e : escB c = [c] := by unfold escB; rw [if_neg h92, if_neg h34]
        rw [e, List.singleton_append, wordL_any h34 hc h92]
        exact ih _ _
theorem quote_scan {s : List UInt8} (hp : ∀ b ∈ s, plainB b = true) : (tk 0 (quoteL s)).2 = none ∧ scanT (quoteL s) = [⟨2, 0, s, 0⟩, ⟨0, (quoteL s).length, [], 0⟩] := by
  have hx : ∀ x ∈ s, x ≠ 10 := fun x hx e => by have := hp x hx; subst e; revert this; decide
  have ha : ∀ b ∈ s, b.toNat < 128 := fun b hb => by have := hp b hb; unfold plainB at this; simp at this; omega
  have h := tk_tok (p := quoteL s) (t := []) 0 (oneT_quote [] hx (good_ascii ha)) rfl
  rw [List.append_nil] at h
  unfold scanT
  rw [h]
  exact ⟨rfl, rfl⟩
theorem open_scan {s : List UInt8} (hp : ∀ b ∈ s, plainB b = true) : (tk 0 (55 :: 32 :: 34 :: s.flatMap escB)).2 = some 2 := by
  have hx : ∀ x ∈ s, x ≠ 10 := fun x hx e => by have := hp x hx; subst e; revert this; decide
  have ho : oneT ([55] ++ 32 :: 34 :: s.flatMap escB) = some ⟨3, [55], 0, 1⟩ := oneT_app (by rfl) (fun b hb => by cases hb; decide)
  have h := tk_tok 0 ho rfl
  show (tk 0 ([55] ++ 32 :: 34 :: s.flatMap escB)).2 = some 2
  rw [h]
  show (tk (0 + 1) (32 :: 34 :: s.flatMap escB)).2 = some 2
  rw [tk_blank (by decide)]
  have hb : blankN (34 :: s.flatMap escB) = 0 := by
    unfold blankN
    rw [cnt_no (by decide), List.drop_zero, List.head?_cons, if_neg (by decide)]
  rw [tk_none (by rw [hb]; simp) (by
    rw [hb, List.drop_zero]
    simp only [oneT]
    rw [if_neg (by decide), if_neg (by decide), if_neg (by decide), if_neg (by decide), if_pos trivial]
    unfold wordT
    rw [wordL_open s [] 1 hx]
    rfl), hb]
theorem bad_word : (tk 0 [34, 97, 10, 98, 34]).2 = some 0 := by decide +kernel
set_option maxRecDepth 100000 in
set_option maxHeartbeats 8000000 in
theorem lexWords_walk (a0 : ByteArray) (w : World) (hW : LW w) (hsz0 : a0.size ≤ 140737488351232) :
    Calls Tryz.prog 7 #[.string a0] w fun e w' => e = .returned (.bool true) ∧ Below w.heap.size w w' := by
  have HK := Lib.hid (law6_known w hW)
  have HW := Lib.hid hW
  clear hW
  obtain ⟨s, hs⟩ : ∃ s, S s = a0 := ⟨_, S_of a0⟩
  have hsz := S_size s
  rw [hs] at hsz
  have HS := Lib.hid hs
  clear hs
  by_cases hlong : 200 < s.length
  · have hlong' : 200 < (a0.size : Int) := by omega
    go_enter Tryz.func7, Tryz.ntmps7
    go_wp2_with fail
    refine HK.out.mono ?_
    rintro e w1 ⟨he, hb1⟩
    subst he
    have HB1 := Lib.hid hb1
    clear hb1
    go_wp2_with fail
    go_ret
    exact ⟨rfl, HB1.out⟩
  · have hlong' : ¬ 200 < (a0.size : Int) := by omega
    have HIX : Hid (∀ k (h : k < s.length) W, (Instr.index 9 (.string a0) (.int .i64 (k : Int))).run Tryz.prog W = .ok (.int .u8 ((s[k].toNat : Nat) : Int)) W) := Lib.hid (by rw [← HS.out]; exact fun k h W => ixS (l := s) h W)
    go_enter Tryz.func7, Tryz.ntmps7
    go_wp2_with fail
    refine HK.out.mono ?_
    rintro e w1 ⟨he, hb1⟩
    subst he
    have HB1 := Lib.hid hb1
    clear hb1
    go_wp2_with fail
    go_loopw [3, 4] (fun gv iv wr => ∃ (k : Nat) (g : Bool), iv = .int .i64 (k : Int) ∧ k ≤ s.length ∧ gv = .bool g ∧ Hid (g = (s.take k).all plainB) ∧ Hid (wr = w1)) (fun _ iv _ => s.length - (intOf iv).toNat)
    case atStart => exact ⟨0, true, rfl, Nat.zero_le _, rfl, Lib.hid rfl, Lib.hid rfl⟩
    case round =>
      obtain ⟨k, g, rfl, hk, rfl, HG, HWR⟩ := hrel
      have hwr := HWR.out
      subst hwr
      by_cases hlt : k < s.length
      · have hlt' : (k : Int) < (a0.size : Int) := by omega
        have hix := HIX.out k hlt
        have HT : Hid ((s.take (k + 1)).all plainB = (g && plainB s[k])) := Lib.hid (by rw [List.take_succ_eq_append_getElem hlt, List.all_append, HG.out]; simp)
        obtain ⟨y, hy⟩ : ∃ y, s[k] = y := ⟨_, rfl⟩
        rw [hy] at hix HT
        clear hy
        have HPL : Hid (plainB y = (decide (32 ≤ y.toNat) && decide (y.toNat < 127))) := Lib.hid rfl
        obtain ⟨m, hm⟩ : ∃ m, y.toNat = m := ⟨_, rfl⟩
        rw [hm] at hix HPL
        clear hm
        cases g with
        | false =>
          go_wp2_with fail
          go_round
          case rel => exact ⟨k + 1, false, by go_num, by omega, rfl, Lib.hid (by rw [HT.out]; rfl), Lib.hid (by first | rfl | trivial)⟩
          case measure => simp [intOf]; omega
        | true =>
          by_cases h32 : 32 ≤ m
          · by_cases h127 : m < 127
            · have HF : Hid ((s.take (k + 1)).all plainB = true) := Lib.hid (by rw [HT.out, HPL.out]; simp [h32, h127])
              go_wp2_with fail
              go_round
              case rel => exact ⟨k + 1, true, by go_num, by omega, by rw [decide_eq_true (by omega)], Lib.hid HF.out.symm, Lib.hid (by first | rfl | trivial)⟩
              case measure => simp [intOf]; omega
            · have HF : Hid ((s.take (k + 1)).all plainB = false) := Lib.hid (by rw [HT.out, HPL.out]; simp [h127])
              go_wp2_with fail
              go_round
              case rel => exact ⟨k + 1, false, by go_num, by omega, by rw [decide_eq_false (by omega)], Lib.hid HF.out.symm, Lib.hid (by first | rfl | trivial)⟩
              case measure => simp [intOf]; omega
          · have HF : Hid ((s.take (k + 1)).all plainB = false) := Lib.hid (by rw [HT.out, HPL.out]; simp [h32])
            go_wp2_with fail
            go_round
            case rel => exact ⟨k + 1, false, by go_num, by omega, rfl, Lib.hid HF.out.symm, Lib.hid (by first | rfl | trivial)⟩
            case measure => simp [intOf]; omega
      · obtain rfl : k = s.length := by omega
        have hge : ¬ ((s.length : Int)) < (a0.size : Int) := by omega
        cases g with
        | false =>
          go_wp2_with fail
          go_ret
          exact ⟨rfl, HB1.out⟩
        | true =>
          have hall : ∀ b ∈ s, plainB b = true := by
            have := HG.out
            rw [List.take_length] at this
            exact List.all_eq_true.1 this.symm
          obtain ⟨s1, s2⟩ := quote_scan hall
          have s3 := open_scan hall
          have hel := esc_len s
          have hql : (quoteL s).length = (s.flatMap escB).length + 2 := by unfold quoteL; simp
          have HQ := Lib.hid (fun W => ref_quote s (by omega) W)
          rw [HS.out] at HQ
          have HS1 := Lib.hid (fun W hW => scan_ok (quoteL s) W hW (by omega) s1)
          rw [s2] at HS1
          have HS2 := Lib.hid (fun W hW => scan_no (55 :: 32 :: 34 :: s.flatMap escB) W hW (by rw [List.length_cons, List.length_cons, List.length_cons]; omega) s3)
          have HS3 : Hid (∀ W, LW W → Calls Tryz.prog 11 #[.string (S [34, 97, 10, 98, 34])] W fun e w' => e = .returned (.tuple #[.slice none 0 0, .int .i64 0, .int .i64 60]) ∧ Below W.heap.size W w') := Lib.hid (fun W hW => scan_no [34, 97, 10, 98, 34] W hW (by decide) (p := 0) bad_word)
          have c5 : S [34, 97, 10, 98, 34] = { data := #[34, 97, 10, 98, 34] } := rfl
          have c72 : S [55, 32] = { data := #[55, 32] } := rfl
          rw [c5] at HS3
          have hqs := S_size (quoteL s)
          have hcut : ∀ W, (Instr.slice 9 (.string (S (quoteL s))) none (some (.int .i64 (((quoteL s).length : Int) - 1))) none).run Tryz.prog W = .ok (.string (S (34 :: s.flatMap escB))) W := fun W => by
            have := run_take (quoteL s) ((s.flatMap escB).length + 1) (by omega) W
            rw [show (((s.flatMap escB).length + 1 : Nat) : Int) = ((quoteL s).length : Int) - 1 from by omega] at this
            rw [this, show (quoteL s).take ((s.flatMap escB).length + 1) = 34 :: s.flatMap escB from by unfold quoteL; rw [List.take_succ_cons, List.take_left]]
          obtain ⟨e1, e2⟩ := add_str [55, 32] (34 :: s.flatMap escB) (by simp) (by rw [List.length_cons]; omega)
          rw [c72] at e1 e2
          rw [show [55, 32] ++ 34 :: s.flatMap escB = 55 :: 32 :: 34 :: s.flatMap escB from rfl] at e1
          have hlq : 0 < (quoteL s).length := by omega
          have hlq2 : (quoteL s).length ≤ 1000 := by omega
          obtain ⟨ln, hln⟩ : ∃ ln, (quoteL s).length = ln := ⟨_, rfl⟩
          rw [hln] at hqs hcut hlq hlq2 HS1
          clear hall s1 s2 s3 hel hql c5 c72 hln hlong hlong' hge
          generalize S (quoteL s) = sq at *
          generalize S (55 :: 32 :: 34 :: s.flatMap escB) = s7 at *
          generalize S (34 :: s.flatMap escB) = s4 at *
          go_wp2_with fail
          refine (HQ.out _).mono ?_
          rintro e w2 ⟨he, rfl⟩
          subst he
          go_wp2_with fail
          refine (HS1.out _ (HW.out.below HB1.out)).mono ?_
          rintro e w3 ⟨⟨va, he, hra⟩, hb3⟩
          subst he
          have HB3 := Lib.hid (HB1.out.trans (hb3.mono HB1.out.size))
          have HRA := Lib.hid hra
          clear hb3 hra
          go_wp2_with fail
          refine (HS2.out _ (HW.out.below HB3.out)).mono ?_
          rintro e w4 ⟨he, hb4⟩
          subst he
          have HB4 := Lib.hid (HB3.out.trans (hb4.mono HB3.out.size))
          have HRA4 := Lib.hid (HRA.out.below hb4)
          clear hb4 hcut e1 e2
          go_wp2_with fail
          refine (HS3.out _ (HW.out.below HB4.out)).mono ?_
          rintro e w5 ⟨he, hb5⟩
          subst he
          have HB5 := Lib.hid (HB4.out.trans (hb5.mono HB4.out.size))
          obtain ⟨a, ca, p, q, rfl, x0, ⟨p0, p1, p2, p3⟩, x1, -⟩ := (HRA4.out.below hb5).two
          dsimp only at p0 p2
          rw [HS.out] at p2
          clear hb5
          go_wp2_with fail
          go_ret
          exact ⟨rfl, HB5.out⟩
end Go.Proofs.YtekpmpghbeeeoaaGreatDoor
