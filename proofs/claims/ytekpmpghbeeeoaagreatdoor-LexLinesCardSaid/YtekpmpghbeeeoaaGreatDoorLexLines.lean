import Derived.Test.YtekpmpghbeeeoaaGreatDoorLexKnown
/- LexLines: as many line feeds as there are, as many line signs; what a comment hides isn't seen. -/
namespace Go.Proofs.YtekpmpghbeeeoaaGreatDoor
open Go.RowKit Go.Shelf Go.Proofs.YtekpmpghbeeeoaaGreatDoorW.PrintWords Go.Proofs.YtekpmpghbeeeoaaGreatDoorW.PrintMore

/-- What a number stands for. -/
def pieceL (x : Int) : List UInt8 := if x % 4 = 0 then [10] else if x % 4 = 1 then [32, 35] else [32, 36, 97]
def linesL (l : List Int) : List UInt8 := l.flatMap pieceL
def hidA (h : Bool) (x : Int) : Bool := if x % 4 = 0 then false else if x % 4 = 1 then true else h
def hidL (h : Bool) (l : List Int) : Bool := l.foldl hidA h
/-- Line feeds; names that aren't hidden. -/
def zeroA (x : Int) : Nat := if x % 4 = 0 then 1 else 0
def nameA (h : Bool) (x : Int) : Nat := if x % 4 = 0 then 0 else if x % 4 = 1 then 0 else if h = true then 0 else 1
def zeroL (l : List Int) : Nat := (l.map zeroA).sum
def nameL (h : Bool) : List Int → Nat
  | [] => 0
  | x :: l => nameA h x + nameL (hidA h x) l
theorem nameL_snoc (x : Int) : ∀ (l : List Int) (h : Bool), nameL h (l ++ [x]) = nameL h l + nameA (hidL h l) x
  | [], h => by simp [nameL, hidL]
  | y :: l, h => by
    rw [List.cons_append, nameL, nameL, nameL_snoc x l]
    simp only [hidL, List.foldl_cons]
    omega
def cnt7 (ts : List Tok) : Nat := (ts.filter fun t => decide (t.kind = 7)).length
def cnt1 (ts : List Tok) : Nat := (ts.filter fun t => decide (t.kind = 1)).length
theorem lines_sep (l : List Int) : Sep (linesL l) := by
  intro b hb
  cases l with
  | nil => cases hb
  | cons x l =>
    rw [linesL, List.flatMap_cons] at hb
    unfold pieceL at hb
    split at hb
    · cases hb; decide
    · split at hb
      · cases hb; decide
      · cases hb; decide
theorem noLine_two (c d : UInt8) (hc : noLine c = true) (hd : noLine d = true) (l : List UInt8) : cnt noLine (c :: d :: l) = cnt noLine l + 2 := by rw [cnt_yes hc, cnt_yes hd]
theorem lines_tk : ∀ (l : List Int) (a : Nat),
    ((tk a (linesL l)).2 = none ∧ cnt7 (tk a (linesL l)).1 = zeroL l ∧ cnt1 (tk a (linesL l)).1 = nameL false l) ∧
    ((tk a ((linesL l).drop (cnt noLine (linesL l)))).2 = none ∧ cnt7 (tk a ((linesL l).drop (cnt noLine (linesL l)))).1 = zeroL l ∧ cnt1 (tk a ((linesL l).drop (cnt noLine (linesL l)))).1 = nameL true l)
  | [], a => ⟨⟨rfl, rfl, rfl⟩, rfl, rfl, rfl⟩
  | x :: l, a => by
    have hm : linesL (x :: l) = pieceL x ++ linesL l := by rw [linesL, List.flatMap_cons]; rfl
    rw [hm]
    by_cases h0 : x % 4 = 0
    · have hp : pieceL x = [10] := by unfold pieceL; rw [if_pos h0]
      have ho : oneT ([10] ++ linesL l) = some ⟨7, [], 0, 1⟩ := rfl
      obtain ⟨⟨h1, h2, h3⟩, -⟩ := lines_tk l (a + 1)
      have ht := tk_tok a ho rfl
      have hn : cnt noLine ([10] ++ linesL l) = 0 := cnt_no (by decide) _
      have hz : zeroL (x :: l) = zeroL l + 1 := by simp [zeroL, zeroA, h0]; omega
      have hnm : ∀ h, nameL h (x :: l) = nameL false l := fun h => by simp [nameL, nameA, hidA, h0]
      have key : (tk a ([10] ++ linesL l)).2 = none ∧ cnt7 (tk a ([10] ++ linesL l)).1 = zeroL l + 1 ∧ cnt1 (tk a ([10] ++ linesL l)).1 = nameL false l := by
        rw [ht]
        refine ⟨h1, ?_, ?_⟩
        · show (List.filter _ (_ :: _)).length = _
          rw [List.filter_cons_of_pos (by simp), List.length_cons]
          exact congrArg (· + 1) h2
        · show (List.filter _ (_ :: _)).length = _
          rw [List.filter_cons_of_neg (by simp)]
          exact h3
      rw [hp, hn, List.drop_zero, hz, hnm, hnm]
      exact ⟨key, key⟩
    · by_cases h1 : x % 4 = 1
      · have hp : pieceL x = [32, 35] := by unfold pieceL; rw [if_neg h0, if_pos h1]
        have hz : zeroL (x :: l) = zeroL l := by simp [zeroL, zeroA, h0]
        have hnm : ∀ h, nameL h (x :: l) = nameL true l := fun h => by simp [nameL, nameA, hidA, h1]
        rw [hp, hz, hnm, hnm]
        show ((tk a (32 :: 35 :: linesL l)).2 = none ∧ _) ∧ _
        constructor
        · show (tk a (32 :: 35 :: linesL l)).2 = none ∧ cnt7 (tk a (32 :: 35 :: linesL l)).1 = _ ∧ cnt1 (tk a (32 :: 35 :: linesL l)).1 = _
          rw [tk_blank (by decide), tk_hash]
          exact (lines_tk l _).2
        · show (tk a ((32 :: 35 :: linesL l).drop (cnt noLine (32 :: 35 :: linesL l)))).2 = none ∧ cnt7 (tk a ((32 :: 35 :: linesL l).drop (cnt noLine (32 :: 35 :: linesL l)))).1 = _ ∧ cnt1 (tk a ((32 :: 35 :: linesL l).drop (cnt noLine (32 :: 35 :: linesL l)))).1 = _
          rw [noLine_two _ _ (by decide) (by decide), List.drop_succ_cons, List.drop_succ_cons]
          exact (lines_tk l _).2
      · have hp : pieceL x = [32, 36, 97] := by unfold pieceL; rw [if_neg h0, if_neg h1]
        have hz : zeroL (x :: l) = zeroL l := by simp [zeroL, zeroA, h0]
        rw [hp, hz]
        constructor
        · have hnm : nameL false (x :: l) = nameL false l + 1 := by simp [nameL, nameA, hidA, h0, h1]; omega
          have ho : oneT ([36, 97] ++ linesL l) = some ⟨1, [97], 0, 2⟩ := oneT_app (show oneT [36, 97] = some ⟨1, [97], 0, 2⟩ by rfl) (lines_sep l)
          obtain ⟨⟨g1, g2, g3⟩, -⟩ := lines_tk l (a + 1 + 2)
          have ht := tk_tok (a + 1) ho rfl
          rw [hnm]
          show (tk a (32 :: ([36, 97] ++ linesL l))).2 = none ∧ cnt7 (tk a (32 :: ([36, 97] ++ linesL l))).1 = _ ∧ cnt1 (tk a (32 :: ([36, 97] ++ linesL l))).1 = _
          rw [tk_blank (by decide), ht]
          refine ⟨g1, ?_, ?_⟩
          · show (List.filter _ (_ :: _)).length = _
            rw [List.filter_cons_of_neg (by simp)]
            exact g2
          · show (List.filter _ (_ :: _)).length = _
            rw [List.filter_cons_of_pos (by simp), List.length_cons]
            exact congrArg (· + 1) g3
        · have hnm : nameL true (x :: l) = nameL true l := by simp [nameL, nameA, hidA, h0, h1]
          rw [hnm]
          show (tk a ((32 :: 36 :: 97 :: linesL l).drop (cnt noLine (32 :: 36 :: 97 :: linesL l)))).2 = none ∧ cnt7 (tk a ((32 :: 36 :: 97 :: linesL l).drop (cnt noLine (32 :: 36 :: 97 :: linesL l)))).1 = _ ∧ cnt1 (tk a ((32 :: 36 :: 97 :: linesL l).drop (cnt noLine (32 :: 36 :: 97 :: linesL l)))).1 = _
          rw [noLine_two _ _ (by decide) (by decide), cnt_yes (by decide), List.drop_succ_cons, List.drop_succ_cons, List.drop_succ_cons]
          exact (lines_tk l _).2
theorem linesL_len : ∀ (l : List Int), (linesL l).length ≤ 3 * l.length
  | [] => by simp [linesL]
  | x :: l => by
    have := linesL_len l
    have h2 : (pieceL x).length ≤ 3 := by unfold pieceL; split; decide; split <;> decide
    rw [linesL, List.flatMap_cons, List.length_append, List.length_cons]
    unfold linesL at this
    omega
theorem zeroL_snoc (l : List Int) (x : Int) : zeroL (l ++ [x]) = zeroL l + zeroA x := by simp [zeroL]
theorem linesL_snoc (l : List Int) (x : Int) : linesL (l ++ [x]) = linesL l ++ pieceL x := by simp [linesL]
theorem hidL_snoc (h : Bool) (l : List Int) (x : Int) : hidL h (l ++ [x]) = hidA (hidL h l) x := by simp [hidL]
theorem cnt7_snoc (l : List Tok) (t : Tok) : cnt7 (l ++ [t]) = cnt7 l + (if t.kind = 7 then 1 else 0) := by
  unfold cnt7
  rw [List.filter_append, List.length_append]
  by_cases h : t.kind = 7 <;> simp [h]
theorem cnt1_snoc (l : List Tok) (t : Tok) : cnt1 (l ++ [t]) = cnt1 l + (if t.kind = 1 then 1 else 0) := by
  unfold cnt1
  rw [List.filter_append, List.length_append]
  by_cases h : t.kind = 1 <;> simp [h]
theorem zeroL_le : ∀ (l : List Int), zeroL l ≤ l.length
  | [] => Nat.le_refl _
  | x :: l => by
    have := zeroL_le l
    have h : zeroA x ≤ 1 := by unfold zeroA; split <;> omega
    unfold zeroL at *
    rw [List.map_cons, List.sum_cons, List.length_cons]
    omega
theorem nameL_le : ∀ (l : List Int) (h : Bool), nameL h l ≤ l.length
  | [], _ => Nat.le_refl _
  | x :: l, h => by
    have := nameL_le l (hidA h x)
    have h2 : nameA h x ≤ 1 := by unfold nameA; by_cases a1 : x % 4 = 0 <;> by_cases a2 : x % 4 = 1 <;> cases h <;> simp [a1, a2]
    rw [nameL, List.length_cons]
    omega
theorem rd_at8 {w : World} {v : Value} {xs : List Int} (h : RdB w v xs) {j : Nat} (hj : j < xs.length) :
    ∃ a c ad, v = .slice (some a) xs.length c ∧ (∀ W, (Instr.indexAt 39 (.slice (some a) xs.length c) (.int .i64 (j : Int))).run Tryz.prog W = .ok (.pointer (some ad)) W) ∧ w.cell? ad = some (.int .u8 (xs.getD j 0)) := by
  obtain ⟨A, c, rfl, hc, hr⟩ := h
  obtain ⟨a, rfl, hx⟩ := hr.2.2 (by omega)
  refine ⟨a, c, a.add j, rfl, fun W => ?_, hx j hj⟩
  have h6 : 0 ≤ (j : Int) ∧ (j : Int) < (xs.length : Int) := ⟨by omega, by omega⟩
  go_simp
set_option maxRecDepth 100000 in
set_option maxHeartbeats 8000000 in
theorem lexLines_walk (v : Value) (xs : List Int) (w : World) (hW : LW w) (hr : RdB w v xs) (hby : By xs) (_hz : xs.length ≤ 140737488351232) :
    Calls Tryz.prog 9 #[v] w fun e w' => e = .returned (.bool true) ∧ Below w.heap.size w w' := by
  have HK := Lib.hid (law6_known w hW)
  have HW := Lib.hid hW
  have HR := Lib.hid hr
  have HBY := Lib.hid hby
  obtain ⟨A, c, rfl, hc, -⟩ := hr
  clear hW hby
  by_cases hlong : 60 < xs.length
  · have hlong' : 60 < (xs.length : Int) := by omega
    go_enter Tryz.func9, Tryz.ntmps9
    go_wp2_with fail
    refine HK.out.mono ?_
    rintro e w1 ⟨he, hb1⟩
    subst he
    have HB1 := Lib.hid hb1
    clear hb1
    go_wp2_with fail
    go_ret
    exact ⟨rfl, HB1.out⟩
  · have hlong' : ¬ 60 < (xs.length : Int) := by omega
    go_enter Tryz.func9, Tryz.ntmps9
    go_wp2_with fail
    refine HK.out.mono ?_
    rintro e w1 ⟨he, hb1⟩
    subst he
    have HB1 := Lib.hid hb1
    have HR1 := Lib.hid (HR.out.below hb1)
    clear hb1
    go_wp2_with fail
    go_loopw [3, 4, 5, 6, 7] (fun sv nv mv hv iv wr => ∃ (k n m : Nat) (h : Bool) (bs : List UInt8), iv = .int .i64 (k : Int) ∧ k ≤ xs.length ∧ sv = .string (S bs) ∧ nv = .int .i64 (n : Int) ∧ mv = .int .i64 (m : Int) ∧ hv = .bool h ∧ Hid (bs = linesL (xs.take k)) ∧ Hid (n = zeroL (xs.take k)) ∧ Hid (m = nameL false (xs.take k)) ∧ Hid (h = hidL false (xs.take k)) ∧ n ≤ k ∧ m ≤ k ∧ Hid (bs.length ≤ 3 * k) ∧ Hid (wr = w1)) (fun _ _ _ _ iv _ => xs.length - (intOf iv).toNat)
    case atStart => exact ⟨0, 0, 0, false, [], rfl, Nat.zero_le _, rfl, rfl, rfl, rfl, Lib.hid rfl, Lib.hid rfl, Lib.hid rfl, Lib.hid rfl, Nat.le_refl _, Nat.le_refl _, Lib.hid (Nat.le_refl _), Lib.hid rfl⟩
    case round =>
      obtain ⟨k, n, m, h, bs, rfl, hk, rfl, rfl, rfl, rfl, HS, HN, HM, HH, hn, hm, HBL, HWR⟩ := hrel
      by_cases hlt : k < xs.length
      · have hlt' : (k : Int) < (xs.length : Int) := by omega
        have hwr := HWR.out
        subst hwr
        obtain ⟨a, c', ad, hv, hx, hcell⟩ := rd_at8 HR1.out hlt
        injection hv with hv1 _ hv2
        subst hv1 hv2
        have HTK : Hid (xs.take (k + 1) = xs.take k ++ [xs.getD k 0]) := Lib.hid (take_snoc_getD hlt)
        have hb := HBY.out.at_ hlt
        obtain ⟨x, hxx⟩ : ∃ x, xs.getD k 0 = x := ⟨_, rfl⟩
        rw [hxx] at hcell HTK hb
        clear hxx
        have e10 := add_str bs [10] (by have := HBL.out; omega) (by simp)
        have e35 := add_str bs [32, 35] (by have := HBL.out; omega) (by simp)
        have e97 := add_str bs [32, 36, 97] (by have := HBL.out; omega) (by simp)
        obtain ⟨a1, a2⟩ := e10
        obtain ⟨a3, a4⟩ := e35
        obtain ⟨a5, a6⟩ := e97
        have q1 : S [10] = { data := #[10] } := rfl
        have q2 : S [32, 35] = { data := #[32, 35] } := rfl
        have q3 : S [32, 36, 97] = { data := #[32, 36, 97] } := rfl
        rw [q1] at a1 a2
        rw [q2] at a3 a4
        rw [q3] at a5 a6
        clear q1 q2 q3
        have HPC : Hid (linesL (xs.take (k + 1)) = bs ++ pieceL x) := Lib.hid (by rw [HTK.out, linesL_snoc, HS.out])
        have HZN : Hid (zeroL (xs.take (k + 1)) = n + zeroA x) := Lib.hid (by rw [HTK.out, zeroL_snoc, HN.out])
        have HNN : Hid (nameL false (xs.take (k + 1)) = m + nameA h x) := Lib.hid (by rw [HTK.out, nameL_snoc, HM.out, HH.out])
        have HHN : Hid (hidL false (xs.take (k + 1)) = hidA h x) := Lib.hid (by rw [HTK.out, hidL_snoc, HH.out])
        by_cases h0 : x % 4 = 0
        · have E1 : Hid (pieceL x = [10] ∧ zeroA x = 1 ∧ nameA h x = 0 ∧ hidA h x = false) := Lib.hid (by simp [pieceL, zeroA, nameA, hidA, h0])
          go_wp2_with fail
          go_round
          case rel => exact ⟨k + 1, n + 1, m, false, bs ++ [10], by go_num, by omega, rfl, by go_num, rfl, rfl, Lib.hid (by rw [HPC.out, E1.out.1]), Lib.hid (by rw [HZN.out, E1.out.2.1]), Lib.hid (by rw [HNN.out, E1.out.2.2.1]; rfl), Lib.hid (by rw [HHN.out, E1.out.2.2.2]), by omega, by omega, Lib.hid (by have := HBL.out; rw [List.length_append, List.length_singleton]; omega), Lib.hid (by first | rfl | trivial)⟩
          case measure => simp [intOf]; omega
        · by_cases h1 : x % 4 = 1
          · have E1 : Hid (pieceL x = [32, 35] ∧ zeroA x = 0 ∧ nameA h x = 0 ∧ hidA h x = true) := Lib.hid (by simp [pieceL, zeroA, nameA, hidA, h1])
            go_wp2_with fail
            go_round
            case rel => exact ⟨k + 1, n, m, true, bs ++ [32, 35], by go_num, by omega, rfl, rfl, rfl, rfl, Lib.hid (by rw [HPC.out, E1.out.1]), Lib.hid (by rw [HZN.out, E1.out.2.1]; rfl), Lib.hid (by rw [HNN.out, E1.out.2.2.1]; rfl), Lib.hid (by rw [HHN.out, E1.out.2.2.2]), by omega, by omega, Lib.hid (by have := HBL.out; rw [List.length_append]; simp; omega), Lib.hid (by first | rfl | trivial)⟩
            case measure => simp [intOf]; omega
          · cases h with
            | true =>
              have E1 : Hid (pieceL x = [32, 36, 97] ∧ zeroA x = 0 ∧ nameA true x = 0 ∧ hidA true x = true) := Lib.hid (by simp [pieceL, zeroA, nameA, hidA, h0, h1])
              go_wp2_with fail
              go_round
              case rel => exact ⟨k + 1, n, m, true, bs ++ [32, 36, 97], by go_num, by omega, rfl, rfl, rfl, rfl, Lib.hid (by rw [HPC.out, E1.out.1]), Lib.hid (by rw [HZN.out, E1.out.2.1]; rfl), Lib.hid (by rw [HNN.out, E1.out.2.2.1]; rfl), Lib.hid (by rw [HHN.out, E1.out.2.2.2]), by omega, by omega, Lib.hid (by have := HBL.out; rw [List.length_append]; simp; omega), Lib.hid (by first | rfl | trivial)⟩
              case measure => simp [intOf]; omega
            | false =>
              have E1 : Hid (pieceL x = [32, 36, 97] ∧ zeroA x = 0 ∧ nameA false x = 1 ∧ hidA false x = false) := Lib.hid (by simp [pieceL, zeroA, nameA, hidA, h0, h1])
              go_wp2_with fail
              go_round
              case rel => exact ⟨k + 1, n, m + 1, false, bs ++ [32, 36, 97], by go_num, by omega, rfl, rfl, by go_num, rfl, Lib.hid (by rw [HPC.out, E1.out.1]), Lib.hid (by rw [HZN.out, E1.out.2.1]; rfl), Lib.hid (by rw [HNN.out, E1.out.2.2.1]), Lib.hid (by rw [HHN.out, E1.out.2.2.2]), by omega, by omega, Lib.hid (by have := HBL.out; rw [List.length_append]; simp; omega), Lib.hid (by first | rfl | trivial)⟩
              case measure => simp [intOf]; omega
      · obtain rfl : k = xs.length := by omega
        have hwr := HWR.out
        subst hwr
        obtain ⟨⟨t1, t2, t3⟩, -⟩ := lines_tk xs 0
        have hbs : bs = linesL xs := by have := HS.out; rwa [List.take_length] at this
        have hn0 : n = zeroL xs := by have := HN.out; rwa [List.take_length] at this
        have hm0 : m = nameL false xs := by have := HM.out; rwa [List.take_length] at this
        have hl3 := linesL_len xs
        have HSC := Lib.hid (scan_ok bs _ (HW.out.below HB1.out) (by rw [hbs]; omega) (by rw [hbs]; exact t1))
        have H7 : Hid (cnt7 (scanT bs) = n) := Lib.hid (by unfold scanT; rw [cnt7_snoc, hbs, t2, hn0]; rfl)
        have H1 : Hid (cnt1 (scanT bs) = m) := Lib.hid (by unfold scanT; rw [cnt1_snoc, hbs, t3, hm0]; rfl)
        have hord := (tk_order _ 0 bs (Nat.le_refl _)).2.2.2
        have hsl : (scanT bs).length ≤ 1000 := by unfold scanT; rw [List.length_append, List.length_singleton, ]; rw [hbs] at hord ⊢; omega
        clear hbs hn0 hm0 t1 t2 t3 hord hl3 HS HN HM HH
        generalize scanT bs = ts at *
        generalize S bs = sb at *
        go_wp2_with fail
        refine HSC.out.mono ?_
        rintro e w2 ⟨⟨vt, he, hrt⟩, hb2⟩
        subst he
        have HB2 := Lib.hid (HB1.out.trans (hb2.mono HB1.out.size))
        have HRT := Lib.hid hrt
        obtain ⟨B, cb, rfl, -⟩ := hrt
        clear hb2
        have hn60 : n ≤ 60 := by omega
        have hm60 : m ≤ 60 := by omega
        go_wp2_with fail
        go_loopw [4, 5, 11] (fun nv mv iv wr => ∃ (j p q : Nat), iv = .int .i64 (j : Int) ∧ j ≤ ts.length ∧ nv = .int .i64 ((n : Int) - (p : Int)) ∧ mv = .int .i64 ((m : Int) - (q : Int)) ∧ Hid (p = cnt7 (ts.take j)) ∧ Hid (q = cnt1 (ts.take j)) ∧ p ≤ j ∧ q ≤ j ∧ Hid (wr = w2)) (fun _ _ iv _ => ts.length - (intOf iv).toNat)
        case atStart => exact ⟨0, 0, 0, rfl, Nat.zero_le _, by simp, by simp, Lib.hid rfl, Lib.hid rfl, Nat.le_refl _, Nat.le_refl _, Lib.hid rfl⟩
        case round =>
          obtain ⟨j, p, q, rfl, hj, rfl, rfl, HP, HQ, hp, hq, HWR⟩ := hrel
          have hwr := HWR.out
          subst hwr
          by_cases hlj : j < ts.length
          · have hlj' : (j : Int) < (ts.length : Int) := by omega
            obtain ⟨a, c', ad, hv, hx, hat⟩ := HRT.out.at_ hlj
            injection hv with hv1 _ hv2
            subst hv1 hv2
            obtain ⟨p0, -, -, -⟩ := hat
            have HTK : Hid (ts.take (j + 1) = ts.take j ++ [ts[j]]) := Lib.hid (List.take_succ_eq_append_getElem hlj)
            obtain ⟨t, ht⟩ : ∃ t, ts[j] = t := ⟨_, rfl⟩
            rw [ht] at p0 HTK
            clear ht
            have HP2 : Hid (cnt7 (ts.take (j + 1)) = p + (if t.kind = 7 then 1 else 0)) := Lib.hid (by rw [HTK.out, cnt7_snoc, HP.out])
            have HQ2 : Hid (cnt1 (ts.take (j + 1)) = q + (if t.kind = 1 then 1 else 0)) := Lib.hid (by rw [HTK.out, cnt1_snoc, HQ.out])
            generalize t.kind = kd at *
            by_cases h7 : kd = 7
            · have HP3 : Hid (p + 1 = cnt7 (ts.take (j + 1))) := Lib.hid (by rw [HP2.out, if_pos h7])
              have HQ3 : Hid (q = cnt1 (ts.take (j + 1))) := Lib.hid (by rw [HQ2.out, if_neg (by omega)]; rfl)
              subst h7
              clear HP2 HQ2
              go_wp2_with fail
              go_round
              case rel => exact ⟨j + 1, p + 1, q, by go_num, by omega, by go_num, rfl, HP3, HQ3, by omega, by omega, Lib.hid (by first | rfl | trivial)⟩
              case measure => simp [intOf]; omega
            · by_cases h1 : kd = 1
              · have HP3 : Hid (p = cnt7 (ts.take (j + 1))) := Lib.hid (by rw [HP2.out, if_neg h7]; rfl)
                have HQ3 : Hid (q + 1 = cnt1 (ts.take (j + 1))) := Lib.hid (by rw [HQ2.out, if_pos h1])
                subst h1
                clear HP2 HQ2
                go_wp2_with fail
                go_round
                case rel => exact ⟨j + 1, p, q + 1, by go_num, by omega, rfl, by go_num, HP3, HQ3, by omega, by omega, Lib.hid (by first | rfl | trivial)⟩
                case measure => simp [intOf]; omega
              · have HP3 : Hid (p = cnt7 (ts.take (j + 1))) := Lib.hid (by rw [HP2.out, if_neg h7]; rfl)
                have HQ3 : Hid (q = cnt1 (ts.take (j + 1))) := Lib.hid (by rw [HQ2.out, if_neg h1]; rfl)
                clear HP2 HQ2
                go_wp2_with fail
                go_round
                case rel => exact ⟨j + 1, p, q, by go_num, by omega, rfl, rfl, HP3, HQ3, by omega, by omega, Lib.hid (by first | rfl | trivial)⟩
                case measure => simp [intOf]; omega
          · obtain rfl : j = ts.length := by omega
            have hpn : p = n := by have := HP.out; rw [List.take_length, H7.out] at this; exact this
            have hqm : q = m := by have := HQ.out; rw [List.take_length, H1.out] at this; exact this
            subst hpn
            subst hqm
            have z1 : (p : Int) - (p : Int) = 0 := by omega
            have z2 : (q : Int) - (q : Int) = 0 := by omega
            go_wp2_with fail
            go_ret
            exact ⟨rfl, HB2.out⟩
end Go.Proofs.YtekpmpghbeeeoaaGreatDoor
