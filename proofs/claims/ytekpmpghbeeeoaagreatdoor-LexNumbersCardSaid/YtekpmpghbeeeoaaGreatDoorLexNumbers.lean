import Derived.Test.YtekpmpghbeeeoaaGreatDoorLexChars
/- LexNumbers: numbers, names and characters at their bounds. -/
namespace Go.Proofs.YtekpmpghbeeeoaaGreatDoor
open Go.RowKit Go.Shelf Go.Proofs.YtekpmpghbeeeoaaGreatDoorW.PrintWords Go.Proofs.YtekpmpghbeeeoaaGreatDoorW.PrintMore

theorem one_scan {p : List UInt8} {o : One} (h : oneT p = some o) (hn : o.n = p.length) : (tk 0 p).2 = none ∧ scanT p = [⟨o.kind, 0, o.text, o.r⟩, ⟨0, p.length, [], 0⟩] := by
  have ht := tk_tok (p := p) (t := []) 0 (by rw [List.append_nil]; exact h) hn
  rw [List.append_nil] at ht
  unfold scanT
  rw [ht]
  exact ⟨rfl, rfl⟩
theorem none_scan {c : UInt8} {l : List UInt8} (hb : blk c = false) (h35 : c ≠ 35) (h : oneT (c :: l) = none) (a : Nat) : (tk a (c :: l)).2 = some a := by
  have hz : blankN (c :: l) = 0 := by
    unfold blankN
    rw [cnt_no hb, List.drop_zero, List.head?_cons, if_neg (by simpa using h35)]
  rw [tk_none (by rw [hz]; simp) (by rw [hz]; exact h), hz]
  rfl
theorem code_bad {n : Nat} (h1 : 1114111 < n) (h2 : n < 16777216) : (tk 0 (codeL n)).2 = some 0 := by
  refine none_scan (by decide) (by decide) ?_ 0
  simp only [oneT]
  rw [if_neg (by decide), if_neg (by decide), if_neg (by decide), if_neg (by decide), if_neg (by decide), if_pos trivial]
  unfold charT
  rw [if_pos (by rfl)]
  show escT (hexL n ++ [125]) = none
  obtain ⟨g1, g2, g3, g4⟩ := hexL_facts (n := n) (by omega)
  have hc : cnt hexd (hexL n ++ [125]) = (hexL n).length := by
    rw [cnt_app_full (cnt_of_all g2), cnt_no (by decide)]
    rfl
  unfold escT
  rw [hc, List.take_append_of_le_length (Nat.le_refl _), List.take_length, g1, if_neg (by omega)]
def nameS (j : Nat) : List UInt8 := 36 :: 97 :: List.replicate j 98
theorem name_cnt (j : Nat) : cnt eid (97 :: List.replicate j 98) = j + 1 := by
  rw [cnt_of_all (fun x hx => by
    rcases List.mem_cons.1 hx with rfl | hx
    · decide
    · rw [(List.mem_replicate.1 hx).2]; decide)]
  simp
theorem name_scan (j : Nat) : (j + 1 ≤ 20 → (tk 0 (nameS j)).2 = none) ∧ (¬ j + 1 ≤ 20 → (tk 0 (nameS j)).2 = some 0) := by
  have hl : (97 :: List.replicate j (98 : UInt8)).length = j + 1 := by simp
  constructor
  · intro h
    refine (one_scan (o := ⟨1, 97 :: List.replicate j 98, 0, j + 2⟩) ?_ (by simp [nameS])).1
    show nameT (97 :: List.replicate j 98) = _
    unfold nameT
    rw [name_cnt, if_pos ⟨rfl, h⟩, List.take_of_length_le (by rw [hl]; exact Nat.le_refl _)]
  · intro h
    refine none_scan (by decide) (by decide) ?_ 0
    show nameT (97 :: List.replicate j 98) = none
    unfold nameT
    rw [name_cnt, if_neg (fun hh => h hh.2)]
def dgD (n : Nat) : UInt8 := UInt8.ofNat (48 + n)
def decF : Nat → Nat → List UInt8
  | 0, _ => []
  | f + 1, n => if n < 10 then [dgD n] else decF f (n / 10) ++ [dgD (n % 10)]
theorem dgD_facts : ∀ k ∈ List.range 10, dgt (dgD k) = true ∧ (dgD k = 48 → k = 0) ∧ ((dgD k).toNat = 48 + k) := by decide +kernel
theorem decF_facts : ∀ (f n : Nat), 0 < f → n < 10 ^ f → (∀ b ∈ decF f n, dgt b = true) ∧ 1 ≤ (decF f n).length ∧ (∀ j, 0 < j → n < 10 ^ j → (decF f n).length ≤ j) ∧ (∀ j, 0 < j → 10 ^ j ≤ n → j < (decF f n).length) ∧ ((decF f n).head? = some 48 → n = 0)
  | 0, _, h, _ => absurd h (Nat.lt_irrefl _)
  | f + 1, n, _, hn => by
    rw [decF]
    split
    · rename_i h
      obtain ⟨g1, g2, g3⟩ := dgD_facts n (List.mem_range.2 h)
      refine ⟨fun b hb => by rw [List.mem_singleton.1 hb]; exact g1, Nat.le_refl _, fun j hj _ => hj, fun j hj hjn => ?_, fun hh => by injection hh with hh; exact g2 hh⟩
      exfalso
      have : 10 ^ 1 ≤ 10 ^ j := Nat.pow_le_pow_right (by decide) hj
      omega
    · rename_i h
      have hf : 0 < f := by
        rcases Nat.eq_zero_or_pos f with h0 | h0
        · subst h0; simp at hn; omega
        · exact h0
      have hq : n / 10 < 10 ^ f := by
        rw [Nat.pow_succ] at hn
        omega
      obtain ⟨h1, h2, h3, h4, h5⟩ := decF_facts f (n / 10) hf hq
      obtain ⟨g1, -, -⟩ := dgD_facts (n % 10) (List.mem_range.2 (Nat.mod_lt _ (by decide)))
      refine ⟨fun b hb => ?_, by simp, fun j hj hnj => ?_, fun j hj hjn => ?_, fun hh => ?_⟩
      · rcases List.mem_append.1 hb with hb | hb
        · exact h1 b hb
        · rw [List.mem_singleton.1 hb]; exact g1
      · rw [List.length_append, List.length_singleton]
        obtain ⟨j, rfl⟩ : ∃ i, j = i + 1 := ⟨j - 1, by omega⟩
        rcases Nat.eq_zero_or_pos j with h0 | h0
        · subst h0; simp at hnj; omega
        · have := h3 j h0 (by rw [Nat.pow_succ] at hnj; omega)
          omega
      · rw [List.length_append, List.length_singleton]
        obtain ⟨j, rfl⟩ : ∃ i, j = i + 1 := ⟨j - 1, by omega⟩
        rcases Nat.eq_zero_or_pos j with h0 | h0
        · subst h0; omega
        · have := h4 j h0 (by rw [Nat.pow_succ] at hjn; omega)
          omega
      · have hne : decF f (n / 10) ≠ [] := fun e => by rw [e] at h2; simp at h2
        have : (decF f (n / 10) ++ [dgD (n % 10)]).head? = (decF f (n / 10)).head? := by
          cases hl : decF f (n / 10) with
          | nil => exact absurd hl hne
          | cons c l => rfl
        rw [this] at hh
        have := h5 hh
        omega
def numS (n : Nat) : List UInt8 := decF 5 n
theorem num_facts {n : Nat} (hn : n < 65536) : (∀ b ∈ numS n, dgt b = true) ∧ 1 ≤ (numS n).length ∧ (numS n).length ≤ 5 ∧ (n ≤ 9999 ↔ (numS n).length ≤ 4) ∧ ((numS n).head? = some 48 → (numS n).length ≤ 1) := by
  obtain ⟨h1, h2, h3, h4, h5⟩ := decF_facts 5 n (by decide) (by simp; omega)
  refine ⟨h1, h2, h3 5 (by decide) (by simp; omega), ⟨fun h => h3 4 (by decide) (by simp; omega), fun h => ?_⟩, fun h => ?_⟩
  · rcases Nat.lt_or_ge 9999 n with h' | h'
    · have := h4 4 (by decide) (by simp; omega)
      unfold numS at h
      omega
    · exact h'
  · have h0 := h5 h
    exact h3 1 (by decide) (by rw [h0]; decide)
theorem oneT_dgt {c : UInt8} {l : List UInt8} (h : dgt c = true) : oneT (c :: l) = numT (c :: l) := by
  have h10 : c ≠ 10 := by rintro rfl; revert h; decide
  have h36 : c ≠ 36 := by rintro rfl; revert h; decide
  simp only [oneT, if_neg h10, if_neg h36, if_pos h]
theorem num_cons (n : Nat) (hn : n < 65536) : ∃ c l, numS n = c :: l ∧ dgt c = true ∧ blk c = false ∧ c ≠ 35 := by
  obtain ⟨h1, h2, -⟩ := num_facts hn
  cases hl : numS n with
  | nil => rw [hl] at h2; simp at h2
  | cons c l =>
    have hd := h1 c (by rw [hl]; exact List.mem_cons_self ..)
    refine ⟨c, l, rfl, hd, ?_, by rintro rfl; revert hd; decide⟩
    cases hb : blk c with
    | false => rfl
    | true =>
      unfold blk at hb
      simp only [Bool.or_eq_true, beq_iff_eq] at hb
      rcases hb with (rfl | rfl) | rfl <;> (revert hd; decide)
theorem num_scan {n : Nat} (hn : n < 65536) : (n ≤ 9999 → (tk 0 (numS n)).2 = none ∧ scanT (numS n) = [⟨3, 0, numS n, 0⟩, ⟨0, (numS n).length, [], 0⟩]) ∧ (¬ n ≤ 9999 → (tk 0 (numS n)).2 = some 0) := by
  obtain ⟨h1, h2, h3, h4, h5⟩ := num_facts hn
  have hc := cnt_of_all h1
  obtain ⟨c, l, hcl, hd, hb, h35⟩ := num_cons n hn
  constructor
  · intro h
    refine one_scan (o := ⟨3, numS n, 0, (numS n).length⟩) ?_ rfl
    rw [hcl, oneT_dgt hd, ← hcl]
    unfold numT
    rw [hc, if_neg, List.take_length]
    rintro (h' | ⟨h', h''⟩)
    · have := h4.1 h; omega
    · have := h5 h''; omega
  · intro h
    rw [hcl]
    refine none_scan hb h35 ?_ 0
    rw [oneT_dgt hd, ← hcl]
    unfold numT
    rw [hc, if_pos (.inl (by
      rcases Nat.lt_or_ge 4 (numS n).length with h' | h'
      · exact h'
      · exact absurd (h4.2 h') h))]
theorem lead_scan {n : Nat} (hn : n < 65536) : (tk 0 (55 :: 32 :: 48 :: numS n)).2 = some 2 := by
  obtain ⟨h1, h2, -⟩ := num_facts hn
  have ho : oneT ([55] ++ 32 :: 48 :: numS n) = some ⟨3, [55], 0, 1⟩ := oneT_app (by rfl) (fun b hb => by cases hb; decide)
  have h := tk_tok 0 ho rfl
  show (tk 0 ([55] ++ 32 :: 48 :: numS n)).2 = some 2
  rw [h]
  show (tk (0 + 1) (32 :: 48 :: numS n)).2 = some 2
  rw [tk_blank (by decide)]
  refine none_scan (by decide) (by decide) ?_ 2
  rw [oneT_dgt (by decide)]
  unfold numT
  have hc : cnt dgt (48 :: numS n) = (numS n).length + 1 := by rw [cnt_yes (by decide), cnt_of_all h1]
  rw [hc, if_pos (.inr ⟨by omega, rfl⟩)]
theorem scan_any (s : List UInt8) (w : World) (hW : LW w) (hl : s.length ≤ 800000) :
    Calls Tryz.prog 11 #[.string (S s)] w fun e w' => (∃ v p q, e = .returned (.tuple #[v, .int .i64 p, .int .i64 q]) ∧ (((tk 0 s).2 = none ∧ q = 0 ∧ RdK w' v (scanT s)) ∨ (∃ m : Nat, (tk 0 s).2 = some m ∧ p = (m : Int) ∧ q = 60))) ∧ Below w.heap.size w w' := by
  cases h : (tk 0 s).2 with
  | none =>
    refine (scan_ok s w hW hl h).mono ?_
    rintro e w' ⟨⟨v, he, hr⟩, hb⟩
    exact ⟨⟨v, 0, 0, he, .inl ⟨rfl, rfl, hr⟩⟩, hb⟩
  | some m =>
    refine (scan_no s w hW hl h).mono ?_
    rintro e w' ⟨he, hb⟩
    exact ⟨⟨_, _, _, he, .inr ⟨m, rfl, rfl, rfl⟩⟩, hb⟩
theorem one_byte_str (W : World) (b : UInt8) : (convert 39 9 (.slice (some ⟨W.heap.size, 0, none⟩) 1 1)).run Tryz.prog (W.alloc (.cells #[.int .u8 ((b.toNat : Nat) : Int)] 5)) = .ok (.string (S [b])) (W.alloc (.cells #[.int .u8 ((b.toNat : Nat) : Int)] 5)) := by
  have h3 : ReadsInt (W.alloc (.cells #[.int .u8 ((b.toNat : Nat) : Int)] 5)) .u8 (some ⟨W.heap.size, 0, none⟩) (nl [b]).length (nl [b]) :=
    ⟨rfl, by rw [nl_length]; simp, fun _ => ⟨_, rfl, fun j hj => by
      have hj0 : j = 0 := by rw [nl_length] at hj; simp at hj; omega
      subst hj0
      exact (Boxed.new W _ _).cell⟩⟩
  have := conv_bytes_string (P := Tryz.prog) 39 5 9 Tryz.underlying39 Tryz.underlying5 Tryz.underlying9 h3 1
  rw [nl_str] at this
  exact this
theorem wrap_u8_small {x : Int} (h0 : 0 ≤ x) (h1 : x < 256) : IntKind.u8.wrap x = x := by
  rw [IntKind.wrap_u8]
  omega
set_option maxRecDepth 100000 in
set_option maxHeartbeats 16000000 in
theorem lexNumbers_walk (n0 r k : Int) (w : World) (hW : LW w) (hn0 : 0 ≤ n0 ∧ n0 < 65536) (hr : 0 ≤ r ∧ r < 4294967296) (hk : 0 ≤ k ∧ k < 256) :
    Calls Tryz.prog 6 #[.int .u16 n0, .int .u32 r, .int .u8 k] w fun e w' => e = .returned (.bool true) ∧ Below w.heap.size w w' := by
  have HK := Lib.hid (law6_known w hW)
  have HW := Lib.hid hW
  clear hW
  obtain ⟨n, rfl⟩ : ∃ n : Nat, n0 = (n : Int) := ⟨n0.toNat, by omega⟩
  have hn : n < 65536 := by omega
  obtain ⟨m, hm⟩ : ∃ m, r % 2097152 = m := ⟨_, rfl⟩
  obtain ⟨c, hc⟩ : ∃ c : Nat, (c : Int) = m := ⟨m.toNat, by omega⟩
  have hcs : c < 2097152 := by omega
  have hwm : IntKind.i32.wrap m = m := by rw [IntKind.wrap_i32]; omega
  have HCD := Lib.hid (fun W => ref_code c (by omega) W)
  rw [hc] at HCD
  obtain ⟨j, hj⟩ : ∃ j : Nat, k % 26 = (j : Int) := ⟨(k % 26).toNat, by omega⟩
  have hj26 : j < 26 := by omega
  have HC0 : Hid (S [36, 97] = { data := #[36, 97] }) := Lib.hid rfl
  have HC1 : Hid (S [98] = { data := #[98] }) := Lib.hid rfl
  have HC2 : Hid (S [55, 32, 48] = { data := #[55, 32, 48] }) := Lib.hid rfl
  have hlen := codeL_len c (by omega)
  by_cases hle : c ≤ 1114111
  · have hlei : m ≤ 1114111 := by omega
    obtain ⟨s1, s2⟩ := code_scan c hle
    have HSC := Lib.hid (fun W hW => scan_ok (codeL c) W hW (by omega) s1)
    rw [s2, hc] at HSC
    clear s1 s2 hlen hc hcs hle
    generalize S (codeL c) = sc at *
    generalize (codeL c).length = lc at *
    go_enter Tryz.func6, Tryz.ntmps6
    go_wp2_with fail
    refine HK.out.mono ?_
    rintro e w1 ⟨he, hb1⟩
    subst he
    have HB1 := Lib.hid hb1
    clear hb1
    go_wp2_with fail
    refine (HCD.out _).mono ?_
    rintro e w2 ⟨he, rfl⟩
    subst he
    go_wp2_with fail
    refine (HSC.out _ (HW.out.below HB1.out)).mono ?_
    rintro e w2 ⟨⟨va, he, hra⟩, hb2⟩
    subst he
    have HB2 := Lib.hid (HB1.out.trans (hb2.mono HB1.out.size))
    obtain ⟨a, ca, p, q, rfl, x0, ⟨p0, p1, p2, p3⟩, -, -⟩ := hra.two
    dsimp only at p0 p3
    clear hb2
    go_wp2_with fail
    go_loopw [11, 12] (fun sv iv wr => ∃ (i : Nat) (bs : List UInt8), iv = .int .i64 ((i : Int) + 1) ∧ i ≤ j ∧ sv = .string (S bs) ∧ Hid (bs = nameS i) ∧ Hid (wr = w2)) (fun _ iv _ => j + 1 - (intOf iv).toNat)
    case atStart => exact ⟨0, [36, 97], rfl, Nat.zero_le _, by rw [HC0.out], Lib.hid rfl, Lib.hid rfl⟩
    case round =>
      obtain ⟨i, bs, rfl, hij, rfl, HBS, HWR⟩ := hrel
      have hwr := HWR.out
      subst hwr
      by_cases hlt : i < j
      · have hlt' : (i : Int) + 1 < (j : Int) + 1 := by omega
        obtain ⟨e1, e2⟩ := add_str bs [98] (by rw [HBS.out]; simp [nameS]; omega) (by simp)
        rw [HC1.out] at e1 e2
        have HN : Hid (bs ++ [98] = nameS (i + 1)) := Lib.hid (by rw [HBS.out]; unfold nameS; rw [List.replicate_succ']; rfl)
        go_wp2_with fail
        go_round
        case rel => exact ⟨i + 1, bs ++ [98], by go_num, by omega, rfl, HN, Lib.hid (by first | rfl | trivial)⟩
        case measure => simp [intOf]; omega
      · obtain rfl : i = j := by omega
        have hge : ¬ (i : Int) + 1 < (i : Int) + 1 := by omega
        have HSB := Lib.hid (S_size bs)
        have hbl : bs.length = i + 2 := by rw [HBS.out]; simp [nameS]
        have hszb : (S bs).size = i + 2 := by rw [S_size, hbl]
        have HSCB := Lib.hid (fun W hW => scan_any bs W hW (by rw [hbl]; omega))
        have HNS : Hid ((i + 1 ≤ 20 → (tk 0 bs).2 = none) ∧ (¬ i + 1 ≤ 20 → (tk 0 bs).2 = some 0)) := Lib.hid (by rw [HBS.out]; exact name_scan i)
        clear hbl
        generalize S bs = sb at *
        go_wp2_with fail
        refine (HSCB.out _ (HW.out.below HB2.out)).mono ?_
        rintro e w3 ⟨⟨vb, pb, qb, he, hqb⟩, hb3⟩
        subst he
        have HB3 := Lib.hid (HB2.out.trans (hb3.mono HB2.out.size))
        have hqb2 : (qb = 0 ∧ i + 1 ≤ 20) ∨ (qb = 60 ∧ ¬ i + 1 ≤ 20) := by
          rcases hqb with ⟨h1, h2, -⟩ | ⟨m, h1, -, h2⟩
          · refine .inl ⟨h2, ?_⟩
            by_cases h : i + 1 ≤ 20
            · exact h
            · rw [HNS.out.2 h] at h1; cases h1
          · refine .inr ⟨h2, fun h => ?_⟩
            rw [HNS.out.1 h] at h1; cases h1
        clear hb3 hqb
        go_wp2_with fail
        go_loopw [16, 17] (fun sv mv wr => ∃ (f v : Nat) (ds : List UInt8), mv = .int .i64 (v : Int) ∧ sv = .string (S ds) ∧ v < 65536 ∧ Hid (0 < f) ∧ Hid (v < 10 ^ f) ∧ Hid (numS n = decF f v ++ ds) ∧ Hid (ds.length + f ≤ 5) ∧ Hid (Below w3.heap.size w3 wr)) (fun _ mv _ => (intOf mv).toNat)
        case atStart => exact ⟨5, n, [], rfl, rfl, hn, Lib.hid (by decide), Lib.hid (Nat.lt_of_lt_of_le hn (by decide)), Lib.hid (by rw [List.append_nil]; rfl), Lib.hid (by decide), Lib.hid (Below.refl _ _)⟩
        case round =>
          obtain ⟨f, v, ds, rfl, rfl, hv, HF, HV, HE, HL, HBW⟩ := hrel
          obtain ⟨q, hq⟩ : ∃ q, v % 10 = q := ⟨_, rfl⟩
          have hqi : (v : Int) % 10 = (q : Int) := by omega
          have hq10 : q < 10 := by omega
          have hdg := (dgD_facts q (List.mem_range.2 hq10)).2.2
          have hw8 : IntKind.u8.wrap (48 + (q : Int)) = 48 + (q : Int) := wrap_u8_small (by omega) (by omega)
          have hcv : (convert 39 9 (.slice (some ⟨wr.heap.size, 0, none⟩) 1 1)).run Tryz.prog (wr.alloc (.cells #[.int .u8 (48 + (q : Int))] 5)) = .ok (.string (S [dgD q])) (wr.alloc (.cells #[.int .u8 (48 + (q : Int))] 5)) := by
            have := one_byte_str wr (dgD q)
            rw [hdg, show ((48 + q : Nat) : Int) = 48 + (q : Int) from by omega] at this
            exact this
          obtain ⟨a1, a2⟩ := add_str [dgD q] ds (by simp) (by have := HL.out; omega)
          rw [List.singleton_append] at a1
          have HBW2 : Hid (Below w3.heap.size w3 (wr.alloc (.cells #[.int .u8 (48 + (q : Int))] 5))) := Lib.hid (HBW.out.trans ((Below.refl _ wr).alloc HBW.out.size _))
          by_cases h10 : v < 10
          · have hvq : v = q := by omega
            have HFin : Hid (numS n = dgD q :: ds) := Lib.hid (by
              rw [HE.out]
              obtain ⟨g, hg⟩ : ∃ g, f = g + 1 := ⟨f - 1, by have := HF.out; omega⟩
              rw [hg, decF, if_pos h10, hvq]
              rfl)
            have hl6 : (dgD q :: ds).length ≤ 6 := by have := HL.out; simp; omega
            obtain ⟨b1, b2⟩ := add_str [55, 32, 48] (dgD q :: ds) (by simp) (by omega)
            rw [HC2.out] at b1 b2
            rw [show [55, 32, 48] ++ dgD q :: ds = 55 :: 32 :: 48 :: (dgD q :: ds) from rfl] at b1
            have HSCN := Lib.hid (fun W hW => scan_any (dgD q :: ds) W hW (by omega))
            have HSCL := Lib.hid (fun W hW => scan_no (55 :: 32 :: 48 :: (dgD q :: ds)) W hW (by simp at *; omega) (p := 2) (by rw [← HFin.out]; exact lead_scan hn))
            have HNU : Hid ((n ≤ 9999 → (tk 0 (dgD q :: ds)).2 = none ∧ scanT (dgD q :: ds) = [⟨3, 0, dgD q :: ds, 0⟩, ⟨0, (dgD q :: ds).length, [], 0⟩]) ∧ (¬ n ≤ 9999 → (tk 0 (dgD q :: ds)).2 = some 0)) := Lib.hid (by rw [← HFin.out]; exact num_scan hn)
            obtain ⟨nsS, hnsS⟩ : ∃ x, dgD q :: ds = x := ⟨_, rfl⟩
            rw [hnsS] at a1 b1 b2 HSCN HSCL HNU
            have hv10 : (v : Int) < 10 := by omega
            clear hq hvq hnsS hl6 hdg
            generalize S (55 :: 32 :: 48 :: nsS) = s7 at *
            obtain ⟨sn, hsn⟩ : ∃ x, S nsS = x := ⟨_, rfl⟩
            rw [hsn] at a1 b1 b2 HSCN
            have HSN := Lib.hid hsn
            clear hsn
            go_wp2_with fail
            refine (HSCN.out _ (HW.out.below (HB3.out.trans (HBW2.out.mono HB3.out.size)))).mono ?_
            rintro e w4 ⟨⟨vn, pn, qn, he, hqn⟩, hb4⟩
            subst he
            have HB4 := Lib.hid ((HB3.out.trans (HBW2.out.mono HB3.out.size)).trans (hb4.mono (HB3.out.trans (HBW2.out.mono HB3.out.size)).size))
            have hqn2 : (qn = 0 ∧ n ≤ 9999 ∧ RdK w4 vn [⟨3, 0, nsS, 0⟩, ⟨0, nsS.length, [], 0⟩]) ∨ (qn = 60 ∧ ¬ n ≤ 9999) := by
              rcases hqn with ⟨h1, h2, h3⟩ | ⟨m, h1, -, h2⟩
              · have hle : n ≤ 9999 := by
                  by_cases h : n ≤ 9999
                  · exact h
                  · rw [HNU.out.2 h] at h1; cases h1
                refine .inl ⟨h2, hle, ?_⟩
                rw [(HNU.out.1 hle).2] at h3
                exact h3
              · refine .inr ⟨h2, fun h => ?_⟩
                rw [(HNU.out.1 h).1] at h1; cases h1
            clear hb4 hqn
            go_wp2_with fail
            refine (HSCL.out _ (HW.out.below HB4.out)).mono ?_
            rintro e w5 ⟨he, hb5⟩
            subst he
            have HB5 := Lib.hid (HB4.out.trans (hb5.mono HB4.out.size))
            have hb5' := Lib.hid hb5
            clear hb5
            rcases hqb2 with ⟨rfl, hi20⟩ | ⟨rfl, hi20⟩
            all_goals
              rcases hqn2 with ⟨rfl, hn4, hrn⟩ | ⟨rfl, hn4⟩
            · obtain ⟨a, ca, p, q', rfl, x0, ⟨p0, p1, p2, p3⟩, -, -⟩ := (hrn.below hb5'.out).two
              dsimp only at p0 p2
              rw [HSN.out] at p2
              have hi2 : (i : Int) + 2 - 1 ≤ 20 := by omega
              have hn4i : (n : Int) ≤ 9999 := by omega
              go_wp2_with fail
              go_ret
              exact ⟨by simp <;> omega, HB5.out⟩
            · have hi2 : (i : Int) + 2 - 1 ≤ 20 := by omega
              have hn4i : ¬ (n : Int) ≤ 9999 := by omega
              go_wp2_with fail
              go_ret
              exact ⟨by simp <;> omega, HB5.out⟩
            · obtain ⟨a, ca, p, q', rfl, x0, ⟨p0, p1, p2, p3⟩, -, -⟩ := (hrn.below hb5'.out).two
              dsimp only at p0 p2
              rw [HSN.out] at p2
              have hi2 : ¬ (i : Int) + 2 - 1 ≤ 20 := by omega
              have hn4i : (n : Int) ≤ 9999 := by omega
              go_wp2_with fail
              go_ret
              exact ⟨by simp <;> omega, HB5.out⟩
            · have hi2 : ¬ (i : Int) + 2 - 1 ≤ 20 := by omega
              have hn4i : ¬ (n : Int) ≤ 9999 := by omega
              go_wp2_with fail
              go_ret
              exact ⟨by simp <;> omega, HB5.out⟩
          · have HV2 : Hid (v / 10 < 10 ^ (f - 1)) := Lib.hid (by
              have h1 := HV.out
              obtain ⟨g, hg⟩ : ∃ g, f = g + 1 := ⟨f - 1, by have := HF.out; omega⟩
              rw [hg, Nat.pow_succ] at h1
              rw [hg, Nat.add_sub_cancel]
              omega)
            have HF2 : Hid (0 < f - 1) := Lib.hid (by
              have h1 := HV2.out
              rcases Nat.eq_zero_or_pos (f - 1) with h | h
              · rw [h] at h1; simp at h1; omega
              · exact h)
            have HE2 : Hid (numS n = decF (f - 1) (v / 10) ++ dgD q :: ds) := Lib.hid (by
              rw [HE.out]
              obtain ⟨g, hg⟩ : ∃ g, f = g + 1 := ⟨f - 1, by have := HF.out; omega⟩
              rw [hg, decF, if_neg h10, hq, Nat.add_sub_cancel, List.append_assoc]
              rfl)
            have HL2 : Hid ((dgD q :: ds).length + (f - 1) ≤ 5) := Lib.hid (by have := HL.out; have := HF.out; rw [List.length_cons]; omega)
            have hv2 : ((v / 10 : Nat) : Int) = (v : Int) / 10 := by omega
            have hnv : ¬ (v : Int) < 10 := by omega
            clear hq hdg
            go_wp2_with fail
            go_round
            case rel => exact ⟨f - 1, v / 10, dgD q :: ds, by rw [hv2], rfl, by omega, HF2, HV2, HE2, HL2, HBW2⟩
            case measure => simp [intOf]; omega
  · have hlei : ¬ m ≤ 1114111 := by omega
    have HSC := Lib.hid (fun W hW => scan_no (codeL c) W hW (by omega) (code_bad (by omega) (by omega)))
    clear hlen hc hcs hle
    generalize S (codeL c) = sc at *
    go_enter Tryz.func6, Tryz.ntmps6
    go_wp2_with fail
    refine HK.out.mono ?_
    rintro e w1 ⟨he, hb1⟩
    subst he
    have HB1 := Lib.hid hb1
    clear hb1
    go_wp2_with fail
    refine (HCD.out _).mono ?_
    rintro e w2 ⟨he, rfl⟩
    subst he
    go_wp2_with fail
    refine (HSC.out _ (HW.out.below HB1.out)).mono ?_
    rintro e w2 ⟨he, hb2⟩
    subst he
    have HB2 := Lib.hid (HB1.out.trans (hb2.mono HB1.out.size))
    clear hb2
    go_wp2_with fail
    go_loopw [11, 12] (fun sv iv wr => ∃ (i : Nat) (bs : List UInt8), iv = .int .i64 ((i : Int) + 1) ∧ i ≤ j ∧ sv = .string (S bs) ∧ Hid (bs = nameS i) ∧ Hid (wr = w2)) (fun _ iv _ => j + 1 - (intOf iv).toNat)
    case atStart => exact ⟨0, [36, 97], rfl, Nat.zero_le _, by rw [HC0.out], Lib.hid rfl, Lib.hid rfl⟩
    case round =>
      obtain ⟨i, bs, rfl, hij, rfl, HBS, HWR⟩ := hrel
      have hwr := HWR.out
      subst hwr
      by_cases hlt : i < j
      · have hlt' : (i : Int) + 1 < (j : Int) + 1 := by omega
        obtain ⟨e1, e2⟩ := add_str bs [98] (by rw [HBS.out]; simp [nameS]; omega) (by simp)
        rw [HC1.out] at e1 e2
        have HN : Hid (bs ++ [98] = nameS (i + 1)) := Lib.hid (by rw [HBS.out]; unfold nameS; rw [List.replicate_succ']; rfl)
        go_wp2_with fail
        go_round
        case rel => exact ⟨i + 1, bs ++ [98], by go_num, by omega, rfl, HN, Lib.hid (by first | rfl | trivial)⟩
        case measure => simp [intOf]; omega
      · obtain rfl : i = j := by omega
        have hge : ¬ (i : Int) + 1 < (i : Int) + 1 := by omega
        have HSB := Lib.hid (S_size bs)
        have hbl : bs.length = i + 2 := by rw [HBS.out]; simp [nameS]
        have hszb : (S bs).size = i + 2 := by rw [S_size, hbl]
        have HSCB := Lib.hid (fun W hW => scan_any bs W hW (by rw [hbl]; omega))
        have HNS : Hid ((i + 1 ≤ 20 → (tk 0 bs).2 = none) ∧ (¬ i + 1 ≤ 20 → (tk 0 bs).2 = some 0)) := Lib.hid (by rw [HBS.out]; exact name_scan i)
        clear hbl
        generalize S bs = sb at *
        go_wp2_with fail
        refine (HSCB.out _ (HW.out.below HB2.out)).mono ?_
        rintro e w3 ⟨⟨vb, pb, qb, he, hqb⟩, hb3⟩
        subst he
        have HB3 := Lib.hid (HB2.out.trans (hb3.mono HB2.out.size))
        have hqb2 : (qb = 0 ∧ i + 1 ≤ 20) ∨ (qb = 60 ∧ ¬ i + 1 ≤ 20) := by
          rcases hqb with ⟨h1, h2, -⟩ | ⟨m, h1, -, h2⟩
          · refine .inl ⟨h2, ?_⟩
            by_cases h : i + 1 ≤ 20
            · exact h
            · rw [HNS.out.2 h] at h1; cases h1
          · refine .inr ⟨h2, fun h => ?_⟩
            rw [HNS.out.1 h] at h1; cases h1
        clear hb3 hqb
        go_wp2_with fail
        go_loopw [16, 17] (fun sv mv wr => ∃ (f v : Nat) (ds : List UInt8), mv = .int .i64 (v : Int) ∧ sv = .string (S ds) ∧ v < 65536 ∧ Hid (0 < f) ∧ Hid (v < 10 ^ f) ∧ Hid (numS n = decF f v ++ ds) ∧ Hid (ds.length + f ≤ 5) ∧ Hid (Below w3.heap.size w3 wr)) (fun _ mv _ => (intOf mv).toNat)
        case atStart => exact ⟨5, n, [], rfl, rfl, hn, Lib.hid (by decide), Lib.hid (Nat.lt_of_lt_of_le hn (by decide)), Lib.hid (by rw [List.append_nil]; rfl), Lib.hid (by decide), Lib.hid (Below.refl _ _)⟩
        case round =>
          obtain ⟨f, v, ds, rfl, rfl, hv, HF, HV, HE, HL, HBW⟩ := hrel
          obtain ⟨q, hq⟩ : ∃ q, v % 10 = q := ⟨_, rfl⟩
          have hqi : (v : Int) % 10 = (q : Int) := by omega
          have hq10 : q < 10 := by omega
          have hdg := (dgD_facts q (List.mem_range.2 hq10)).2.2
          have hw8 : IntKind.u8.wrap (48 + (q : Int)) = 48 + (q : Int) := wrap_u8_small (by omega) (by omega)
          have hcv : (convert 39 9 (.slice (some ⟨wr.heap.size, 0, none⟩) 1 1)).run Tryz.prog (wr.alloc (.cells #[.int .u8 (48 + (q : Int))] 5)) = .ok (.string (S [dgD q])) (wr.alloc (.cells #[.int .u8 (48 + (q : Int))] 5)) := by
            have := one_byte_str wr (dgD q)
            rw [hdg, show ((48 + q : Nat) : Int) = 48 + (q : Int) from by omega] at this
            exact this
          obtain ⟨a1, a2⟩ := add_str [dgD q] ds (by simp) (by have := HL.out; omega)
          rw [List.singleton_append] at a1
          have HBW2 : Hid (Below w3.heap.size w3 (wr.alloc (.cells #[.int .u8 (48 + (q : Int))] 5))) := Lib.hid (HBW.out.trans ((Below.refl _ wr).alloc HBW.out.size _))
          by_cases h10 : v < 10
          · have hvq : v = q := by omega
            have HFin : Hid (numS n = dgD q :: ds) := Lib.hid (by
              rw [HE.out]
              obtain ⟨g, hg⟩ : ∃ g, f = g + 1 := ⟨f - 1, by have := HF.out; omega⟩
              rw [hg, decF, if_pos h10, hvq]
              rfl)
            have hl6 : (dgD q :: ds).length ≤ 6 := by have := HL.out; simp; omega
            obtain ⟨b1, b2⟩ := add_str [55, 32, 48] (dgD q :: ds) (by simp) (by omega)
            rw [HC2.out] at b1 b2
            rw [show [55, 32, 48] ++ dgD q :: ds = 55 :: 32 :: 48 :: (dgD q :: ds) from rfl] at b1
            have HSCN := Lib.hid (fun W hW => scan_any (dgD q :: ds) W hW (by omega))
            have HSCL := Lib.hid (fun W hW => scan_no (55 :: 32 :: 48 :: (dgD q :: ds)) W hW (by simp at *; omega) (p := 2) (by rw [← HFin.out]; exact lead_scan hn))
            have HNU : Hid ((n ≤ 9999 → (tk 0 (dgD q :: ds)).2 = none ∧ scanT (dgD q :: ds) = [⟨3, 0, dgD q :: ds, 0⟩, ⟨0, (dgD q :: ds).length, [], 0⟩]) ∧ (¬ n ≤ 9999 → (tk 0 (dgD q :: ds)).2 = some 0)) := Lib.hid (by rw [← HFin.out]; exact num_scan hn)
            obtain ⟨nsS, hnsS⟩ : ∃ x, dgD q :: ds = x := ⟨_, rfl⟩
            rw [hnsS] at a1 b1 b2 HSCN HSCL HNU
            have hv10 : (v : Int) < 10 := by omega
            clear hq hvq hnsS hl6 hdg
            generalize S (55 :: 32 :: 48 :: nsS) = s7 at *
            obtain ⟨sn, hsn⟩ : ∃ x, S nsS = x := ⟨_, rfl⟩
            rw [hsn] at a1 b1 b2 HSCN
            have HSN := Lib.hid hsn
            clear hsn
            go_wp2_with fail
            refine (HSCN.out _ (HW.out.below (HB3.out.trans (HBW2.out.mono HB3.out.size)))).mono ?_
            rintro e w4 ⟨⟨vn, pn, qn, he, hqn⟩, hb4⟩
            subst he
            have HB4 := Lib.hid ((HB3.out.trans (HBW2.out.mono HB3.out.size)).trans (hb4.mono (HB3.out.trans (HBW2.out.mono HB3.out.size)).size))
            have hqn2 : (qn = 0 ∧ n ≤ 9999 ∧ RdK w4 vn [⟨3, 0, nsS, 0⟩, ⟨0, nsS.length, [], 0⟩]) ∨ (qn = 60 ∧ ¬ n ≤ 9999) := by
              rcases hqn with ⟨h1, h2, h3⟩ | ⟨m, h1, -, h2⟩
              · have hle : n ≤ 9999 := by
                  by_cases h : n ≤ 9999
                  · exact h
                  · rw [HNU.out.2 h] at h1; cases h1
                refine .inl ⟨h2, hle, ?_⟩
                rw [(HNU.out.1 hle).2] at h3
                exact h3
              · refine .inr ⟨h2, fun h => ?_⟩
                rw [(HNU.out.1 h).1] at h1; cases h1
            clear hb4 hqn
            go_wp2_with fail
            refine (HSCL.out _ (HW.out.below HB4.out)).mono ?_
            rintro e w5 ⟨he, hb5⟩
            subst he
            have HB5 := Lib.hid (HB4.out.trans (hb5.mono HB4.out.size))
            have hb5' := Lib.hid hb5
            clear hb5
            rcases hqb2 with ⟨rfl, hi20⟩ | ⟨rfl, hi20⟩
            all_goals
              rcases hqn2 with ⟨rfl, hn4, hrn⟩ | ⟨rfl, hn4⟩
            · obtain ⟨a, ca, p, q', rfl, x0, ⟨p0, p1, p2, p3⟩, -, -⟩ := (hrn.below hb5'.out).two
              dsimp only at p0 p2
              rw [HSN.out] at p2
              have hi2 : (i : Int) + 2 - 1 ≤ 20 := by omega
              have hn4i : (n : Int) ≤ 9999 := by omega
              go_wp2_with fail
              go_ret
              exact ⟨by simp <;> omega, HB5.out⟩
            · have hi2 : (i : Int) + 2 - 1 ≤ 20 := by omega
              have hn4i : ¬ (n : Int) ≤ 9999 := by omega
              go_wp2_with fail
              go_ret
              exact ⟨by simp <;> omega, HB5.out⟩
            · obtain ⟨a, ca, p, q', rfl, x0, ⟨p0, p1, p2, p3⟩, -, -⟩ := (hrn.below hb5'.out).two
              dsimp only at p0 p2
              rw [HSN.out] at p2
              have hi2 : ¬ (i : Int) + 2 - 1 ≤ 20 := by omega
              have hn4i : (n : Int) ≤ 9999 := by omega
              go_wp2_with fail
              go_ret
              exact ⟨by simp <;> omega, HB5.out⟩
            · have hi2 : ¬ (i : Int) + 2 - 1 ≤ 20 := by omega
              have hn4i : ¬ (n : Int) ≤ 9999 := by omega
              go_wp2_with fail
              go_ret
              exact ⟨by simp <;> omega, HB5.out⟩
          · have HV2 : Hid (v / 10 < 10 ^ (f - 1)) := Lib.hid (by
              have h1 := HV.out
              obtain ⟨g, hg⟩ : ∃ g, f = g + 1 := ⟨f - 1, by have := HF.out; omega⟩
              rw [hg, Nat.pow_succ] at h1
              rw [hg, Nat.add_sub_cancel]
              omega)
            have HF2 : Hid (0 < f - 1) := Lib.hid (by
              have h1 := HV2.out
              rcases Nat.eq_zero_or_pos (f - 1) with h | h
              · rw [h] at h1; simp at h1; omega
              · exact h)
            have HE2 : Hid (numS n = decF (f - 1) (v / 10) ++ dgD q :: ds) := Lib.hid (by
              rw [HE.out]
              obtain ⟨g, hg⟩ : ∃ g, f = g + 1 := ⟨f - 1, by have := HF.out; omega⟩
              rw [hg, decF, if_neg h10, hq, Nat.add_sub_cancel, List.append_assoc]
              rfl)
            have HL2 : Hid ((dgD q :: ds).length + (f - 1) ≤ 5) := Lib.hid (by have := HL.out; have := HF.out; rw [List.length_cons]; omega)
            have hv2 : ((v / 10 : Nat) : Int) = (v : Int) / 10 := by omega
            have hnv : ¬ (v : Int) < 10 := by omega
            clear hq hdg
            go_wp2_with fail
            go_round
            case rel => exact ⟨f - 1, v / 10, dgD q :: ds, by rw [hv2], rfl, by omega, HF2, HV2, HE2, HL2, HBW2⟩
            case measure => simp [intOf]; omega
end Go.Proofs.YtekpmpghbeeeoaaGreatDoor
