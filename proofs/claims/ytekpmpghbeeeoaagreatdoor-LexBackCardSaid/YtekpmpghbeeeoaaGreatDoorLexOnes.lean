import Derived.Test.YtekpmpghbeeeoaaGreatDoorLexSmall
/- package lex: blanks, and the short signs. -/
namespace Go.Proofs.YtekpmpghbeeeoaaGreatDoor
open Go.RowKit Go.Shelf Go.Proofs.YtekpmpghbeeeoaaGreatDoorW.PrintWords Go.Proofs.YtekpmpghbeeeoaaGreatDoorW.PrintMore

theorem head_drop {l : List UInt8} {k : Nat} (h : k < l.length) : (l.drop k).head? = some l[k] := by
  rw [List.drop_eq_getElem_cons h, List.head?_cons]
theorem u8_eq (b : UInt8) (c : Nat) (hc : c < 256) : b = UInt8.ofNat c ↔ ((b.toNat : Nat) : Int) = (c : Int) := by
  rw [← UInt8.toNat_inj, UInt8.toNat_ofNat']
  omega
set_option maxRecDepth 100000 in
set_option maxHeartbeats 1000000 in
theorem lex_blank (l : List UInt8) (hl : l.length ≤ 1000000) (W : World) :
    Calls Tryz.prog 26 #[.string (S l)] W fun e w' => e = .returned (.int .i64 (blankN l : Int)) ∧ W = w' := by
  have hsz := S_size l
  have HM := Lib.hid (many_blank l hl W)
  have HL := Lib.hid (cnt_le blk l)
  have HK := Lib.hid (many_line (l.drop (cnt blk l)) (by rw [List.length_drop]; omega) W)
  have HB : Hid (blankN l = if (l.drop (cnt blk l)).head? = some 35 then cnt blk l + cnt noLine (l.drop (cnt blk l)) else cnt blk l) := Lib.hid rfl
  have HLe := Lib.hid (blankN_le l)
  have HD := Lib.hid (fun W => run_drop l (cnt blk l) (cnt_le blk l) W)
  obtain ⟨m, hm⟩ : ∃ m, cnt noLine (l.drop (cnt blk l)) = m := ⟨_, rfl⟩
  obtain ⟨n, hn⟩ : ∃ n, cnt blk l = n := ⟨_, rfl⟩
  rw [hm] at HK HB
  rw [hn] at HM HL HK HB HD
  clear hm
  clear hn
  obtain ⟨r, hr⟩ : ∃ r, blankN l = r := ⟨_, rfl⟩
  rw [hr] at HB HLe ⊢
  clear hr
  obtain ⟨l2, hl2⟩ : ∃ l2, l.drop n = l2 := ⟨_, rfl⟩
  rw [hl2] at HK HB HD
  have hnl := HL.out
  by_cases hlt : n < l.length
  · have hix := ixS hlt W
    have HH : Hid (l2.head? = some l[n]) := Lib.hid (by rw [← hl2]; exact head_drop hlt)
    have HU := Lib.hid (u8_eq l[n] 35 (by decide))
    generalize ((l[n]).toNat : Int) = x at hix HU
    clear hl2
    by_cases h1 : x = 35
    · have HR : Hid (r = n + m) := Lib.hid (by rw [HB.out, HH.out, if_pos (by rw [HU.out.2 h1]; rfl)])
      have H1 := Lib.hid h1
      clear h1 HB HU
      go_enter Tryz.func26, Tryz.ntmps26
      go_wp2_with fail
      refine HM.out.mono ?_
      rintro e w1 ⟨rfl, rfl⟩
      have h1 := H1.out
      have hd := HD.out W
      have hle : n + m ≤ 1000000 := by have := HLe.out; have := HR.out; omega
      go_wp2_with fail
      refine HK.out.mono ?_
      rintro e w1 ⟨rfl, rfl⟩
      go_wp2_with fail
      go_ret
      exact ⟨by rw [HR.out]; rfl, rfl⟩
    · have HR : Hid (r = n) := Lib.hid (by rw [HB.out, HH.out, if_neg (by intro h; exact h1 (HU.out.1 (by injection h)))])
      have H1 := Lib.hid h1
      clear h1 HB HU
      go_enter Tryz.func26, Tryz.ntmps26
      go_wp2_with fail
      refine HM.out.mono ?_
      rintro e w1 ⟨rfl, rfl⟩
      have h1 := H1.out
      go_wp2_with fail
      go_ret
      exact ⟨by rw [HR.out]; rfl, rfl⟩
  · obtain rfl : n = l.length := by omega
    have HR : Hid (r = l.length) := Lib.hid (by rw [HB.out, ← hl2, List.drop_length, if_neg (by simp)])
    clear HB hl2
    go_enter Tryz.func26, Tryz.ntmps26
    go_wp2_with fail
    refine HM.out.mono ?_
    rintro e w1 ⟨rfl, rfl⟩
    go_wp2_with fail
    go_ret
    exact ⟨by rw [HR.out]; rfl, rfl⟩
/-- A sign as the program holds it; what begins with none is the zero sign. -/
def agT (k a : Int) (t : List UInt8) (r : Int) : Value := .agg #[.int .i64 k, .int .i64 a, .string (S t), .int .i32 r]
def oneV : Option One → Value
  | none => agT 0 0 [] 0
  | some o => agT o.kind 0 o.text o.r
def oneN : Option One → Nat
  | none => 0
  | some o => o.n
def oneE (o : Option One) : Ending := .returned (.tuple #[oneV o, .int .i64 (oneN o : Int)])
/-- What a function of one sign returns. -/
def oneA (k n : Int) (t : ByteArray) (r : Int) : Value := .tuple #[.agg #[.int .i64 k, .int .i64 0, .string t, .int .i32 r], .int .i64 n]
theorem oneE_some (k r : Int) (t : List UInt8) (n : Nat) : oneE (some ⟨k, t, r, n⟩) = .returned (oneA k n (S t) r) := rfl
theorem oneE_none : oneE none = .returned (oneA 0 0 ByteArray.empty 0) := rfl

set_option maxRecDepth 100000 in
set_option maxHeartbeats 1000000 in
theorem lex_name (c : UInt8) (rest : List UInt8) (hl : rest.length < 1000000) (W : World) :
    Calls Tryz.prog 42 #[.string (S (c :: rest))] W fun e w' => e = oneE (nameT rest) ∧ Below W.heap.size W w' := by
  have hsz := S_size (c :: rest)
  rw [List.length_cons] at hsz
  cases rest with
  | nil =>
    have HE : Hid (oneE (nameT []) = .returned (oneA 0 0 ByteArray.empty 0)) := Lib.hid rfl
    go_enter Tryz.func42, Tryz.ntmps42
    go_wp2_with fail
    refine bodyPost_ret (v := (oneA 0 0 ByteArray.empty 0)) (by first | (simp [results, Tryz.results42, go_sem]; done) | (simp [results, Tryz.results42, go_sem]; rfl)) rfl ?_
    rw [HE.out]
    exact ⟨rfl, (Below.refl _ _).alloc (Nat.le_refl _) _⟩
  | cons d r =>
    have hix : ∀ W, (Instr.index 9 (.string (S (c :: d :: r))) (.int .i64 1)).run Tryz.prog W = .ok (.int .u8 ((d.toNat : Nat) : Int)) W := fun W => ixS (l := c :: d :: r) (k := 1) (by simp) W
    have hdr : ∀ W, (Instr.slice 9 (.string (S (c :: d :: r))) (some (.int .i64 1)) none none).run Tryz.prog W = .ok (.string (S (d :: r))) W := fun W => run_drop (c :: d :: r) 1 (by simp) W
    have HM := Lib.hid (fun W => many_name (d :: r) (by simp at hl ⊢; omega) W)
    have HT := Lib.hid (fun W => lex_letter d W)
    have hcl := cnt_le eid (d :: r)
    have hN : nameT (d :: r) = if ltr d = true ∧ cnt eid (d :: r) ≤ 20 then some ⟨1, (d :: r).take (cnt eid (d :: r)), 0, cnt eid (d :: r) + 1⟩ else none := rfl
    obtain ⟨n, hn⟩ : ∃ n, cnt eid (d :: r) = n := ⟨_, rfl⟩
    rw [hn] at hcl hN HM
    have hsl : ∀ W, (Instr.slice 9 (.string (S (c :: d :: r))) (some (.int .i64 1)) (some (.int .i64 ((n : Int) + 1))) none).run Tryz.prog W = .ok (.string (S ((d :: r).take n))) W := fun W => run_sub (c :: d :: r) 1 (n + 1) (by omega) (by simp at hcl ⊢; omega) W
    have hsz2 : ¬ ((S (c :: d :: r)).size : Int) < 2 := by rw [hsz, List.length_cons]; omega
    clear hn hcl hsz
    obtain ⟨t, ht⟩ : ∃ t, (d :: r).take n = t := ⟨_, rfl⟩
    rw [ht] at hsl hN
    clear ht
    obtain ⟨b, hb⟩ : ∃ b, ltr d = b := ⟨_, rfl⟩
    rw [hb] at HT hN
    clear hb
    obtain ⟨o, ho⟩ : ∃ o, nameT (d :: r) = o := ⟨_, rfl⟩
    rw [ho] at hN ⊢
    clear ho
    obtain ⟨s3, hs3⟩ : ∃ s, S t = s := ⟨_, rfl⟩
    rw [hs3] at hsl
    generalize S (c :: d :: r) = s at *
    generalize S (d :: r) = s2 at *
    have HX := Lib.hid hix
    have HDR := Lib.hid hdr
    have HSL := Lib.hid hsl
    clear hix hdr hsl
    cases b with
    | false =>
      have HE : Hid (oneE o = .returned (oneA 0 0 ByteArray.empty 0)) := Lib.hid (by rw [hN, if_neg (by simp)]; rfl)
      clear hN hs3
      have hx := HX.out
      go_enter Tryz.func42, Tryz.ntmps42
      go_wp2_with fail
      refine (HT.out _).mono ?_
      rintro e w1 ⟨rfl, rfl⟩
      go_wp2_with fail
      refine bodyPost_ret (v := (oneA 0 0 ByteArray.empty 0)) (by first | (simp [results, Tryz.results42, go_sem]; done) | (simp [results, Tryz.results42, go_sem]; rfl)) rfl ?_
      rw [HE.out]
      exact ⟨rfl, (Below.refl _ _).alloc (Nat.le_refl _) _⟩
    | true =>
      by_cases h20 : n ≤ 20
      · have HE : Hid (oneE o = .returned (oneA 1 ((n : Int) + 1) s3 0)) := Lib.hid (by rw [hN, if_pos ⟨rfl, h20⟩, oneE_some, hs3]; rfl)
        have h20' : ¬ 20 < (n : Int) := by omega
        clear hN hs3
        have hx := HX.out
        have hdr := HDR.out
        have hsl := HSL.out
        go_enter Tryz.func42, Tryz.ntmps42
        go_wp2_with fail
        refine (HT.out _).mono ?_
        rintro e w1 ⟨rfl, rfl⟩
        go_wp2_with fail
        refine (HM.out _).mono ?_
        rintro e w1 ⟨rfl, rfl⟩
        go_wp2_with fail
        refine bodyPost_ret (v := (oneA 1 ((n : Int) + 1) s3 0)) (by first | (simp [results, Tryz.results42, go_sem]; done) | (simp [results, Tryz.results42, go_sem]; rfl)) rfl ?_
        rw [HE.out]
        exact ⟨rfl, (Below.refl _ _).alloc (Nat.le_refl _) _⟩
      · have HE : Hid (oneE o = .returned (oneA 0 0 ByteArray.empty 0)) := Lib.hid (by rw [hN, if_neg (by rintro ⟨-, h⟩; exact h20 h)]; rfl)
        have h20' : 20 < (n : Int) := by omega
        clear hN hs3
        have hx := HX.out
        have hdr := HDR.out
        go_enter Tryz.func42, Tryz.ntmps42
        go_wp2_with fail
        refine (HT.out _).mono ?_
        rintro e w1 ⟨rfl, rfl⟩
        go_wp2_with fail
        refine (HM.out _).mono ?_
        rintro e w1 ⟨rfl, rfl⟩
        go_wp2_with fail
        refine bodyPost_ret (v := (oneA 0 0 ByteArray.empty 0)) (by first | (simp [results, Tryz.results42, go_sem]; done) | (simp [results, Tryz.results42, go_sem]; rfl)) rfl ?_
        rw [HE.out]
        exact ⟨rfl, (Below.refl _ _).alloc (Nat.le_refl _) _⟩
set_option maxRecDepth 100000 in
set_option maxHeartbeats 1000000 in
theorem lex_ident (l : List UInt8) (hl : l.length ≤ 1000000) (W : World) :
    Calls Tryz.prog 46 #[.string (S l)] W fun e w' => e = oneE (identT l) ∧ Below W.heap.size W w' := by
  have HM := Lib.hid (fun W => many_ident l hl W)
  have hcl := cnt_le idn l
  have HE : Hid (oneE (identT l) = .returned (oneA 8 (cnt idn l : Int) (S (l.take (cnt idn l))) 0)) := Lib.hid rfl
  obtain ⟨o, ho⟩ : ∃ o, identT l = o := ⟨_, rfl⟩
  rw [ho] at HE ⊢
  clear ho
  obtain ⟨n, hn⟩ : ∃ n, cnt idn l = n := ⟨_, rfl⟩
  rw [hn] at hcl HE HM
  clear hn
  have hsl := fun W => run_take l n hcl W
  generalize S (l.take n) = s3 at *
  generalize S l = s at *
  go_enter Tryz.func46, Tryz.ntmps46
  go_wp2_with fail
  refine (HM.out _).mono ?_
  rintro e w1 ⟨rfl, rfl⟩
  go_wp2_with fail
  refine bodyPost_ret (v := (oneA 8 (n : Int) s3 0)) (by first | (simp [results, Tryz.results46, go_sem]; done) | (simp [results, Tryz.results46, go_sem]; rfl)) rfl ?_
  rw [HE.out]
  exact ⟨rfl, (Below.refl _ _).alloc (Nat.le_refl _) _⟩

set_option maxRecDepth 100000 in
set_option maxHeartbeats 1000000 in
theorem lex_num (l : List UInt8) (hl : l.length ≤ 1000000) (W : World) :
    Calls Tryz.prog 44 #[.string (S l)] W fun e w' => e = oneE (numT l) ∧ Below W.heap.size W w' := by
  have HM := Lib.hid (fun W => many_digit l hl W)
  have hcl := cnt_le dgt l
  have hN : numT l = if 4 < cnt dgt l ∨ (1 < cnt dgt l ∧ l.head? = some 48) then none else some ⟨3, l.take (cnt dgt l), 0, cnt dgt l⟩ := rfl
  obtain ⟨o, ho⟩ : ∃ o, numT l = o := ⟨_, rfl⟩
  rw [ho] at hN ⊢
  clear ho
  obtain ⟨n, hn⟩ : ∃ n, cnt dgt l = n := ⟨_, rfl⟩
  rw [hn] at hcl hN HM
  clear hn
  have HSL := Lib.hid (fun W => run_take l n hcl W)
  by_cases h4 : 4 < n
  · have HE : Hid (oneE o = .returned (oneA 0 0 ByteArray.empty 0)) := Lib.hid (by rw [hN, if_pos (.inl h4)]; rfl)
    have h4' : 4 < (n : Int) := by omega
    clear hN hcl
    generalize S l = s at *
    go_enter Tryz.func44, Tryz.ntmps44
    go_wp2_with fail
    refine (HM.out _).mono ?_
    rintro e w1 ⟨rfl, rfl⟩
    go_wp2_with fail
    refine bodyPost_ret (v := (oneA 0 0 ByteArray.empty 0)) (by first | (simp [results, Tryz.results44, go_sem]; done) | (simp [results, Tryz.results44, go_sem]; rfl)) rfl ?_
    rw [HE.out]
    exact ⟨rfl, (Below.refl _ _).alloc (Nat.le_refl _) _⟩
  · have h4' : ¬ 4 < (n : Int) := by omega
    by_cases h1 : 1 < n
    · have h1' : 1 < (n : Int) := by omega
      cases l with
      | nil => simp at hcl; omega
      | cons c r =>
        have hix : ∀ W, (Instr.index 9 (.string (S (c :: r))) (.int .i64 0)).run Tryz.prog W = .ok (.int .u8 ((c.toNat : Nat) : Int)) W := fun W => ixS (l := c :: r) (k := 0) (by simp) W
        have hu := u8_eq c 48 (by decide)
        generalize ((c.toNat : Nat) : Int) = x at hix hu
        by_cases hx : x = 48
        · have HE : Hid (oneE o = .returned (oneA 0 0 ByteArray.empty 0)) := Lib.hid (by rw [hN, if_pos (.inr ⟨h1, by rw [List.head?_cons, hu.2 hx]; rfl⟩)]; rfl)
          clear hN hcl hu
          have H1 := Lib.hid hx
          clear hx
          generalize S (c :: r) = s at *
          go_enter Tryz.func44, Tryz.ntmps44
          go_wp2_with fail
          refine (HM.out _).mono ?_
          rintro e w1 ⟨rfl, rfl⟩
          have hx := H1.out
          go_wp2_with fail
          refine bodyPost_ret (v := (oneA 0 0 ByteArray.empty 0)) (by first | (simp [results, Tryz.results44, go_sem]; done) | (simp [results, Tryz.results44, go_sem]; rfl)) rfl ?_
          rw [HE.out]
          exact ⟨rfl, (Below.refl _ _).alloc (Nat.le_refl _) _⟩
        · have HE : Hid (oneE o = .returned (oneA 3 (n : Int) (S ((c :: r).take n)) 0)) := Lib.hid (by rw [hN, if_neg (by rintro (h | ⟨-, h⟩); exact h4 h; rw [List.head?_cons] at h; injection h with h; exact hx (hu.1 h))]; rfl)
          clear hN hcl hu
          have hxb : (x == 48) = false := by rw [beq_eq_false_iff_ne]; exact hx
          have hsl := HSL.out
          generalize S ((c :: r).take n) = s3 at *
          generalize S (c :: r) = s at *
          go_enter Tryz.func44, Tryz.ntmps44
          go_wp2_with fail
          refine (HM.out _).mono ?_
          rintro e w1 ⟨rfl, rfl⟩
          go_wp2_with fail
          refine bodyPost_ret (v := (oneA 3 (n : Int) s3 0)) (by first | (simp [results, Tryz.results44, go_sem]; done) | (simp [results, Tryz.results44, go_sem]; rfl)) rfl ?_
          rw [HE.out]
          exact ⟨rfl, (Below.refl _ _).alloc (Nat.le_refl _) _⟩
    · have h1' : ¬ 1 < (n : Int) := by omega
      have HE : Hid (oneE o = .returned (oneA 3 (n : Int) (S (l.take n)) 0)) := Lib.hid (by rw [hN, if_neg (by rintro (h | ⟨h, -⟩); exact h4 h; exact h1 h)]; rfl)
      clear hN hcl
      have hsl := HSL.out
      generalize S (l.take n) = s3 at *
      generalize S l = s at *
      go_enter Tryz.func44, Tryz.ntmps44
      go_wp2_with fail
      refine (HM.out _).mono ?_
      rintro e w1 ⟨rfl, rfl⟩
      go_wp2_with fail
      refine bodyPost_ret (v := (oneA 3 (n : Int) s3 0)) (by first | (simp [results, Tryz.results44, go_sem]; done) | (simp [results, Tryz.results44, go_sem]; rfl)) rfl ?_
      rw [HE.out]
      exact ⟨rfl, (Below.refl _ _).alloc (Nat.le_refl _) _⟩

set_option maxRecDepth 100000 in
set_option maxHeartbeats 1000000 in
theorem lex_prop (c : UInt8) (rest : List UInt8) (hl : rest.length < 1000000) (W : World) :
    Calls Tryz.prog 49 #[.string (S (c :: rest))] W fun e w' => e = oneE (propT rest) ∧ Below W.heap.size W w' := by
  have hsz := S_size (c :: rest)
  rw [List.length_cons] at hsz
  have HM := Lib.hid (fun W => many_letter rest (by omega) W)
  have hcl := cnt_le ltr rest
  have hdr : ∀ W, (Instr.slice 9 (.string (S (c :: rest))) (some (.int .i64 1)) none none).run Tryz.prog W = .ok (.string (S rest)) W := fun W => run_drop (c :: rest) 1 (by simp) W
  have hN : propT rest = if 0 < cnt ltr rest ∧ rest[cnt ltr rest]? = some 125 then some ⟨5, rest.take (cnt ltr rest), 0, cnt ltr rest + 2⟩ else none := rfl
  obtain ⟨o, ho⟩ : ∃ o, propT rest = o := ⟨_, rfl⟩
  rw [ho] at hN ⊢
  clear ho
  obtain ⟨n, hn⟩ : ∃ n, cnt ltr rest = n := ⟨_, rfl⟩
  rw [hn] at hcl hN HM
  clear hn
  have HSL : Hid (∀ W, (Instr.slice 9 (.string (S (c :: rest))) (some (.int .i64 1)) (some (.int .i64 ((n : Int) + 1))) none).run Tryz.prog W = .ok (.string (S (rest.take n))) W) := Lib.hid (fun W => run_sub (c :: rest) 1 (n + 1) (by omega) (by simp; omega) W)
  have HDR := Lib.hid hdr
  clear hdr
  by_cases h0 : n = 0
  · have HE : Hid (oneE o = .returned (oneA 0 0 ByteArray.empty 0)) := Lib.hid (by rw [hN, if_neg (by rintro ⟨h, -⟩; omega)]; rfl)
    subst h0
    clear hN hcl hsz
    generalize S (c :: rest) = s at *
    generalize S rest = s2 at *
    have hdr := HDR.out
    go_enter Tryz.func49, Tryz.ntmps49
    go_wp2_with fail
    refine (HM.out _).mono ?_
    rintro e w1 ⟨rfl, rfl⟩
    go_wp2_with fail
    refine bodyPost_ret (v := (oneA 0 0 ByteArray.empty 0)) (by first | (simp [results, Tryz.results49, go_sem]; done) | (simp [results, Tryz.results49, go_sem]; rfl)) rfl ?_
    rw [HE.out]
    exact ⟨rfl, (Below.refl _ _).alloc (Nat.le_refl _) _⟩
  · have h0' : ¬ (n : Int) = 0 := by omega
    have h0b : ((n : Int) == 0) = false := by rw [beq_eq_false_iff_ne]; omega
    by_cases hlt : n < rest.length
    · have hix : ∀ W, (Instr.index 9 (.string (S (c :: rest))) (.int .i64 ((n : Int) + 1))).run Tryz.prog W = .ok (.int .u8 ((rest[n].toNat : Nat) : Int)) W := fun W => ixS (l := c :: rest) (k := n + 1) (by simp; omega) W
      have hne : ¬ (n : Int) + 1 = ((S (c :: rest)).size : Int) := by rw [hsz]; omega
      have hneb : ((n : Int) + 1 == ((S (c :: rest)).size : Int)) = false := by rw [beq_eq_false_iff_ne]; exact hne
      have hu := u8_eq rest[n] 125 (by decide)
      have hg : rest[n]? = some rest[n] := List.getElem?_eq_getElem hlt
      generalize rest[n] = y at *
      generalize ((y.toNat : Nat) : Int) = x at hix hu
      have HX := Lib.hid hix
      clear hix
      by_cases hx : x = 125
      · have HE : Hid (oneE o = .returned (oneA 5 ((n : Int) + 2) (S (rest.take n)) 0)) := Lib.hid (by rw [hN, if_pos ⟨by omega, by rw [hg, hu.2 hx]; rfl⟩]; rfl)
        clear hN hu hg hcl hsz
        have H1 := Lib.hid hx
        clear hx
        generalize S (rest.take n) = s3 at *
        generalize S (c :: rest) = s at *
        generalize S rest = s2 at *
        have hdr := HDR.out
        go_enter Tryz.func49, Tryz.ntmps49
        go_wp2_with fail
        refine (HM.out _).mono ?_
        rintro e w1 ⟨rfl, rfl⟩
        have hx := H1.out
        have hix := HX.out
        have hsl := HSL.out
        go_wp2_with fail
        refine bodyPost_ret (v := (oneA 5 ((n : Int) + 2) s3 0)) (by first | (simp [results, Tryz.results49, go_sem]; done) | (simp [results, Tryz.results49, go_sem]; rfl)) rfl ?_
        rw [HE.out]
        exact ⟨rfl, (Below.refl _ _).alloc (Nat.le_refl _) _⟩
      · have HE : Hid (oneE o = .returned (oneA 0 0 ByteArray.empty 0)) := Lib.hid (by rw [hN, if_neg (by rintro ⟨-, h⟩; rw [hg] at h; injection h with h; exact hx (hu.1 h))]; rfl)
        clear hN hu hg hcl hsz
        have H1 := Lib.hid hx
        have hxb : (x != 125) = true := by simp [hx]
        clear hx
        generalize S (rest.take n) = s3 at *
        generalize S (c :: rest) = s at *
        generalize S rest = s2 at *
        have hdr := HDR.out
        go_enter Tryz.func49, Tryz.ntmps49
        go_wp2_with fail
        refine (HM.out _).mono ?_
        rintro e w1 ⟨rfl, rfl⟩
        have hx := H1.out
        have hix := HX.out
        go_wp2_with fail
        refine bodyPost_ret (v := (oneA 0 0 ByteArray.empty 0)) (by first | (simp [results, Tryz.results49, go_sem]; done) | (simp [results, Tryz.results49, go_sem]; rfl)) rfl ?_
        rw [HE.out]
        exact ⟨rfl, (Below.refl _ _).alloc (Nat.le_refl _) _⟩
    · have HE : Hid (oneE o = .returned (oneA 0 0 ByteArray.empty 0)) := Lib.hid (by rw [hN, if_neg (by rintro ⟨-, h⟩; rw [List.getElem?_eq_none (by omega)] at h; cases h)]; rfl)
      have heq : ((S (c :: rest)).size : Int) = (n : Int) + 1 := by rw [hsz]; omega
      have hn6 : n < 1000000 := by omega
      clear hN hcl hsz
      generalize S (rest.take n) = s3 at *
      generalize S (c :: rest) = s at *
      generalize S rest = s2 at *
      have hdr := HDR.out
      go_enter Tryz.func49, Tryz.ntmps49
      go_wp2_with fail
      refine (HM.out _).mono ?_
      rintro e w1 ⟨rfl, rfl⟩
      go_wp2_with fail
      refine bodyPost_ret (v := (oneA 0 0 ByteArray.empty 0)) (by first | (simp [results, Tryz.results49, go_sem]; done) | (simp [results, Tryz.results49, go_sem]; rfl)) rfl ?_
      rw [HE.out]
      exact ⟨rfl, (Below.refl _ _).alloc (Nat.le_refl _) _⟩
end Go.Proofs.YtekpmpghbeeeoaaGreatDoor
