import Derived.Test.YtekpmpghbeeeoaaGreatDoorLexHex
/- package lex: characters; the sign that a text begins with. -/
namespace Go.Proofs.YtekpmpghbeeeoaaGreatDoor
open Go.RowKit Go.Shelf Go.Proofs.YtekpmpghbeeeoaaGreatDoorW.PrintWords Go.Proofs.YtekpmpghbeeeoaaGreatDoorW.PrintMore

theorem OneR.form {o : Option One} {e : Ending} (h : OneR o e) : ∃ (k n : Int) (t : ByteArray) (r : Int), e = .returned (.tuple #[.agg #[.int .i64 k, .int .i64 0, .string t, .int .i32 r], .int .i64 n]) := by
  cases o with
  | none => obtain ⟨k, t, r, rfl⟩ := h.2 rfl; exact ⟨k, 0, t, r, rfl⟩
  | some x => rw [h.1 x rfl]; exact ⟨x.kind, (x.n : Int), S x.text, x.r, rfl⟩
theorem wrap_i32_small {x : Int} (h0 : 0 ≤ x) (h1 : x < 16777216) : IntKind.i32.wrap x = x := by
  rw [IntKind.wrap_i32]
  omega
theorem tok_new (W : World) : TokAt (W.alloc (.cells #[.int .i64 0, .int .i64 0, .string ByteArray.empty, .int .i32 0] 33)) W.heap.size 0 0 ByteArray.empty 0 := by
  unfold TokAt World.alloc
  simp
theorem tok_below (W : World) : Below W.heap.size W (W.alloc (.cells #[.int .i64 0, .int .i64 0, .string ByteArray.empty, .int .i32 0] 33)) := (Below.refl _ _).alloc (Nat.le_refl _) _
theorem tok_size (W : World) : (W.alloc (.cells #[.int .i64 0, .int .i64 0, .string ByteArray.empty, .int .i32 0] 33)).heap.size = W.heap.size + 1 := by simp

set_option maxRecDepth 100000 in
set_option maxHeartbeats 4000000 in
theorem lex_escaped (t : List UInt8) (hl : t.length < 999990) (W : World) :
    Calls Tryz.prog 64 #[.string (S (39 :: 92 :: 117 :: 123 :: t))] W fun e w' => OneR (escT t) e ∧ Below W.heap.size W w' := by
  have hsz := S_size (39 :: 92 :: 117 :: 123 :: t)
  simp only [List.length_cons] at hsz
  have HM := Lib.hid (fun W => many_hex t (by omega) W)
  have hcl := cnt_le hexd t
  have hdr : ∀ W, (Instr.slice 9 (.string (S (39 :: 92 :: 117 :: 123 :: t))) (some (.int .i64 4)) none none).run Tryz.prog W = .ok (.string (S t)) W := fun W => run_drop (39 :: 92 :: 117 :: 123 :: t) 4 (by simp) W
  have hN : escT t = if 1 ≤ cnt hexd t ∧ cnt hexd t ≤ 6 ∧ t[cnt hexd t]? = some 125 ∧ hexN (t.take (cnt hexd t)) ≤ 1114111 then some ⟨4, [], (hexN (t.take (cnt hexd t)) : Int), cnt hexd t + 5⟩ else none := rfl
  have HMEM := Lib.hid (fun x => cnt_mem (p := hexd) (l := t) (x := x))
  obtain ⟨o, ho⟩ : ∃ o, escT t = o := ⟨_, rfl⟩
  rw [ho] at hN ⊢
  clear ho
  obtain ⟨n, hn⟩ : ∃ n, cnt hexd t = n := ⟨_, rfl⟩
  rw [hn] at hcl hN HM HMEM
  clear hn
  have HSL : Hid (∀ W, (Instr.slice 9 (.string (S (39 :: 92 :: 117 :: 123 :: t))) (some (.int .i64 4)) (some (.int .i64 (4 + (n : Int)))) none).run Tryz.prog W = .ok (.string (S (t.take n))) W) := Lib.hid (fun W => by
    have h := run_sub (39 :: 92 :: 117 :: 123 :: t) 4 (n + 4) (by omega) (by simp; omega) W
    rw [show ((n + 4 : Nat) : Int) = 4 + (n : Int) from by omega] at h
    exact h)
  have HDR := Lib.hid hdr
  clear hdr
  have HIX : Hid (∀ (h : n < t.length) W, (Instr.index 9 (.string (S (39 :: 92 :: 117 :: 123 :: t))) (.int .i64 (4 + (n : Int)))).run Tryz.prog W = .ok (.int .u8 ((t[n].toNat : Nat) : Int)) W) := Lib.hid (fun h W => by
    have h2 := ixS (l := 39 :: 92 :: 117 :: 123 :: t) (k := n + 4) (by simp; omega) W
    rw [show ((n + 4 : Nat) : Int) = 4 + (n : Int) from by omega] at h2
    exact h2)
  have HT0 := Lib.hid (tok_new W)
  have HB0 := Lib.hid (tok_below W)
  have HZ0 := Lib.hid (tok_size W)
  have hdr := HDR.out
  generalize S (39 :: 92 :: 117 :: 123 :: t) = s at *
  have HPX : Hid (1 ≤ n → n ≤ 6 → ∀ W, Calls Tryz.prog 82 #[.string (S (t.take n)), .int .i64 16, .int .i64 32] W fun e w' => e = .returned (.tuple #[.int .u64 (hexN (t.take n) : Int), .nilIface]) ∧ Below W.heap.size W w') :=
    Lib.hid (fun h1 h6 W => parse_hex (t.take n) (by rw [List.length_take]; omega) (by rw [List.length_take]; omega) (fun b hb => HMEM.out b hb) W)
  clear HMEM
  generalize S t = s2 at *
  by_cases h1 : n < 1
  · have HE : Hid (OneR o (.returned (oneA 0 0 ByteArray.empty 0))) := Lib.hid (OneR.of (by rw [hN, if_neg (by rintro ⟨h, -⟩; omega)]; rfl))
    have h1i : (n : Int) < 1 := by omega
    clear hsz hcl HPX
    clear hN
    go_enter Tryz.func64, Tryz.ntmps64
    go_wp2_with fail
    refine (HM.out _).mono ?_
    rintro e w1 ⟨rfl, rfl⟩
    go_wp2_with fail
    refine bodyPost_ret (v := (oneA 0 0 ByteArray.empty 0)) (by first | (simp [results, Tryz.results64, go_sem]; done) | (simp [results, Tryz.results64, go_sem]; rfl)) rfl ?_
    exact ⟨HE.out, (Below.refl _ _).alloc (Nat.le_refl _) _⟩
  · have h1i : ¬ (n : Int) < 1 := by omega
    by_cases h6 : 6 < n
    · have HE : Hid (OneR o (.returned (oneA 0 0 ByteArray.empty 0))) := Lib.hid (OneR.of (by rw [hN, if_neg (by rintro ⟨-, h, -⟩; omega)]; rfl))
      have h6i : 6 < (n : Int) := by omega
      clear hsz hcl HPX
      clear hN
      go_enter Tryz.func64, Tryz.ntmps64
      go_wp2_with fail
      refine (HM.out _).mono ?_
      rintro e w1 ⟨rfl, rfl⟩
      go_wp2_with fail
      refine bodyPost_ret (v := (oneA 0 0 ByteArray.empty 0)) (by first | (simp [results, Tryz.results64, go_sem]; done) | (simp [results, Tryz.results64, go_sem]; rfl)) rfl ?_
      exact ⟨HE.out, (Below.refl _ _).alloc (Nat.le_refl _) _⟩
    · have h6i : ¬ 6 < (n : Int) := by omega
      by_cases hlt : n < t.length
      · have hne : ¬ 4 + (n : Int) = (s.size : Int) := by rw [hsz]; omega
        have hneb : (4 + (n : Int) == (s.size : Int)) = false := by rw [beq_eq_false_iff_ne]; exact hne
        have HX := Lib.hid (HIX.out hlt)
        have hu := u8_eq t[n] 125 (by decide)
        have hg : t[n]? = some t[n] := List.getElem?_eq_getElem hlt
        generalize t[n] = y at *
        generalize ((y.toNat : Nat) : Int) = x at HX hu
        by_cases hx : x = 125
        · have hy : y = 125 := hu.2 hx
          subst hy
          clear hu
          subst hx
          have HP := Lib.hid (HPX.out (by omega) (by omega))
          have hix := HX.out
          have hsl := HSL.out
          have hv0 : 0 ≤ (hexN (t.take n) : Int) := by omega
          have hvs : hexN (t.take n) ≤ 1114111 → IntKind.i32.wrap (hexN (t.take n) : Int) = (hexN (t.take n) : Int) := fun h => wrap_i32_small (by omega) (by omega)
          obtain ⟨v, hv⟩ : ∃ v, hexN (t.take n) = v := ⟨_, rfl⟩
          rw [hv] at HP hN hv0 hvs
          clear hv
          generalize S (t.take n) = s3 at *
          by_cases hbig : v ≤ 1114111
          · have HE : Hid (OneR o (.returned (oneA 4 (4 + (n : Int) + 1) ByteArray.empty (v : Int)))) := Lib.hid (OneR.of (by rw [hN, if_pos ⟨by omega, by omega, hg, hbig⟩, oneE_some, show (4 + (n : Int) + 1) = ((n + 5 : Nat) : Int) from by omega]; rfl))
            have hw := hvs hbig
            have hbi : ¬ 1114111 < (v : Int) := by omega
            clear hN hvs hcl hg hsz HPX HIX
            go_enter Tryz.func64, Tryz.ntmps64
            go_wp2_with fail
            refine (HM.out _).mono ?_
            rintro e w1 ⟨rfl, rfl⟩
            go_wp2_with fail
            refine (HP.out _).mono ?_
            rintro e w1 ⟨he, hb1⟩
            subst he
            have HB1 : Hid (Below W.heap.size W w1) := Lib.hid (HB0.out.trans (hb1.mono HB0.out.size))
            obtain ⟨c0, c1, c2, c3, f0, f1, f2, f3⟩ := (HT0.out.below (hb1.mono (Nat.le_of_eq HZ0.out.symm))).cells
            clear hb1
            go_wp2_with fail
            refine bodyPost_ret (v := (oneA 4 (4 + (n : Int) + 1) ByteArray.empty (v : Int))) (by first | (simp [results, Tryz.results64, go_sem, c0, c1, c2, c3]; done) | (simp [results, Tryz.results64, go_sem, c0, c1, c2, c3]; rfl)) rfl ?_
            exact ⟨HE.out, ((((HB1.out.setCell (Nat.le_refl _) _).setCell (Nat.le_refl _) _).setCell (Nat.le_refl _) _).setCell (Nat.le_refl _) _)⟩
          · have HE : Hid (OneR o (.returned (oneA 0 0 ByteArray.empty 0))) := Lib.hid (OneR.of (by rw [hN, if_neg (by rintro ⟨-, -, -, h⟩; omega)]; rfl))
            have hbi : 1114111 < (v : Int) := by omega
            clear hN hvs hcl hg hsz HPX HIX
            go_enter Tryz.func64, Tryz.ntmps64
            go_wp2_with fail
            refine (HM.out _).mono ?_
            rintro e w1 ⟨rfl, rfl⟩
            go_wp2_with fail
            refine (HP.out _).mono ?_
            rintro e w1 ⟨he, hb1⟩
            subst he
            have HB1 : Hid (Below W.heap.size W w1) := Lib.hid (HB0.out.trans (hb1.mono HB0.out.size))
            obtain ⟨c0, c1, c2, c3, f0, f1, f2, f3⟩ := (HT0.out.below (hb1.mono (Nat.le_of_eq HZ0.out.symm))).cells
            clear hb1
            go_wp2_with fail
            refine bodyPost_ret (v := (oneA 0 0 ByteArray.empty 0)) (by first | (simp [results, Tryz.results64, go_sem, c0, c1, c2, c3]; done) | (simp [results, Tryz.results64, go_sem, c0, c1, c2, c3]; rfl)) rfl ?_
            exact ⟨HE.out, ((((HB1.out.setCell (Nat.le_refl _) _).setCell (Nat.le_refl _) _).setCell (Nat.le_refl _) _).setCell (Nat.le_refl _) _)⟩
        · have HE : Hid (OneR o (.returned (oneA 0 0 ByteArray.empty 0))) := Lib.hid (OneR.of (by rw [hN, if_neg (by rintro ⟨-, -, h, -⟩; rw [hg] at h; injection h with h; exact hx (hu.1 h))]; rfl))
          have hxb : (x != 125) = true := by simp [hx]
          have hix := HX.out
          clear hcl hg hsz HPX HIX hu
          clear hN
          go_enter Tryz.func64, Tryz.ntmps64
          go_wp2_with fail
          refine (HM.out _).mono ?_
          rintro e w1 ⟨rfl, rfl⟩
          go_wp2_with fail
          refine bodyPost_ret (v := (oneA 0 0 ByteArray.empty 0)) (by first | (simp [results, Tryz.results64, go_sem]; done) | (simp [results, Tryz.results64, go_sem]; rfl)) rfl ?_
          exact ⟨HE.out, (Below.refl _ _).alloc (Nat.le_refl _) _⟩
      · have heq : 4 + (n : Int) = (s.size : Int) := by rw [hsz]; omega
        have heqb : (4 + (n : Int) == (s.size : Int)) = true := by rw [beq_iff_eq]; exact heq
        have HE : Hid (OneR o (.returned (oneA 0 0 ByteArray.empty 0))) := Lib.hid (OneR.of (by rw [hN, if_neg (by rintro ⟨-, -, h, -⟩; rw [List.getElem?_eq_none (by omega)] at h; cases h)]; rfl))
        clear hcl hsz HPX HIX
        clear hN
        go_enter Tryz.func64, Tryz.ntmps64
        go_wp2_with fail
        refine (HM.out _).mono ?_
        rintro e w1 ⟨rfl, rfl⟩
        go_wp2_with fail
        refine bodyPost_ret (v := (oneA 0 0 ByteArray.empty 0)) (by first | (simp [results, Tryz.results64, go_sem]; done) | (simp [results, Tryz.results64, go_sem]; rfl)) rfl ?_
        exact ⟨HE.out, (Below.refl _ _).alloc (Nat.le_refl _) _⟩
end Go.Proofs.YtekpmpghbeeeoaaGreatDoor
