import Derived.Test.YtaccjifhgohfpaaDoorKnown2
import Derived.Laws.BitsAllLaws
/- The document's UTF-8: Put and Bytes. -/
namespace Go.Proofs.YtaccjifhgohfpaaDoor
open Go.RowKit Go.Shelf Go.Proofs.YtaccjifhgohfpaaDoorW.PrintWords Go.Proofs.YtaccjifhgohfpaaDoorW.PrintMore

theorem ofInt_i32 (a : Nat) (ha : a < 2147483648) : (BitVec.ofInt 32 (a : Int)).toNat = a := by
  rw [BitVec.ofInt_natCast, BitVec.toNat_ofNat]; exact Nat.mod_eq_of_lt (by omega)
theorem wrap_i32_of {x : Int} (h0 : -2147483648 ≤ x) (h1 : x < 2147483648) : IntKind.i32.wrap x = x := by
  simp [IntKind.wrap, IntKind.bits, IntKind.signed]
  omega
theorem i32_and (a b : Int) (h1 : 0 ≤ a) (h2 : a < 2147483648) (h3 : 0 ≤ b) (h4 : b < 2147483648) : bits .and .i32 a b = ((a.toNat &&& b.toNat : Nat) : Int) := by
  obtain ⟨n, rfl⟩ := Int.eq_ofNat_of_zero_le h1
  obtain ⟨m, rfl⟩ := Int.eq_ofNat_of_zero_le h3
  have hx : n &&& m < 2 ^ 31 := Nat.and_lt_two_pow _ (by omega)
  show IntKind.i32.wrap ((BitVec.ofInt 32 (n : Int) &&& BitVec.ofInt 32 (m : Int)).toNat : Int) = _
  rw [BitVec.toNat_and, ofInt_i32 n (by omega), ofInt_i32 m (by omega), wrap_i32_of (by omega) (by omega)]
  rfl
theorem i32_or (a b : Int) (h1 : 0 ≤ a) (h2 : a < 2147483648) (h3 : 0 ≤ b) (h4 : b < 2147483648) : bits .or .i32 a b = ((a.toNat ||| b.toNat : Nat) : Int) := by
  obtain ⟨n, rfl⟩ := Int.eq_ofNat_of_zero_le h1
  obtain ⟨m, rfl⟩ := Int.eq_ofNat_of_zero_le h3
  have hx : n ||| m < 2 ^ 31 := Nat.or_lt_two_pow (by omega) (by omega)
  show IntKind.i32.wrap ((BitVec.ofInt 32 (n : Int) ||| BitVec.ofInt 32 (m : Int)).toNat : Int) = _
  rw [BitVec.toNat_or, ofInt_i32 n (by omega), ofInt_i32 m (by omega), wrap_i32_of (by omega) (by omega)]
  rfl
/-- The low bits. -/
theorem low63 {a : Int} (h1 : 0 ≤ a) (h2 : a < 2147483648) : bits .and .i32 a 63 = a % 64 := by
  rw [i32_and a 63 h1 h2 (by decide) (by decide), show (63 : Int).toNat = 63 from rfl, nat_mask6]; omega
theorem low31 {a : Int} (h1 : 0 ≤ a) (h2 : a < 2147483648) : bits .and .i32 a 31 = a % 32 := by
  rw [i32_and a 31 h1 h2 (by decide) (by decide), show (31 : Int).toNat = 31 from rfl, nat_mask5]; omega
theorem low15 {a : Int} (h1 : 0 ≤ a) (h2 : a < 2147483648) : bits .and .i32 a 15 = a % 16 := by
  rw [i32_and a 15 h1 h2 (by decide) (by decide), show (15 : Int).toNat = 15 from rfl, nat_mask4]; omega
theorem low7 {a : Int} (h1 : 0 ≤ a) (h2 : a < 2147483648) : bits .and .i32 a 7 = a % 8 := by
  rw [i32_and a 7 h1 h2 (by decide) (by decide), show (7 : Int).toNat = 7 from rfl, nat_mask3]; omega
theorem lead128 {a : Int} (h1 : 0 ≤ a) (h2 : a < 64) : bits .or .i32 128 a = 128 + a := by
  rw [i32_or 128 a (by decide) (by decide) h1 (by omega), nat_join6 _ _ (by decide) (by omega)]; omega
theorem lead192 {a : Int} (h1 : 0 ≤ a) (h2 : a < 32) : bits .or .i32 192 a = 192 + a := by
  rw [i32_or 192 a (by decide) (by decide) h1 (by omega), nat_join5 _ _ (by decide) (by omega)]; omega
theorem lead224 {a : Int} (h1 : 0 ≤ a) (h2 : a < 16) : bits .or .i32 224 a = 224 + a := by
  rw [i32_or 224 a (by decide) (by decide) h1 (by omega), nat_join4 _ _ (by decide) (by omega)]; omega
theorem lead240 {a : Int} (h1 : 0 ≤ a) (h2 : a < 8) : bits .or .i32 240 a = 240 + a := by
  rw [i32_or 240 a (by decide) (by decide) h1 (by omega), nat_join3 _ _ (by decide) (by omega)]; omega
theorem join64 {r b : Int} (h1 : 0 ≤ r) (h2 : r < 1048576) (h3 : 0 ≤ b) (h4 : b < 64) : bits .or .i32 (r * 64) b = r * 64 + b := by
  rw [i32_or (r * 64) b (by omega) (by omega) h3 (by omega), nat_join6 _ _ (by omega) (by omega)]; omega
theorem fdiv_pos {a : Int} (k : Int) (hk : 0 ≤ k) : a.fdiv k = a / k := Int.fdiv_eq_ediv_of_nonneg a hk
theorem wrap_u8_of {x : Int} (h0 : 0 ≤ x) (h1 : x < 256) : IntKind.u8.wrap x = x := by
  simp [IntKind.wrap, IntKind.bits, IntKind.signed]
  omega

theorem put_step (base : Nat) (W : World) (v : Value) (xs ys : List Int) (ho : OwnB W base v xs) (hb : base ≤ W.heap.size) (hm : ys.length ≤ 4) :
    OwnB (W.alloc (.cells (nums .u8 ys).toArray 5)) base v xs ∧ ReadsInt (W.alloc (.cells (nums .u8 ys).toArray 5)) .u8 (some ⟨W.heap.size, 0, none⟩) ys.length ys ∧ Below base W (W.alloc (.cells (nums .u8 ys).toArray 5)) := by
  have hl := rd_lit W ys (0, 0) (by omega)
  obtain ⟨A, c, h1, h2, h3⟩ := hl
  injection h1 with e1 e2 e3
  subst e1
  exact ⟨OwnB.below ho (below_alloc (Below.refl _ W) _), h3, (Below.refl _ W).alloc hb _⟩

set_option maxHeartbeats 4000000 in
set_option maxRecDepth 100000 in
theorem ref_put (base : Nat) (v : Value) (xs : List Int) (r : Int) (h0 : -2147483648 ≤ r ∧ r < 2147483648) (w : World) (ho : OwnB w base v xs) (hb : base ≤ w.heap.size) (hl : xs.length + 4 ≤ 140737488355328) :
    Calls Tryd.prog 35 #[v, .int .i32 r] w fun e w' => ∃ v', e = .returned v' ∧ OwnB w' base v' (xs ++ enc r) ∧ Below base w w' := by
  have HO := Lib.hid ho
  have Hb := Lib.hid hb
  have Hl := Lib.hid hl
  clear ho hb hl
  unfold enc
  by_cases h1 : 0 ≤ r ∧ r ≤ 127
  · rw [Lib.encodeRuneZ_one h1.1 h1.2]
    obtain ⟨h1a, h1b⟩ := h1
    have hw := wrap_u8_of h1a (show r < 256 by omega)
    have hn1 : ¬ r < 0 := by omega
    have hn2 : ¬ 1114111 < r := by omega
    have hn3 : r < 55296 := by omega
    have hn4 : r < 128 := by omega
    clear h0
    go_enter Tryd.func35, Tryd.ntmps35
    go_wp2_with (at_builtin; refine print_append_row (w0 := w) base rfl _ _ _ _ .u8 1 rfl Tryd.underlying22 info8 (by omega) v xs [r] (some ⟨w.heap.size, 0, none⟩) 1 1 rfl rfl (put_step base w v xs [r] HO.out Hb.out (by simp)).1 (put_step base w v xs [r] HO.out Hb.out (by simp)).2.1 (put_step base w v xs [r] HO.out Hb.out (by simp)).2.2 (Nat.le_trans Hb.out (put_step base w v xs [r] HO.out Hb.out (by simp)).2.2.size) (by have := Hl.out; omega) ?_; intro v1 w1 ho1 hb1 hg1 hat1)
    go_ret
    exact ⟨v1, rfl, ho1, hb1⟩
  by_cases h2 : 128 ≤ r ∧ r ≤ 2047
  · rw [Lib.encodeRuneZ_two h2.1 h2.2]
    obtain ⟨h2a, h2b⟩ := h2
    have hn1 : ¬ r < 0 := by omega
    have hn2 : ¬ 1114111 < r := by omega
    have hn3 : r < 55296 := by omega
    have hn4 : ¬ r < 128 := by omega
    have hn5 : r < 2048 := by omega
    have f6 := fdiv_pos (a := r) 64 (by decide)
    have f6' : bits .or .i32 192 (r / 64) = 192 + r / 64 := lead192 (by omega) (by omega)
    have fl : bits .and .i32 r 63 = r % 64 := low63 (by omega) (by omega)
    have fl' : bits .or .i32 128 (r % 64) = 128 + r % 64 := lead128 (by omega) (by omega)
    have g1 := wrap_u8_of (show 0 ≤ 192 + r / 64 by omega) (by omega)
    have g2 := wrap_u8_of (show 0 ≤ 128 + r % 64 by omega) (by omega)
    clear h0
    go_enter Tryd.func35, Tryd.ntmps35
    go_wp2_with (at_builtin; refine print_append_row (w0 := w) base rfl _ _ _ _ .u8 1 rfl Tryd.underlying22 info8 (by omega) v xs [192 + r / 64, 128 + r % 64] (some ⟨w.heap.size, 0, none⟩) 2 2 rfl rfl (put_step base w v xs [192 + r / 64, 128 + r % 64] HO.out Hb.out (by simp)).1 (put_step base w v xs [192 + r / 64, 128 + r % 64] HO.out Hb.out (by simp)).2.1 (put_step base w v xs [192 + r / 64, 128 + r % 64] HO.out Hb.out (by simp)).2.2 (Nat.le_trans Hb.out (put_step base w v xs [192 + r / 64, 128 + r % 64] HO.out Hb.out (by simp)).2.2.size) (by have := Hl.out; omega) ?_; intro v1 w1 ho1 hb1 hg1 hat1)
    go_ret
    exact ⟨v1, rfl, ho1, hb1⟩
  by_cases h3 : (2048 ≤ r ∧ r < 55296) ∨ (57343 < r ∧ r ≤ 65535)
  · rw [Lib.encodeRuneZ_three h3]
    have hn1 : ¬ r < 0 := by omega
    have hn2 : ¬ 1114111 < r := by omega
    have hn4 : ¬ r < 128 := by omega
    have hn5 : ¬ r < 2048 := by omega
    have hn6 : r < 65536 := by omega
    have e6 := fdiv_pos (a := r) 64 (by decide)
    have e12 := fdiv_pos (a := r) 4096 (by decide)
    have f1 : bits .or .i32 224 (r / 4096) = 224 + r / 4096 := lead224 (by omega) (by omega)
    have f2 : bits .and .i32 (r / 64) 63 = r / 64 % 64 := low63 (by omega) (by omega)
    have f3 : bits .or .i32 128 (r / 64 % 64) = 128 + r / 64 % 64 := lead128 (by omega) (by omega)
    have f4 : bits .and .i32 r 63 = r % 64 := low63 (by omega) (by omega)
    have f5 : bits .or .i32 128 (r % 64) = 128 + r % 64 := lead128 (by omega) (by omega)
    have g1 := wrap_u8_of (show 0 ≤ 224 + r / 4096 by omega) (by omega)
    have g2 := wrap_u8_of (show 0 ≤ 128 + r / 64 % 64 by omega) (by omega)
    have g3 := wrap_u8_of (show 0 ≤ 128 + r % 64 by omega) (by omega)
    have hs : r < 55296 ∨ (¬ r < 55296 ∧ 57343 < r) := by omega
    clear h0 h1 h2 h3
    rcases hs with hs | ⟨hs, hs2⟩
    all_goals
      go_enter Tryd.func35, Tryd.ntmps35
      go_wp2_with (at_builtin; refine print_append_row (w0 := w) base rfl _ _ _ _ .u8 1 rfl Tryd.underlying22 info8 (by omega) v xs [224 + r / 4096, 128 + r / 64 % 64, 128 + r % 64] (some ⟨w.heap.size, 0, none⟩) 3 3 rfl rfl (put_step base w v xs [224 + r / 4096, 128 + r / 64 % 64, 128 + r % 64] HO.out Hb.out (by simp)).1 (put_step base w v xs [224 + r / 4096, 128 + r / 64 % 64, 128 + r % 64] HO.out Hb.out (by simp)).2.1 (put_step base w v xs [224 + r / 4096, 128 + r / 64 % 64, 128 + r % 64] HO.out Hb.out (by simp)).2.2 (Nat.le_trans Hb.out (put_step base w v xs [224 + r / 4096, 128 + r / 64 % 64, 128 + r % 64] HO.out Hb.out (by simp)).2.2.size) (by have := Hl.out; omega) ?_; intro v1 w1 ho1 hb1 hg1 hat1)
      go_ret
      exact ⟨v1, rfl, ho1, hb1⟩
  by_cases h4 : 65536 ≤ r ∧ r ≤ 1114111
  · rw [Lib.encodeRuneZ_four h4.1 h4.2]
    obtain ⟨h4a, h4b⟩ := h4
    have hn1 : ¬ r < 0 := by omega
    have hn2 : ¬ 1114111 < r := by omega
    have hn3 : ¬ r < 55296 := by omega
    have hn7 : 57343 < r := by omega
    have hn4 : ¬ r < 128 := by omega
    have hn5 : ¬ r < 2048 := by omega
    have hn6 : ¬ r < 65536 := by omega
    have e6 := fdiv_pos (a := r) 64 (by decide)
    have e12 := fdiv_pos (a := r) 4096 (by decide)
    have e18 := fdiv_pos (a := r) 262144 (by decide)
    have f0 : bits .or .i32 240 (r / 262144) = 240 + r / 262144 := lead240 (by omega) (by omega)
    have f1 : bits .and .i32 (r / 4096) 63 = r / 4096 % 64 := low63 (by omega) (by omega)
    have f2 : bits .or .i32 128 (r / 4096 % 64) = 128 + r / 4096 % 64 := lead128 (by omega) (by omega)
    have f3 : bits .and .i32 (r / 64) 63 = r / 64 % 64 := low63 (by omega) (by omega)
    have f4 : bits .or .i32 128 (r / 64 % 64) = 128 + r / 64 % 64 := lead128 (by omega) (by omega)
    have f5 : bits .and .i32 r 63 = r % 64 := low63 (by omega) (by omega)
    have f6 : bits .or .i32 128 (r % 64) = 128 + r % 64 := lead128 (by omega) (by omega)
    have g0 := wrap_u8_of (show 0 ≤ 240 + r / 262144 by omega) (by omega)
    have g1 := wrap_u8_of (show 0 ≤ 128 + r / 4096 % 64 by omega) (by omega)
    have g2 := wrap_u8_of (show 0 ≤ 128 + r / 64 % 64 by omega) (by omega)
    have g3 := wrap_u8_of (show 0 ≤ 128 + r % 64 by omega) (by omega)
    clear h0 h1 h2 h3
    go_enter Tryd.func35, Tryd.ntmps35
    go_wp2_with (at_builtin; refine print_append_row (w0 := w) base rfl _ _ _ _ .u8 1 rfl Tryd.underlying22 info8 (by omega) v xs [240 + r / 262144, 128 + r / 4096 % 64, 128 + r / 64 % 64, 128 + r % 64] (some ⟨w.heap.size, 0, none⟩) 4 4 rfl rfl (put_step base w v xs [240 + r / 262144, 128 + r / 4096 % 64, 128 + r / 64 % 64, 128 + r % 64] HO.out Hb.out (by simp)).1 (put_step base w v xs [240 + r / 262144, 128 + r / 4096 % 64, 128 + r / 64 % 64, 128 + r % 64] HO.out Hb.out (by simp)).2.1 (put_step base w v xs [240 + r / 262144, 128 + r / 4096 % 64, 128 + r / 64 % 64, 128 + r % 64] HO.out Hb.out (by simp)).2.2 (Nat.le_trans Hb.out (put_step base w v xs [240 + r / 262144, 128 + r / 4096 % 64, 128 + r / 64 % 64, 128 + r % 64] HO.out Hb.out (by simp)).2.2.size) (by have := Hl.out; omega) ?_; intro v1 w1 ho1 hb1 hg1 hat1)
    go_ret
    exact ⟨v1, rfl, ho1, hb1⟩
  · rw [Lib.encodeRuneZ_bad (by omega)]
    have hs : r < 0 ∨ (¬ r < 0 ∧ 1114111 < r) ∨ (¬ r < 0 ∧ ¬ 1114111 < r ∧ ¬ r < 55296 ∧ ¬ 57343 < r) := by omega
    have f1 : bits .or .i32 224 15 = 239 := by decide
    have f2 : bits .and .i32 1023 63 = 63 := by decide
    have f3 : bits .or .i32 128 63 = 191 := by decide
    have f4 : bits .and .i32 65533 63 = 61 := by decide
    have f5 : bits .or .i32 128 61 = 189 := by decide
    have e6 : Int.fdiv 65533 64 = 1023 := by decide
    have e12 : Int.fdiv 65533 4096 = 15 := by decide
    clear h0 h1 h2 h3 h4
    rcases hs with hs | ⟨hs, hs2⟩ | ⟨hs, hs2, hs3, hs4⟩
    all_goals
      go_enter Tryd.func35, Tryd.ntmps35
      go_wp2_with (at_builtin; refine print_append_row (w0 := w) base rfl _ _ _ _ .u8 1 rfl Tryd.underlying22 info8 (by omega) v xs [239, 191, 189] (some ⟨w.heap.size, 0, none⟩) 3 3 rfl rfl (put_step base w v xs [239, 191, 189] HO.out Hb.out (by simp)).1 (put_step base w v xs [239, 191, 189] HO.out Hb.out (by simp)).2.1 (put_step base w v xs [239, 191, 189] HO.out Hb.out (by simp)).2.2 (Nat.le_trans Hb.out (put_step base w v xs [239, 191, 189] HO.out Hb.out (by simp)).2.2.size) (by have := Hl.out; omega) ?_; intro v1 w1 ho1 hb1 hg1 hat1)
      go_ret
      exact ⟨v1, rfl, ho1, hb1⟩

set_option maxHeartbeats 4000000 in
set_option maxRecDepth 100000 in
theorem ref_bytes (v : Value) (xs : List Int) (w : World) (hr : RdN .i32 w v xs) (hi : I32 xs) (hlen : xs.length ≤ 1000000000000) :
    Calls Tryd.prog 20 #[v] w fun e w' => ∃ u, e = .returned u ∧ OwnB w' w.heap.size u (encs' xs) ∧ Below w.heap.size w w' := by
  obtain ⟨A, c, rfl, hc, hrd⟩ := hr
  have hml := hrd.2.1
  have Hr := Lib.hid hrd.2.2
  clear hrd
  go_enter Tryd.func20, Tryd.ntmps20
  go_wp2_with fail
  go_loopw [3, 4] (fun u i wr => ∃ k : Nat, k ≤ xs.length ∧ i = .int .i64 k ∧ OwnB wr w.heap.size u (encs' (xs.take k)) ∧ Below w.heap.size w wr) (fun _ i _ => xs.length - (intOf i).toNat)
  case atStart => exact ⟨0, Nat.zero_le _, rfl, OwnB.nil _ _, Below.refl _ _⟩
  case round =>
    obtain ⟨k, hk, rfl, ho, hB⟩ := hrel
    have HB := Lib.hid hB
    have HO := Lib.hid ho
    clear hB ho
    by_cases hlt : k < xs.length
    · obtain ⟨ad, rfl, hcell⟩ := Hr.out (by omega)
      have hc1 := pw_cell_below HB.out (hcell k hlt)
      have HT := Lib.hid (encs'_take hlt)
      have hx : -2147483648 ≤ xs.getD k 0 ∧ xs.getD k 0 < 2147483648 := by
        rw [List.getD_eq_getElem?_getD, List.getElem?_eq_getElem hlt]
        exact hi _ (List.getElem_mem hlt)
      have hl := encs'_len (xs.take k)
      rw [List.length_take] at hl
      have Hl : Hid ((encs' (xs.take k)).length + 4 ≤ 140737488355328) := Lib.hid (by omega)
      obtain ⟨r, hr⟩ : ∃ r, xs.getD k 0 = r := ⟨_, rfl⟩
      rw [hr] at hc1 HT hx
      clear hcell hl hr
      go_wp2_with fail
      refine (ref_put w.heap.size _ _ r hx wr HO.out HB.out.size Hl.out).mono ?_
      rintro e w2 ⟨v2, rfl, ho2, hb2⟩
      go_wp2
      go_roundw
      case rel => exact ⟨k + 1, by omega, by go_num, by rw [HT.out]; exact ho2, HB.out.trans hb2⟩
      case measure => simp [intOf]; omega
    · have hkn : k = xs.length := by omega
      subst hkn
      go_wp2
      go_ret
      refine ⟨_, rfl, ?_, HB.out⟩
      have := HO.out
      rwa [List.take_length] at this
end Go.Proofs.YtaccjifhgohfpaaDoor
