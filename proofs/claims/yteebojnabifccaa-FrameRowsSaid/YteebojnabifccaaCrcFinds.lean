import Derived.Test.YteebojnabifccaaKnown
import Derived.Test.YteebojnabifccaaCrcQ
import Derived.Test.YteebojnabifccaaCrcBurst
import Derived.StillTailTactics
import Derived.ChangeKeysEq
/- CrcFinds: bytes of which one to four beside one another were turned have another sum. -/
namespace Go.Proofs.Yteebojnabifccaa
open Go.RowKit Go.Proofs.YteebojnabifccaaW.PrintWords Go.Proofs.YteebojnabifccaaW.PrintMore

theorem eq_u8 (d : Nat) (a b : Int) (W : World) : (Op.equalIn (d + 1) 5 (.int .u8 a) (.int .u8 b)).run Try.prog W = .ok (a == b) W := by
  simp [Op.equalIn, run_underlying Try.underlying5]
theorem agg4 (b0 b1 b2 b3 : Int) (W : World) : (Op.equal 36 (.agg #[.int .u8 b0, .int .u8 b1, .int .u8 b2, .int .u8 b3]) (.agg #[.int .u8 0, .int .u8 0, .int .u8 0, .int .u8 0])).run Try.prog W = .ok (b0 == 0 && (b1 == 0 && (b2 == 0 && b3 == 0))) W := by
  obtain ⟨i8, hi8, hz8, hs8, hb8⟩ := info_parts info8
  have hc : Try.prog.cellsOf 5 = 1 := by kernel_rfl
  have hm : Op.maxDepth = 9998 + 1 + 1 := rfl
  have hpk : Try.prog.plainKey 5 = true := by kernel_rfl
  unfold Op.equal
  rw [hm, run_equalIn_array W _ _ _ Try.underlying36 hi8, hc]
  have p := fun (x0 x1 x2 x3 : Int) (j : Nat) (x : Int) (w : World) (h : #[Value.int .u8 x0, Value.int .u8 x1, Value.int .u8 x2, Value.int .u8 x3][j * 1]? = some (.int .u8 x)) => run_part_plain (P := Try.prog) w hpk h
  rw [show List.range 4 = [0, 1, 2, 3] from rfl]
  generalize hd : 9998 + 1 = d
  have e : ∀ (a b : Int) (w : World), (Op.equalIn d 5 (.int .u8 a) (.int .u8 b)).run Try.prog w = .ok (a == b) w := fun a b w => by rw [← hd]; exact eq_u8 _ a b w
  simp only [Op.eqItems, Sem.run_bind, p b0 b1 b2 b3 0 b0 _ rfl, p 0 0 0 0 0 0 _ rfl, e, Result.andThen_ok]
  cases (b0 == 0)
  · simp
  simp only [Bool.not_true, Bool.false_eq_true, if_false, Sem.run_bind, p b0 b1 b2 b3 1 b1 _ rfl, p 0 0 0 0 1 0 _ rfl, e, Result.andThen_ok, Bool.true_and]
  cases (b1 == 0)
  · simp
  simp only [Bool.not_true, Bool.false_eq_true, if_false, Sem.run_bind, p b0 b1 b2 b3 2 b2 _ rfl, p 0 0 0 0 2 0 _ rfl, e, Result.andThen_ok, Bool.true_and]
  cases (b2 == 0)
  · simp
  simp only [Bool.not_true, Bool.false_eq_true, if_false, Sem.run_bind, p b0 b1 b2 b3 3 b3 _ rfl, p 0 0 0 0 3 0 _ rfl, e, Result.andThen_ok, Bool.true_and]
  cases (b3 == 0) <;> simp

/-- the bytes from k on, the first i of them turned -/
def turned (xs : List Int) (k : Nat) (bs : List Int) : Nat → List Int
  | 0 => xs
  | i + 1 => (turned xs k bs i).set (k + i) (bits .xor .u8 (xs.getD (k + i) 0) (bs.getD i 0))
theorem turned_length (xs : List Int) (k : Nat) (bs : List Int) (i : Nat) : (turned xs k bs i).length = xs.length := by
  induction i with
  | zero => rfl
  | succ i ih => simp [turned, ih]
theorem turned_later (xs : List Int) (k : Nat) (bs : List Int) (i j : Nat) (h : k + i ≤ j) : (turned xs k bs i).getD j 0 = xs.getD j 0 := by
  induction i with
  | zero => rfl
  | succ i ih =>
    simp only [turned, List.getD_eq_getElem?_getD]
    rw [List.getElem?_set_ne (by omega)]
    simpa [List.getD_eq_getElem?_getD] using ih (by omega)

theorem xor8 (x b : Int) (hx : 0 ≤ x ∧ x < 256) (hb : 0 ≤ b ∧ b < 256) : (0 ≤ bits .xor .u8 x b ∧ bits .xor .u8 x b < 256) ∧ (bits .xor .u8 x b = x → b = 0) ∧ bits .xor .u8 x 0 = x := by
  obtain ⟨n, rfl⟩ := Int.eq_ofNat_of_zero_le hx.1
  obtain ⟨m, rfl⟩ := Int.eq_ofNat_of_zero_le hb.1
  have e : ∀ k : Nat, k < 256 → bits .xor .u8 (n : Int) (k : Int) = ((n ^^^ k : Nat) : Int) := by
    intro k hk
    have h : bits .xor .u8 (n : Int) (k : Int) = IntKind.u8.wrap ((BitVec.ofInt 8 (n : Int) ^^^ BitVec.ofInt 8 (k : Int)).toNat : Int) := rfl
    rw [h]
    simp only [BitVec.ofInt_natCast, BitVec.toNat_xor, BitVec.toNat_ofNat]
    rw [Nat.mod_eq_of_lt (by omega), Nat.mod_eq_of_lt (by omega), IntKind.wrap_u8]
    have := Nat.xor_lt_two_pow (x := n) (y := k) (n := 8) (by omega) (by omega)
    omega
  have hl := Nat.xor_lt_two_pow (x := n) (y := m) (n := 8) (by omega) (by omega)
  rw [e m (by omega)]
  refine ⟨by omega, fun h => ?_, by have := e 0 (by omega); simpa using this⟩
  have h2 : n ^^^ m = n := by exact_mod_cast h
  have := congrArg (n ^^^ ·) h2
  simp only [← Nat.xor_assoc, Nat.xor_self, Nat.zero_xor] at this
  omega
theorem set_by {xs : List Int} (h : By xs) (i : Nat) (x : Int) (hx : 0 ≤ x ∧ x < 256) : By (xs.set i x) := fun y hy => by
  rcases List.mem_or_eq_of_mem_set hy with h' | h'
  · exact h y h'
  · rw [h']; exact hx
theorem getD_by {xs : List Int} (h : By xs) (i : Nat) : 0 ≤ xs.getD i 0 ∧ xs.getD i 0 < 256 := by
  rcases Nat.lt_or_ge i xs.length with hl | hl
  · exact h.at_ hl
  · rw [List.getD_eq_getElem?_getD, List.getElem?_eq_none hl]; decide
theorem turned_by (xs : List Int) (k : Nat) (bs : List Int) (hx : By xs) (hb : By bs) (i : Nat) : By (turned xs k bs i) := by
  induction i with
  | zero => exact hx
  | succ i ih => exact set_by ih _ _ (xor8 _ _ (getD_by hx _) (getD_by hb _)).1
theorem turned_four (pre post : List Int) (x0 x1 x2 x3 b0 b1 b2 b3 : Int) :
    turned (pre ++ ([x0, x1, x2, x3] ++ post)) pre.length [b0, b1, b2, b3] 4 =
      pre ++ ([bits .xor .u8 x0 b0, bits .xor .u8 x1 b1, bits .xor .u8 x2 b2, bits .xor .u8 x3 b3] ++ post) := by
  simp [turned, List.getD_eq_getElem?_getD]
theorem cut_four (xs : List Int) (k : Nat) (hk : k + 4 ≤ xs.length) : ∃ pre x0 x1 x2 x3 post, pre.length = k ∧ xs = pre ++ ([x0, x1, x2, x3] ++ post) := by
  have h1 : (xs.drop k).length = (xs.length - k - 4) + 4 := by rw [List.length_drop]; omega
  match hd : xs.drop k, h1 with
  | x0 :: x1 :: x2 :: x3 :: post, _ =>
    refine ⟨xs.take k, x0, x1, x2, x3, post, by rw [List.length_take]; omega, ?_⟩
    conv => lhs; rw [← List.take_append_drop k xs, hd]
    rfl
  | [], h => simp at h
  | [_], h => simp at h
  | [_, _], h => simp at h
  | [_, _, _], h => simp at h
theorem turned_none (xs : List Int) (k : Nat) (hx : By xs) (hk : (k : Int) + 4 ≤ xs.length) : turned xs k [0, 0, 0, 0] 4 = xs := by
  obtain ⟨pre, x0, x1, x2, x3, post, rfl, rfl⟩ := cut_four xs k (by omega)
  have h : ∀ x ∈ [x0, x1, x2, x3], bits .xor .u8 x 0 = x := fun x hm => (xor8 x 0 (hx x (by simp at hm ⊢; rcases hm with rfl | rfl | rfl | rfl <;> simp)) (by decide)).2.2
  rw [turned_four, h x0 (by simp), h x1 (by simp), h x2 (by simp), h x3 (by simp)]
theorem turned_parts (xs : List Int) (k : Nat) (b0 b1 b2 b3 : Int) (hx : By xs) (hb : By [b0, b1, b2, b3]) (hk : (k : Int) + 4 ≤ xs.length)
    (h : crcMore 0#32 xs = crcMore 0#32 (turned xs k [b0, b1, b2, b3] 4)) : b0 = 0 ∧ b1 = 0 ∧ b2 = 0 ∧ b3 = 0 := by
  obtain ⟨pre, x0, x1, x2, x3, post, rfl, rfl⟩ := cut_four xs k (by omega)
  rw [turned_four] at h
  have m : ∀ x ∈ [x0, x1, x2, x3], 0 ≤ x ∧ x < 256 := fun x hm => hx x (by simp at hm ⊢; rcases hm with rfl | rfl | rfl | rfl <;> simp)
  have e0 := xor8 x0 b0 (m _ (by simp)) (hb _ (by simp))
  have e1 := xor8 x1 b1 (m _ (by simp)) (hb _ (by simp))
  have e2 := xor8 x2 b2 (m _ (by simp)) (hb _ (by simp))
  have e3 := xor8 x3 b3 (m _ (by simp)) (hb _ (by simp))
  obtain ⟨h0, h1, h2, h3⟩ := crc_burst pre post _ _ _ _ _ _ _ _ (m _ (by simp)) (m _ (by simp)) (m _ (by simp)) (m _ (by simp)) e0.1 e1.1 e2.1 e3.1 _ h
  exact ⟨e0.2.1 h0.symm, e1.2.1 h1.symm, e2.2.1 h2.symm, e3.2.1 h3.symm⟩

set_option maxHeartbeats 400000 in
theorem crcFinds_walk (v : Value) (xs : List Int) (at_ b0 b1 b2 b3 : Int) (w : World) (hr : RdB w v xs) (hby : By xs) (hz : xs.length ≤ 140737488351232) (ha : 0 ≤ at_ ∧ at_ < 65536)
    (hbs : By [b0, b1, b2, b3]) :
    Calls Try.prog 4 #[v, .int .u16 at_, .agg #[.int .u8 b0, .int .u8 b1, .int .u8 b2, .int .u8 b3]] w fun e w' => e = .returned (.bool true) ∧ Below w.heap.size w w' := by
  obtain ⟨A, c, rfl, hcap, hread⟩ := hr
  obtain ⟨ha0, ha1⟩ := ha
  have Hr := Lib.hid hread
  have HBs := Lib.hid hbs
  clear hread hbs
  have hB0 := Lib.hid ((Below.refl w.heap.size w).alloc (Nat.le_refl _) (.cells #[.int .u8 b0, .int .u8 b1, .int .u8 b2, .int .u8 b3] 36))
  by_cases h4 : xs.length < 4
  · go_enter Try.func4, Try.ntmps4
    go_wp2_with (go_at_call 14; refine (known1 _).mono ?_; rintro e w1 ⟨rfl, hb1⟩)
    go_ret
    exact ⟨rfl, below_then hB0.out hB0.out.size hb1⟩
  by_cases h400 : 400 < xs.length
  · go_enter Try.func4, Try.ntmps4
    go_wp2_with (go_at_call 14; refine (known1 _).mono ?_; rintro e w1 ⟨rfl, hb1⟩)
    go_ret
    exact ⟨rfl, below_then hB0.out hB0.out.size hb1⟩
  obtain ⟨k, hk⟩ : ∃ k, at_ % ((xs.length : Int) - 3) = k := ⟨_, rfl⟩
  have hk0 : 0 ≤ k := by rw [← hk]; exact Int.emod_nonneg _ (by omega)
  have hk1 : k + 4 ≤ xs.length := by have := Int.emod_lt_of_pos at_ (show (0 : Int) < (xs.length : Int) - 3 from by omega); omega
  go_enter Try.func4, Try.ntmps4
  obtain ⟨kk, rfl⟩ := Int.eq_ofNat_of_zero_le hk0
  go_wp2_with (first
    | (go_at_call 14; refine (known1 _).mono ?_; rintro e w1 ⟨rfl, hb1⟩; have HB1 := Lib.hid (below_then hB0.out hB0.out.size hb1); have hlw : w.heap.size < w1.heap.size := (by have := hb1.size; simp at this; omega); have Hcell := Lib.hid (fun (j : Nat) (u : Value) (h : #[Value.int .u8 b0, .int .u8 b1, .int .u8 b2, .int .u8 b3][j]? = some u) => (hb1.cell (p := ⟨w.heap.size, j, none⟩) (by simp)).trans ((cell_of_row _ w.heap.size j _ 36 (0, 0) (heap_alloc_new w _)).trans h)); clear hb1; have Hrd1 := Lib.hid (Hr.out.below HB1.out))
    | (at_builtin; refine print_append_row (w0 := w1) w1.heap.size rfl _ _ _ _ .u8 1 rfl Try.underlying22 info8 (by omega) (.slice none 0 0) [] xs A xs.length c rfl rfl (own_nil _ _ _ _) Hrd1.out (Below.refl _ _) (Nat.le_refl _) (by simp; omega) ?_; intro v2 w2 ho2 hb2 hg2 hat2))
  have hpos : 0 < xs.length := by omega
  rw [List.nil_append] at ho2
  obtain ⟨g, cap, rfl, hgb, hgl⟩ := ho2.form hpos
  have HB2 := Lib.hid hb2
  have Ho2 := Lib.hid ho2
  clear hat2 hg2 hb2 ho2 hk
  go_loopw [9] (fun i wr => ∃ j : Nat, j ≤ 4 ∧ i = .int .i64 j ∧ Below w1.heap.size w2 wr ∧ wr.ownsRow w1.heap.size 5 1 (.slice (some ⟨g, 0, none⟩) xs.length cap) xs.length (nums .u8 (turned xs kk [b0, b1, b2, b3] j))) (fun i _ => 4 - (intOf i).toNat)
  case atStart => exact ⟨0, by omega, rfl, Below.refl _ _, Ho2.out⟩
  case round =>
    obtain ⟨j, hj, rfl, hB, hown⟩ := hrel
    have HB := Lib.hid hB
    have Hown := Lib.hid hown
    clear hB hown
    by_cases hlt : j < 4
    · have hcell := own_at Hown.out ((kk + j : Nat) : Int) (by omega) (by omega)
      obtain ⟨hc1, hf1⟩ := hcell
      have hrd : rd (turned xs kk [b0, b1, b2, b3] j) ((kk + j : Nat) : Int) = xs.getD (kk + j) 0 := by
        unfold rd; rw [Int.toNat_natCast]; exact turned_later _ _ _ _ _ (by omega)
      rw [hrd, Int.toNat_natCast] at hc1
      rw [Int.toNat_natCast] at hf1
      have hbc : ∃ bj, [b0, b1, b2, b3].getD j 0 = bj ∧ wr.cell? ⟨w.heap.size, j, none⟩ = some (.int .u8 bj) := by
        refine ⟨_, rfl, ?_⟩
        rw [HB.out.cell (p := ⟨w.heap.size, j, none⟩) hlw, HB2.out.cell (p := ⟨w.heap.size, j, none⟩) hlw]
        apply Hcell.out
        have : j = 0 ∨ j = 1 ∨ j = 2 ∨ j = 3 := by omega
        rcases this with rfl | rfl | rfl | rfl <;> rfl
      obtain ⟨bj, hbj, hc2⟩ := hbc
      have Hbj := Lib.hid hbj
      clear hrd hbj
      have hsum : IntKind.i64.wrap ((kk : Int) + (j : Int)) = (kk : Int) + (j : Int) := by rw [IntKind.wrap_i64]; omega
      have hsum2 : ((kk : Int) + (j : Int)).toNat = kk + j := by omega
      have hsum0 : 0 ≤ (kk : Int) + (j : Int) := by omega
      have hsum1 : (kk : Int) + (j : Int) < (xs.length : Int) := by omega
      go_wp2
      go_still_tail 11, (by kernel_rfl)
      go_wp2
      go_roundw
      case rel =>
        refine ⟨j + 1, by omega, by go_num, ?_, ?_⟩
        · exact (HB.out.setCell (p := ⟨g, kk + j, none⟩) hgb _).drew
        · have hs := (own_store Hown.out ((kk + j : Nat) : Int) (bits .xor .u8 (xs[kk + j]?.getD 0) bj)).1
          rw [Int.toNat_natCast] at hs
          have he : turned xs kk [b0, b1, b2, b3] (j + 1) = (turned xs kk [b0, b1, b2, b3] j).set (kk + j) (bits .xor .u8 (xs[kk + j]?.getD 0) bj) := by
            rw [turned, Hbj.out, List.getD_eq_getElem?_getD]
          rw [he]
          exact hs
      case measure => simp [intOf]; omega
    · obtain rfl : j = 4 := by omega
      have hown4 : OwnB wr w1.heap.size (.slice (some ⟨g, 0, none⟩) (turned xs kk [b0, b1, b2, b3] 4).length cap) (turned xs kk [b0, b1, b2, b3] 4) := by
        unfold OwnB; rw [turned_length]; exact Hown.out
      have hrd4 := hown4.rd
      rw [turned_length] at hrd4
      have hby4 := turned_by xs kk [b0, b1, b2, b3] hby HBs.out 4
      have HBw := Lib.hid (HB1.out.trans ((HB2.out.trans HB.out).mono HB1.out.size))
      have hbc : ∀ j u, #[Value.int .u8 b0, Value.int .u8 b1, Value.int .u8 b2, Value.int .u8 b3][j]? = some u → wr.cell? ⟨w.heap.size, j, none⟩ = some u := fun j u hu => by
        rw [HB.out.cell (p := ⟨w.heap.size, j, none⟩) hlw, HB2.out.cell (p := ⟨w.heap.size, j, none⟩) hlw]
        exact Hcell.out j u hu
      have e0 := hbc 0 _ rfl
      have e1 := hbc 1 _ rfl
      have e2 := hbc 2 _ rfl
      have e3 := hbc 3 _ rfl
      clear hown4 hlt hbc
      have q1 := Lib.hid (crc_sum_q (.slice A xs.length c) xs _ rfl wr ⟨A, c, rfl, hcap, Hr.out.below HBw.out⟩ hby)
      by_cases hall : b0 = 0 ∧ b1 = 0 ∧ b2 = 0 ∧ b3 = 0
      · obtain ⟨rfl, rfl, rfl, rfl⟩ := hall
        have q2 := Lib.hid (crc_sum_q (.slice (some ⟨g, 0, none⟩) xs.length cap) _ ((crcMore 0#32 xs).toNat : Int) (by rw [turned_none xs kk hby hk1]) wr hrd4 hby4)
        clear hrd4 hby4
        have hgt : Try.prog.eqGuardType Try.prog.depth 36 = false := by kernel_rfl
        have hagg : ∀ W, (Op.equalIn 10000 36 (.agg #[.int .u8 0, .int .u8 0, .int .u8 0, .int .u8 0]) (.agg #[.int .u8 0, .int .u8 0, .int .u8 0, .int .u8 0])).run Try.prog W = .ok true W := fun W => agg4 0 0 0 0 W
        go_wp2
        go_quiet ((go_at_call 17; first | (with_reducible exact q1.out _) | (with_reducible exact q2.out _)))
        all_goals go_wp2
        go_ret
        exact ⟨rfl, pw_below_drewN HBw.out _⟩
      · have hne : (((crcMore 0#32 xs).toNat : Int) == ((crcMore 0#32 (turned xs kk [b0, b1, b2, b3] 4)).toNat : Int)) = false := by
          rw [beq_eq_false_iff_ne]
          intro h
          exact hall (turned_parts xs kk b0 b1 b2 b3 hby HBs.out hk1 (BitVec.eq_of_toNat_eq (by exact_mod_cast h)))
        have q2 := Lib.hid (crc_sum_q (.slice (some ⟨g, 0, none⟩) xs.length cap) _ _ rfl wr hrd4 hby4)
        clear hrd4 hby4
        have hbf : (b0 == 0 && (b1 == 0 && (b2 == 0 && b3 == 0))) = false := by
          cases hq : (b0 == 0 && (b1 == 0 && (b2 == 0 && b3 == 0))) with
          | false => rfl
          | true => exact absurd (by simpa using hq) hall
        have hgt : Try.prog.eqGuardType Try.prog.depth 36 = false := by kernel_rfl
        have hagg : ∀ W, (Op.equalIn 10000 36 (.agg #[.int .u8 b0, .int .u8 b1, .int .u8 b2, .int .u8 b3]) (.agg #[.int .u8 0, .int .u8 0, .int .u8 0, .int .u8 0])).run Try.prog W = .ok false W := fun W => (agg4 b0 b1 b2 b3 W).trans (by rw [hbf])
        clear hall hbf
        go_wp2
        go_quiet ((go_at_call 17; first | (with_reducible exact q1.out _) | (with_reducible exact q2.out _)))
        all_goals go_wp2
        go_ret
        exact ⟨rfl, pw_below_drewN HBw.out _⟩
end Go.Proofs.Yteebojnabifccaa
