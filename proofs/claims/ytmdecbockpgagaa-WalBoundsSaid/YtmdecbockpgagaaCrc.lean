import Derived.Test.YtmdecbockpgagaaCrcMath
/- The contracts of package crc: sums, numbers in bytes, texts. -/
namespace Go.Proofs.Ytmdecbockpgagaa
open Go.RowKit Go.Proofs.YtmdecbockpgagaaW.PrintWords Go.Proofs.YtmdecbockpgagaaW.PrintMore
attribute [local go_sem] max2_int min2_int max_two min_two

set_option maxHeartbeats 400000 in
theorem crc_more (s : BitVec 32) (v : Value) (xs : List Int) (w : World) (hr : RdB w v xs) (hby : By xs) :
    Calls Try.prog 74 #[.int .u32 (s.toNat : Int), v] w fun e w' => e = .returned (.int .u32 ((crcMore s xs).toNat : Int)) ∧ w = w' := by
  obtain ⟨A, c, rfl, hcap, hn, hm, hc⟩ := hr
  clear hn
  go_enter Try.func74, Try.ntmps74
  go_wp2
  go_loop [5, 12] (fun r i => ∃ k : Nat, ∃ x : BitVec 32, k ≤ xs.length ∧ x = (xs.take k).foldl crcByte (~~~ s) ∧ i = .int .i64 k ∧ r = .int .u32 (x.toNat : Int)) (fun _ i => xs.length - (intOf i).toNat)
  case atStart => exact ⟨0, ~~~ s, Nat.zero_le _, rfl, rfl, val_u32 (not32 s)⟩
  case round =>
    obtain ⟨k, x, hk, hx, rfl, rfl⟩ := hrel
    have Hx := Lib.hid hx
    clear hx
    by_cases hlt : k < xs.length
    · obtain ⟨ad, rfl, hc2⟩ := hc (by omega)
      have hcell := hc2 k hlt
      have hb := hby.at_ hlt
      have Hs := Lib.hid (take_snoc_getD hlt)
      generalize xs.getD k 0 = b at hcell hb Hs
      obtain ⟨hb1, hb2⟩ := hb
      clear hc hc2
      go_wp2
      go_loop [5, 20] (fun r i => ∃ j : Nat, ∃ y : BitVec 32, j ≤ 8 ∧ y = crcSteps j (x ^^^ BitVec.ofInt 32 b) ∧ i = .int .i64 j ∧ r = .int .u32 (y.toNat : Int)) (fun _ i => 8 - (intOf i).toNat)
      case atStart => exact ⟨0, _, by omega, rfl, rfl, val_u32 (xor32 x b)⟩
      case round =>
        obtain ⟨j, y, hj, hy, rfl, rfl⟩ := hrel
        have Hy := Lib.hid hy
        clear hy
        have hyl := y.isLt
        by_cases h2 : j < 8
        · go_wp2
          go_round
          case rel => exact ⟨j + 1, crcStep y, by omega, by rw [Hy.out]; rfl, by go_num, val_u32 (step32 y)⟩
          case measure => simp [intOf]; omega
        · go_wp2
          go_round
          case rel => exact ⟨k + 1, y, by omega, by rw [Hs.out, List.foldl_append, ← Hx.out, Hy.out, show j = 8 from by omega]; rfl, by go_num, rfl⟩
          case measure => simp [intOf]; omega
    · go_wp2
      go_ret
      exact ⟨ret_u32 (by rw [not32, Hx.out, List.take_of_length_le (by omega)]; rfl), rfl⟩

set_option maxHeartbeats 400000 in
theorem crc_sum (v : Value) (xs : List Int) (w : World) (hr : RdB w v xs) (hby : By xs) :
    Calls Try.prog 75 #[v] w fun e w' => e = .returned (.int .u32 ((crcMore 0#32 xs).toNat : Int)) ∧ w = w' := by
  have hm := crc_more 0#32 v xs w hr hby
  go_enter Try.func75, Try.ntmps75
  go_wp2_with (go_at_call 74; refine hm.mono ?_; rintro e w' ⟨rfl, rfl⟩)
  go_ret
  exact ⟨rfl, rfl⟩

def crcW (k : Int) : Int := if k < 0 then 0 else if 8 < k then 8 else k
theorem crcW_bd (k : Int) : 0 ≤ crcW k ∧ crcW k ≤ 8 := by unfold crcW; split <;> (try split) <;> omega

theorem crcW_eq (k : Int) : min (max k 0) 8 = crcW k := by unfold crcW; omega

set_option maxHeartbeats 400000 in
theorem crc_width (k : Int) (w : World) : Calls Try.prog 85 #[.int .i64 k] w fun e w' => e = .returned (.int .i64 (crcW k)) ∧ w = w' := by
  by_cases h1 : k < 0
  · go_enter Try.func85, Try.ntmps85
    go_wp2
    go_ret
    exact ⟨ret_i64 (by unfold crcW; rw [if_pos h1]), rfl⟩
  · have h1' : 0 ≤ k := by omega
    by_cases h2 : 8 < k
    all_goals
      go_enter Try.func85, Try.ntmps85
      go_wp2
      go_ret
      exact ⟨ret_i64 (by unfold crcW; split <;> (try split) <;> omega), rfl⟩

set_option maxHeartbeats 400000 in
theorem crc_lowest64 (base : Nat) (v : Value) (xs : List Int) (n k : Int) (h0 : 0 ≤ k) (h8 : k ≤ 8) (w : World) (ho : OwnB w base v xs) (hb : base ≤ w.heap.size) (hl : xs.length + 8 ≤ 140737488355328) :
    Calls Try.prog 84 #[v, .int .u64 n, .int .i64 k] w (AppB w base v (xs ++ le n k.toNat)) := by
  obtain ⟨m, rfl⟩ := Int.eq_ofNat_of_zero_le h0
  rw [Int.toNat_natCast]
  go_enter Try.func84, Try.ntmps84
  go_wp2
  go_loopw [0, 9] (fun u i wr => ∃ j : Nat, j ≤ m ∧ i = .int .i64 j ∧ OwnB wr base u (xs ++ le n j) ∧ w.grownBy wr v.ownBlock ∧ NewAt w v u) (fun _ i _ => m - (intOf i).toNat)
  case atStart => exact ⟨0, Nat.zero_le _, rfl, by simpa [le] using ho, World.grownBy.refl w _, .inl rfl⟩
  case round =>
    obtain ⟨j, hj, rfl, hown, hgr, hat⟩ := hrel
    have hln : (xs ++ le n j).length = xs.length + j := by rw [List.length_append, le_length]
    have Hln := Lib.hid hln
    clear hln
    by_cases hlt : j < m
    · have Hc1 := Lib.hid (Nat.le_trans hb hgr.size)
      have Hc2 := Lib.hid (show ((xs ++ le n j).length + 1) * 1 ≤ 140737488355328 from by rw [Hln.out]; omega)
      go_wp2_with (at_builtin; refine print_append_num (w0 := wr) base rfl _ _ _ _ .u8 1 rfl Try.underlying22 info8 (by omega) u0 (xs ++ le n j) _ rfl rfl hown (Below.refl _ _) Hc1.out Hc2.out ?_; intro v1 w1 hown1 hb1 hg1 hat1)
      go_roundw
      case rel => exact ⟨j + 1, by omega, by go_num, by rw [le_snoc, ← List.append_assoc]; exact hown1, grown_chain hgr hat hg1, hat.chain hgr.size hat1⟩
      case measure => simp [intOf]; omega
    · go_wp2
      go_ret
      exact ⟨_, rfl, by rw [show m = j from by omega]; exact hown, hgr, hat⟩
set_option maxHeartbeats 400000 in
theorem crc_lowest16 (base : Nat) (v : Value) (xs : List Int) (n k : Int) (h0 : 0 ≤ k) (h8 : k ≤ 2) (w : World) (ho : OwnB w base v xs) (hb : base ≤ w.heap.size) (hl : xs.length + 8 ≤ 140737488355328) :
    Calls Try.prog 76 #[v, .int .u16 n, .int .i64 k] w (AppB w base v (xs ++ le n k.toNat)) := by
  obtain ⟨m, rfl⟩ := Int.eq_ofNat_of_zero_le h0
  rw [Int.toNat_natCast]
  go_enter Try.func76, Try.ntmps76
  go_wp2
  go_loopw [0, 9] (fun u i wr => ∃ j : Nat, j ≤ m ∧ i = .int .i64 j ∧ OwnB wr base u (xs ++ le n j) ∧ w.grownBy wr v.ownBlock ∧ NewAt w v u) (fun _ i _ => m - (intOf i).toNat)
  case atStart => exact ⟨0, Nat.zero_le _, rfl, by simpa [le] using ho, World.grownBy.refl w _, .inl rfl⟩
  case round =>
    obtain ⟨j, hj, rfl, hown, hgr, hat⟩ := hrel
    have hln : (xs ++ le n j).length = xs.length + j := by rw [List.length_append, le_length]
    have Hln := Lib.hid hln
    clear hln
    by_cases hlt : j < m
    · have Hc1 := Lib.hid (Nat.le_trans hb hgr.size)
      have Hc2 := Lib.hid (show ((xs ++ le n j).length + 1) * 1 ≤ 140737488355328 from by rw [Hln.out]; omega)
      go_wp2_with (at_builtin; refine print_append_num (w0 := wr) base rfl _ _ _ _ .u8 1 rfl Try.underlying22 info8 (by omega) u0 (xs ++ le n j) _ rfl rfl hown (Below.refl _ _) Hc1.out Hc2.out ?_; intro v1 w1 hown1 hb1 hg1 hat1)
      go_roundw
      case rel => exact ⟨j + 1, by omega, by go_num, by rw [le_snoc, ← List.append_assoc]; exact hown1, grown_chain hgr hat hg1, hat.chain hgr.size hat1⟩
      case measure => simp [intOf]; omega
    · go_wp2
      go_ret
      exact ⟨_, rfl, by rw [show m = j from by omega]; exact hown, hgr, hat⟩
set_option maxHeartbeats 400000 in
theorem crc_put (base : Nat) (v : Value) (xs : List Int) (n k : Int) (w : World) (ho : OwnB w base v xs) (hb : base ≤ w.heap.size) (hl : xs.length + 8 ≤ 140737488355328) :
    Calls Try.prog 73 #[v, .int .u64 n, .int .i64 k] w (AppB w base v (xs ++ le n (crcW k).toNat)) := by
  have hbd := crcW_bd k
  go_enter Try.func73, Try.ntmps73
  go_wp2_with (first
    | (go_at_call 85; refine (crc_width k _).mono ?_; rintro e w' ⟨rfl, rfl⟩)
    | (go_at_call 84; refine (crc_lowest64 base v xs n (crcW k) hbd.1 hbd.2 _ ho hb hl).mono ?_; rintro e w' ⟨v1, rfl, ho1, hg1, hn1⟩))
  go_ret
  exact ⟨_, rfl, ho1, hg1, hn1⟩

def getN (xs : List Int) (k : Int) : Int × List Int × Int :=
  if (xs.length : Int) < crcW k then (0, xs, 10) else (val (xs.take (crcW k).toNat), xs.drop (crcW k).toNat, 0)
def GetP (xs : List Int) (k : Int) (w : World) (e : Ending) (w' : World) : Prop :=
  ∃ u, e = .returned (.tuple #[.int .u64 (getN xs k).1, u, .int .i64 (getN xs k).2.2]) ∧ RdB w' u (getN xs k).2.1 ∧ Below w.heap.size w w'

/-- What is read of v is read of u, in every world. -/
def RdTr (v : Value) (xs : List Int) (u : Value) (ys : List Int) : Prop := ∀ W : World, RdB W v xs → RdB W u ys
def GetT (v : Value) (xs : List Int) (k : Int) (w : World) (e : Ending) (w' : World) : Prop :=
  ∃ u, e = .returned (.tuple #[.int .u64 (getN xs k).1, u, .int .i64 (getN xs k).2.2]) ∧ RdB w' u (getN xs k).2.1 ∧ Below w.heap.size w w' ∧ RdTr v xs u (getN xs k).2.1

set_option maxHeartbeats 400000 in
theorem crc_getT (v : Value) (xs : List Int) (k : Int) (w : World) (hr : RdB w v xs) (hby : By xs) :
    Calls Try.prog 91 #[v, .int .i64 k] w (GetT v xs k w) := by
  have hbd := crcW_bd k
  have hr0 := hr
  obtain ⟨A, c, rfl, hcap, hread⟩ := hr
  have hml := hread.2.1
  have Hr := Lib.hid hread
  clear hread
  by_cases hlt : (xs.length : Int) < crcW k
  · have hd : decide ((xs.length : Int) < crcW k) = true := by simpa using hlt
    go_enter Try.func91, Try.ntmps91
    go_wp2_with (go_at_call 85; refine (crc_width k _).mono ?_; rintro e w' ⟨rfl, rfl⟩)
    go_ret3
    refine ⟨.slice A xs.length c, ?_, ?_, Below.refl _ _, ?_⟩
    · rw [show getN xs k = (0, xs, 10) from if_pos hlt]; rfl
    · rw [show getN xs k = (0, xs, 10) from if_pos hlt]; exact hr0
    · rw [show getN xs k = (0, xs, 10) from if_pos hlt]; exact fun _ h => h
  · have hd : decide ((xs.length : Int) < crcW k) = false := by simpa using hlt
    have hgn : getN xs k = (val (xs.take (crcW k).toNat), xs.drop (crcW k).toNat, 0) := if_neg hlt
    unfold GetT
    rw [hgn]
    clear hgn
    have hw := crc_width k
    obtain ⟨m, hm⟩ := Int.eq_ofNat_of_zero_le hbd.1
    generalize crcW k = q at hbd hlt hd hm hw ⊢
    subst hm
    have hm8 : m ≤ 8 := by omega
    have hml2 : m ≤ xs.length := by omega
    obtain ⟨i8, hi8, hz8, hs8, hb8⟩ := info_parts info8
    obtain ⟨ht1, ht2, _⟩ := print_take_int (k := .u8) (P := Try.prog) 22 5 Try.underlying22 hi8 hs8 A c xs (m : Int) (by omega) (by omega) hcap
    obtain ⟨A2, hd1, hd2, hd3⟩ := print_cut_int (k := .u8) (P := Try.prog) 22 5 Try.underlying22 hi8 hs8 A c xs (m : Int) (by omega) (by omega) hcap
    have ht3 := ht2 w Hr.out
    have hd4 := hd2 w Hr.out
    clear ht2 hz8 hs8 hb8 hi8
    simp only [Int.toNat_natCast] at ht1 ht3 hd1 hd2 hd3 hd4 ⊢
    have hyl : (xs.take m).length = m := by rw [List.length_take]; omega
    have hyb : By (xs.take m) := fun x hx => hby x (List.mem_of_mem_take hx)
    generalize xs.take m = ys at ht1 ht3 hyl hyb ⊢
    generalize xs.drop m = zs at hd1 hd2 hd3 hd4 ⊢
    have hT : RdTr (.slice A xs.length c) xs (.slice A2 zs.length (c - m)) zs := fun W h => by
      obtain ⟨A', c', e, _, h'⟩ := h
      cases e
      exact ⟨A2, c - m, rfl, hd3, hd2 W h'⟩
    have HT := Lib.hid hT
    clear hd2 hT
    have Hyl := Lib.hid hyl
    have Hd4 := Lib.hid hd4
    have hrd := ht3.2.2
    have hyl2 : ys.length ≤ 8 := by omega
    clear ht3 hd4 hyl
    go_enter Try.func91, Try.ntmps91
    go_wp2_with (go_at_call 85; refine (hw _).mono ?_; rintro e w' ⟨rfl, rfl⟩)
    go_loop [7, 21] (fun r i => ∃ j : Nat, ∃ x : Int, j ≤ ys.length ∧ x = val (ys.take j) ∧ i = .int .i64 j ∧ r = .int .u64 x) (fun _ i => ys.length - (intOf i).toNat)
    case atStart => exact ⟨0, 0, Nat.zero_le _, rfl, rfl, rfl⟩
    case round =>
      obtain ⟨j, x, hj, hx, rfl, rfl⟩ := hrel
      have hbx := val_bd (ys.take j) (fun x hx => hyb x (List.mem_of_mem_take hx))
      have hjl : (ys.take j).length = j := by rw [List.length_take]; omega
      rw [← hx, hjl] at hbx
      have Hx := Lib.hid hx
      have Hbx := Lib.hid hbx
      clear hx hbx
      by_cases hlt2 : j < ys.length
      · obtain ⟨ad, rfl, hc2⟩ := hrd (by omega)
        have hcell := hc2 j hlt2
        have hb := hyb.at_ hlt2
        have Hs := Lib.hid (take_snoc_getD hlt2)
        generalize ys.getD j 0 = b at hcell hb Hs
        obtain ⟨hb1, hb2⟩ := hb
        have Hjl := Lib.hid hjl
        clear hrd hc2 hjl
        go_wp2
        go_round
        case rel => exact ⟨j + 1, _, by omega, by rw [Hs.out, val_snoc, Hjl.out, ← Hx.out], by go_num, val_u64 (or_high x b j (by omega) Hbx.out.1 Hbx.out.2 hb1 hb2)⟩
        case measure => simp [intOf]; omega
      · go_wp2
        go_quiet (fail)
        all_goals go_wp2
        go_ret3
        obtain rfl : x = val ys := by rw [Hx.out, List.take_of_length_le (by omega)]
        exact ⟨_, rfl, ⟨A2, c - m, rfl, hd3, Hd4.out.below (pw_below_drewN (Below.refl _ _) _)⟩, pw_below_drewN (Below.refl _ _) _, HT.out⟩

theorem crc_get (v : Value) (xs : List Int) (k : Int) (w : World) (hr : RdB w v xs) (hby : By xs) :
    Calls Try.prog 91 #[v, .int .i64 k] w (GetP xs k w) :=
  (crc_getT v xs k w hr hby).mono (fun _ _ ⟨u, he, hu, hb, _⟩ => ⟨u, he, hu, hb⟩)

end Go.Proofs.Ytmdecbockpgagaa
