import Derived.Test.YteebojnabifccaaCrcText
/- The contracts of the document's sums and numbers. -/
namespace Go.Proofs.Yteebojnabifccaa
open Go.RowKit Go.Proofs.YteebojnabifccaaW.PrintWords Go.Proofs.YteebojnabifccaaW.PrintMore
attribute [local go_sem] max2_int min2_int max_two min_two

theorem bit_and (a : BitVec 32) : bits .and .u32 (a.toNat : Int) 1 = (a.toNat : Int) % 2 := by
  rw [and32]
  have h : (a &&& BitVec.ofInt 32 1).toNat = a.toNat % 2 := by
    rw [BitVec.toNat_and]
    have : (BitVec.ofInt 32 1).toNat = 1 := by decide
    rw [this]
    exact Nat.and_one_is_mod _
  rw [h]; rfl
theorem step_ref (a : BitVec 32) (h : a.toNat % 2 = 1) : bits .xor .u32 ((a.toNat : Int) / 2) 3988292384 = ((crcStep a).toNat : Int) := by
  have h0 := step32 a
  rw [bit_and, show (a.toNat : Int) % 2 = 1 from by omega] at h0
  exact h0
theorem step_ref0 (a : BitVec 32) (h : a.toNat % 2 = 0) : (a.toNat : Int) / 2 = ((crcStep a).toNat : Int) := by
  have h0 := step32 a
  rw [bit_and, show (a.toNat : Int) % 2 = 0 from by omega] at h0
  have h1 : ((a.toNat : Int) / (2 : Int)) = ((a >>> 1).toNat : Int) := by
    rw [BitVec.toNat_ushiftRight, Nat.shiftRight_eq_div_pow]; omega
  rw [← h0, h1]
  have h2 : (3988292384 * 0 % 4294967296 : Int) = 0 := by decide
  rw [h2, xor32]
  simp

set_option maxHeartbeats 400000 in
theorem ref_more (s : BitVec 32) (v : Value) (xs : List Int) (w : World) (hr : RdB w v xs) (hby : By xs) :
    Calls Try.prog 39 #[.int .u32 (s.toNat : Int), v] w fun e w' => e = .returned (.int .u32 ((crcMore s xs).toNat : Int)) ∧ w = w' := by
  obtain ⟨A, c, rfl, hcap, hn, hm, hc⟩ := hr
  clear hn
  go_enter Try.func39, Try.ntmps39
  go_wp2
  go_loop [5, 6] (fun r i => ∃ k : Nat, ∃ x : BitVec 32, k ≤ xs.length ∧ x = (xs.take k).foldl crcByte (~~~ s) ∧ i = .int .i64 k ∧ r = .int .u32 (x.toNat : Int)) (fun _ i => xs.length - (intOf i).toNat)
  case atStart => exact ⟨0, ~~~ s, Nat.zero_le _, rfl, rfl, val_u32 (not32 s)⟩
  case round =>
    obtain ⟨k, x, hk, hx, rfl, rfl⟩ := hrel
    have Hx := Lib.hid hx
    clear hx
    by_cases hlt : k < xs.length
    · obtain ⟨ad, rfl, hc2⟩ := hc (by omega)
      have hcell := hc2 k hlt
      have hb := hby.at_ hlt
      have Hs := Lib.hid (take_snoc_getD hlt)
      generalize xs.getD k 0 = b at hcell hb Hs
      obtain ⟨hb1, hb2⟩ := hb
      clear hc hc2
      go_wp2
      go_loop [5, 7] (fun r i => ∃ j : Nat, ∃ y : BitVec 32, j ≤ 8 ∧ y = crcSteps j (x ^^^ BitVec.ofInt 32 b) ∧ i = .int .i64 j ∧ r = .int .u32 (y.toNat : Int)) (fun _ i => 8 - (intOf i).toNat)
      case atStart => exact ⟨0, _, by omega, rfl, rfl, val_u32 (xor32 x b)⟩
      case round =>
        obtain ⟨j, y, hj, hy, rfl, rfl⟩ := hrel
        have Hy := Lib.hid hy
        clear hy
        have hyl := y.isLt
        by_cases h2 : j < 8
        · by_cases hp : y.toNat % 2 = 1
          · have hbit : bits .and .u32 (y.toNat : Int) 1 = 1 := by rw [bit_and]; omega
            have Hp := Lib.hid hp
            clear hp
            go_wp2
            go_round
            case rel => exact ⟨j + 1, crcStep y, by omega, by rw [Hy.out]; rfl, by go_num, val_u32 (step_ref y Hp.out)⟩
            case measure => simp [intOf]; omega
          · have hbit : bits .and .u32 (y.toNat : Int) 1 = 0 := by rw [bit_and]; omega
            have Hp : Hid (y.toNat % 2 = 0) := (by omega : y.toNat % 2 = 0)
            clear hp
            go_wp2
            go_round
            case rel => exact ⟨j + 1, crcStep y, by omega, by rw [Hy.out]; rfl, by go_num, val_u32 (step_ref0 y Hp.out)⟩
            case measure => simp [intOf]; omega
        · go_wp2
          go_round
          case rel => exact ⟨k + 1, y, by omega, by rw [Hs.out, List.foldl_append, ← Hx.out, Hy.out, show j = 8 from by omega]; rfl, by go_num, rfl⟩
          case measure => simp [intOf]; omega
    · go_wp2
      go_ret
      exact ⟨ret_u32 (by rw [not32, Hx.out, List.take_of_length_le (by omega)]; rfl), rfl⟩

set_option maxHeartbeats 400000 in
theorem ref_sum (v : Value) (xs : List Int) (w : World) (hr : RdB w v xs) (hby : By xs) :
    Calls Try.prog 18 #[v] w fun e w' => e = .returned (.int .u32 ((crcMore 0#32 xs).toNat : Int)) ∧ w = w' := by
  have hm := ref_more 0#32 v xs w hr hby
  go_enter Try.func18, Try.ntmps18
  go_wp2_with (go_at_call 39; refine hm.mono ?_; rintro e w' ⟨rfl, rfl⟩)
  go_ret
  exact ⟨rfl, rfl⟩

set_option maxHeartbeats 400000 in
theorem ref_put (base : Nat) (v : Value) (xs : List Int) (n k : Int) (w : World) (ho : OwnB w base v xs) (hb : base ≤ w.heap.size) (hl : xs.length + 8 ≤ 140737488355328) :
    Calls Try.prog 21 #[v, .int .u64 n, .int .i64 k] w (AppB w base v (xs ++ le n (crcW k).toNat)) := by
  have hbd : (crcW k).toNat ≤ 8 := by have := crcW_bd k; omega
  have hbd2 : ∀ j : Nat, j < (crcW k).toNat ↔ ((j : Int) < k ∧ j < 8) := by
    intro j; unfold crcW; split <;> (try split) <;> omega
  generalize (crcW k).toNat = m at hbd hbd2 ⊢
  go_enter Try.func21, Try.ntmps21
  go_wp2
  go_loopw [0, 7] (fun u i wr => ∃ j : Nat, j ≤ m ∧ i = .int .i64 j ∧ OwnB wr base u (xs ++ le n j) ∧ w.grownBy wr v.ownBlock ∧ NewAt w v u) (fun _ i _ => m - (intOf i).toNat)
  case atStart => exact ⟨0, Nat.zero_le _, rfl, by simpa [le] using ho, World.grownBy.refl w _, .inl rfl⟩
  case round =>
    obtain ⟨j, hj, rfl, hown, hgr, hat⟩ := hrel
    have hln : (xs ++ le n j).length = xs.length + j := by rw [List.length_append, le_length]
    have Hln := Lib.hid hln
    clear hln
    have hbj := hbd2 j
    clear hbd2
    by_cases hlt : j < m
    · have Hc1 := Lib.hid (Nat.le_trans hb hgr.size)
      have Hc2 := Lib.hid (show ((xs ++ le n j).length + 1) * 1 ≤ 140737488355328 from by rw [Hln.out]; omega)
      obtain ⟨hj1, hj2⟩ := hbj.1 hlt
      clear hbj
      go_wp2_with (at_builtin; refine print_append_num (w0 := wr) base rfl _ _ _ _ .u8 1 rfl Try.underlying22 info8 (by omega) u0 (xs ++ le n j) _ rfl rfl hown (Below.refl _ _) Hc1.out Hc2.out ?_; intro v1 w1 hown1 hb1 hg1 hat1)
      go_roundw
      case rel => exact ⟨j + 1, by omega, by go_num, by rw [le_snoc, ← List.append_assoc]; exact hown1, grown_chain hgr hat hg1, hat.chain hgr.size hat1⟩
      case measure => simp [intOf]; omega
    · have Hjm : Hid (m = j) := (by omega : m = j)
      have hjk : ¬ ((j : Int) < k ∧ j < 8) := fun h => hlt (hbj.2 h)
      clear hbj
      by_cases h8 : j < 8
      · have hk : ¬ (j : Int) < k := fun h => hjk ⟨h, h8⟩
        clear hjk
        go_wp2
        go_ret
        exact ⟨_, rfl, by rw [Hjm.out]; exact hown, hgr, hat⟩
      · clear hjk
        by_cases hk : (j : Int) < k
        all_goals
          go_wp2
          go_ret
          exact ⟨_, rfl, by rw [Hjm.out]; exact hown, hgr, hat⟩

set_option maxHeartbeats 400000 in
theorem ref_text (base : Nat) (v : Value) (xs : List Int) (s : ByteArray) (hs : s.size ≤ 65535) (w : World) (ho : OwnB w base v xs) (hb : base ≤ w.heap.size) (hl : xs.length + 65537 ≤ 140737488355328) :
    Calls Try.prog 25 #[v, .string s] w (AppB w base v (xs ++ (le (s.size : Int) 2 ++ bytesOf s))) := by
  have hlow := ref_put base v xs (s.size : Int) 2 w ho hb (by omega)
  rw [show (crcW 2).toNat = 2 from rfl] at hlow
  have HL := Lib.hid (show ((xs ++ le (s.size : Int) 2).length + s.size ≤ 140737488355328) from by rw [List.length_append, le_length]; omega)
  go_enter Try.func25, Try.ntmps25
  go_wp2_with (first
    | (go_at_call 21; refine hlow.mono ?_; rintro e w1 ⟨v1, rfl, ho1, hg1, hn1⟩; have Hb1 := Lib.hid (Nat.le_trans hb hg1.size))
    | (at_builtin; refine append_str_at base rfl _ _ _ _ _ rfl Try.underlying22 Try.underlying9 info8 v1 _ s rfl rfl ho1 Hb1.out HL.out ?_; intro v2 w2 ho2 hg2 hn2))
  go_ret
  exact ⟨_, rfl, by rw [← List.append_assoc]; exact ho2, grown_chain hg1 hn1 hg2, hn1.chain hg1.size hn2⟩
end Go.Proofs.Yteebojnabifccaa
