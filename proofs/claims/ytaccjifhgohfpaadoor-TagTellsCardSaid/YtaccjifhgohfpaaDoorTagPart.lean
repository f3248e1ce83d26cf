import Derived.Test.YtaccjifhgohfpaaDoorTagBytes
/- The law's part: letters from a number on. -/
namespace Go.Proofs.YtaccjifhgohfpaaDoor
open Go.RowKit Go.Shelf Go.Proofs.YtaccjifhgohfpaaDoorW.PrintWords Go.Proofs.YtaccjifhgohfpaaDoorW.PrintMore

def partL (n f : UInt8) (k : Nat) : List UInt8 := (List.range k).map fun i => f + (n + UInt8.ofNat i) % 26
theorem partL_length (n f : UInt8) (k : Nat) : (partL n f k).length = k := by simp [partL]
theorem partL_succ (n f : UInt8) (k : Nat) : partL n f (k + 1) = partL n f k ++ [f + (n + UInt8.ofNat k) % 26] := by
  unfold partL
  rw [List.range_succ, List.map_append]
  rfl
theorem part_byte (n f : UInt8) (k : Nat) (hf : f.toNat ≤ 97) : ((f + (n + UInt8.ofNat k) % 26).toNat : Int) = (f.toNat : Int) + (((n.toNat : Int) + (k : Int)) % 256) % 26 := by
  have hn := n.toNat_lt
  rw [UInt8.toNat_add, UInt8.toNat_mod, UInt8.toNat_add, UInt8.toNat_ofNat']
  have h1 : (26 : UInt8).toNat = 26 := rfl
  rw [h1]
  omega

/-- A slice of one byte, converted. -/
theorem conv_one (W : World) (b : UInt8) : (convert 22 9 (.slice (some ⟨W.heap.size, 0, none⟩) 1 1)).run Tryd.prog (W.alloc (.cells #[.int .u8 (b.toNat : Int)] 5)) = .ok (.string (S [b])) (W.alloc (.cells #[.int .u8 (b.toNat : Int)] 5)) := by
  have hr : ReadsInt (W.alloc (.cells #[.int .u8 (b.toNat : Int)] 5)) .u8 (some ⟨W.heap.size, 0, none⟩) 1 [(b.toNat : Int)] := by
    refine ⟨rfl, by decide, fun _ => ⟨_, rfl, fun j hj => ?_⟩⟩
    obtain rfl : j = 0 := by simpa using hj
    exact cell_one_new W (.int .u8 (b.toNat : Int)) 5 0 _ rfl
  have := conv_bytes_string (P := Tryd.prog) 22 5 9 Tryd.underlying22 Tryd.underlying5 Tryd.underlying9 hr 1
  rw [show strOfNums [(b.toNat : Int)] = S [b] from strOf_nums [b]] at this
  exact this

set_option maxRecDepth 100000 in
set_option maxHeartbeats 1000000 in
theorem law_part (n f : UInt8) (m : Nat) (hf : f.toNat ≤ 97) (hm : m ≤ 20) (w : World) : Calls Tryd.prog 31 #[.int .u8 (n.toNat : Int), .int .u8 (f.toNat : Int), .int .i64 (m : Int)] w fun e w' => e = .returned (.string (S (partL n f m))) ∧ Below w.heap.size w w' := by
  have hn := n.toNat_lt
  obtain ⟨y, hy⟩ : ∃ y : Int, (n.toNat : Int) = y := ⟨_, rfl⟩
  obtain ⟨z, hz⟩ : ∃ z : Int, (f.toNat : Int) = z := ⟨_, rfl⟩
  have hy0 : 0 ≤ y := by omega
  have hy1 : y < 256 := by omega
  have hz0 : 0 ≤ z := by omega
  have hz1 : z ≤ 97 := by omega
  have HY := Lib.hid hy
  have HZ := Lib.hid hz
  have HF := Lib.hid hf
  rw [hy, hz]
  clear hy hz hf hn
  go_enter Tryd.func31, Tryd.ntmps31
  go_wp2_with fail
  go_loopw [7, 8] (fun t i wr => ∃ k : Nat, k ≤ m ∧ i = .int .i64 (k : Int) ∧ t = .string (S (partL n f k)) ∧ Below w.heap.size w wr) (fun _ i _ => m - (intOf i).toNat)
  case atStart => exact ⟨0, Nat.zero_le _, rfl, rfl, Below.refl _ _⟩
  case round =>
    obtain ⟨k, hk, rfl, rfl, hB⟩ := hrel
    have HB := Lib.hid hB
    clear hB
    by_cases hlt : k < m
    · have hk2 : (k : Int) ≤ 20 := by omega
      have hk3 : (k : Int) < 256 := by omega
      have hl2 : (S (partL n f k)).size ≤ 20 := by rw [S_size, partL_length]; omega
      obtain ⟨s, hs⟩ : ∃ s, S (partL n f k) = s := ⟨_, rfl⟩
      have HS := Lib.hid hs
      rw [hs] at hl2 ⊢
      clear hs
      obtain ⟨b, hb⟩ : ∃ b, f + (n + UInt8.ofNat k) % 26 = b := ⟨_, rfl⟩
      have hx := part_byte n f k HF.out
      have hp := partL_succ n f k
      have hcv := conv_one wr b
      rw [hb] at hx hp
      rw [hx, HZ.out, HY.out] at hcv
      obtain ⟨t1, ht1⟩ : ∃ t1, S [b] = t1 := ⟨_, rfl⟩
      have hno : ¬ 9223372036854775807 < s.size + t1.size := by rw [← ht1, S_size]; simp; omega
      have hcat : s ++ t1 = S (partL n f (k + 1)) := by rw [hp, ← HS.out, ← ht1]; rfl
      rw [ht1] at hcv
      have HC := Lib.hid hcat
      clear hb hx hp ht1 hcat
      go_wp2_with fail
      go_roundw
      case rel => exact ⟨k + 1, by omega, by go_num, by rw [HC.out], HB.out.alloc HB.out.size _⟩
      case measure => simp [intOf]; omega
    · have hkn : k = m := by omega
      subst hkn
      go_wp2
      go_ret
      exact ⟨rfl, HB.out⟩
end Go.Proofs.YtaccjifhgohfpaaDoor
