import Derived.Test.YtmdecbockpgagaaCrcQ
/- Plain facts on numbers in bytes and texts behind their lengths. -/
namespace Go.Proofs.Ytmdecbockpgagaa
open Go.RowKit Go.Proofs.YtmdecbockpgagaaW.PrintWords

theorem val_append (xs ys : List Int) : val (xs ++ ys) = val xs + 2 ^ (8 * xs.length) * val ys := by
  induction xs with
  | nil => simp [val]
  | cons x xs ih =>
    simp only [List.cons_append, val, ih, List.length_cons]
    rw [show 8 * (xs.length + 1) = 8 * xs.length + 8 from by omega, Int.pow_add, show (2 : Int) ^ 8 = 256 from by decide, Int.mul_add, ← Int.mul_assoc, Int.mul_comm 256 (2 ^ (8 * xs.length))]
    omega
theorem val_le (n : Int) (k : Nat) : val (le n k) = n % 2 ^ (8 * k) := by
  induction k with
  | zero => simp [le, val, Int.emod_one]
  | succ k ih =>
    rw [le_snoc, val_append, ih, le_length]
    simp only [val]
    rw [show 8 * (k + 1) = 8 * k + 8 from by omega, Int.pow_add, show (2 : Int) ^ 8 = 256 from by decide]
    have hpos : (0 : Int) < 2 ^ (8 * k) := Int.pow_pos (by decide)
    generalize (2 : Int) ^ (8 * k) = p at hpos
    have h1 := Int.emod_add_mul_ediv n p
    have h2 := Int.emod_add_mul_ediv (n / p) 256
    have h3 := Int.emod_nonneg n (show p ≠ 0 from by omega)
    have h4 := Int.emod_lt_of_pos n hpos
    have h5 := Int.emod_nonneg (n / p) (show (256 : Int) ≠ 0 from by decide)
    have h6 := Int.emod_lt_of_pos (n / p) (show (0 : Int) < 256 from by decide)
    have h7 : n = (n % p + p * (n / p % 256)) + (p * 256) * (n / p / 256) := by
      rw [Int.mul_assoc, Int.add_assoc, ← Int.mul_add]
      rw [h2]; exact h1.symm
    have h8 : 0 ≤ p * (n / p % 256) := Int.mul_nonneg (Int.le_of_lt hpos) h5
    have h9 : p * (n / p % 256) ≤ p * 255 := Int.mul_le_mul_of_nonneg_left (by omega) (Int.le_of_lt hpos)
    have h10 : (n % p + p * (n / p % 256)) < p * 256 := by
      have : p * 256 = p * 255 + p := by rw [show (256 : Int) = 255 + 1 from rfl, Int.mul_add, Int.mul_one]
      omega
    have h11 : n % (p * 256) = n % p + p * (n / p % 256) := by
      conv => lhs; rw [h7]
      rw [Int.add_mul_emod_self_left]
      exact Int.emod_eq_of_lt (by omega) h10
    rw [h11, Int.mul_zero, Int.add_zero]
theorem le_two (n : Int) (h : 0 ≤ n) (h2 : n < 65536) : val (le n 2) = n := by
  rw [val_le]; exact Int.emod_eq_of_lt h (by simpa using h2)

/-- a text behind its length -/
def txt (s : ByteArray) : List Int := le (s.size : Int) 2 ++ bytesOf s
theorem txt_length (s : ByteArray) : (txt s).length = s.size + 2 := by simp [txt, le_length, bytesOf_length]; omega
theorem txt_by (s : ByteArray) : By (txt s) := (le_by _ _).append (bytesOf_by s)

theorem getT_txt (s : ByteArray) (hs : s.size < 65536) (rest : List Int) (most : Int) :
    getT (txt s ++ rest) most = if most < (s.size : Int) then ([], txt s ++ rest, 93) else (bytesOf s, rest, 0) := by
  have h1 : ¬ (txt s ++ rest).length < 2 := by rw [List.length_append, txt_length]; omega
  have h2 : (txt s ++ rest).take 2 = le (s.size : Int) 2 := by
    rw [txt, List.append_assoc, List.take_append_of_le_length (by rw [le_length]; omega), List.take_of_length_le (by rw [le_length]; omega)]
  have h3 : (txt s ++ rest).drop 2 = bytesOf s ++ rest := by
    rw [txt, List.append_assoc]; exact List.drop_left' (le_length _ _)
  unfold getT
  rw [if_neg h1, h2, h3, le_two _ (by omega) (by omega)]
  by_cases hm : most < (s.size : Int)
  · rw [if_pos hm, if_pos hm]
  · rw [if_neg hm, if_neg hm, if_neg (by rw [List.length_append, bytesOf_length]; omega)]
    have hl : (s.size : Int).toNat = (bytesOf s).length := by rw [bytesOf_length]; omega
    rw [hl, List.take_left, List.drop_left]
theorem getT_cut (s : ByteArray) (hs : s.size < 65536) (j : Nat) (hj : j < (txt s).length) (most : Int) (hm : (s.size : Int) ≤ most) :
    getT ((txt s).take j) most = ([], (txt s).take j, 10) := by
  have hl : ((txt s).take j).length = j := by rw [List.length_take]; omega
  unfold getT
  by_cases h1 : j < 2
  · rw [if_pos (by omega)]
  · have h2 : ((txt s).take j).take 2 = le (s.size : Int) 2 := by
      rw [List.take_take, Nat.min_eq_left (by omega), txt, List.take_append_of_le_length (by rw [le_length]; omega), List.take_of_length_le (by rw [le_length]; omega)]
    rw [if_neg (by omega), h2, le_two _ (by omega) (by omega), if_neg (by omega), if_pos]
    rw [List.length_drop, hl]
    rw [txt_length] at hj
    omega
theorem getN_le (n k : Int) (hk : 0 ≤ k ∧ k ≤ 8) (rest : List Int) : getN (le n k.toNat ++ rest) k = (n % 2 ^ (8 * k.toNat), rest, 0) := by
  have hw : crcW k = k := by unfold crcW; split <;> (try split) <;> omega
  unfold getN
  rw [hw, if_neg (by rw [List.length_append, le_length]; omega)]
  have h1 : (le n k.toNat ++ rest).take k.toNat = le n k.toNat := by
    rw [List.take_append_of_le_length (by rw [le_length]; omega), List.take_of_length_le (by rw [le_length]; omega)]
  have h2 : (le n k.toNat ++ rest).drop k.toNat = rest := by
    exact List.drop_left' (le_length _ _)
  rw [h1, h2, val_le]
end Go.Proofs.Ytmdecbockpgagaa
