import Derived.Test.YtmdecbockpgagaaBase
/- The sum over bytes as bit vectors, and the numbers in bytes: plain facts. -/
namespace Go.Proofs.Ytmdecbockpgagaa
open Go.RowKit

def crcStep (r : BitVec 32) : BitVec 32 := (r >>> 1) ^^^ (0xEDB88320#32 * (r &&& 1#32))
def crcSteps : Nat → BitVec 32 → BitVec 32
  | 0, r => r
  | k + 1, r => crcStep (crcSteps k r)
def crcByte (r : BitVec 32) (b : Int) : BitVec 32 := crcSteps 8 (r ^^^ BitVec.ofInt 32 b)
def crcMore (s : BitVec 32) (xs : List Int) : BitVec 32 := ~~~ (xs.foldl crcByte (~~~ s))

theorem wrap32_toNat (a : BitVec 32) : IntKind.u32.wrap (a.toNat : Int) = (a.toNat : Int) := by
  rw [IntKind.wrap_u32]; have := a.isLt; omega
theorem ofInt_toNat32 (a : BitVec 32) : BitVec.ofInt 32 (a.toNat : Int) = a := by simp
theorem xor32 (a : BitVec 32) (b : Int) : bits .xor .u32 (a.toNat : Int) b = ((a ^^^ BitVec.ofInt 32 b).toNat : Int) := by
  have h : bits .xor .u32 (a.toNat : Int) b = IntKind.u32.wrap ((BitVec.ofInt 32 (a.toNat : Int) ^^^ BitVec.ofInt 32 b).toNat : Int) := rfl
  rw [h, ofInt_toNat32, wrap32_toNat]
theorem not32 (a : BitVec 32) : bits .xor .u32 IntKind.u32.max (a.toNat : Int) = ((~~~ a).toNat : Int) := by
  have h : bits .xor .u32 IntKind.u32.max (a.toNat : Int) = IntKind.u32.wrap ((BitVec.ofInt 32 IntKind.u32.max ^^^ BitVec.ofInt 32 (a.toNat : Int)).toNat : Int) := rfl
  rw [h, ofInt_toNat32, wrap32_toNat]
  have h2 : BitVec.ofInt 32 IntKind.u32.max = BitVec.allOnes 32 := by decide
  rw [h2, BitVec.allOnes_xor]
theorem and32 (a : BitVec 32) (b : Int) : bits .and .u32 (a.toNat : Int) b = ((a &&& BitVec.ofInt 32 b).toNat : Int) := by
  have h : bits .and .u32 (a.toNat : Int) b = IntKind.u32.wrap ((BitVec.ofInt 32 (a.toNat : Int) &&& BitVec.ofInt 32 b).toNat : Int) := rfl
  rw [h, ofInt_toNat32, wrap32_toNat]
theorem step32 (a : BitVec 32) : bits .xor .u32 ((a.toNat : Int) / 2) (3988292384 * bits .and .u32 (a.toNat : Int) 1 % 4294967296) = ((crcStep a).toNat : Int) := by
  have h1 : ((a.toNat : Int) / (2 : Int)) = ((a >>> 1).toNat : Int) := by
    rw [BitVec.toNat_ushiftRight, Nat.shiftRight_eq_div_pow]; omega
  have h2 : 3988292384 * bits .and .u32 (a.toNat : Int) 1 % 4294967296 = ((0xEDB88320#32 * (a &&& 1#32)).toNat : Int) := by
    rw [and32, BitVec.toNat_mul]
    have : (BitVec.ofInt 32 1) = 1#32 := by decide
    rw [this]
    have : (0xEDB88320#32).toNat = 3988292384 := by decide
    rw [this]
    omega
  rw [h1, h2, xor32, ofInt_toNat32]; rfl

theorem wrap64u (n : Int) (h0 : 0 ≤ n) (h1 : n < 2 ^ 64) : IntKind.u64.wrap n = n := by
  have : IntKind.u64.wrap n = n % 18446744073709551616 := by simp [IntKind.wrap, IntKind.bits, IntKind.signed]
  rw [this]; omega
theorem or_high (x b : Int) (j : Nat) (hj : j < 8) (hx0 : 0 ≤ x) (hx : x < 2 ^ (8 * j)) (hb0 : 0 ≤ b) (hb : b < 256) :
    bits .or .u64 x (IntKind.u64.wrap (b * 2 ^ (8 * j))) = x + b * 2 ^ (8 * j) := by
  have hpos : (0 : Int) < 2 ^ (8 * j) := Int.pow_pos (by decide)
  have hle : (2 : Int) ^ (8 * j) ≤ 2 ^ 56 := by
    have h := Nat.pow_le_pow_right (n := 2) (by decide) (show 8 * j ≤ 56 from by omega)
    exact_mod_cast h
  have hb2 : b * 2 ^ (8 * j) ≤ 255 * 2 ^ 56 := Int.le_trans (Int.mul_le_mul_of_nonneg_left hle hb0) (Int.mul_le_mul_of_nonneg_right (by omega) (by decide))
  have hb3 : 0 ≤ b * 2 ^ (8 * j) := Int.mul_nonneg hb0 (Int.le_of_lt hpos)
  rw [wrap64u _ hb3 (by omega)]
  have hc : bits .or .u64 x (b * 2 ^ (8 * j)) = bits .or .u64 (b * 2 ^ (8 * j)) x := by simp only [bits, BitVec.or_comm]
  rw [hc, bits_join .u64 64 (by decide) wrap64u (8 * j) _ _ hb3 (Int.mul_emod_left b _) (by omega) hx0 hx (by omega)]
  omega

/-- the lowest bytes of a number -/
def le (n : Int) (k : Nat) : List Int := (List.range k).map fun i => n / 2 ^ (8 * i) % 256
theorem le_snoc (n : Int) (k : Nat) : le n (k + 1) = le n k ++ [n / 2 ^ (8 * k) % 256] := by simp [le, List.range_succ]
theorem le_length (n : Int) (k : Nat) : (le n k).length = k := by simp [le]
theorem le_by (n : Int) (k : Nat) : By (le n k) := by
  intro x hx
  simp only [le, List.mem_map] at hx
  obtain ⟨i, _, rfl⟩ := hx
  omega
/-- the number of bytes -/
def val : List Int → Int
  | [] => 0
  | x :: xs => x + 256 * val xs
theorem val_snoc (xs : List Int) (b : Int) : val (xs ++ [b]) = val xs + b * 2 ^ (8 * xs.length) := by
  induction xs with
  | nil => simp [val]
  | cons x xs ih =>
    simp only [List.cons_append, val, ih, List.length_cons]
    rw [show 8 * (xs.length + 1) = 8 * xs.length + 8 from by omega, Int.pow_add, Int.mul_add, ← Int.mul_assoc (b) , show (2 : Int) ^ 8 = 256 from by decide]
    have : 256 * (b * 2 ^ (8 * xs.length)) = b * 2 ^ (8 * xs.length) * 256 := Int.mul_comm _ _
    omega
theorem val_bd (xs : List Int) (h : By xs) : 0 ≤ val xs ∧ val xs < 2 ^ (8 * xs.length) := by
  induction xs with
  | nil => simp [val]
  | cons x xs ih =>
    have h1 := h x (by simp)
    have h2 := ih fun y hy => h y (by simp [hy])
    simp only [val, List.length_cons]
    rw [show 8 * (xs.length + 1) = 8 * xs.length + 8 from by omega, Int.pow_add, show (2 : Int) ^ 8 = 256 from by decide]
    omega
end Go.Proofs.Ytmdecbockpgagaa
