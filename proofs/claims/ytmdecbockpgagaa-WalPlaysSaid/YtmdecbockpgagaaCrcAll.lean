import Derived.Test.YtmdecbockpgagaaBase
import Derived.Deep.QuietTactic
import Derived.BigQuiet
/- The sum over bytes as bit vectors, and the numbers in bytes: plain facts. -/
namespace Go.Proofs.Ytmdecbockpgagaa
open Go.RowKit

def crcStep (r : BitVec 32) : BitVec 32 := (r >>> 1) ^^^ (0xEDB88320#32 * (r &&& 1#32))
def crcSteps : Nat → BitVec 32 → BitVec 32
  | 0, r => r
  | k + 1, r => crcStep (crcSteps k r)
def crcByte (r : BitVec 32) (b : Int) : BitVec 32 := crcSteps 8 (r ^^^ BitVec.ofInt 32 b)
def crcMore (s : BitVec 32) (xs : List Int) : BitVec 32 := ~~~ (xs.foldl crcByte (~~~ s))

theorem wrap32_toNat (a : BitVec 32) : IntKind.u32.wrap (a.toNat : Int) = (a.toNat : Int) := by
  rw [IntKind.wrap_u32]; have := a.isLt; omega
theorem ofInt_toNat32 (a : BitVec 32) : BitVec.ofInt 32 (a.toNat : Int) = a := by simp
theorem xor32 (a : BitVec 32) (b : Int) : bits .xor .u32 (a.toNat : Int) b = ((a ^^^ BitVec.ofInt 32 b).toNat : Int) := by
  have h : bits .xor .u32 (a.toNat : Int) b = IntKind.u32.wrap ((BitVec.ofInt 32 (a.toNat : Int) ^^^ BitVec.ofInt 32 b).toNat : Int) := rfl
  rw [h, ofInt_toNat32, wrap32_toNat]
theorem not32 (a : BitVec 32) : bits .xor .u32 IntKind.u32.max (a.toNat : Int) = ((~~~ a).toNat : Int) := by
  have h : bits .xor .u32 IntKind.u32.max (a.toNat : Int) = IntKind.u32.wrap ((BitVec.ofInt 32 IntKind.u32.max ^^^ BitVec.ofInt 32 (a.toNat : Int)).toNat : Int) := rfl
  rw [h, ofInt_toNat32, wrap32_toNat]
  have h2 : BitVec.ofInt 32 IntKind.u32.max = BitVec.allOnes 32 := by decide
  rw [h2, BitVec.allOnes_xor]
theorem and32 (a : BitVec 32) (b : Int) : bits .and .u32 (a.toNat : Int) b = ((a &&& BitVec.ofInt 32 b).toNat : Int) := by
  have h : bits .and .u32 (a.toNat : Int) b = IntKind.u32.wrap ((BitVec.ofInt 32 (a.toNat : Int) &&& BitVec.ofInt 32 b).toNat : Int) := rfl
  rw [h, ofInt_toNat32, wrap32_toNat]
theorem step32 (a : BitVec 32) : bits .xor .u32 ((a.toNat : Int) / 2) (3988292384 * bits .and .u32 (a.toNat : Int) 1 % 4294967296) = ((crcStep a).toNat : Int) := by
  have h1 : ((a.toNat : Int) / (2 : Int)) = ((a >>> 1).toNat : Int) := by
    rw [BitVec.toNat_ushiftRight, Nat.shiftRight_eq_div_pow]; omega
  have h2 : 3988292384 * bits .and .u32 (a.toNat : Int) 1 % 4294967296 = ((0xEDB88320#32 * (a &&& 1#32)).toNat : Int) := by
    rw [and32, BitVec.toNat_mul]
    have : (BitVec.ofInt 32 1) = 1#32 := by decide
    rw [this]
    have : (0xEDB88320#32).toNat = 3988292384 := by decide
    rw [this]
    omega
  rw [h1, h2, xor32, ofInt_toNat32]; rfl

theorem wrap64u (n : Int) (h0 : 0 ≤ n) (h1 : n < 2 ^ 64) : IntKind.u64.wrap n = n := by
  have : IntKind.u64.wrap n = n % 18446744073709551616 := by simp [IntKind.wrap, IntKind.bits, IntKind.signed]
  rw [this]; omega
theorem or_high (x b : Int) (j : Nat) (hj : j < 8) (hx0 : 0 ≤ x) (hx : x < 2 ^ (8 * j)) (hb0 : 0 ≤ b) (hb : b < 256) :
    bits .or .u64 x (IntKind.u64.wrap (b * 2 ^ (8 * j))) = x + b * 2 ^ (8 * j) := by
  have hpos : (0 : Int) < 2 ^ (8 * j) := Int.pow_pos (by decide)
  have hle : (2 : Int) ^ (8 * j) ≤ 2 ^ 56 := by
    have h := Nat.pow_le_pow_right (n := 2) (by decide) (show 8 * j ≤ 56 from by omega)
    exact_mod_cast h
  have hb2 : b * 2 ^ (8 * j) ≤ 255 * 2 ^ 56 := Int.le_trans (Int.mul_le_mul_of_nonneg_left hle hb0) (Int.mul_le_mul_of_nonneg_right (by omega) (by decide))
  have hb3 : 0 ≤ b * 2 ^ (8 * j) := Int.mul_nonneg hb0 (Int.le_of_lt hpos)
  rw [wrap64u _ hb3 (by omega)]
  have hc : bits .or .u64 x (b * 2 ^ (8 * j)) = bits .or .u64 (b * 2 ^ (8 * j)) x := by simp only [bits, BitVec.or_comm]
  rw [hc, bits_join .u64 64 (by decide) wrap64u (8 * j) _ _ hb3 (Int.mul_emod_left b _) (by omega) hx0 hx (by omega)]
  omega

/-- the lowest bytes of a number -/
def le (n : Int) (k : Nat) : List Int := (List.range k).map fun i => n / 2 ^ (8 * i) % 256
theorem le_snoc (n : Int) (k : Nat) : le n (k + 1) = le n k ++ [n / 2 ^ (8 * k) % 256] := by simp [le, List.range_succ]
theorem le_length (n : Int) (k : Nat) : (le n k).length = k := by simp [le]
theorem le_by (n : Int) (k : Nat) : By (le n k) := by
  intro x hx
  simp only [le, List.mem_map] at hx
  obtain ⟨i, _, rfl⟩ := hx
  omega
/-- the number of bytes -/
def val : List Int → Int
  | [] => 0
  | x :: xs => x + 256 * val xs
theorem val_snoc (xs : List Int) (b : Int) : val (xs ++ [b]) = val xs + b * 2 ^ (8 * xs.length) := by
  induction xs with
  | nil => simp [val]
  | cons x xs ih =>
    simp only [List.cons_append, val, ih, List.length_cons]
    rw [show 8 * (xs.length + 1) = 8 * xs.length + 8 from by omega, Int.pow_add, Int.mul_add, ← Int.mul_assoc (b) , show (2 : Int) ^ 8 = 256 from by decide]
    have : 256 * (b * 2 ^ (8 * xs.length)) = b * 2 ^ (8 * xs.length) * 256 := Int.mul_comm _ _
    omega
theorem val_bd (xs : List Int) (h : By xs) : 0 ≤ val xs ∧ val xs < 2 ^ (8 * xs.length) := by
  induction xs with
  | nil => simp [val]
  | cons x xs ih =>
    have h1 := h x (by simp)
    have h2 := ih fun y hy => h y (by simp [hy])
    simp only [val, List.length_cons]
    rw [show 8 * (xs.length + 1) = 8 * xs.length + 8 from by omega, Int.pow_add, show (2 : Int) ^ 8 = 256 from by decide]
    omega
end Go.Proofs.Ytmdecbockpgagaa

/- Four bytes beside one another that were turned turn the sum: plain facts on bit vectors. -/
namespace Go.Proofs.Ytmdecbockpgagaa

theorem step_even (r : BitVec 32) (h : r.toNat % 2 = 0) : crcStep r = r >>> 1 := by
  have h1 : r &&& 1#32 = 0#32 := by
    apply BitVec.eq_of_toNat_eq
    rw [BitVec.toNat_and]
    simpa using h
  simp [crcStep, h1]
theorem step_odd (r : BitVec 32) (h : r.toNat % 2 = 1) : crcStep r = (r >>> 1) ^^^ 0xEDB88320#32 := by
  have h1 : r &&& 1#32 = 1#32 := by
    apply BitVec.eq_of_toNat_eq
    rw [BitVec.toNat_and]
    simpa using h
  rw [crcStep, h1]
  congr 1
theorem lowbit_xor (a b : BitVec 32) : (a ^^^ b).toNat % 2 = (a.toNat % 2 + b.toNat % 2) % 2 := by
  rw [BitVec.toNat_xor]
  have h := Nat.xor_mod_two_pow (a := a.toNat) (b := b.toNat) (n := 1)
  simp only [Nat.pow_one] at h
  rw [h]
  have h1 : a.toNat % 2 = 0 ∨ a.toNat % 2 = 1 := by omega
  have h2 : b.toNat % 2 = 0 ∨ b.toNat % 2 = 1 := by omega
  rcases h1 with h1 | h1 <;> rcases h2 with h2 | h2 <;> rw [h1, h2] <;> rfl
theorem shr_xor (a b : BitVec 32) : (a ^^^ b) >>> 1 = (a >>> 1) ^^^ (b >>> 1) := by
  ext i
  simp
theorem step_xor (a b : BitVec 32) : crcStep (a ^^^ b) = crcStep a ^^^ crcStep b := by
  have h1 : a.toNat % 2 = 0 ∨ a.toNat % 2 = 1 := by omega
  have h2 : b.toNat % 2 = 0 ∨ b.toNat % 2 = 1 := by omega
  have h3 := lowbit_xor a b
  rcases h1 with h1 | h1 <;> rcases h2 with h2 | h2 <;> rw [h1, h2] at h3
  · rw [step_even _ h3, step_even _ h1, step_even _ h2, shr_xor]
  · rw [step_odd _ h3, step_even _ h1, step_odd _ h2, shr_xor, BitVec.xor_assoc]
  · rw [step_odd _ h3, step_odd _ h1, step_even _ h2, shr_xor, BitVec.xor_assoc, BitVec.xor_assoc, BitVec.xor_comm (b >>> 1)]
  · rw [step_even _ h3, step_odd _ h1, step_odd _ h2, shr_xor]
    rw [BitVec.xor_assoc, BitVec.xor_comm (0xEDB88320#32), BitVec.xor_assoc (b >>> 1), BitVec.xor_self, BitVec.xor_zero]
theorem step_zero (r : BitVec 32) (h : crcStep r = 0#32) : r = 0#32 := by
  have h1 : r.toNat % 2 = 0 ∨ r.toNat % 2 = 1 := by omega
  rcases h1 with h1 | h1
  · rw [step_even _ h1] at h
    have h2 := congrArg BitVec.toNat h
    rw [BitVec.toNat_ushiftRight, Nat.shiftRight_eq_div_pow] at h2
    apply BitVec.eq_of_toNat_eq
    simp at h2 ⊢
    omega
  · rw [step_odd _ h1] at h
    have h2 : r >>> 1 = 0xEDB88320#32 := by
      have := congrArg (· ^^^ 0xEDB88320#32) h
      simpa [BitVec.xor_assoc] using this
    have h3 := congrArg BitVec.toNat h2
    rw [BitVec.toNat_ushiftRight, Nat.shiftRight_eq_div_pow] at h3
    have := r.isLt
    simp at h3
    omega
theorem steps_xor (k : Nat) (a b : BitVec 32) : crcSteps k (a ^^^ b) = crcSteps k a ^^^ crcSteps k b := by
  induction k with
  | zero => rfl
  | succ k ih => simp only [crcSteps, ih, step_xor]
theorem steps_zero (k : Nat) (r : BitVec 32) (h : crcSteps k r = 0#32) : r = 0#32 := by
  induction k with
  | zero => exact h
  | succ k ih => exact ih (step_zero _ h)
theorem xor_eq_zero (a b : BitVec 32) (h : a ^^^ b = 0#32) : a = b := by
  have := congrArg (· ^^^ b) h
  simpa [BitVec.xor_assoc] using this
theorem steps_inj (k : Nat) (a b : BitVec 32) (h : crcSteps k a = crcSteps k b) : a = b :=
  xor_eq_zero a b (steps_zero k _ (by rw [steps_xor, h, BitVec.xor_self]))
theorem steps_add (j k : Nat) (r : BitVec 32) : crcSteps j (crcSteps k r) = crcSteps (j + k) r := by
  induction j with
  | zero => simp [crcSteps]
  | succ j ih => rw [Nat.add_right_comm]; simp only [crcSteps, ih]
/-- what lies higher than the steps reach is shifted alone -/
theorem steps_high (k : Nat) : ∀ (m : Nat), m * 2 ^ k < 2 ^ 32 → crcSteps k (BitVec.ofNat 32 (m * 2 ^ k)) = BitVec.ofNat 32 m := by
  induction k with
  | zero => intro m _; simp [crcSteps]
  | succ k ih =>
    intro m h
    have h2 : m * 2 ^ (k + 1) = (m * 2) * 2 ^ k := by rw [Nat.pow_succ, Nat.mul_assoc, Nat.mul_comm 2]
    simp only [crcSteps]
    rw [h2, ih (m * 2) (by rw [← h2]; exact h)]
    have hm : m * 2 < 2 ^ 32 := by
      have : 1 ≤ 2 ^ k := Nat.one_le_two_pow
      calc m * 2 ≤ (m * 2) * 2 ^ k := Nat.le_mul_of_pos_right _ this
        _ = m * 2 ^ (k + 1) := h2.symm
        _ < 2 ^ 32 := h
    rw [step_even]
    · apply BitVec.eq_of_toNat_eq
      rw [BitVec.toNat_ushiftRight, Nat.shiftRight_eq_div_pow, BitVec.toNat_ofNat, BitVec.toNat_ofNat, Nat.mod_eq_of_lt hm, Nat.mod_eq_of_lt (by omega)]
      omega
    · rw [BitVec.toNat_ofNat, Nat.mod_eq_of_lt hm]
      omega
/-- Two registers that part, fed with the same bytes, part. -/
theorem fold_inj (xs : List Int) : ∀ (a b : BitVec 32), xs.foldl crcByte a = xs.foldl crcByte b → a = b := by
  induction xs with
  | nil => intro a b h; exact h
  | cons x xs ih =>
    intro a b h
    have h1 := steps_inj 8 _ _ (ih _ _ h)
    have := congrArg (· ^^^ BitVec.ofInt 32 x) h1
    simpa [BitVec.xor_assoc] using this
theorem byte_ofInt (x : Int) (h : 0 ≤ x ∧ x < 256) : BitVec.ofInt 32 x = BitVec.ofNat 32 x.toNat := by
  obtain ⟨n, rfl⟩ := Int.eq_ofNat_of_zero_le h.1
  simp
theorem fold4 (r : BitVec 32) (a b c d : Int) (ha : 0 ≤ a ∧ a < 256) (hb : 0 ≤ b ∧ b < 256) (hc : 0 ≤ c ∧ c < 256) (hd : 0 ≤ d ∧ d < 256) :
    [a, b, c, d].foldl crcByte r = crcSteps 32 (r ^^^ BitVec.ofNat 32 a.toNat ^^^ BitVec.ofNat 32 (b.toNat * 2 ^ 8) ^^^ BitVec.ofNat 32 (c.toNat * 2 ^ 16) ^^^ BitVec.ofNat 32 (d.toNat * 2 ^ 24)) := by
  simp only [List.foldl_cons, List.foldl_nil, crcByte, byte_ofInt _ ha, byte_ofInt _ hb, byte_ofInt _ hc, byte_ofInt _ hd]
  have h1 := steps_high 8 b.toNat (by omega)
  have h2 := steps_high 16 c.toNat (by omega)
  have h3 := steps_high 24 d.toNat (by omega)
  have s32 : ∀ x, crcSteps 32 x = crcSteps 8 (crcSteps 24 x) := fun x => (steps_add 8 24 x).symm
  have s24 : ∀ x, crcSteps 24 x = crcSteps 8 (crcSteps 16 x) := fun x => (steps_add 8 16 x).symm
  have s16 : ∀ x, crcSteps 16 x = crcSteps 8 (crcSteps 8 x) := fun x => (steps_add 8 8 x).symm
  rw [s32, steps_xor 24, h3, s24, steps_xor 16, h2, s16, steps_xor 8 _ (BitVec.ofNat 32 (b.toNat * _)), h1]
theorem word_inj (a b c d a' b' c' d' : Nat) (ha : a < 256) (hb : b < 256) (hc : c < 256) (hd : d < 256) (ha' : a' < 256) (hb' : b' < 256) (hc' : c' < 256) (hd' : d' < 256)
    (r : BitVec 32) (h : r ^^^ BitVec.ofNat 32 a ^^^ BitVec.ofNat 32 (b * 2 ^ 8) ^^^ BitVec.ofNat 32 (c * 2 ^ 16) ^^^ BitVec.ofNat 32 (d * 2 ^ 24) =
      r ^^^ BitVec.ofNat 32 a' ^^^ BitVec.ofNat 32 (b' * 2 ^ 8) ^^^ BitVec.ofNat 32 (c' * 2 ^ 16) ^^^ BitVec.ofNat 32 (d' * 2 ^ 24)) : a = a' ∧ b = b' ∧ c = c' ∧ d = d' := by
  have h0 := congrArg BitVec.toNat h
  simp only [BitVec.toNat_xor, BitVec.toNat_ofNat] at h0
  rw [Nat.mod_eq_of_lt (show a < 2 ^ 32 from by omega), Nat.mod_eq_of_lt (show b * 2 ^ 8 < 2 ^ 32 from by omega), Nat.mod_eq_of_lt (show c * 2 ^ 16 < 2 ^ 32 from by omega), Nat.mod_eq_of_lt (show d * 2 ^ 24 < 2 ^ 32 from by omega),
    Nat.mod_eq_of_lt (show a' < 2 ^ 32 from by omega), Nat.mod_eq_of_lt (show b' * 2 ^ 8 < 2 ^ 32 from by omega), Nat.mod_eq_of_lt (show c' * 2 ^ 16 < 2 ^ 32 from by omega), Nat.mod_eq_of_lt (show d' * 2 ^ 24 < 2 ^ 32 from by omega)] at h0
  generalize r.toNat = R at h0
  have key : ∀ i : Nat, (R / 2 ^ i % 2 ^ 8) ^^^ (a / 2 ^ i % 2 ^ 8) ^^^ (b * 2 ^ 8 / 2 ^ i % 2 ^ 8) ^^^ (c * 2 ^ 16 / 2 ^ i % 2 ^ 8) ^^^ (d * 2 ^ 24 / 2 ^ i % 2 ^ 8) =
      (R / 2 ^ i % 2 ^ 8) ^^^ (a' / 2 ^ i % 2 ^ 8) ^^^ (b' * 2 ^ 8 / 2 ^ i % 2 ^ 8) ^^^ (c' * 2 ^ 16 / 2 ^ i % 2 ^ 8) ^^^ (d' * 2 ^ 24 / 2 ^ i % 2 ^ 8) := by
    intro i
    have h1 := congrArg (fun x => x / 2 ^ i % 2 ^ 8) h0
    simpa only [Nat.xor_div_two_pow, Nat.xor_mod_two_pow] using h1
  have cancel : ∀ x y z : Nat, x ^^^ y = x ^^^ z → y = z := fun x y z e => by
    have := congrArg (x ^^^ ·) e
    simpa [← Nat.xor_assoc] using this
  have k0 := key 0
  have k1 := key 8
  have k2 := key 16
  have k3 := key 24
  rw [show a / 2 ^ 0 % 2 ^ 8 = a from by omega, show b * 2 ^ 8 / 2 ^ 0 % 2 ^ 8 = 0 from by omega, show c * 2 ^ 16 / 2 ^ 0 % 2 ^ 8 = 0 from by omega, show d * 2 ^ 24 / 2 ^ 0 % 2 ^ 8 = 0 from by omega,
    show a' / 2 ^ 0 % 2 ^ 8 = a' from by omega, show b' * 2 ^ 8 / 2 ^ 0 % 2 ^ 8 = 0 from by omega, show c' * 2 ^ 16 / 2 ^ 0 % 2 ^ 8 = 0 from by omega, show d' * 2 ^ 24 / 2 ^ 0 % 2 ^ 8 = 0 from by omega] at k0
  rw [show a / 2 ^ 8 % 2 ^ 8 = 0 from by omega, show b * 2 ^ 8 / 2 ^ 8 % 2 ^ 8 = b from by omega, show c * 2 ^ 16 / 2 ^ 8 % 2 ^ 8 = 0 from by omega, show d * 2 ^ 24 / 2 ^ 8 % 2 ^ 8 = 0 from by omega,
    show a' / 2 ^ 8 % 2 ^ 8 = 0 from by omega, show b' * 2 ^ 8 / 2 ^ 8 % 2 ^ 8 = b' from by omega, show c' * 2 ^ 16 / 2 ^ 8 % 2 ^ 8 = 0 from by omega, show d' * 2 ^ 24 / 2 ^ 8 % 2 ^ 8 = 0 from by omega] at k1
  rw [show a / 2 ^ 16 % 2 ^ 8 = 0 from by omega, show b * 2 ^ 8 / 2 ^ 16 % 2 ^ 8 = 0 from by omega, show c * 2 ^ 16 / 2 ^ 16 % 2 ^ 8 = c from by omega, show d * 2 ^ 24 / 2 ^ 16 % 2 ^ 8 = 0 from by omega,
    show a' / 2 ^ 16 % 2 ^ 8 = 0 from by omega, show b' * 2 ^ 8 / 2 ^ 16 % 2 ^ 8 = 0 from by omega, show c' * 2 ^ 16 / 2 ^ 16 % 2 ^ 8 = c' from by omega, show d' * 2 ^ 24 / 2 ^ 16 % 2 ^ 8 = 0 from by omega] at k2
  rw [show a / 2 ^ 24 % 2 ^ 8 = 0 from by omega, show b * 2 ^ 8 / 2 ^ 24 % 2 ^ 8 = 0 from by omega, show c * 2 ^ 16 / 2 ^ 24 % 2 ^ 8 = 0 from by omega, show d * 2 ^ 24 / 2 ^ 24 % 2 ^ 8 = d from by omega,
    show a' / 2 ^ 24 % 2 ^ 8 = 0 from by omega, show b' * 2 ^ 8 / 2 ^ 24 % 2 ^ 8 = 0 from by omega, show c' * 2 ^ 16 / 2 ^ 24 % 2 ^ 8 = 0 from by omega, show d' * 2 ^ 24 / 2 ^ 24 % 2 ^ 8 = d' from by omega] at k3
  simp only [Nat.xor_zero] at k0 k1 k2 k3
  exact ⟨cancel _ _ _ k0, cancel _ _ _ k1, cancel _ _ _ k2, cancel _ _ _ k3⟩
/-- A sum parts where four bytes beside one another part. -/
theorem crc_burst (pre post : List Int) (a b c d a' b' c' d' : Int) (ha : 0 ≤ a ∧ a < 256) (hb : 0 ≤ b ∧ b < 256) (hc : 0 ≤ c ∧ c < 256) (hd : 0 ≤ d ∧ d < 256)
    (ha' : 0 ≤ a' ∧ a' < 256) (hb' : 0 ≤ b' ∧ b' < 256) (hc' : 0 ≤ c' ∧ c' < 256) (hd' : 0 ≤ d' ∧ d' < 256) (s : BitVec 32)
    (h : crcMore s (pre ++ ([a, b, c, d] ++ post)) = crcMore s (pre ++ ([a', b', c', d'] ++ post))) : a = a' ∧ b = b' ∧ c = c' ∧ d = d' := by
  unfold crcMore at h
  have h1 := congrArg (~~~ ·) h
  simp only [BitVec.not_not, List.foldl_append] at h1
  have h2 := fold_inj post _ _ h1
  rw [fold4 _ a b c d ha hb hc hd, fold4 _ a' b' c' d' ha' hb' hc' hd'] at h2
  have h3 := steps_inj 32 _ _ h2
  obtain ⟨e1, e2, e3, e4⟩ := word_inj _ _ _ _ _ _ _ _ (by omega) (by omega) (by omega) (by omega) (by omega) (by omega) (by omega) (by omega) _ h3
  omega
end Go.Proofs.Ytmdecbockpgagaa

/- The contracts of package crc: sums, numbers in bytes, texts. -/
namespace Go.Proofs.Ytmdecbockpgagaa
open Go.RowKit Go.Proofs.YtmdecbockpgagaaW.PrintWords Go.Proofs.YtmdecbockpgagaaW.PrintMore
attribute [local go_sem] max2_int min2_int max_two min_two

set_option maxHeartbeats 400000 in
theorem crc_more (s : BitVec 32) (v : Value) (xs : List Int) (w : World) (hr : RdB w v xs) (hby : By xs) :
    Calls Try.prog 74 #[.int .u32 (s.toNat : Int), v] w fun e w' => e = .returned (.int .u32 ((crcMore s xs).toNat : Int)) ∧ w = w' := by
  obtain ⟨A, c, rfl, hcap, hn, hm, hc⟩ := hr
  clear hn
  go_enter Try.func74, Try.ntmps74
  go_wp2
  go_loop [5, 12] (fun r i => ∃ k : Nat, ∃ x : BitVec 32, k ≤ xs.length ∧ x = (xs.take k).foldl crcByte (~~~ s) ∧ i = .int .i64 k ∧ r = .int .u32 (x.toNat : Int)) (fun _ i => xs.length - (intOf i).toNat)
  case atStart => exact ⟨0, ~~~ s, Nat.zero_le _, rfl, rfl, val_u32 (not32 s)⟩
  case round =>
    obtain ⟨k, x, hk, hx, rfl, rfl⟩ := hrel
    have Hx := Lib.hid hx
    clear hx
    by_cases hlt : k < xs.length
    · obtain ⟨ad, rfl, hc2⟩ := hc (by omega)
      have hcell := hc2 k hlt
      have hb := hby.at_ hlt
      have Hs := Lib.hid (take_snoc_getD hlt)
      generalize xs.getD k 0 = b at hcell hb Hs
      obtain ⟨hb1, hb2⟩ := hb
      clear hc hc2
      go_wp2
      go_loop [5, 20] (fun r i => ∃ j : Nat, ∃ y : BitVec 32, j ≤ 8 ∧ y = crcSteps j (x ^^^ BitVec.ofInt 32 b) ∧ i = .int .i64 j ∧ r = .int .u32 (y.toNat : Int)) (fun _ i => 8 - (intOf i).toNat)
      case atStart => exact ⟨0, _, by omega, rfl, rfl, val_u32 (xor32 x b)⟩
      case round =>
        obtain ⟨j, y, hj, hy, rfl, rfl⟩ := hrel
        have Hy := Lib.hid hy
        clear hy
        have hyl := y.isLt
        by_cases h2 : j < 8
        · go_wp2
          go_round
          case rel => exact ⟨j + 1, crcStep y, by omega, by rw [Hy.out]; rfl, by go_num, val_u32 (step32 y)⟩
          case measure => simp [intOf]; omega
        · go_wp2
          go_round
          case rel => exact ⟨k + 1, y, by omega, by rw [Hs.out, List.foldl_append, ← Hx.out, Hy.out, show j = 8 from by omega]; rfl, by go_num, rfl⟩
          case measure => simp [intOf]; omega
    · go_wp2
      go_ret
      exact ⟨ret_u32 (by rw [not32, Hx.out, List.take_of_length_le (by omega)]; rfl), rfl⟩

set_option maxHeartbeats 400000 in
theorem crc_sum (v : Value) (xs : List Int) (w : World) (hr : RdB w v xs) (hby : By xs) :
    Calls Try.prog 75 #[v] w fun e w' => e = .returned (.int .u32 ((crcMore 0#32 xs).toNat : Int)) ∧ w = w' := by
  have hm := crc_more 0#32 v xs w hr hby
  go_enter Try.func75, Try.ntmps75
  go_wp2_with (go_at_call 74; refine hm.mono ?_; rintro e w' ⟨rfl, rfl⟩)
  go_ret
  exact ⟨rfl, rfl⟩

def crcW (k : Int) : Int := if k < 0 then 0 else if 8 < k then 8 else k
theorem crcW_bd (k : Int) : 0 ≤ crcW k ∧ crcW k ≤ 8 := by unfold crcW; split <;> (try split) <;> omega

theorem crcW_eq (k : Int) : min (max k 0) 8 = crcW k := by unfold crcW; omega

set_option maxHeartbeats 400000 in
theorem crc_width (k : Int) (w : World) : Calls Try.prog 85 #[.int .i64 k] w fun e w' => e = .returned (.int .i64 (crcW k)) ∧ w = w' := by
  by_cases h1 : k < 0
  · go_enter Try.func85, Try.ntmps85
    go_wp2
    go_ret
    exact ⟨ret_i64 (by unfold crcW; rw [if_pos h1]), rfl⟩
  · have h1' : 0 ≤ k := by omega
    by_cases h2 : 8 < k
    all_goals
      go_enter Try.func85, Try.ntmps85
      go_wp2
      go_ret
      exact ⟨ret_i64 (by unfold crcW; split <;> (try split) <;> omega), rfl⟩

set_option maxHeartbeats 400000 in
theorem crc_lowest64 (base : Nat) (v : Value) (xs : List Int) (n k : Int) (h0 : 0 ≤ k) (h8 : k ≤ 8) (w : World) (ho : OwnB w base v xs) (hb : base ≤ w.heap.size) (hl : xs.length + 8 ≤ 140737488355328) :
    Calls Try.prog 84 #[v, .int .u64 n, .int .i64 k] w (AppB w base v (xs ++ le n k.toNat)) := by
  obtain ⟨m, rfl⟩ := Int.eq_ofNat_of_zero_le h0
  rw [Int.toNat_natCast]
  go_enter Try.func84, Try.ntmps84
  go_wp2
  go_loopw [0, 9] (fun u i wr => ∃ j : Nat, j ≤ m ∧ i = .int .i64 j ∧ OwnB wr base u (xs ++ le n j) ∧ w.grownBy wr v.ownBlock ∧ NewAt w v u) (fun _ i _ => m - (intOf i).toNat)
  case atStart => exact ⟨0, Nat.zero_le _, rfl, by simpa [le] using ho, World.grownBy.refl w _, .inl rfl⟩
  case round =>
    obtain ⟨j, hj, rfl, hown, hgr, hat⟩ := hrel
    have hln : (xs ++ le n j).length = xs.length + j := by rw [List.length_append, le_length]
    have Hln := Lib.hid hln
    clear hln
    by_cases hlt : j < m
    · have Hc1 := Lib.hid (Nat.le_trans hb hgr.size)
      have Hc2 := Lib.hid (show ((xs ++ le n j).length + 1) * 1 ≤ 140737488355328 from by rw [Hln.out]; omega)
      go_wp2_with (at_builtin; refine print_append_num (w0 := wr) base rfl _ _ _ _ .u8 1 rfl Try.underlying22 info8 (by omega) u0 (xs ++ le n j) _ rfl rfl hown (Below.refl _ _) Hc1.out Hc2.out ?_; intro v1 w1 hown1 hb1 hg1 hat1)
      go_roundw
      case rel => exact ⟨j + 1, by omega, by go_num, by rw [le_snoc, ← List.append_assoc]; exact hown1, grown_chain hgr hat hg1, hat.chain hgr.size hat1⟩
      case measure => simp [intOf]; omega
    · go_wp2
      go_ret
      exact ⟨_, rfl, by rw [show m = j from by omega]; exact hown, hgr, hat⟩
set_option maxHeartbeats 400000 in
theorem crc_lowest16 (base : Nat) (v : Value) (xs : List Int) (n k : Int) (h0 : 0 ≤ k) (h8 : k ≤ 2) (w : World) (ho : OwnB w base v xs) (hb : base ≤ w.heap.size) (hl : xs.length + 8 ≤ 140737488355328) :
    Calls Try.prog 76 #[v, .int .u16 n, .int .i64 k] w (AppB w base v (xs ++ le n k.toNat)) := by
  obtain ⟨m, rfl⟩ := Int.eq_ofNat_of_zero_le h0
  rw [Int.toNat_natCast]
  go_enter Try.func76, Try.ntmps76
  go_wp2
  go_loopw [0, 9] (fun u i wr => ∃ j : Nat, j ≤ m ∧ i = .int .i64 j ∧ OwnB wr base u (xs ++ le n j) ∧ w.grownBy wr v.ownBlock ∧ NewAt w v u) (fun _ i _ => m - (intOf i).toNat)
  case atStart => exact ⟨0, Nat.zero_le _, rfl, by simpa [le] using ho, World.grownBy.refl w _, .inl rfl⟩
  case round =>
    obtain ⟨j, hj, rfl, hown, hgr, hat⟩ := hrel
    have hln : (xs ++ le n j).length = xs.length + j := by rw [List.length_append, le_length]
    have Hln := Lib.hid hln
    clear hln
    by_cases hlt : j < m
    · have Hc1 := Lib.hid (Nat.le_trans hb hgr.size)
      have Hc2 := Lib.hid (show ((xs ++ le n j).length + 1) * 1 ≤ 140737488355328 from by rw [Hln.out]; omega)
      go_wp2_with (at_builtin; refine print_append_num (w0 := wr) base rfl _ _ _ _ .u8 1 rfl Try.underlying22 info8 (by omega) u0 (xs ++ le n j) _ rfl rfl hown (Below.refl _ _) Hc1.out Hc2.out ?_; intro v1 w1 hown1 hb1 hg1 hat1)
      go_roundw
      case rel => exact ⟨j + 1, by omega, by go_num, by rw [le_snoc, ← List.append_assoc]; exact hown1, grown_chain hgr hat hg1, hat.chain hgr.size hat1⟩
      case measure => simp [intOf]; omega
    · go_wp2
      go_ret
      exact ⟨_, rfl, by rw [show m = j from by omega]; exact hown, hgr, hat⟩
set_option maxHeartbeats 400000 in
theorem crc_put (base : Nat) (v : Value) (xs : List Int) (n k : Int) (w : World) (ho : OwnB w base v xs) (hb : base ≤ w.heap.size) (hl : xs.length + 8 ≤ 140737488355328) :
    Calls Try.prog 73 #[v, .int .u64 n, .int .i64 k] w (AppB w base v (xs ++ le n (crcW k).toNat)) := by
  have hbd := crcW_bd k
  go_enter Try.func73, Try.ntmps73
  go_wp2_with (first
    | (go_at_call 85; refine (crc_width k _).mono ?_; rintro e w' ⟨rfl, rfl⟩)
    | (go_at_call 84; refine (crc_lowest64 base v xs n (crcW k) hbd.1 hbd.2 _ ho hb hl).mono ?_; rintro e w' ⟨v1, rfl, ho1, hg1, hn1⟩))
  go_ret
  exact ⟨_, rfl, ho1, hg1, hn1⟩

def getN (xs : List Int) (k : Int) : Int × List Int × Int :=
  if (xs.length : Int) < crcW k then (0, xs, 10) else (val (xs.take (crcW k).toNat), xs.drop (crcW k).toNat, 0)
def GetP (xs : List Int) (k : Int) (w : World) (e : Ending) (w' : World) : Prop :=
  ∃ u, e = .returned (.tuple #[.int .u64 (getN xs k).1, u, .int .i64 (getN xs k).2.2]) ∧ RdB w' u (getN xs k).2.1 ∧ Below w.heap.size w w'

/-- What is read of v is read of u, in every world. -/
def RdTr (v : Value) (xs : List Int) (u : Value) (ys : List Int) : Prop := ∀ W : World, RdB W v xs → RdB W u ys
def GetT (v : Value) (xs : List Int) (k : Int) (w : World) (e : Ending) (w' : World) : Prop :=
  ∃ u, e = .returned (.tuple #[.int .u64 (getN xs k).1, u, .int .i64 (getN xs k).2.2]) ∧ RdB w' u (getN xs k).2.1 ∧ Below w.heap.size w w' ∧ RdTr v xs u (getN xs k).2.1

set_option maxHeartbeats 400000 in
theorem crc_getT (v : Value) (xs : List Int) (k : Int) (w : World) (hr : RdB w v xs) (hby : By xs) :
    Calls Try.prog 91 #[v, .int .i64 k] w (GetT v xs k w) := by
  have hbd := crcW_bd k
  have hr0 := hr
  obtain ⟨A, c, rfl, hcap, hread⟩ := hr
  have hml := hread.2.1
  have Hr := Lib.hid hread
  clear hread
  by_cases hlt : (xs.length : Int) < crcW k
  · have hd : decide ((xs.length : Int) < crcW k) = true := by simpa using hlt
    go_enter Try.func91, Try.ntmps91
    go_wp2_with (go_at_call 85; refine (crc_width k _).mono ?_; rintro e w' ⟨rfl, rfl⟩)
    go_ret3
    refine ⟨.slice A xs.length c, ?_, ?_, Below.refl _ _, ?_⟩
    · rw [show getN xs k = (0, xs, 10) from if_pos hlt]; rfl
    · rw [show getN xs k = (0, xs, 10) from if_pos hlt]; exact hr0
    · rw [show getN xs k = (0, xs, 10) from if_pos hlt]; exact fun _ h => h
  · have hd : decide ((xs.length : Int) < crcW k) = false := by simpa using hlt
    have hgn : getN xs k = (val (xs.take (crcW k).toNat), xs.drop (crcW k).toNat, 0) := if_neg hlt
    unfold GetT
    rw [hgn]
    clear hgn
    have hw := crc_width k
    obtain ⟨m, hm⟩ := Int.eq_ofNat_of_zero_le hbd.1
    generalize crcW k = q at hbd hlt hd hm hw ⊢
    subst hm
    have hm8 : m ≤ 8 := by omega
    have hml2 : m ≤ xs.length := by omega
    obtain ⟨i8, hi8, hz8, hs8, hb8⟩ := info_parts info8
    obtain ⟨ht1, ht2, _⟩ := print_take_int (k := .u8) (P := Try.prog) 22 5 Try.underlying22 hi8 hs8 A c xs (m : Int) (by omega) (by omega) hcap
    obtain ⟨A2, hd1, hd2, hd3⟩ := print_cut_int (k := .u8) (P := Try.prog) 22 5 Try.underlying22 hi8 hs8 A c xs (m : Int) (by omega) (by omega) hcap
    have ht3 := ht2 w Hr.out
    have hd4 := hd2 w Hr.out
    clear ht2 hz8 hs8 hb8 hi8
    simp only [Int.toNat_natCast] at ht1 ht3 hd1 hd2 hd3 hd4 ⊢
    have hyl : (xs.take m).length = m := by rw [List.length_take]; omega
    have hyb : By (xs.take m) := fun x hx => hby x (List.mem_of_mem_take hx)
    generalize xs.take m = ys at ht1 ht3 hyl hyb ⊢
    generalize xs.drop m = zs at hd1 hd2 hd3 hd4 ⊢
    have hT : RdTr (.slice A xs.length c) xs (.slice A2 zs.length (c - m)) zs := fun W h => by
      obtain ⟨A', c', e, _, h'⟩ := h
      cases e
      exact ⟨A2, c - m, rfl, hd3, hd2 W h'⟩
    have HT := Lib.hid hT
    clear hd2 hT
    have Hyl := Lib.hid hyl
    have Hd4 := Lib.hid hd4
    have hrd := ht3.2.2
    have hyl2 : ys.length ≤ 8 := by omega
    clear ht3 hd4 hyl
    go_enter Try.func91, Try.ntmps91
    go_wp2_with (go_at_call 85; refine (hw _).mono ?_; rintro e w' ⟨rfl, rfl⟩)
    go_loop [7, 21] (fun r i => ∃ j : Nat, ∃ x : Int, j ≤ ys.length ∧ x = val (ys.take j) ∧ i = .int .i64 j ∧ r = .int .u64 x) (fun _ i => ys.length - (intOf i).toNat)
    case atStart => exact ⟨0, 0, Nat.zero_le _, rfl, rfl, rfl⟩
    case round =>
      obtain ⟨j, x, hj, hx, rfl, rfl⟩ := hrel
      have hbx := val_bd (ys.take j) (fun x hx => hyb x (List.mem_of_mem_take hx))
      have hjl : (ys.take j).length = j := by rw [List.length_take]; omega
      rw [← hx, hjl] at hbx
      have Hx := Lib.hid hx
      have Hbx := Lib.hid hbx
      clear hx hbx
      by_cases hlt2 : j < ys.length
      · obtain ⟨ad, rfl, hc2⟩ := hrd (by omega)
        have hcell := hc2 j hlt2
        have hb := hyb.at_ hlt2
        have Hs := Lib.hid (take_snoc_getD hlt2)
        generalize ys.getD j 0 = b at hcell hb Hs
        obtain ⟨hb1, hb2⟩ := hb
        have Hjl := Lib.hid hjl
        clear hrd hc2 hjl
        go_wp2
        go_round
        case rel => exact ⟨j + 1, _, by omega, by rw [Hs.out, val_snoc, Hjl.out, ← Hx.out], by go_num, val_u64 (or_high x b j (by omega) Hbx.out.1 Hbx.out.2 hb1 hb2)⟩
        case measure => simp [intOf]; omega
      · go_wp2
        go_quiet (fail)
        all_goals go_wp2
        go_ret3
        obtain rfl : x = val ys := by rw [Hx.out, List.take_of_length_le (by omega)]
        exact ⟨_, rfl, ⟨A2, c - m, rfl, hd3, Hd4.out.below (pw_below_drewN (Below.refl _ _) _)⟩, pw_below_drewN (Below.refl _ _) _, HT.out⟩

theorem crc_get (v : Value) (xs : List Int) (k : Int) (w : World) (hr : RdB w v xs) (hby : By xs) :
    Calls Try.prog 91 #[v, .int .i64 k] w (GetP xs k w) :=
  (crc_getT v xs k w hr hby).mono (fun _ _ ⟨u, he, hu, hb, _⟩ => ⟨u, he, hu, hb⟩)

end Go.Proofs.Ytmdecbockpgagaa

/- The contracts of package crc: texts behind their lengths. -/
namespace Go.Proofs.Ytmdecbockpgagaa
open Go.RowKit Go.Proofs.YtmdecbockpgagaaW.PrintWords Go.Proofs.YtmdecbockpgagaaW.PrintMore
attribute [local go_sem] max2_int min2_int max_two min_two

set_option maxHeartbeats 400000 in
theorem crc_text (base : Nat) (v : Value) (xs : List Int) (s : ByteArray) (hs : s.size ≤ 65535) (w : World) (ho : OwnB w base v xs) (hb : base ≤ w.heap.size) (hl : xs.length + 65537 ≤ 140737488355328) :
    Calls Try.prog 50 #[v, .string s] w (AppB w base v (xs ++ (le (s.size : Int) 2 ++ bytesOf s))) := by
  have hlow := crc_lowest16 base v xs (s.size : Int) 2 (by omega) (by omega) w ho hb (by omega)
  have Hlen : ∀ W : World, W.heap.size = W.heap.size → ((xs ++ le (s.size : Int) 2).length + s.size ≤ 140737488355328) := fun _ _ => by rw [List.length_append, le_length]; omega
  have HL := Lib.hid (Hlen w rfl)
  clear Hlen
  go_enter Try.func50, Try.ntmps50
  go_wp2_with (first
    | (go_at_call 76; refine hlow.mono ?_; rintro e w1 ⟨v1, rfl, ho1, hg1, hn1⟩; have Hb1 := Lib.hid (Nat.le_trans hb hg1.size))
    | (at_builtin; refine append_str_at base rfl _ _ _ _ _ rfl Try.underlying22 Try.underlying9 info8 v1 _ s rfl rfl ho1 Hb1.out HL.out ?_; intro v2 w2 ho2 hg2 hn2))
  go_ret
  exact ⟨_, rfl, by rw [← List.append_assoc]; exact ho2, grown_chain hg1 hn1 hg2, hn1.chain hg1.size hn2⟩

def getT (xs : List Int) (most : Int) : List Int × List Int × Int :=
  if xs.length < 2 then ([], xs, 10) else if most < val (xs.take 2) then ([], xs, 93) else if ((xs.drop 2).length : Int) < val (xs.take 2) then ([], xs, 10)
  else ((xs.drop 2).take (val (xs.take 2)).toNat, (xs.drop 2).drop (val (xs.take 2)).toNat, 0)
def GetTP (xs : List Int) (most : Int) (w : World) (e : Ending) (w' : World) : Prop :=
  ∃ u, e = .returned (.tuple #[.string (strOfNums (getT xs most).1), u, .int .i64 (getT xs most).2.2]) ∧ RdB w' u (getT xs most).2.1 ∧ Below w.heap.size w w'

theorem val_take_bd (xs : List Int) (hby : By xs) (k : Nat) : 0 ≤ val (xs.take k) ∧ val (xs.take k) < 2 ^ (8 * k) := by
  have h := val_bd (xs.take k) (fun x hx => hby x (List.mem_of_mem_take hx))
  refine ⟨h.1, Int.lt_of_lt_of_le h.2 ?_⟩
  have h2 := Nat.pow_le_pow_right (n := 2) (by decide) (show 8 * (xs.take k).length ≤ 8 * k from by rw [List.length_take]; omega)
  exact_mod_cast h2

set_option maxHeartbeats 400000 in
theorem crc_getText (v : Value) (xs : List Int) (most : Int) (w : World) (hr : RdB w v xs) (hby : By xs) :
    Calls Try.prog 83 #[v, .int .i64 most] w (GetTP xs most w) := by
  have hget := crc_get v xs 2 w hr hby
  have hvb := val_take_bd xs hby 2
  have hr0 := hr
  obtain ⟨A, c, rfl, hcap, hread⟩ := hr
  clear hread
  by_cases h1 : xs.length < 2
  · have hg : getN xs 2 = (0, xs, 10) := if_pos (by rw [show crcW 2 = 2 from rfl]; omega)
    have ht : getT xs most = ([], xs, 10) := if_pos h1
    unfold GetTP
    rw [ht]
    unfold GetP at hget
    rw [hg] at hget
    clear hg ht
    go_enter Try.func83, Try.ntmps83
    go_wp2_with (go_at_call 91; refine hget.mono ?_; rintro e w1 ⟨u, rfl, hu, hb1⟩)
    go_ret3
    exact ⟨_, rfl, hr0.below hb1, hb1⟩
  · have hg : getN xs 2 = (val (xs.take 2), xs.drop 2, 0) := if_neg (by rw [show crcW 2 = 2 from rfl]; omega)
    unfold GetP at hget
    rw [hg] at hget
    have hyb : By (xs.drop 2) := fun x hx => hby x (List.mem_of_mem_drop hx)
    have ht : getT xs most = if most < val (xs.take 2) then ([], xs, 93) else if ((xs.drop 2).length : Int) < val (xs.take 2) then ([], xs, 10)
        else ((xs.drop 2).take (val (xs.take 2)).toNat, (xs.drop 2).drop (val (xs.take 2)).toNat, 0) := if_neg h1
    unfold GetTP
    rw [ht]
    clear hg ht h1 hby
    generalize val (xs.take 2) = n at hget hvb ⊢
    generalize xs.drop 2 = ys at hget hyb ⊢
    obtain ⟨hn0, hn1⟩ := hvb
    have hn1' : n < 65536 := hn1
    clear hn1
    have hn2 : n % 18446744073709551616 = n := by omega
    by_cases h2 : most < n
    · rw [if_pos h2]
      go_enter Try.func83, Try.ntmps83
      go_wp2_with (go_at_call 91; refine hget.mono ?_; rintro e w1 ⟨u, rfl, hu, hb1⟩)
      go_ret3
      exact ⟨_, rfl, hr0.below hb1, hb1⟩
    · rw [if_neg h2]
      have h2' : n ≤ most := by omega
      by_cases h3 : (ys.length : Int) < n
      · rw [if_pos h3]
        go_enter Try.func83, Try.ntmps83
        go_wp2_with (go_at_call 91; refine hget.mono ?_; rintro e w1 ⟨u, rfl, ⟨A1, c1, rfl, hc1, hu⟩, hb1⟩; have Hu := Lib.hid hu; clear hu)
        go_ret3
        exact ⟨_, rfl, hr0.below hb1, hb1⟩
      · rw [if_neg h3]
        have h3' : n ≤ (ys.length : Int) := by omega
        go_enter Try.func83, Try.ntmps83
        go_wp2_with (go_at_call 91; refine hget.mono ?_; rintro e w1 ⟨u, rfl, ⟨A1, c1, rfl, hc1, hu⟩, hb1⟩; have Hu := Lib.hid hu; clear hu)
        obtain ⟨i8, hi8, hz8, hs8, hb8⟩ := info_parts info8
        obtain ⟨ht1, ht2, ht3⟩ := print_take_of (P := Try.prog) (Value.int .u8) (0 : Int) 22 5 .u64 Try.underlying22 hi8 hs8 A1 c1 ys n hn0 h3' hc1
        obtain ⟨A2, hd1, hd2, hd3⟩ := print_drop_of (P := Try.prog) (Value.int .u8) (0 : Int) 22 5 .u64 Try.underlying22 hi8 hs8 A1 c1 ys n hn0 h3' hc1
        have Ht2 : ReadsInt w1 .u8 A1 (ys.take n.toNat).length (ys.take n.toNat) := ht2 w1 Hu.out
        have Hd2 : Hid (ReadsInt w1 .u8 A2 (ys.drop n.toNat).length (ys.drop n.toNat)) := hd2 w1 Hu.out
        have hcv := fun k => conv_bytes_string (P := Try.prog) 22 5 9 Try.underlying22 Try.underlying5 Try.underlying9 (Ht2.below (pw_below_drewN (Below.refl _ _) k)) c1
        clear hz8 hs8 hb8 hi8 ht2 hd2 Ht2
        generalize hts : ys.take n.toNat = ts at ht1 ht3 hcv
        generalize hds : ys.drop n.toNat = ds at hd1 Hd2 hd3
        have Hts := Lib.hid hts
        have Hds := Lib.hid hds
        clear hts hds
        go_quiet (fail)
        all_goals go_wp2
        go_ret3
        rw [Hts.out, Hds.out]
        exact ⟨_, rfl, ⟨A2, _, rfl, hd3, Hd2.out.below (pw_below_drewN (Below.refl _ _) _)⟩, pw_below_drewN hb1 _⟩
end Go.Proofs.Ytmdecbockpgagaa

/- Quiet forms of the contracts of sums, for statements whose order is open; cuts of a row. -/
namespace Go.Proofs.Ytmdecbockpgagaa
open Go.RowKit Go.Proofs.YtmdecbockpgagaaW.PrintWords Go.Proofs.YtmdecbockpgagaaW.PrintMore

theorem RdB.drewN {w : World} {v : Value} {xs : List Int} (h : RdB w v xs) (n : Nat) : RdB (w.drewN n) v xs := h.below (pw_below_drewN (Below.refl _ _) n)
theorem RdB.nil (w : World) : RdB w (.slice none 0 0) [] := ⟨none, 0, rfl, Nat.le_refl _, rfl, by simp, fun h => absurd h (by simp)⟩
theorem By.nil : By [] := fun _ h => by simp at h
theorem By.take {xs : List Int} (h : By xs) (k : Nat) : By (xs.take k) := fun x hx => h x (List.mem_of_mem_take hx)
theorem By.drop {xs : List Int} (h : By xs) (k : Nat) : By (xs.drop k) := fun x hx => h x (List.mem_of_mem_drop hx)
theorem By.append {xs ys : List Int} (h : By xs) (h' : By ys) : By (xs ++ ys) := fun x hx => (List.mem_append.1 hx).elim (h x) (h' x)

theorem crc_sum_q (v : Value) (xs : List Int) (r : Int) (hx : ((crcMore 0#32 xs).toNat : Int) = r) (w : World) (hr : RdB w v xs) (hby : By xs) :
    ∀ n, Calls Try.prog 75 #[v] (w.drewN n) fun e w'' => e = .returned (.int .u32 r) ∧ ∃ m, w'' = w.drewN m :=
  fun n => (crc_sum v xs _ (hr.drewN n) hby).mono fun _ _ ⟨he, hw⟩ => ⟨by rw [he, hx], n, hw.symm⟩
theorem crc_more_q (s : BitVec 32) (v : Value) (xs : List Int) (r : Int) (hx : ((crcMore s xs).toNat : Int) = r) (w : World) (hr : RdB w v xs) (hby : By xs) :
    ∀ n, Calls Try.prog 74 #[.int .u32 (s.toNat : Int), v] (w.drewN n) fun e w'' => e = .returned (.int .u32 r) ∧ ∃ m, w'' = w.drewN m :=
  fun n => (crc_more s v xs _ (hr.drewN n) hby).mono fun _ _ ⟨he, hw⟩ => ⟨by rw [he, hx], n, hw.symm⟩

/-- xs[:j], one equation for the walk and what it reads. -/
theorem cut_to {w : World} {A : Option Addr} {c : Nat} {xs : List Int} (hc : xs.length ≤ c) (hr : ReadsInt w .u8 A xs.length xs) (kl : IntKind) (j : Int) (h0 : 0 ≤ j) (h1 : j ≤ xs.length) :
    ∃ ts : List Int, ts = xs.take j.toNat ∧ (∀ W : World, (Instr.slice 22 (.slice A xs.length c) none (some (.int kl j)) none).run Try.prog W = .ok (.slice A ts.length c) W) ∧ RdB w (.slice A ts.length c) ts ∧ (ts.length : Int) = j := by
  obtain ⟨i8, hi8, hz8, hs8, hb8⟩ := info_parts info8
  obtain ⟨ht1, ht2, ht3⟩ := print_take_of (P := Try.prog) (Value.int .u8) (0 : Int) 22 5 kl Try.underlying22 hi8 hs8 A c xs j h0 h1 hc
  exact ⟨_, rfl, ht1, ⟨A, c, rfl, ht3, ht2 w hr⟩, by rw [List.length_take]; omega⟩
/-- xs[j:] -/
theorem cut_from' {w : World} {A : Option Addr} {c : Nat} {xs : List Int} (hc : xs.length ≤ c) (hr : ReadsInt w .u8 A xs.length xs) (kl : IntKind) (j : Int) (h0 : 0 ≤ j) (h1 : j ≤ xs.length) :
    ∃ (ds : List Int) (A' : Option Addr) (c' : Nat), ds = xs.drop j.toNat ∧ (∀ W : World, (Instr.slice 22 (.slice A xs.length c) (some (.int kl j)) none none).run Try.prog W = .ok (.slice A' ds.length c') W) ∧ RdB w (.slice A' ds.length c') ds ∧ (ds.length : Int) = xs.length - j := by
  obtain ⟨i8, hi8, hz8, hs8, hb8⟩ := info_parts info8
  obtain ⟨A', hd1, hd2, hd3⟩ := print_drop_of (P := Try.prog) (Value.int .u8) (0 : Int) 22 5 kl Try.underlying22 hi8 hs8 A c xs j h0 h1 hc
  exact ⟨_, A', _, rfl, hd1, ⟨A', _, rfl, hd3, hd2 w hr⟩, by rw [List.length_drop]; omega⟩
/-- xs[j:], and what is read of it in every world. -/
theorem cut_fromT {A : Option Addr} {c : Nat} {xs : List Int} (hc : xs.length ≤ c) (kl : IntKind) (j : Int) (h0 : 0 ≤ j) (h1 : j ≤ xs.length) :
    ∃ (ds : List Int) (A' : Option Addr) (c' : Nat), ds = xs.drop j.toNat ∧ (∀ W : World, (Instr.slice 22 (.slice A xs.length c) (some (.int kl j)) none none).run Try.prog W = .ok (.slice A' ds.length c') W) ∧ (∀ W : World, ReadsInt W .u8 A xs.length xs → RdB W (.slice A' ds.length c') ds) ∧ (ds.length : Int) = xs.length - j := by
  obtain ⟨i8, hi8, hz8, hs8, hb8⟩ := info_parts info8
  obtain ⟨A', hd1, hd2, hd3⟩ := print_drop_of (P := Try.prog) (Value.int .u8) (0 : Int) 22 5 kl Try.underlying22 hi8 hs8 A c xs j h0 h1 hc
  exact ⟨_, A', _, rfl, hd1, fun W hr => ⟨A', _, rfl, hd3, hd2 W hr⟩, by rw [List.length_drop]; omega⟩
end Go.Proofs.Ytmdecbockpgagaa

/- Plain facts on numbers in bytes and texts behind their lengths. -/
namespace Go.Proofs.Ytmdecbockpgagaa
open Go.RowKit Go.Proofs.YtmdecbockpgagaaW.PrintWords

theorem val_append (xs ys : List Int) : val (xs ++ ys) = val xs + 2 ^ (8 * xs.length) * val ys := by
  induction xs with
  | nil => simp [val]
  | cons x xs ih =>
    simp only [List.cons_append, val, ih, List.length_cons]
    rw [show 8 * (xs.length + 1) = 8 * xs.length + 8 from by omega, Int.pow_add, show (2 : Int) ^ 8 = 256 from by decide, Int.mul_add, ← Int.mul_assoc, Int.mul_comm 256 (2 ^ (8 * xs.length))]
    omega
theorem val_le (n : Int) (k : Nat) : val (le n k) = n % 2 ^ (8 * k) := by
  induction k with
  | zero => simp [le, val, Int.emod_one]
  | succ k ih =>
    rw [le_snoc, val_append, ih, le_length]
    simp only [val]
    rw [show 8 * (k + 1) = 8 * k + 8 from by omega, Int.pow_add, show (2 : Int) ^ 8 = 256 from by decide]
    have hpos : (0 : Int) < 2 ^ (8 * k) := Int.pow_pos (by decide)
    generalize (2 : Int) ^ (8 * k) = p at hpos
    have h1 := Int.emod_add_mul_ediv n p
    have h2 := Int.emod_add_mul_ediv (n / p) 256
    have h3 := Int.emod_nonneg n (show p ≠ 0 from by omega)
    have h4 := Int.emod_lt_of_pos n hpos
    have h5 := Int.emod_nonneg (n / p) (show (256 : Int) ≠ 0 from by decide)
    have h6 := Int.emod_lt_of_pos (n / p) (show (0 : Int) < 256 from by decide)
    have h7 : n = (n % p + p * (n / p % 256)) + (p * 256) * (n / p / 256) := by
      rw [Int.mul_assoc, Int.add_assoc, ← Int.mul_add]
      rw [h2]; exact h1.symm
    have h8 : 0 ≤ p * (n / p % 256) := Int.mul_nonneg (Int.le_of_lt hpos) h5
    have h9 : p * (n / p % 256) ≤ p * 255 := Int.mul_le_mul_of_nonneg_left (by omega) (Int.le_of_lt hpos)
    have h10 : (n % p + p * (n / p % 256)) < p * 256 := by
      have : p * 256 = p * 255 + p := by rw [show (256 : Int) = 255 + 1 from rfl, Int.mul_add, Int.mul_one]
      omega
    have h11 : n % (p * 256) = n % p + p * (n / p % 256) := by
      conv => lhs; rw [h7]
      rw [Int.add_mul_emod_self_left]
      exact Int.emod_eq_of_lt (by omega) h10
    rw [h11, Int.mul_zero, Int.add_zero]
theorem le_two (n : Int) (h : 0 ≤ n) (h2 : n < 65536) : val (le n 2) = n := by
  rw [val_le]; exact Int.emod_eq_of_lt h (by simpa using h2)

/-- a text behind its length -/
def txt (s : ByteArray) : List Int := le (s.size : Int) 2 ++ bytesOf s
theorem txt_length (s : ByteArray) : (txt s).length = s.size + 2 := by simp [txt, le_length, bytesOf_length]; omega
theorem txt_by (s : ByteArray) : By (txt s) := (le_by _ _).append (bytesOf_by s)

theorem getT_txt (s : ByteArray) (hs : s.size < 65536) (rest : List Int) (most : Int) :
    getT (txt s ++ rest) most = if most < (s.size : Int) then ([], txt s ++ rest, 93) else (bytesOf s, rest, 0) := by
  have h1 : ¬ (txt s ++ rest).length < 2 := by rw [List.length_append, txt_length]; omega
  have h2 : (txt s ++ rest).take 2 = le (s.size : Int) 2 := by
    rw [txt, List.append_assoc, List.take_append_of_le_length (by rw [le_length]; omega), List.take_of_length_le (by rw [le_length]; omega)]
  have h3 : (txt s ++ rest).drop 2 = bytesOf s ++ rest := by
    rw [txt, List.append_assoc]; exact List.drop_left' (le_length _ _)
  unfold getT
  rw [if_neg h1, h2, h3, le_two _ (by omega) (by omega)]
  by_cases hm : most < (s.size : Int)
  · rw [if_pos hm, if_pos hm]
  · rw [if_neg hm, if_neg hm, if_neg (by rw [List.length_append, bytesOf_length]; omega)]
    have hl : (s.size : Int).toNat = (bytesOf s).length := by rw [bytesOf_length]; omega
    rw [hl, List.take_left, List.drop_left]
theorem getT_cut (s : ByteArray) (hs : s.size < 65536) (j : Nat) (hj : j < (txt s).length) (most : Int) (hm : (s.size : Int) ≤ most) :
    getT ((txt s).take j) most = ([], (txt s).take j, 10) := by
  have hl : ((txt s).take j).length = j := by rw [List.length_take]; omega
  unfold getT
  by_cases h1 : j < 2
  · rw [if_pos (by omega)]
  · have h2 : ((txt s).take j).take 2 = le (s.size : Int) 2 := by
      rw [List.take_take, Nat.min_eq_left (by omega), txt, List.take_append_of_le_length (by rw [le_length]; omega), List.take_of_length_le (by rw [le_length]; omega)]
    rw [if_neg (by omega), h2, le_two _ (by omega) (by omega), if_neg (by omega), if_pos]
    rw [List.length_drop, hl]
    rw [txt_length] at hj
    omega
theorem getN_le (n k : Int) (hk : 0 ≤ k ∧ k ≤ 8) (rest : List Int) : getN (le n k.toNat ++ rest) k = (n % 2 ^ (8 * k.toNat), rest, 0) := by
  have hw : crcW k = k := by unfold crcW; split <;> (try split) <;> omega
  unfold getN
  rw [hw, if_neg (by rw [List.length_append, le_length]; omega)]
  have h1 : (le n k.toNat ++ rest).take k.toNat = le n k.toNat := by
    rw [List.take_append_of_le_length (by rw [le_length]; omega), List.take_of_length_le (by rw [le_length]; omega)]
  have h2 : (le n k.toNat ++ rest).drop k.toNat = rest := by
    exact List.drop_left' (le_length _ _)
  rw [h1, h2, val_le]
end Go.Proofs.Ytmdecbockpgagaa
