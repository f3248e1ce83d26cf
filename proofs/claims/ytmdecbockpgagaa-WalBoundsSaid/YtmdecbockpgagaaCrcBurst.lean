import Derived.Test.YtmdecbockpgagaaCrcMath
/- Four bytes beside one another that were turned turn the sum: plain facts on bit vectors. -/
namespace Go.Proofs.Ytmdecbockpgagaa

theorem step_even (r : BitVec 32) (h : r.toNat % 2 = 0) : crcStep r = r >>> 1 := by
  have h1 : r &&& 1#32 = 0#32 := by
    apply BitVec.eq_of_toNat_eq
    rw [BitVec.toNat_and]
    simpa using h
  simp [crcStep, h1]
theorem step_odd (r : BitVec 32) (h : r.toNat % 2 = 1) : crcStep r = (r >>> 1) ^^^ 0xEDB88320#32 := by
  have h1 : r &&& 1#32 = 1#32 := by
    apply BitVec.eq_of_toNat_eq
    rw [BitVec.toNat_and]
    simpa using h
  rw [crcStep, h1]
  congr 1
theorem lowbit_xor (a b : BitVec 32) : (a ^^^ b).toNat % 2 = (a.toNat % 2 + b.toNat % 2) % 2 := by
  rw [BitVec.toNat_xor]
  have h := Nat.xor_mod_two_pow (a := a.toNat) (b := b.toNat) (n := 1)
  simp only [Nat.pow_one] at h
  rw [h]
  have h1 : a.toNat % 2 = 0 ∨ a.toNat % 2 = 1 := by omega
  have h2 : b.toNat % 2 = 0 ∨ b.toNat % 2 = 1 := by omega
  rcases h1 with h1 | h1 <;> rcases h2 with h2 | h2 <;> rw [h1, h2] <;> rfl
theorem shr_xor (a b : BitVec 32) : (a ^^^ b) >>> 1 = (a >>> 1) ^^^ (b >>> 1) := by
  ext i
  simp
theorem step_xor (a b : BitVec 32) : crcStep (a ^^^ b) = crcStep a ^^^ crcStep b := by
  have h1 : a.toNat % 2 = 0 ∨ a.toNat % 2 = 1 := by omega
  have h2 : b.toNat % 2 = 0 ∨ b.toNat % 2 = 1 := by omega
  have h3 := lowbit_xor a b
  rcases h1 with h1 | h1 <;> rcases h2 with h2 | h2 <;> rw [h1, h2] at h3
  · rw [step_even _ h3, step_even _ h1, step_even _ h2, shr_xor]
  · rw [step_odd _ h3, step_even _ h1, step_odd _ h2, shr_xor, BitVec.xor_assoc]
  · rw [step_odd _ h3, step_odd _ h1, step_even _ h2, shr_xor, BitVec.xor_assoc, BitVec.xor_assoc, BitVec.xor_comm (b >>> 1)]
  · rw [step_even _ h3, step_odd _ h1, step_odd _ h2, shr_xor]
    rw [BitVec.xor_assoc, BitVec.xor_comm (0xEDB88320#32), BitVec.xor_assoc (b >>> 1), BitVec.xor_self, BitVec.xor_zero]
theorem step_zero (r : BitVec 32) (h : crcStep r = 0#32) : r = 0#32 := by
  have h1 : r.toNat % 2 = 0 ∨ r.toNat % 2 = 1 := by omega
  rcases h1 with h1 | h1
  · rw [step_even _ h1] at h
    have h2 := congrArg BitVec.toNat h
    rw [BitVec.toNat_ushiftRight, Nat.shiftRight_eq_div_pow] at h2
    apply BitVec.eq_of_toNat_eq
    simp at h2 ⊢
    omega
  · rw [step_odd _ h1] at h
    have h2 : r >>> 1 = 0xEDB88320#32 := by
      have := congrArg (· ^^^ 0xEDB88320#32) h
      simpa [BitVec.xor_assoc] using this
    have h3 := congrArg BitVec.toNat h2
    rw [BitVec.toNat_ushiftRight, Nat.shiftRight_eq_div_pow] at h3
    have := r.isLt
    simp at h3
    omega
theorem steps_xor (k : Nat) (a b : BitVec 32) : crcSteps k (a ^^^ b) = crcSteps k a ^^^ crcSteps k b := by
  induction k with
  | zero => rfl
  | succ k ih => simp only [crcSteps, ih, step_xor]
theorem steps_zero (k : Nat) (r : BitVec 32) (h : crcSteps k r = 0#32) : r = 0#32 := by
  induction k with
  | zero => exact h
  | succ k ih => exact ih (step_zero _ h)
theorem xor_eq_zero (a b : BitVec 32) (h : a ^^^ b = 0#32) : a = b := by
  have := congrArg (· ^^^ b) h
  simpa [BitVec.xor_assoc] using this
theorem steps_inj (k : Nat) (a b : BitVec 32) (h : crcSteps k a = crcSteps k b) : a = b :=
  xor_eq_zero a b (steps_zero k _ (by rw [steps_xor, h, BitVec.xor_self]))
theorem steps_add (j k : Nat) (r : BitVec 32) : crcSteps j (crcSteps k r) = crcSteps (j + k) r := by
  induction j with
  | zero => simp [crcSteps]
  | succ j ih => rw [Nat.add_right_comm]; simp only [crcSteps, ih]
/-- what lies higher than the steps reach is shifted alone -/
theorem steps_high (k : Nat) : ∀ (m : Nat), m * 2 ^ k < 2 ^ 32 → crcSteps k (BitVec.ofNat 32 (m * 2 ^ k)) = BitVec.ofNat 32 m := by
  induction k with
  | zero => intro m _; simp [crcSteps]
  | succ k ih =>
    intro m h
    have h2 : m * 2 ^ (k + 1) = (m * 2) * 2 ^ k := by rw [Nat.pow_succ, Nat.mul_assoc, Nat.mul_comm 2]
    simp only [crcSteps]
    rw [h2, ih (m * 2) (by rw [← h2]; exact h)]
    have hm : m * 2 < 2 ^ 32 := by
      have : 1 ≤ 2 ^ k := Nat.one_le_two_pow
      calc m * 2 ≤ (m * 2) * 2 ^ k := Nat.le_mul_of_pos_right _ this
        _ = m * 2 ^ (k + 1) := h2.symm
        _ < 2 ^ 32 := h
    rw [step_even]
    · apply BitVec.eq_of_toNat_eq
      rw [BitVec.toNat_ushiftRight, Nat.shiftRight_eq_div_pow, BitVec.toNat_ofNat, BitVec.toNat_ofNat, Nat.mod_eq_of_lt hm, Nat.mod_eq_of_lt (by omega)]
      omega
    · rw [BitVec.toNat_ofNat, Nat.mod_eq_of_lt hm]
      omega
/-- Two registers that part, fed with the same bytes, part. -/
theorem fold_inj (xs : List Int) : ∀ (a b : BitVec 32), xs.foldl crcByte a = xs.foldl crcByte b → a = b := by
  induction xs with
  | nil => intro a b h; exact h
  | cons x xs ih =>
    intro a b h
    have h1 := steps_inj 8 _ _ (ih _ _ h)
    have := congrArg (· ^^^ BitVec.ofInt 32 x) h1
    simpa [BitVec.xor_assoc] using this
theorem byte_ofInt (x : Int) (h : 0 ≤ x ∧ x < 256) : BitVec.ofInt 32 x = BitVec.ofNat 32 x.toNat := by
  obtain ⟨n, rfl⟩ := Int.eq_ofNat_of_zero_le h.1
  simp
theorem fold4 (r : BitVec 32) (a b c d : Int) (ha : 0 ≤ a ∧ a < 256) (hb : 0 ≤ b ∧ b < 256) (hc : 0 ≤ c ∧ c < 256) (hd : 0 ≤ d ∧ d < 256) :
    [a, b, c, d].foldl crcByte r = crcSteps 32 (r ^^^ BitVec.ofNat 32 a.toNat ^^^ BitVec.ofNat 32 (b.toNat * 2 ^ 8) ^^^ BitVec.ofNat 32 (c.toNat * 2 ^ 16) ^^^ BitVec.ofNat 32 (d.toNat * 2 ^ 24)) := by
  simp only [List.foldl_cons, List.foldl_nil, crcByte, byte_ofInt _ ha, byte_ofInt _ hb, byte_ofInt _ hc, byte_ofInt _ hd]
  have h1 := steps_high 8 b.toNat (by omega)
  have h2 := steps_high 16 c.toNat (by omega)
  have h3 := steps_high 24 d.toNat (by omega)
  have s32 : ∀ x, crcSteps 32 x = crcSteps 8 (crcSteps 24 x) := fun x => (steps_add 8 24 x).symm
  have s24 : ∀ x, crcSteps 24 x = crcSteps 8 (crcSteps 16 x) := fun x => (steps_add 8 16 x).symm
  have s16 : ∀ x, crcSteps 16 x = crcSteps 8 (crcSteps 8 x) := fun x => (steps_add 8 8 x).symm
  rw [s32, steps_xor 24, h3, s24, steps_xor 16, h2, s16, steps_xor 8 _ (BitVec.ofNat 32 (b.toNat * _)), h1]
theorem word_inj (a b c d a' b' c' d' : Nat) (ha : a < 256) (hb : b < 256) (hc : c < 256) (hd : d < 256) (ha' : a' < 256) (hb' : b' < 256) (hc' : c' < 256) (hd' : d' < 256)
    (r : BitVec 32) (h : r ^^^ BitVec.ofNat 32 a ^^^ BitVec.ofNat 32 (b * 2 ^ 8) ^^^ BitVec.ofNat 32 (c * 2 ^ 16) ^^^ BitVec.ofNat 32 (d * 2 ^ 24) =
      r ^^^ BitVec.ofNat 32 a' ^^^ BitVec.ofNat 32 (b' * 2 ^ 8) ^^^ BitVec.ofNat 32 (c' * 2 ^ 16) ^^^ BitVec.ofNat 32 (d' * 2 ^ 24)) : a = a' ∧ b = b' ∧ c = c' ∧ d = d' := by
  have h0 := congrArg BitVec.toNat h
  simp only [BitVec.toNat_xor, BitVec.toNat_ofNat] at h0
  rw [Nat.mod_eq_of_lt (show a < 2 ^ 32 from by omega), Nat.mod_eq_of_lt (show b * 2 ^ 8 < 2 ^ 32 from by omega), Nat.mod_eq_of_lt (show c * 2 ^ 16 < 2 ^ 32 from by omega), Nat.mod_eq_of_lt (show d * 2 ^ 24 < 2 ^ 32 from by omega),
    Nat.mod_eq_of_lt (show a' < 2 ^ 32 from by omega), Nat.mod_eq_of_lt (show b' * 2 ^ 8 < 2 ^ 32 from by omega), Nat.mod_eq_of_lt (show c' * 2 ^ 16 < 2 ^ 32 from by omega), Nat.mod_eq_of_lt (show d' * 2 ^ 24 < 2 ^ 32 from by omega)] at h0
  generalize r.toNat = R at h0
  have key : ∀ i : Nat, (R / 2 ^ i % 2 ^ 8) ^^^ (a / 2 ^ i % 2 ^ 8) ^^^ (b * 2 ^ 8 / 2 ^ i % 2 ^ 8) ^^^ (c * 2 ^ 16 / 2 ^ i % 2 ^ 8) ^^^ (d * 2 ^ 24 / 2 ^ i % 2 ^ 8) =
      (R / 2 ^ i % 2 ^ 8) ^^^ (a' / 2 ^ i % 2 ^ 8) ^^^ (b' * 2 ^ 8 / 2 ^ i % 2 ^ 8) ^^^ (c' * 2 ^ 16 / 2 ^ i % 2 ^ 8) ^^^ (d' * 2 ^ 24 / 2 ^ i % 2 ^ 8) := by
    intro i
    have h1 := congrArg (fun x => x / 2 ^ i % 2 ^ 8) h0
    simpa only [Nat.xor_div_two_pow, Nat.xor_mod_two_pow] using h1
  have cancel : ∀ x y z : Nat, x ^^^ y = x ^^^ z → y = z := fun x y z e => by
    have := congrArg (x ^^^ ·) e
    simpa [← Nat.xor_assoc] using this
  have k0 := key 0
  have k1 := key 8
  have k2 := key 16
  have k3 := key 24
  rw [show a / 2 ^ 0 % 2 ^ 8 = a from by omega, show b * 2 ^ 8 / 2 ^ 0 % 2 ^ 8 = 0 from by omega, show c * 2 ^ 16 / 2 ^ 0 % 2 ^ 8 = 0 from by omega, show d * 2 ^ 24 / 2 ^ 0 % 2 ^ 8 = 0 from by omega,
    show a' / 2 ^ 0 % 2 ^ 8 = a' from by omega, show b' * 2 ^ 8 / 2 ^ 0 % 2 ^ 8 = 0 from by omega, show c' * 2 ^ 16 / 2 ^ 0 % 2 ^ 8 = 0 from by omega, show d' * 2 ^ 24 / 2 ^ 0 % 2 ^ 8 = 0 from by omega] at k0
  rw [show a / 2 ^ 8 % 2 ^ 8 = 0 from by omega, show b * 2 ^ 8 / 2 ^ 8 % 2 ^ 8 = b from by omega, show c * 2 ^ 16 / 2 ^ 8 % 2 ^ 8 = 0 from by omega, show d * 2 ^ 24 / 2 ^ 8 % 2 ^ 8 = 0 from by omega,
    show a' / 2 ^ 8 % 2 ^ 8 = 0 from by omega, show b' * 2 ^ 8 / 2 ^ 8 % 2 ^ 8 = b' from by omega, show c' * 2 ^ 16 / 2 ^ 8 % 2 ^ 8 = 0 from by omega, show d' * 2 ^ 24 / 2 ^ 8 % 2 ^ 8 = 0 from by omega] at k1
  rw [show a / 2 ^ 16 % 2 ^ 8 = 0 from by omega, show b * 2 ^ 8 / 2 ^ 16 % 2 ^ 8 = 0 from by omega, show c * 2 ^ 16 / 2 ^ 16 % 2 ^ 8 = c from by omega, show d * 2 ^ 24 / 2 ^ 16 % 2 ^ 8 = 0 from by omega,
    show a' / 2 ^ 16 % 2 ^ 8 = 0 from by omega, show b' * 2 ^ 8 / 2 ^ 16 % 2 ^ 8 = 0 from by omega, show c' * 2 ^ 16 / 2 ^ 16 % 2 ^ 8 = c' from by omega, show d' * 2 ^ 24 / 2 ^ 16 % 2 ^ 8 = 0 from by omega] at k2
  rw [show a / 2 ^ 24 % 2 ^ 8 = 0 from by omega, show b * 2 ^ 8 / 2 ^ 24 % 2 ^ 8 = 0 from by omega, show c * 2 ^ 16 / 2 ^ 24 % 2 ^ 8 = 0 from by omega, show d * 2 ^ 24 / 2 ^ 24 % 2 ^ 8 = d from by omega,
    show a' / 2 ^ 24 % 2 ^ 8 = 0 from by omega, show b' * 2 ^ 8 / 2 ^ 24 % 2 ^ 8 = 0 from by omega, show c' * 2 ^ 16 / 2 ^ 24 % 2 ^ 8 = 0 from by omega, show d' * 2 ^ 24 / 2 ^ 24 % 2 ^ 8 = d' from by omega] at k3
  simp only [Nat.xor_zero] at k0 k1 k2 k3
  exact ⟨cancel _ _ _ k0, cancel _ _ _ k1, cancel _ _ _ k2, cancel _ _ _ k3⟩
/-- A sum parts where four bytes beside one another part. -/
theorem crc_burst (pre post : List Int) (a b c d a' b' c' d' : Int) (ha : 0 ≤ a ∧ a < 256) (hb : 0 ≤ b ∧ b < 256) (hc : 0 ≤ c ∧ c < 256) (hd : 0 ≤ d ∧ d < 256)
    (ha' : 0 ≤ a' ∧ a' < 256) (hb' : 0 ≤ b' ∧ b' < 256) (hc' : 0 ≤ c' ∧ c' < 256) (hd' : 0 ≤ d' ∧ d' < 256) (s : BitVec 32)
    (h : crcMore s (pre ++ ([a, b, c, d] ++ post)) = crcMore s (pre ++ ([a', b', c', d'] ++ post))) : a = a' ∧ b = b' ∧ c = c' ∧ d = d' := by
  unfold crcMore at h
  have h1 := congrArg (~~~ ·) h
  simp only [BitVec.not_not, List.foldl_append] at h1
  have h2 := fold_inj post _ _ h1
  rw [fold4 _ a b c d ha hb hc hd, fold4 _ a' b' c' d' ha' hb' hc' hd'] at h2
  have h3 := steps_inj 32 _ _ h2
  obtain ⟨e1, e2, e3, e4⟩ := word_inj _ _ _ _ _ _ _ _ (by omega) (by omega) (by omega) (by omega) (by omega) (by omega) (by omega) (by omega) _ h3
  omega
end Go.Proofs.Ytmdecbockpgagaa
