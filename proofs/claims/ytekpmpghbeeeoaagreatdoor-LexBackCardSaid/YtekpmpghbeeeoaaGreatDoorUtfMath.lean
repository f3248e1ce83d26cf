import Derived.Test.YtekpmpghbeeeoaaGreatDoorBase
import Derived.Lib.DecodeN
import Derived.Lib.RuneBytes
/- The plain law of UTF-8: bytes to code points and back. -/
namespace Go.Proofs.YtekpmpghbeeeoaaGreatDoor
open Go.Lib

/-- The code point that begins bytes, and its width. -/
def dec (bs : List Int) : Nat × Nat := decodeN bs.length (bs.getD 0 0).toNat (bs.getD 1 0).toNat (bs.getD 2 0).toNat (bs.getD 3 0).toNat

theorem decodeN_width (n b0 b1 b2 b3 : Nat) (hn : 1 ≤ n) : 1 ≤ (decodeN n b0 b1 b2 b3).2 ∧ (decodeN n b0 b1 b2 b3).2 ≤ n ∧ (decodeN n b0 b1 b2 b3).2 ≤ 4 := by
  unfold decodeN
  repeat' split
  all_goals simp only
  all_goals omega
theorem dec_width {bs : List Int} (h : bs ≠ []) : 1 ≤ (dec bs).2 ∧ (dec bs).2 ≤ bs.length ∧ (dec bs).2 ≤ 4 :=
  decodeN_width _ _ _ _ _ (List.length_pos_iff.2 h)

/-- A code point, where it begins, whether it is well-formed. -/
abbrev Stp := Int × Nat × Bool
def isGood (d : Nat × Nat) : Bool := decide (d.1 ≠ 65533 ∨ 1 < d.2)
/-- The steps of bytes that begin at a place. -/
def stF : Nat → Nat → List Int → List Stp
  | 0, _, _ => []
  | f + 1, at_, bs => match bs with
    | [] => []
    | b :: t => (((dec (b :: t)).1 : Int), at_, isGood (dec (b :: t))) :: stF f (at_ + (dec (b :: t)).2) ((b :: t).drop (dec (b :: t)).2)
theorem stF_nil (f a : Nat) : stF f a [] = [] := by cases f <;> rfl
theorem stF_cons (f a : Nat) {bs : List Int} (h : bs ≠ []) : stF (f + 1) a bs = (((dec bs).1 : Int), a, isGood (dec bs)) :: stF f (a + (dec bs).2) (bs.drop (dec bs).2) := by
  cases bs with
  | nil => exact absurd rfl h
  | cons b t => rfl
/-- More fuel than bytes tells no more. -/
theorem stF_fuel : ∀ (f g a : Nat) (bs : List Int), bs.length ≤ f → bs.length ≤ g → stF f a bs = stF g a bs := by
  intro f
  induction f with
  | zero => intro g a bs h _; rw [List.eq_nil_of_length_eq_zero (Nat.le_zero.1 h), stF_nil, stF_nil]
  | succ f ih =>
    intro g a bs hf hg
    by_cases h : bs = []
    · subst h; rw [stF_nil, stF_nil]
    · have hl := List.length_pos_iff.2 h
      obtain ⟨g, rfl⟩ : ∃ g', g = g' + 1 := ⟨g - 1, by omega⟩
      have hw := dec_width h
      rw [stF_cons f a h, stF_cons g a h, ih g _ _ (by rw [List.length_drop]; omega) (by rw [List.length_drop]; omega)]
/-- The steps of bytes. -/
def steps (a : Nat) (bs : List Int) : List Stp := stF bs.length a bs
theorem steps_nil (a : Nat) : steps a [] = [] := rfl
theorem steps_cons (a : Nat) {bs : List Int} (h : bs ≠ []) : steps a bs = (((dec bs).1 : Int), a, isGood (dec bs)) :: steps (a + (dec bs).2) (bs.drop (dec bs).2) := by
  have hl := List.length_pos_iff.2 h
  have hw := dec_width h
  unfold steps
  obtain ⟨f, hf⟩ : ∃ f, bs.length = f + 1 := ⟨bs.length - 1, by omega⟩
  rw [hf, stF_cons f a h]
  congr 1
  exact stF_fuel _ _ _ _ (by rw [List.length_drop]; omega) (Nat.le_refl _)
theorem steps_length_le (a : Nat) : ∀ (bs : List Int), (steps a bs).length ≤ bs.length := by
  intro bs
  obtain ⟨n, hn⟩ : ∃ n, bs.length = n := ⟨_, rfl⟩
  induction n using Nat.strongRecOn generalizing bs a with
  | ind n ih =>
    by_cases h : bs = []
    · subst h; simp [steps_nil]
    · have hw := dec_width h
      rw [steps_cons a h, List.length_cons]
      have := ih (bs.drop (dec bs).2).length (by rw [List.length_drop]; omega) (a + (dec bs).2) (bs.drop (dec bs).2) rfl
      rw [List.length_drop] at this
      omega
/-- The code points alone. -/
def runes (bs : List Int) : List Int := (steps 0 bs).map (·.1)
def places (bs : List Int) : List Int := (steps 0 bs).map fun s => (s.2.1 : Int)
def allGood (bs : List Int) : Bool := (steps 0 bs).all (·.2.2)
theorem steps_shift : ∀ (bs : List Int) (a b : Nat), steps (a + b) bs = (steps a bs).map fun s => (s.1, s.2.1 + b, s.2.2) := by
  intro bs
  obtain ⟨n, hn⟩ : ∃ n, bs.length = n := ⟨_, rfl⟩
  induction n using Nat.strongRecOn generalizing bs with
  | ind n ih =>
    intro a b
    by_cases h : bs = []
    · subst h; simp [steps_nil]
    · have hw := dec_width h
      rw [steps_cons _ h, steps_cons a h, List.map_cons, show a + b + (dec bs).2 = a + (dec bs).2 + b from by omega,
        ih (bs.drop (dec bs).2).length (by rw [List.length_drop]; omega) _ rfl]
theorem runes_at (a : Nat) (bs : List Int) : (steps a bs).map (·.1) = runes bs := by
  have := steps_shift bs 0 a
  rw [Nat.zero_add] at this
  rw [this, runes, List.map_map]
  rfl
theorem good_at (a : Nat) (bs : List Int) : (steps a bs).all (·.2.2) = allGood bs := by
  have := steps_shift bs 0 a
  rw [Nat.zero_add] at this
  rw [this, allGood, List.all_map]
  rfl
theorem runes_nil : runes [] = [] := rfl
theorem runes_cons {bs : List Int} (h : bs ≠ []) : runes bs = ((dec bs).1 : Int) :: runes (bs.drop (dec bs).2) := by
  unfold runes
  rw [steps_cons 0 h, List.map_cons, runes_at]
  rfl
theorem allGood_nil : allGood [] = true := rfl
theorem allGood_cons {bs : List Int} (h : bs ≠ []) : allGood bs = (isGood (dec bs) && allGood (bs.drop (dec bs).2)) := by
  unfold allGood
  rw [steps_cons 0 h, List.all_cons, good_at]
  rfl

/-- What a number is as a code point. -/
def normR (r : Int) : Int := if r < 0 ∨ 1114111 < r ∨ (55296 ≤ r ∧ r ≤ 57343) then 65533 else r
def enc (r : Int) : List Int := encodeRuneZ r
def encs' (rs : List Int) : List Int := (rs.map enc).flatten
theorem enc_by (r : Int) : By (enc r) := encodeRuneZ_byte r
theorem enc_len (r : Int) : 1 ≤ (enc r).length ∧ (enc r).length ≤ 4 := by
  unfold enc encodeRuneZ
  repeat' split
  all_goals simp
theorem enc_ne (r : Int) : enc r ≠ [] := fun h => by have := (enc_len r).1; rw [h] at this; simp at this

theorem dec_one {a : Int} {t : List Int} : dec (a :: t) = decodeN (t.length + 1) a.toNat (t.getD 0 0).toNat (t.getD 1 0).toNat (t.getD 2 0).toNat := by
  unfold dec
  simp

/-- An encoded code point is read, whatever stands behind it. -/
theorem dec_enc (r : Int) (t : List Int) : ((dec (enc r ++ t)).1 : Int) = normR r ∧ (dec (enc r ++ t)).2 = (enc r).length := by
  unfold enc normR
  by_cases h1 : 0 ≤ r ∧ r ≤ 127
  · rw [encodeRuneZ_one h1.1 h1.2, List.cons_append, List.nil_append, dec_one, if_neg (by omega)]
    unfold decodeN
    rw [if_pos (by omega)]
    exact ⟨by simp only; omega, rfl⟩
  by_cases h2 : 128 ≤ r ∧ r ≤ 2047
  · rw [encodeRuneZ_two h2.1 h2.2, if_neg (by omega)]
    simp only [List.cons_append, List.nil_append, dec_one, List.length_cons, List.length_nil, List.getD_cons_zero, List.getD_cons_succ]
    unfold decodeN
    rw [if_neg (by omega), if_pos (by omega), if_pos (by omega)]
    exact ⟨by simp only; omega, rfl⟩
  by_cases h3 : (2048 ≤ r ∧ r < 55296) ∨ (57343 < r ∧ r ≤ 65535)
  · rw [encodeRuneZ_three h3, if_neg (by omega)]
    simp only [List.cons_append, List.nil_append, dec_one, List.length_cons, List.length_nil, List.getD_cons_zero, List.getD_cons_succ]
    unfold decodeN
    rw [if_neg (by omega), if_neg (by omega), if_pos (by omega), if_pos (by omega)]
    exact ⟨by simp only; omega, rfl⟩
  by_cases h4 : 65536 ≤ r ∧ r ≤ 1114111
  · rw [encodeRuneZ_four h4.1 h4.2, if_neg (by omega)]
    simp only [List.cons_append, List.nil_append, dec_one, List.length_cons, List.length_nil, List.getD_cons_zero, List.getD_cons_succ]
    unfold decodeN
    rw [if_neg (by omega), if_neg (by omega), if_neg (by omega), if_pos (by omega), if_pos (by omega)]
    exact ⟨by simp only; omega, rfl⟩
  · rw [encodeRuneZ_bad (by omega), if_pos (by omega)]
    simp only [List.cons_append, List.nil_append, dec_one, List.length_cons, List.length_nil, List.getD_cons_zero, List.getD_cons_succ]
    unfold decodeN
    rw [if_neg (by decide), if_neg (by simp), if_pos ⟨by decide, ⟨by omega, by decide⟩, by omega, by decide⟩, if_pos (by decide)]
    exact ⟨rfl, rfl⟩

theorem isGood_enc (r : Int) (t : List Int) : isGood (dec (enc r ++ t)) = true := by
  obtain ⟨h1, h2⟩ := dec_enc r t
  unfold isGood
  rw [decide_eq_true_iff, h2]
  by_cases h : (enc r).length = 1
  · left
    have hr : 0 ≤ r ∧ r ≤ 127 := by
      unfold enc encodeRuneZ at h
      repeat' split at h
      all_goals simp at h
      assumption
    unfold normR at h1
    rw [if_neg (by omega)] at h1
    omega
  · right
    have := (enc_len r).1
    omega
theorem steps_enc (a : Nat) (r : Int) (t : List Int) : steps a (enc r ++ t) = (normR r, a, true) :: steps (a + (enc r).length) t := by
  have hne : enc r ++ t ≠ [] := by simp [enc_ne r]
  obtain ⟨h1, h2⟩ := dec_enc r t
  rw [steps_cons a hne, h1, h2, isGood_enc, List.drop_append_of_le_length (Nat.le_refl _), List.drop_length, List.nil_append]
theorem encs'_cons (r : Int) (rs : List Int) : encs' (r :: rs) = enc r ++ encs' rs := rfl
theorem encs'_append (rs ss : List Int) : encs' (rs ++ ss) = encs' rs ++ encs' ss := by simp [encs']
theorem encs'_by (rs : List Int) : By (encs' rs) := by
  induction rs with
  | nil => exact fun _ h => by simp [encs'] at h
  | cons r rs ih => exact fun x hx => (List.mem_append.1 hx).elim (enc_by r x) (ih x)
theorem runes_enc (rs : List Int) (t : List Int) : runes (encs' rs ++ t) = rs.map normR ++ runes t := by
  induction rs with
  | nil => rfl
  | cons r rs ih =>
    unfold runes at *
    rw [encs'_cons, List.append_assoc, steps_enc, List.map_cons, runes_at, List.map_cons, List.cons_append]
    exact congrArg _ ih
theorem good_enc (rs : List Int) (t : List Int) : allGood (encs' rs ++ t) = allGood t := by
  induction rs with
  | nil => rfl
  | cons r rs ih =>
    unfold allGood at *
    rw [encs'_cons, List.append_assoc, steps_enc, List.all_cons, good_at, Bool.true_and]
    exact ih
theorem runes_encs (rs : List Int) : runes (encs' rs) = rs.map normR := by
  have := runes_enc rs []
  rwa [List.append_nil, runes_nil, List.append_nil] at this
theorem good_encs (rs : List Int) : allGood (encs' rs) = true := by
  have := good_enc rs []
  rwa [List.append_nil, allGood_nil] at this
end Go.Proofs.YtekpmpghbeeeoaaGreatDoor
