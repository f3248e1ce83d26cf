import Derived.Test.YtmdecbockpgagaaFrame2
import Derived.Test.YtmdecbockpgagaaCrcBurst
/- Frames in plain lists: what a frame bears, a frame cut off, a frame with bytes turned. -/
namespace Go.Proofs.Ytmdecbockpgagaa
open Go.RowKit Go.Proofs.YtmdecbockpgagaaW.PrintWords Go.Proofs.YtmdecbockpgagaaW.PrintMore

theorem four_cut (xs : List Int) (i : Nat) (h : i + 4 ≤ xs.length) :
    xs = xs.take i ++ ([xs[i]'(by omega), xs[i+1]'(by omega), xs[i+2]'(by omega), xs[i+3]'(by omega)] ++ xs.drop (i + 4)) := by
  have h1 : xs.drop i = xs[i]'(by omega) :: xs.drop (i + 1) := List.drop_eq_getElem_cons (by omega)
  have h2 : xs.drop (i + 1) = xs[i+1]'(by omega) :: xs.drop (i + 2) := List.drop_eq_getElem_cons (by omega)
  have h3 : xs.drop (i + 2) = xs[i+2]'(by omega) :: xs.drop (i + 3) := List.drop_eq_getElem_cons (by omega)
  have h4 : xs.drop (i + 3) = xs[i+3]'(by omega) :: xs.drop (i + 4) := List.drop_eq_getElem_cons (by omega)
  conv => lhs; rw [← List.take_append_drop i xs, h1, h2, h3, h4]
  rfl

/-- Of bytes that differ in four places beside one another the sums differ. -/
theorem crc_window (s : BitVec 32) (xs ys : List Int) (hx : By xs) (hy : By ys) (hl : xs.length = ys.length) (i : Nat) (hi : i + 4 ≤ xs.length)
    (he : ∀ j, j < i ∨ i + 4 ≤ j → xs[j]? = ys[j]?) (h : crcMore s xs = crcMore s ys) : xs = ys := by
  have e1 := four_cut xs i hi
  have e2 := four_cut ys i (by omega)
  have h1 : xs.take i = ys.take i := by
    apply List.ext_getElem?
    intro j
    rw [List.getElem?_take, List.getElem?_take]
    split
    · exact he j (.inl ‹_›)
    · rfl
  have h2 : xs.drop (i + 4) = ys.drop (i + 4) := by
    apply List.ext_getElem?
    intro j
    rw [List.getElem?_drop, List.getElem?_drop]
    exact he _ (.inr (by omega))
  have hb := fun (j : Nat) (hj : j < xs.length) => hx _ (List.getElem_mem hj)
  have hb' := fun (j : Nat) (hj : j < ys.length) => hy _ (List.getElem_mem hj)
  rw [e1, e2, h1, h2] at h
  obtain ⟨a, b, c, d⟩ := crc_burst (ys.take i) (ys.drop (i + 4)) _ _ _ _ _ _ _ _ (hb i (by omega)) (hb (i+1) (by omega)) (hb (i+2) (by omega)) (hb (i+3) (by omega))
    (hb' i (by omega)) (hb' (i+1) (by omega)) (hb' (i+2) (by omega)) (hb' (i+3) (by omega)) s h
  rw [e1, e2, h1, h2, a, b, c, d]

theorem val_inj : ∀ (xs ys : List Int), By xs → By ys → xs.length = ys.length → val xs = val ys → xs = ys := by
  intro xs
  induction xs with
  | nil => intro ys _ _ hl _; exact (List.eq_nil_of_length_eq_zero hl.symm).symm
  | cons x xs ih =>
    intro ys hx hy hl hv
    cases ys with
    | nil => simp at hl
    | cons y ys =>
      have a := hx x (by simp)
      have b := hy y (by simp)
      simp only [val] at hv
      have e : x = y := by omega
      subst e
      rw [ih ys (fun z hz => hx z (by simp [hz])) (fun z hz => hy z (by simp [hz])) (by simpa using hl) (by omega)]

theorem parts_take (l s t : List Int) (hl : l.length = 4) : (l ++ (s ++ t)).take 4 = l := by
  rw [List.take_append_of_le_length (by omega), List.take_of_length_le (by omega)]
theorem parts_mid (l s t : List Int) (hl : l.length = 4) (hs : s.length = 4) : ((l ++ (s ++ t)).drop 4).take 4 = s := by
  rw [List.drop_append_of_le_length (by omega), List.drop_of_length_le (by omega), List.nil_append, List.take_append_of_le_length (by omega), List.take_of_length_le (by omega)]
theorem parts_drop (l s t : List Int) (hl : l.length = 4) (hs : s.length = 4) : (l ++ (s ++ t)).drop 8 = t := by
  rw [← List.append_assoc, List.drop_append_of_le_length (by rw [List.length_append]; omega), List.drop_of_length_le (by rw [List.length_append]; omega), List.nil_append]
theorem nextX_parts (l s t : List Int) (hl : l.length = 4) (hs : s.length = 4) : nextX (l ++ (s ++ t)) = t.take (val l).toNat := by
  unfold nextX; rw [parts_take _ _ _ hl, parts_drop _ _ _ hl hs]
theorem nextR_parts (l s t : List Int) (hl : l.length = 4) (hs : s.length = 4) : nextR (l ++ (s ++ t)) = t.drop (val l).toNat := by
  unfold nextR; rw [parts_take _ _ _ hl, parts_drop _ _ _ hl hs]
theorem nextOk_parts (l s t : List Int) (hl : l.length = 4) (hs : s.length = 4) :
    NextOk (l ++ (s ++ t)) ↔ val l ≤ 400000 ∧ val l ≤ t.length ∧ ((crcMore 0#32 (l ++ t.take (val l).toNat)).toNat : Int) = val s := by
  unfold NextOk
  rw [nextX_parts _ _ _ hl hs, parts_take _ _ _ hl, parts_mid _ _ _ hl hs]
  simp only [List.length_append, hl, hs]
  constructor
  · rintro ⟨_, a, b, c⟩; exact ⟨a, by omega, c⟩
  · rintro ⟨a, b, c⟩; exact ⟨by omega, a, by omega, c⟩

theorem frameB_parts (xs t : List Int) : frameB xs ++ t = le (xs.length : Int) 4 ++ (le ((crcMore 0#32 (le (xs.length : Int) 4 ++ xs)).toNat : Int) 4 ++ (xs ++ t)) := by
  unfold frameB; simp only [List.append_assoc]
theorem frameB_parts' (xs : List Int) : frameB xs = le (xs.length : Int) 4 ++ (le ((crcMore 0#32 (le (xs.length : Int) 4 ++ xs)).toNat : Int) 4 ++ xs) := by
  unfold frameB; simp only [List.append_assoc]
theorem frameB_length (xs : List Int) : (frameB xs).length = xs.length + 8 := by
  rw [frameB_parts']; simp only [List.length_append, le_length]; omega
theorem frameB_by (xs : List Int) (h : By xs) : By (frameB xs) := ((le_by _ _).append (le_by _ _)).append h
theorem val_len (n : Nat) (h : n ≤ 400000) : val (le (n : Int) 4) = n := by
  rw [val_le, show (2 : Int) ^ (8 * 4) = 4294967296 from by decide]; omega
theorem val_sum (r : BitVec 32) : val (le (r.toNat : Int) 4) = r.toNat := by
  have := r.isLt
  rw [val_le, show (2 : Int) ^ (8 * 4) = 4294967296 from by decide]; omega

theorem frame_ok (xs t : List Int) (h : xs.length ≤ 400000) : NextOk (frameB xs ++ t) ∧ nextX (frameB xs ++ t) = xs ∧ nextR (frameB xs ++ t) = t := by
  rw [frameB_parts]
  rw [nextOk_parts _ _ _ (le_length _ _) (le_length _ _), nextX_parts _ _ _ (le_length _ _) (le_length _ _), nextR_parts _ _ _ (le_length _ _) (le_length _ _)]
  rw [val_len _ h, val_sum, Int.toNat_natCast, List.take_append_of_le_length (by omega), List.take_of_length_le (by omega), List.drop_append_of_le_length (by omega), List.drop_of_length_le (by omega)]
  exact ⟨⟨by omega, by rw [List.length_append]; omega, rfl⟩, rfl, rfl⟩

/-- A frame cut off is none. -/
theorem frame_cut (xs t : List Int) (h : xs.length ≤ 400000) (k : Nat) (hk : k < xs.length + 8) : ¬ NextOk ((frameB xs ++ t).take k) := by
  intro hn
  have h8 := hn.1
  rw [List.length_take] at h8
  have h9 := hn.2.2.1
  rw [List.take_take, Nat.min_eq_left (by omega), frameB_parts, parts_take _ _ _ (le_length _ _), val_len _ h, ← frameB_parts, List.length_take] at h9
  omega
theorem short_bad (bs : List Int) (h : bs.length < 8) : ¬ NextOk bs := fun hn => absurd hn.1 (by omega)

/-- A frame some of whose four bytes beside one another were turned, its length as it was: none. -/
theorem frame_turned (xs ys : List Int) (hx : By xs) (hy : By ys) (h : xs.length ≤ 400000) (hl : xs.length = ys.length) (i : Nat) (hi : i ≤ xs.length)
    (he : ∀ j, j + 4 < i ∨ i ≤ j → xs[j]? = ys[j]?) (hne : xs ≠ ys) (s : List Int) (hs : s = le ((crcMore 0#32 (le (xs.length : Int) 4 ++ xs)).toNat : Int) 4) :
    ¬ NextOk (le (xs.length : Int) 4 ++ (s ++ ys)) := by
  subst hs
  rw [nextOk_parts _ _ _ (le_length _ _) (le_length _ _), val_len _ h, val_sum, Int.toNat_natCast, List.take_of_length_le (by omega)]
  rintro ⟨_, _, hc⟩
  apply hne
  have hc' : crcMore 0#32 (le (xs.length : Int) 4 ++ ys) = crcMore 0#32 (le (xs.length : Int) 4 ++ xs) := BitVec.eq_of_toNat_eq (by exact_mod_cast hc)
  have := crc_window 0#32 _ _ ((le_by _ _).append hx) ((le_by _ _).append hy) (by simp only [List.length_append]; omega) i (by simp only [List.length_append, le_length]; omega) (fun j hj => ?_) hc'.symm
  · exact List.append_cancel_left this
  · rcases Nat.lt_or_ge j 4 with h4 | h4
    · rw [List.getElem?_append_left (by rw [le_length]; omega), List.getElem?_append_left (by rw [le_length]; omega)]
    · rw [List.getElem?_append_right (by rw [le_length]; omega), List.getElem?_append_right (by rw [le_length]; omega)]
      rw [le_length]
      refine he _ ?_
      omega
end Go.Proofs.Ytmdecbockpgagaa
