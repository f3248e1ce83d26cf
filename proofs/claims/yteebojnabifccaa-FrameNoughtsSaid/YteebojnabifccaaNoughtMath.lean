import Derived.Test.YteebojnabifccaaSealMath
/- A frame cut off, one to four noughts at its end, in plain lists. -/
namespace Go.Proofs.Yteebojnabifccaa
open Go.RowKit Go.Proofs.YteebojnabifccaaW.PrintWords Go.Proofs.YteebojnabifccaaW.PrintMore

/-- j noughts from i on -/
def zeroed (cs : List Int) (i : Nat) : Nat → List Int
  | 0 => cs
  | j + 1 => (zeroed cs i j).set (i + j) 0
theorem zeroed_length (cs : List Int) (i : Nat) : ∀ j, (zeroed cs i j).length = cs.length := by
  intro j
  induction j with
  | zero => rfl
  | succ j ih => rw [zeroed, List.length_set, ih]
theorem zeroed_low (cs : List Int) (i : Nat) : ∀ j t, t < i → (zeroed cs i j)[t]? = cs[t]? := by
  intro j
  induction j with
  | zero => intro t _; rfl
  | succ j ih => intro t ht; rw [zeroed, List.getElem?_set_ne (by omega), ih t ht]
theorem zeroed_high (cs : List Int) (i : Nat) : ∀ j t, i ≤ t → t < i + j → t < cs.length → (zeroed cs i j)[t]? = some 0 := by
  intro j
  induction j with
  | zero => intro t h1 h2 _; omega
  | succ j ih =>
    intro t h1 h2 h3
    rw [zeroed]
    by_cases he : i + j = t
    · subst he; rw [List.getElem?_set_self (by rw [zeroed_length]; omega)]
    · rw [List.getElem?_set_ne he]; exact ih t h1 (by omega) h3
theorem zeroed_by (cs : List Int) (h : By cs) (i : Nat) : ∀ j, By (zeroed cs i j) := by
  intro j
  induction j with
  | zero => exact h
  | succ j ih => exact ih.set _ _ (by decide)

theorem nought_law (xs : List Int) (hx : By xs) (h : xs.length ≤ 200) (k n : Nat) (hk : k ≤ xs.length + 9) (h4 : n ≤ 4) (hn : n ≤ xs.length + 1) (hnk : n ≤ k)
    (Z : List Int) (hZ : By Z) (hl : Z.length = k) (hlo : ∀ i, i < k - n → Z[i]? = (frameB (xs ++ [7]))[i]?) (hhi : ∀ i, k - n ≤ i → i < k → Z[i]? = some 0) :
    NextOk Z ↔ (k = xs.length + 9 ∧ n = 0) := by
  have hxl : (xs ++ [7]).length = xs.length + 1 := by simp
  have hF := frameB_length (xs ++ [7])
  rw [hxl] at hF
  by_cases h8 : k < 8
  · exact ⟨fun ho => absurd ho (short_bad Z (by omega)), fun ⟨a, _⟩ => by omega⟩
  have hp := frameB_parts' (xs ++ [7])
  rw [hxl] at hp
  have e4 : Z.take 4 = le ((xs.length + 1 : Nat) : Int) 4 := by
    have : (frameB (xs ++ [7])).take 4 = le ((xs.length + 1 : Nat) : Int) 4 := by rw [hp]; exact parts_take _ _ _ (le_length _ _)
    rw [← this]
    apply List.ext_getElem?
    intro i
    rw [List.getElem?_take, List.getElem?_take]
    split
    · exact hlo i (by omega)
    · rfl
  by_cases hkl : k < xs.length + 9
  · refine ⟨fun ho => ?_, fun ⟨a, _⟩ => by omega⟩
    have := ho.2.2.1
    rw [e4, val_len _ (by omega)] at this
    omega
  obtain rfl : k = xs.length + 9 := by omega
  by_cases h0 : n = 0
  · subst h0
    have : Z = frameB (xs ++ [7]) := by
      apply List.ext_getElem?
      intro i
      rcases Nat.lt_or_ge i (xs.length + 9) with hi | hi
      · exact hlo i (by omega)
      · rw [List.getElem?_eq_none (by omega), List.getElem?_eq_none (by omega)]
    rw [this]
    have hok := (frame_ok (xs ++ [7]) [] (by omega)).1
    rw [List.append_nil] at hok
    exact ⟨fun _ => ⟨rfl, rfl⟩, fun _ => hok⟩
  refine ⟨fun ho => ?_, fun ⟨_, a⟩ => absurd a h0⟩
  exfalso
  have em : (Z.drop 4).take 4 = le ((crcMore 0#32 (le ((xs ++ [7]).length : Int) 4 ++ (xs ++ [7]))).toNat : Int) 4 := by
    have : ((frameB (xs ++ [7])).drop 4).take 4 = le ((crcMore 0#32 (le ((xs ++ [7]).length : Int) 4 ++ (xs ++ [7]))).toNat : Int) 4 := by rw [frameB_parts']; exact parts_mid _ _ _ (le_length _ _) (le_length _ _)
    rw [← this]
    apply List.ext_getElem?
    intro i
    rw [List.getElem?_take, List.getElem?_take]
    split
    · rw [List.getElem?_drop, List.getElem?_drop]; exact hlo _ (by omega)
    · rfl
  have hsplit : Z = Z.take 4 ++ ((Z.drop 4).take 4 ++ Z.drop 8) := by
    conv => lhs; rw [← List.take_append_drop 4 Z, ← List.take_append_drop 4 (Z.drop 4), List.drop_drop]
  have hdl : (Z.drop 8).length = xs.length + 1 := by rw [List.length_drop]; omega
  have hpay : ∀ j, (xs ++ [7])[j]? = (frameB (xs ++ [7]))[8 + j]? := fun j => by
    have : (frameB (xs ++ [7])).drop 8 = xs ++ [7] := by rw [frameB_parts']; exact parts_drop _ _ _ (le_length _ _) (le_length _ _)
    rw [← List.getElem?_drop, this]
  have hne : xs ++ [7] ≠ Z.drop 8 := by
    intro e
    have h1 := congrArg (fun l => l[xs.length]?) e
    simp only [List.getElem?_drop] at h1
    rw [hhi (8 + xs.length) (by omega) (by omega)] at h1
    simp at h1
  have := frame_turned (xs ++ [7]) (Z.drop 8) (hx.append (by decide)) (hZ.drop 8) (by omega) (by omega) (xs.length + 1) (by omega) (fun j hj => ?_) hne _ em
  · rw [hxl, ← e4, ← hsplit] at this
    exact this ho
  · rw [List.getElem?_drop]
    rcases hj with hj | hj
    · rw [hpay, hlo _ (by omega)]
    · rw [List.getElem?_eq_none (by omega), List.getElem?_eq_none (by omega)]

theorem noughts_bad (m : Nat) : ¬ NextOk (List.replicate m (0 : Int)) := by
  intro ho
  have h8 := ho.1
  rw [List.length_replicate] at h8
  have hv : ∀ a : Nat, val (List.replicate a (0 : Int)) = 0 := by
    intro a
    induction a with
    | zero => rfl
    | succ a ih => rw [List.replicate_succ]; simp only [val]; omega
  have h3 := ho.2.2.2
  have e1 : (List.replicate m (0 : Int)).take 4 = [0, 0, 0, 0] := by rw [List.take_replicate, Nat.min_eq_left (by omega)]; rfl
  have e2 : ((List.replicate m (0 : Int)).drop 4).take 4 = List.replicate 4 0 := by rw [List.drop_replicate, List.take_replicate, Nat.min_eq_left (by omega)]
  have e3 : nextX (List.replicate m (0 : Int)) = [] := by unfold nextX; rw [e1]; simp [val]
  rw [e1, e2, e3, hv] at h3
  revert h3
  decide +kernel
end Go.Proofs.Yteebojnabifccaa
