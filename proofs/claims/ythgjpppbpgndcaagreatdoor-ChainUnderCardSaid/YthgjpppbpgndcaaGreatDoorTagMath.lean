import Derived.Test.YthgjpppbpgndcaaGreatDoorTagBase
import Derived.Lib.Replace
import Derived.Lib.IndexMore
import Derived.Lib.Join
/- Splitting at hyphens, joining; low lines turned. -/
namespace Go.Proofs.YthgjpppbpgndcaaGreatDoor

def splitL : List UInt8 → List (List UInt8)
  | [] => [[]]
  | b :: l => if b = 45 then [] :: splitL l else match splitL l with
    | [] => [[b]]
    | p :: ps => (b :: p) :: ps
theorem splitL_ne (l : List UInt8) : splitL l ≠ [] := by
  cases l with
  | nil => simp [splitL]
  | cons b l =>
    unfold splitL
    split
    · simp
    · split <;> simp
theorem index_one_cons (b : UInt8) (l : List UInt8) (c : UInt8) : Lib.index (b :: l) [c] = if b = c then 0 else if Lib.index l [c] = -1 then -1 else Lib.index l [c] + 1 := by
  conv => lhs; unfold Lib.index
  by_cases h : b = c
  · subst h
    simp [List.isPrefixOf]
  · have h2 : ¬ c = b := fun e => h e.symm
    simp [List.isPrefixOf, h, h2]
theorem split_index (l : List UInt8) : (Lib.index l [45] = -1 ∧ splitL l = [l] ∧ (45 : UInt8) ∉ l) ∨
    ∃ i : Nat, i < l.length ∧ Lib.index l [45] = (i : Int) ∧ splitL l = l.take i :: splitL (l.drop (i + 1)) ∧ (45 : UInt8) ∉ l.take i ∧ l = l.take i ++ 45 :: l.drop (i + 1) := by
  induction l with
  | nil => exact .inl ⟨by simp [Lib.index], rfl, by simp⟩
  | cons b l ih =>
    rw [index_one_cons]
    by_cases h : b = 45
    · subst h
      exact .inr ⟨0, by simp, by simp, by simp [splitL], by simp, by simp⟩
    · have h2 : ¬ (45 : UInt8) = b := fun e => h e.symm
      rw [if_neg h]
      rcases ih with ⟨h1, h3, h4⟩ | ⟨i, hi, h1, h3, h4, h5⟩
      · rw [if_pos h1]
        exact .inl ⟨rfl, by unfold splitL; rw [if_neg h, h3], by simp [h2, h4]⟩
      · rw [h1, if_neg (by omega)]
        refine .inr ⟨i + 1, by simp; omega, by omega, ?_, by simp [h2, h4], ?_⟩
        · conv => lhs; unfold splitL
          rw [if_neg h, h3]
          rfl
        · rw [List.take_succ_cons, List.drop_succ_cons, List.cons_append, ← h5]
theorem splitL_none {l : List UInt8} (h : (45 : UInt8) ∉ l) : splitL l = [l] := by
  rcases split_index l with ⟨_, h1, _⟩ | ⟨i, _, _, _, _, h5⟩
  · exact h1
  · exact absurd (by rw [h5]; simp) h
theorem splitL_cons {p : List UInt8} (h : (45 : UInt8) ∉ p) (r : List UInt8) : splitL (p ++ 45 :: r) = p :: splitL r := by
  induction p with
  | nil => simp [splitL]
  | cons b p ih =>
    have hb : ¬ b = 45 := fun e => h (by rw [e]; simp)
    rw [List.cons_append]
    conv => lhs; unfold splitL
    rw [if_neg hb, ih (fun e => h (by simp [e]))]
/-- The parts, joined by hyphens. -/
def joinL : List (List UInt8) → List UInt8
  | [] => []
  | [p] => p
  | p :: q :: ps => p ++ 45 :: joinL (q :: ps)
theorem joinL_is (ps : List (List UInt8)) : Lib.join ps [45] = joinL ps := by
  induction ps with
  | nil => rfl
  | cons p ps ih =>
    cases ps with
    | nil => rw [Lib.join_one]; rfl
    | cons q ps =>
      rw [Lib.join_cons] at ih ⊢
      unfold joinL
      rw [← ih]
      unfold Lib.joinTail
      simp
theorem splitL_join : ∀ (ps : List (List UInt8)), ps ≠ [] → (∀ p ∈ ps, (45 : UInt8) ∉ p) → splitL (joinL ps) = ps
  | [], h, _ => absurd rfl h
  | [p], _, h => splitL_none (h p (by simp))
  | p :: q :: ps, _, h => by
    unfold joinL
    rw [splitL_cons (h p (by simp)), splitL_join (q :: ps) (by simp) (fun x hx => h x (by simp [hx]))]
theorem joinL_split (l : List UInt8) : joinL (splitL l) = l := by
  obtain ⟨n, hn⟩ : ∃ n, l.length = n := ⟨_, rfl⟩
  induction n using Nat.strongRecOn generalizing l with
  | ind n ih =>
    rcases split_index l with ⟨_, h1, _⟩ | ⟨i, hi, _, h3, _, h5⟩
    · rw [h1]; rfl
    · rw [h3]
      have hr := ih (l.drop (i + 1)).length (by rw [List.length_drop]; omega) _ rfl
      obtain ⟨q, ps, hq⟩ : ∃ q ps, splitL (l.drop (i + 1)) = q :: ps := by
        cases hs : splitL (l.drop (i + 1)) with
        | nil => exact absurd hs (splitL_ne _)
        | cons q ps => exact ⟨q, ps, rfl⟩
      rw [hq] at hr ⊢
      unfold joinL
      rw [hr]
      exact h5.symm
theorem split_parts (l : List UInt8) : ∀ p ∈ splitL l, (45 : UInt8) ∉ p ∧ ∀ b ∈ p, b ∈ l := by
  obtain ⟨n, hn⟩ : ∃ n, l.length = n := ⟨_, rfl⟩
  induction n using Nat.strongRecOn generalizing l with
  | ind n ih =>
    intro p hp
    rcases split_index l with ⟨_, h1, h2⟩ | ⟨i, hi, _, h3, h4, h5⟩
    · rw [h1] at hp
      obtain rfl : p = l := by simpa using hp
      exact ⟨h2, fun b hb => hb⟩
    · rw [h3] at hp
      rcases List.mem_cons.1 hp with rfl | hp
      · exact ⟨h4, fun b hb => List.mem_of_mem_take hb⟩
      · obtain ⟨h6, h7⟩ := ih (l.drop (i + 1)).length (by rw [List.length_drop]; omega) _ rfl p hp
        exact ⟨h6, fun b hb => List.mem_of_mem_drop (h7 b hb)⟩

/-! ### low lines -/
def dashU (b : UInt8) : UInt8 := if b = 95 then 45 else b
theorem index95 (l : List UInt8) : (Lib.index l [95] = -1 ∧ (95 : UInt8) ∉ l) ∨ ∃ i : Nat, i < l.length ∧ Lib.index l [95] = (i : Int) ∧ (95 : UInt8) ∉ l.take i ∧ l = l.take i ++ 95 :: l.drop (i + 1) := by
  induction l with
  | nil => exact .inl ⟨by simp [Lib.index], by simp⟩
  | cons b l ih =>
    rw [index_one_cons]
    by_cases h : b = 95
    · subst h
      exact .inr ⟨0, by simp, by simp, by simp, by simp⟩
    · have h2 : ¬ (95 : UInt8) = b := fun e => h e.symm
      rw [if_neg h]
      rcases ih with ⟨h1, h4⟩ | ⟨i, hi, h1, h4, h5⟩
      · rw [if_pos h1]
        exact .inl ⟨rfl, by simp [h2, h4]⟩
      · rw [h1, if_neg (by omega)]
        refine .inr ⟨i + 1, by simp; omega, by omega, by simp [h2, h4], ?_⟩
        rw [List.take_succ_cons, List.drop_succ_cons, List.cons_append, ← h5]
theorem dash_id {l : List UInt8} (h : (95 : UInt8) ∉ l) : l.map dashU = l := by
  conv => rhs; rw [← List.map_id l]
  exact List.map_congr_left (fun b hb => by unfold dashU; rw [if_neg (fun e => h (by rw [← e]; exact hb))]; rfl)
theorem replaceK_all : ∀ (k : Nat) (l : List UInt8), l.count 95 ≤ k → Lib.replaceK [95] [45] k l = l.map dashU
  | 0, l, h => by
    have : (95 : UInt8) ∉ l := fun e => by have := List.count_pos_iff.2 e; omega
    rw [dash_id this]
    rfl
  | k + 1, l, h => by
    rcases index95 l with ⟨h1, h2⟩ | ⟨i, hi, h1, h2, h3⟩
    · rw [dash_id h2]
      unfold Lib.replaceK
      rw [h1]
      rfl
    · rw [Lib.replaceK_hit _ _ _ _ i h1]
      have hc : (l.drop (i + 1)).count 95 ≤ k := by
        rw [h3, List.count_append, List.count_cons_self] at h
        omega
      rw [List.length_singleton, replaceK_all k _ hc]
      conv => rhs; rw [h3, List.map_append, List.map_cons, dash_id h2]
      simp [dashU]
end Go.Proofs.YthgjpppbpgndcaaGreatDoor
