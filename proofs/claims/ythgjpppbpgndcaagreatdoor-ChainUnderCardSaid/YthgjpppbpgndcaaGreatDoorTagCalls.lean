import Derived.Test.YthgjpppbpgndcaaGreatDoorTagCanon
import Derived.Test.YthgjpppbpgndcaaGreatDoorTagRefMath
import Derived.Shelf.Strings.LastIndex
/- tag.Canon, Is, Parts, Parent: contracts over lists of bytes. -/
namespace Go.Proofs.YthgjpppbpgndcaaGreatDoor
open Go.RowKit Go.Shelf Go.Proofs.YthgjpppbpgndcaaGreatDoorW.PrintWords Go.Proofs.YthgjpppbpgndcaaGreatDoorW.PrintMore

theorem tag_canon (l : List UInt8) (w : World) (hM : ML w) : Calls Tryz.prog 34 #[.string (S l)] w (CanonP w (canonL l)) :=
  callsIn_wide.1 (canon_in 1 l w hM)

/-! ### rows of strings -/
def RdL (w : World) (v : Value) (ss : List (List UInt8)) : Prop := ∃ A cap, v = .slice A ss.length cap ∧ ss.length ≤ cap ∧ (0 < ss.length → ∃ g, A = some ⟨g, 0, none⟩ ∧ g < w.heap.size ∧ ∀ (j : Nat) x, ss[j]? = some x → w.cell? ⟨g, j, none⟩ = some (.string (S x)))
theorem RdL.below {w w1 : World} {v : Value} {ss : List (List UInt8)} (h : RdL w v ss) (hb : Below w.heap.size w w1) : RdL w1 v ss := by
  obtain ⟨A, cap, rfl, hc, hr⟩ := h
  refine ⟨A, cap, rfl, hc, fun h0 => ?_⟩
  obtain ⟨g, rfl, hg, hr⟩ := hr h0
  exact ⟨g, rfl, by have := hb.size; omega, fun j x hx => pw_cell_below hb (hr j x hx)⟩
theorem RdL.nil (w : World) : RdL w (.slice none 0 0) [] := ⟨none, 0, rfl, Nat.le_refl _, fun h => absurd h (by simp)⟩
theorem OwnS.rd {w : World} {base : Nat} {v : Value} {ss : List (List UInt8)} (h : OwnS w base v ss) : RdL w v ss := by
  cases ss with
  | nil =>
    rcases h.2 with ⟨rfl, _⟩ | ⟨g, cap, cur, rfl, hb, hg, hc, _, _, _⟩
    · exact ⟨none, 0, rfl, Nat.le_refl _, fun h => absurd h (by simp)⟩
    · exact ⟨_, cap, rfl, by simp, fun h => absurd h (by simp)⟩
  | cons x ss =>
    obtain ⟨g, cap, rfl, hc, _, hg, hcell⟩ := h.shape (by simp)
    exact ⟨_, cap, rfl, hc, fun _ => ⟨g, rfl, hg, hcell⟩⟩

/-! ### strings.Split at hyphens -/
theorem splitB_is : ∀ (k : Nat) (l : List UInt8), l.count 45 ≤ k → Lib.splitB (S [45]) 0 k (S l) = (splitL l).map S
  | 0, l, h => by
    have : (45 : UInt8) ∉ l := fun e => by have := List.count_pos_iff.2 e; omega
    rw [splitL_none this]
    rfl
  | k + 1, l, h => by
    unfold Lib.splitB
    have hi : Lib.indexB (S l) (S [45]) = Lib.index l [45] := rfl
    rw [hi]
    rcases split_index l with ⟨h1, h2, h3⟩ | ⟨i, hi, h1, h2, h3, h4⟩
    · rw [h1, h2]; rfl
    · rw [h1, h2]
      have hn : ((i : Int) == -1) = false := by rw [beq_eq_false_iff_ne]; omega
      rw [hn]
      have hc : (l.drop (i + 1)).count 45 ≤ k := by
        rw [h4, List.count_append, List.count_cons_self] at h
        omega
      have e2 : (S l).extract (i + 1) (S l).size = S (l.drop (i + 1)) := by rw [S_size]; exact S_drop l (i + 1)
      simp only [Bool.false_eq_true, if_false, Int.toNat_natCast, Nat.add_zero, List.map_cons]
      rw [S_take, show (S [45]).size = 1 from rfl, e2, splitB_is k _ hc]
theorem countB_is (l : List UInt8) : Lib.countB (S l) (S [45]) = l.count 45 := Lib.count_one 45 l
theorem splitL_count (l : List UInt8) : (splitL l).length = l.count 45 + 1 := by
  have h := Lib.splitB_all (S [45]) (by decide) 0 _ (S l) rfl
  rw [countB_is, splitB_is _ _ (Nat.le_refl _), List.length_map] at h
  exact h
/-! ### the last hyphen -/
theorem splitL_app (a b : List UInt8) : splitL (a ++ 45 :: b) = splitL a ++ splitL b := by
  induction a with
  | nil => simp [splitL]
  | cons x a ih =>
    have e : ∀ (y : UInt8) (c : List UInt8), splitL (y :: c) = if y = 45 then [] :: splitL c else match splitL c with
        | [] => [[y]]
        | p :: ps => (y :: p) :: ps := fun _ _ => rfl
    rw [List.cons_append, e, e]
    by_cases h : x = 45
    · rw [if_pos h, if_pos h, ih, List.cons_append]
    · rw [if_neg h, if_neg h, ih]
      cases hs : splitL a with
      | nil => exact absurd hs (splitL_ne a)
      | cons p ps => rfl
/-- What the last hyphen's place is good for. -/
theorem last_is (l : List UInt8) : (Lib.lastIndexByte (S l) 45 = -1 ∧ (45 : UInt8) ∉ l) ∨
    ∃ i : Nat, i < l.length ∧ Lib.lastIndexByte (S l) 45 = (i : Int) ∧ l = l.take i ++ 45 :: l.drop (i + 1) ∧ (45 : UInt8) ∉ l.drop (i + 1) := by
  have hget : ∀ j (h : j < l.length), (S l).data[j]! = l[j] := fun j h => by
    show l.toArray[j]! = l[j]
    simp [h]
  have hb : ∀ b : UInt8, (b.toNat : Int) = 45 ↔ b = 45 := fun b => by
    constructor
    · intro h; exact UInt8.toNat_inj.1 (by show b.toNat = 45; omega)
    · rintro rfl; rfl
  rcases Lib.lastIdx_spec (S l) 45 (S l).size with ⟨h1, h2⟩ | ⟨i, hi, h1, h2, h3⟩
  · refine .inl ⟨h1, fun hm => ?_⟩
    obtain ⟨j, hj, e⟩ := List.getElem_of_mem hm
    refine h2 j (by rw [S_size]; exact hj) ?_
    rw [hget j hj, e]
    rfl
  · rw [S_size] at hi
    rw [hget i hi, hb] at h2
    refine .inr ⟨i, hi, h1, ?_, fun hm => ?_⟩
    · conv => lhs; rw [← List.take_append_drop i l, List.drop_eq_getElem_cons hi, h2]
    · obtain ⟨j, hj, e⟩ := List.getElem_of_mem hm
      rw [List.length_drop] at hj
      rw [List.getElem_drop] at e
      refine h3 (i + 1 + j) (by omega) (by rw [S_size]; omega) ?_
      rw [hget _ (by omega), e]
      rfl

/-! ### Is, Parts, Parent -/
def isC (l : List UInt8) : Bool := decide (canonL l = some l)
def partsL (l : List UInt8) : List (List UInt8) := if isC l = true then splitL l else []
def parentL (l : List UInt8) : List UInt8 := if isC l = true ∧ l ≠ rootL then (if (splitL l).length = 1 then rootL else joinL (splitL l).dropLast) else []

theorem tag_is (l : List UInt8) (w : World) (hM : ML w) : Calls Tryz.prog 18 #[.string (S l)] w fun e w' => e = .returned (.bool (isC l)) ∧ Below w.heap.size w w' := by
  have HC := Lib.hid (tag_canon l w hM)
  unfold isC
  cases hc : canonL l with
  | none =>
    rw [hc] at HC
    have hd : decide ((none : Option (List UInt8)) = some l) = false := by simp
    clear hc
    go_enter Tryz.func18, Tryz.ntmps18
    go_wp2_with fail
    refine HC.out.mono ?_
    rintro e w1 ⟨rfl, hb⟩
    go_wp2
    go_ret
    exact ⟨by rw [hd]; rfl, hb⟩
  | some c =>
    rw [hc] at HC
    have hr := S_eq c l
    by_cases h : c = l
    · have hd : decide (some c = some l) = true := by simp [h]
      rw [decide_eq_true h] at hr
      clear hc h
      go_enter Tryz.func18, Tryz.ntmps18
      go_wp2_with fail
      refine HC.out.mono ?_
      rintro e w1 ⟨rfl, hb⟩
      go_wp2
      go_ret
      exact ⟨by rw [hd]; rfl, hb⟩
    · have hd : decide (some c = some l) = false := by simp [h]
      rw [decide_eq_false h] at hr
      clear hc h
      go_enter Tryz.func18, Tryz.ntmps18
      go_wp2_with fail
      refine HC.out.mono ?_
      rintro e w1 ⟨rfl, hb⟩
      go_wp2
      go_ret
      exact ⟨by rw [hd]; rfl, hb⟩
theorem isC_len {l : List UInt8} (h : isC l = true) : l.length ≤ 40 := by
  unfold isC canonL at h
  by_cases h1 : 40 < l.length
  · rw [if_pos h1] at h
    simp at h
  · omega
theorem tag_parent (l : List UInt8) (hl : l.length ≤ 140737488351232) (w : World) (hM : ML w) : Calls Tryz.prog 56 #[.string (S l)] w fun e w' => e = .returned (.string (S (parentL l))) ∧ Below w.heap.size w w' := by
  have HC := Lib.hid (tag_is l w hM)
  have HL := Lib.hid (Any.strings_LastIndexByte TryzlayLast (S l) 45 (by rw [S_size]; omega) w)
  have hr := S_eq l rootL
  rw [show (S rootL).toList = [114, 111, 111, 116] from by first | rfl | decide +kernel] at hr
  unfold parentL
  cases hc : isC l with
  | false =>
    rw [hc] at HC
    rw [if_neg (by simp)]
    clear hc hr
    go_enter Tryz.func56, Tryz.ntmps56
    go_wp2_with fail
    refine HL.out.mono ?_
    rintro e w1 ⟨rfl, rfl⟩
    go_wp2_with fail
    refine HC.out.mono ?_
    rintro e w1 ⟨rfl, hb⟩
    go_wp2
    go_ret
    exact ⟨rfl, hb⟩
  | true =>
    rw [hc] at HC
    clear hc
    by_cases h : l = rootL
    · rw [decide_eq_true h] at hr
      rw [if_neg (by simp [h])]
      clear h
      go_enter Tryz.func56, Tryz.ntmps56
      go_wp2_with fail
      refine HL.out.mono ?_
      rintro e w1 ⟨rfl, rfl⟩
      go_wp2_with fail
      refine HC.out.mono ?_
      rintro e w1 ⟨rfl, hb⟩
      go_wp2
      go_ret
      exact ⟨rfl, hb⟩
    · rw [decide_eq_false h] at hr
      rw [if_pos ⟨rfl, h⟩]
      clear h
      rcases last_is l with ⟨h1, h2⟩ | ⟨i, hi, h1, h2, h3⟩
      · rw [h1] at HL
        rw [splitL_none h2, if_pos (by simp)]
        clear h1 h2
        go_enter Tryz.func56, Tryz.ntmps56
        go_wp2_with fail
        refine HL.out.mono ?_
        rintro e w1 ⟨rfl, rfl⟩
        go_wp2_with fail
        refine HC.out.mono ?_
        rintro e w1 ⟨rfl, hb⟩
        go_wp2
        go_ret
        exact ⟨rfl, hb⟩
      · rw [h1] at HL
        have hs : splitL l = splitL (l.take i) ++ [l.drop (i + 1)] := by
          conv => lhs; rw [h2]
          rw [splitL_app, splitL_none h3]
        have hn : (splitL l).length ≠ 1 := by
          have := List.length_pos_iff.2 (splitL_ne (l.take i))
          rw [hs, List.length_append, List.length_singleton]
          omega
        rw [if_neg hn, hs, List.dropLast_concat, joinL_split]
        have hx := run_take l i (by omega)
        have hi0 : ¬ (i : Int) < 0 := by omega
        clear hs hn h1 h2 h3
        go_enter Tryz.func56, Tryz.ntmps56
        go_wp2_with fail
        refine HL.out.mono ?_
        rintro e w1 ⟨rfl, rfl⟩
        go_wp2_with fail
        refine HC.out.mono ?_
        rintro e w1 ⟨rfl, hb⟩
        go_wp2
        go_ret
        exact ⟨rfl, hb⟩
end Go.Proofs.YthgjpppbpgndcaaGreatDoor
