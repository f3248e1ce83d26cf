import Derived.Test.YteebojnabifccaaFrame3
import Derived.Test.YteebojnabifccaaCrcFinds
/- Sealed frames in plain lists. -/
namespace Go.Proofs.Yteebojnabifccaa
open Go.RowKit Go.Proofs.YteebojnabifccaaW.PrintWords Go.Proofs.YteebojnabifccaaW.PrintMore

theorem unseal_frame (k k' : Int) (xs : List Int) (h : xs.length < 400000) : UnsealOk k' (frameB (k :: xs)) ↔ k' = k := by
  obtain ⟨a, b, c⟩ := frame_ok (k :: xs) [] h
  rw [List.append_nil] at a b c
  unfold UnsealOk
  rw [b, c]
  simp only [List.head?_cons, Option.some.injEq]
  exact ⟨fun h => h.2.2.symm, fun h => ⟨a, trivial, h.symm⟩⟩
theorem unseal_bears (k : Int) (xs : List Int) (h : xs.length < 400000) : (nextX (frameB (k :: xs))).tail = xs := by
  obtain ⟨a, b, c⟩ := frame_ok (k :: xs) [] h
  rw [List.append_nil] at b
  rw [b]; rfl
theorem unseal_cut (k k' : Int) (xs : List Int) (h : xs.length < 400000) (j : Nat) (hj : j < xs.length + 9) : ¬ UnsealOk k' ((frameB (k :: xs)).take j) := by
  intro hu
  have := frame_cut (k :: xs) [] h j (by simp; omega)
  rw [List.append_nil] at this
  exact this hu.1
theorem unseal_more (k k' y : Int) (xs : List Int) (h : xs.length < 400000) : ¬ UnsealOk k' (frameB (k :: xs) ++ [y]) := by
  intro hu
  obtain ⟨a, b, c⟩ := frame_ok (k :: xs) [y] h
  have := hu.2.1
  rw [c] at this
  simp at this
theorem By.set {xs : List Int} (h : By xs) (j : Nat) (y : Int) (hy : 0 ≤ y ∧ y < 256) : By (xs.set j y) := by
  intro x hx
  rcases List.mem_or_eq_of_mem_set hx with h1 | h1
  · exact h x h1
  · rw [h1]; exact hy
theorem set_eq_self {xs : List Int} {j : Nat} {y : Int} (hj : j < xs.length) (h : xs.set j y = xs) : y = xs.getD j 0 := by
  have h1 := congrArg (fun l => l[j]?) h
  simp only [List.getElem?_set_self hj] at h1
  rw [List.getD_eq_getElem?_getD, ← h1]; rfl
theorem frame_set (xs : List Int) (hx : By xs) (h : xs.length ≤ 400000) (j : Nat) (hj : j < xs.length + 8) (y : Int) (hy : 0 ≤ y ∧ y < 256) (hne : y ≠ (frameB xs).getD j 0) :
    ¬ (NextOk ((frameB xs).set j y) ∧ nextR ((frameB xs).set j y) = []) := by
  rintro ⟨ho, hr⟩
  have hn : (frameB xs).set j y ≠ frameB xs := fun e => hne (set_eq_self (by rw [frameB_length]; exact hj) e)
  revert ho hr hn
  rw [frameB_parts']
  obtain ⟨s, hs⟩ : ∃ s, le ((crcMore 0#32 (le (xs.length : Int) 4 ++ xs)).toNat : Int) 4 = s := ⟨_, rfl⟩
  have hsl : s.length = 4 := by rw [← hs, le_length]
  have hsb : By s := by rw [← hs]; exact le_by _ _
  have hll : (le (xs.length : Int) 4).length = 4 := le_length _ _
  rw [hs]
  rcases Nat.lt_or_ge j 4 with h4 | h4
  · rw [List.set_append, if_pos (by omega)]
    intro ho hr hn
    have hl' : ((le (xs.length : Int) 4).set j y).length = 4 := by rw [List.length_set]; exact hll
    rw [nextOk_parts _ _ _ hl' hsl] at ho
    rw [nextR_parts _ _ _ hl' hsl] at hr
    have hd := congrArg List.length hr
    rw [List.length_drop, List.length_nil] at hd
    have hb := val_bd _ ((le_by (xs.length : Int) 4).set j y hy)
    have hv : val ((le (xs.length : Int) 4).set j y) = val (le (xs.length : Int) 4) := by rw [val_len _ h]; omega
    have := val_inj _ _ ((le_by (xs.length : Int) 4).set j y hy) (le_by _ _) (by rw [List.length_set]) hv
    rw [this] at hn
    exact hn rfl
  · rw [List.set_append, if_neg (by omega), List.set_append, hll, hsl]
    by_cases h8 : j - 4 < 4
    · rw [if_pos h8]
      intro ho hr hn
      have hs' : (s.set (j - 4) y).length = 4 := by rw [List.length_set]; exact hsl
      rw [nextOk_parts _ _ _ hll hs', val_len _ h, Int.toNat_natCast, List.take_of_length_le (Nat.le_refl _), ← val_sum, hs] at ho
      have := val_inj _ _ hsb (hsb.set (j - 4) y hy) (by rw [List.length_set]) ho.2.2
      rw [← this] at hn
      exact hn rfl
    · rw [if_neg h8]
      intro ho hr hn
      refine frame_turned xs (xs.set (j - 4 - 4) y) hx (hx.set _ y hy) h (by rw [List.length_set]) (j - 4 - 4 + 1) (by omega) (fun i hi => ?_) (fun e => ?_) s hs.symm ho
      · rw [List.getElem?_set_ne (by omega)]
      · rw [← e] at hn; exact hn rfl
theorem unseal_turned (k k' : Int) (xs : List Int) (hx : By (k :: xs)) (h : xs.length < 400000) (j : Nat) (hj : j < xs.length + 9) (y : Int) (hy : 0 ≤ y ∧ y < 256) (hne : y ≠ (frameB (k :: xs)).getD j 0) :
    ¬ UnsealOk k' ((frameB (k :: xs)).set j y) := fun hu =>
  frame_set (k :: xs) hx h j (by simp; omega) y hy hne ⟨hu.1, hu.2.1⟩
theorem set_same {xs : List Int} {j : Nat} {y : Int} (hj : j < xs.length) (h : y = xs.getD j 0) : xs.set j y = xs := by
  rw [h, List.getD_eq_getElem?_getD, List.getElem?_eq_getElem hj]
  exact List.set_getElem_self hj
theorem idx_own (g n cap i : Nat) (hi : i < n) (W : World) : (Instr.indexAt 22 (.slice (some ⟨g, 0, none⟩) n cap) (.int .i64 (i : Int))).run Try.prog W = .ok (.pointer (some ⟨g, i, none⟩)) W := by
  have h2 : 0 ≤ (i : Int) ∧ (i : Int) < (n : Int) := ⟨by omega, by omega⟩
  have h3 : ({ block := g, off := 0, spot := none } : Addr).add i = ⟨g, i, none⟩ := by
    unfold Addr.add; split <;> simp_all
  go_simp
theorem own_set {W : World} {base g n cap : Nat} {xs : List Int} (h : W.ownsRow base 5 1 (.slice (some ⟨g, 0, none⟩) n cap) n (nums .u8 xs)) (i : Nat) (x : Int) :
    (W.setCell ⟨g, i, none⟩ (.int .u8 x)).ownsRow base 5 1 (.slice (some ⟨g, 0, none⟩) n cap) n (nums .u8 (xs.set i x)) := by
  have := (own_store h (i : Int) x).1
  rwa [Int.toNat_natCast] at this
theorem own_get {W : World} {base g n cap : Nat} {xs : List Int} (h : W.ownsRow base 5 1 (.slice (some ⟨g, 0, none⟩) n cap) n (nums .u8 xs)) (i : Nat) (hi : i < n) :
    W.cell? ⟨g, i, none⟩ = some (.int .u8 (rd xs (i : Int))) ∧ W.frozen? ⟨g, i, none⟩ = false := by
  have := own_at h (i : Int) (by omega) (by omega)
  rwa [Int.toNat_natCast] at this
end Go.Proofs.Yteebojnabifccaa
