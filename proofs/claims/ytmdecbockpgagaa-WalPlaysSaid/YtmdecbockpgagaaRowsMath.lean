import Derived.Test.YtmdecbockpgagaaAll
/- The plain law of rows of frames: cut off anywhere they bear all that are whole. -/
namespace Go.Proofs.Ytmdecbockpgagaa

theorem restAt_next (bs : List Int) : ∀ i, restAt bs (i + 1) = restAt (nextR bs) i
  | 0 => rfl
  | i + 1 => by
    show nextR (restAt bs (i + 1)) = nextR (restAt (nextR bs) i)
    rw [restAt_next bs i]
theorem AllN.succ {bs : List Int} {n : Nat} (h : NextOk bs) (hn : AllN (nextR bs) n) : AllN bs (n + 1) := by
  refine ⟨fun i hi => ?_, by rw [restAt_next]; exact hn.2⟩
  cases i with
  | zero => exact h
  | succ i => rw [restAt_next]; exact hn.1 i (by omega)
theorem AllN.unique {bs : List Int} {a b : Nat} (h : AllN bs a) (k : AllN bs b) : a = b := by
  rcases Nat.lt_trichotomy a b with hl | hl | hl
  · exact absurd (k.1 a hl) h.2
  · exact hl
  · exact absurd (h.1 b hl) k.2
theorem rowsOf_succ (bs : List Int) (n : Nat) : rowsOf bs (n + 1) = nextX bs :: rowsOf (nextR bs) n := by
  unfold rowsOf
  rw [List.range_succ_eq_map]
  simp only [List.map_cons, List.map_map]
  refine List.cons_eq_cons.2 ⟨rfl, List.map_congr_left (fun i _ => ?_)⟩
  show nextX (restAt bs (i + 1)) = _
  rw [restAt_next]
theorem rowsOf_snoc (bs : List Int) (n : Nat) : rowsOf bs (n + 1) = rowsOf bs n ++ [nextX (restAt bs n)] := by
  unfold rowsOf
  rw [List.range_succ, List.map_append]
  rfl

/-- All frames one behind the other. -/
def fcat : List (List Int) → List Int
  | [] => []
  | x :: xs => frameB x ++ fcat xs
/-- Where the n-th of them begins. -/
def fsum : List (List Int) → Nat → Nat
  | _, 0 => 0
  | [], _ + 1 => 0
  | x :: xs, n + 1 => x.length + 8 + fsum xs n
theorem fcat_length : ∀ ls, (fcat ls).length = fsum ls ls.length
  | [] => rfl
  | x :: xs => by
    show (frameB x ++ fcat xs).length = x.length + 8 + fsum xs xs.length
    rw [List.length_append, frameB_length, fcat_length xs]
theorem fsum_take : ∀ (ls : List (List Int)) (i n : Nat), n ≤ i → fsum (ls.take i) n = fsum ls n
  | _, _, 0, _ => by simp [fsum]
  | [], i, n + 1, _ => by simp
  | x :: xs, i + 1, n + 1, h => by
    show x.length + 8 + fsum (xs.take i) n = x.length + 8 + fsum xs n
    rw [fsum_take xs i n (by omega)]
theorem fsum_snoc : ∀ (ls : List (List Int)) (i : Nat), i < ls.length → fsum ls (i + 1) = fsum ls i + ((ls.getD i []).length + 8)
  | [], i, h => absurd h (by simp)
  | x :: xs, 0, _ => by
    cases xs <;> simp [fsum]
  | x :: xs, i + 1, h => by
    show x.length + 8 + fsum xs (i + 1) = x.length + 8 + fsum xs i + (((x :: xs).getD (i + 1) []).length + 8)
    rw [fsum_snoc xs i (by simpa using h)]
    simp only [List.getD_cons_succ]
    omega
theorem fcat_snoc : ∀ (ls : List (List Int)) (i : Nat), i < ls.length → fcat (ls.take (i + 1)) = fcat (ls.take i) ++ frameB (ls.getD i [])
  | [], i, h => absurd h (by simp)
  | x :: xs, 0, _ => by simp [fcat]
  | x :: xs, i + 1, h => by
    show frameB x ++ fcat (xs.take (i + 1)) = frameB x ++ fcat (xs.take i) ++ _
    rw [fcat_snoc xs i (by simpa using h), List.append_assoc]
    rfl
theorem fsum_mono (ls : List (List Int)) {a b : Nat} (h : a ≤ b) (hb : b ≤ ls.length) : fsum ls a ≤ fsum ls b := by
  induction b with
  | zero => rw [Nat.le_zero.1 h]; exact Nat.le_refl _
  | succ b ih =>
    rcases Nat.lt_or_ge a (b + 1) with h' | h'
    · have := ih (by omega) (by omega)
      rw [fsum_snoc ls b (by omega)]
      omega
    · rw [show a = b + 1 from by omega]; exact Nat.le_refl _
theorem fcat_by {ls : List (List Int)} (h : ∀ l ∈ ls, By l) : By (fcat ls) := by
  induction ls with
  | nil => exact By.nil
  | cons x xs ih => exact (frameB_by x (h x (by simp))).append (ih (fun l hl => h l (by simp [hl])))

theorem rows_law : ∀ (ls : List (List Int)), (∀ l ∈ ls, l.length ≤ 400000) → ∀ k n, n ≤ ls.length → fsum ls n ≤ k → k ≤ (fcat ls).length → (n = ls.length ∨ k < fsum ls (n + 1)) →
    AllN ((fcat ls).take k) n ∧ rowsOf ((fcat ls).take k) n = ls.take n ∧ (restAt ((fcat ls).take k) n).length + fsum ls n = k := by
  intro ls
  induction ls with
  | nil =>
    intro _ k n hn _ hk _
    obtain rfl : n = 0 := by simpa using hn
    obtain rfl : k = 0 := by simpa [fcat] using hk
    exact ⟨⟨fun i h => absurd h (by omega), short_bad _ (by simp [restAt, fcat])⟩, rfl, rfl⟩
  | cons x xs ih =>
    intro hl k n hn hs hk hor
    have hx : x.length ≤ 400000 := hl x (by simp)
    cases n with
    | zero =>
      have hk2 : k < x.length + 8 := by
        rcases hor with h | h
        · simp at h
        · simpa [fsum] using h
      refine ⟨⟨fun i h => absurd h (by omega), frame_cut x (fcat xs) hx k hk2⟩, rfl, ?_⟩
      show ((fcat (x :: xs)).take k).length + 0 = k
      rw [List.length_take]
      omega
    | succ n =>
      have hs' : x.length + 8 + fsum xs n ≤ k := hs
      have hk' : k ≤ x.length + 8 + (fcat xs).length := by
        have : k ≤ (frameB x ++ fcat xs).length := hk
        rw [List.length_append, frameB_length] at this
        exact this
      have he : (fcat (x :: xs)).take k = frameB x ++ (fcat xs).take (k - (x.length + 8)) := by
        show (frameB x ++ fcat xs).take k = _
        rw [List.take_append, List.take_of_length_le (by rw [frameB_length]; omega), frameB_length]
      obtain ⟨h1, h2, h3⟩ := frame_ok x ((fcat xs).take (k - (x.length + 8))) hx
      rw [← he] at h1 h2 h3
      obtain ⟨i1, i2, i3⟩ := ih (fun l h => hl l (by simp [h])) (k - (x.length + 8)) n (by simpa using hn) (by omega) (by omega) (by
        rcases hor with h | h
        · exact .inl (by simpa using h)
        · right
          have : k < x.length + 8 + fsum xs (n + 1) := h
          omega)
      refine ⟨AllN.succ h1 (by rw [h3]; exact i1), ?_, ?_⟩
      · rw [rowsOf_succ, h2, h3, i2]
        rfl
      · rw [restAt_next, h3]
        show _ + (x.length + 8 + fsum xs n) = k
        omega
end Go.Proofs.Ytmdecbockpgagaa
