import Derived.Test.YtekpmpghbeeeoaaGreatDoorLexTk
import Derived.Lib.SplitLaws
import Derived.Lib.Replace
import Derived.Lib.Case
/- The plain laws of printing: what each sign is printed as, and that it is read back. -/
namespace Go.Proofs.YtekpmpghbeeeoaaGreatDoor

def dgU (n : Nat) : UInt8 := if n < 10 then UInt8.ofNat (48 + n) else UInt8.ofNat (55 + n)
/-- A number's hexadecimal digits (of numbers below 2^32). -/
def hexF : Nat → Nat → List UInt8
  | 0, _ => []
  | f + 1, n => if n < 16 then [dgU n] else hexF f (n / 16) ++ [dgU (n % 16)]
def hexL (n : Nat) : List UInt8 := hexF 8 n
theorem dgU_facts : ∀ k ∈ List.range 16, hexd (dgU k) = true ∧ hexv (dgU k) = k ∧ Lib.upperB (dgU k) = dgU k := by decide +kernel
theorem dgU_hexd {k : Nat} (h : k < 16) : hexd (dgU k) = true := (dgU_facts k (List.mem_range.2 h)).1
theorem dgU_hexv {k : Nat} (h : k < 16) : hexv (dgU k) = k := (dgU_facts k (List.mem_range.2 h)).2.1
theorem hexN_snoc (l : List UInt8) (b : UInt8) : hexN (l ++ [b]) = hexN l * 16 + hexv b := by simp [hexN]
theorem hexF_facts : ∀ (f n : Nat), 0 < f → n < 16 ^ f → hexN (hexF f n) = n ∧ (∀ b ∈ hexF f n, hexd b = true) ∧ 1 ≤ (hexF f n).length ∧ (∀ j, 0 < j → n < 16 ^ j → (hexF f n).length ≤ j)
  | 0, _, h, _ => absurd h (Nat.lt_irrefl _)
  | f + 1, n, _, hn => by
    rw [hexF]
    split
    · rename_i h
      refine ⟨by simp [hexN, dgU_hexv h], fun b hb => ?_, Nat.le_refl _, fun j hj _ => hj⟩
      rw [List.mem_singleton.1 hb]
      exact dgU_hexd h
    · rename_i h
      have hf : 0 < f := by
        rcases Nat.eq_zero_or_pos f with h0 | h0
        · subst h0; simp at hn; omega
        · exact h0
      have hq : n / 16 < 16 ^ f := by
        rw [Nat.pow_succ] at hn
        omega
      obtain ⟨h1, h2, h3, h4⟩ := hexF_facts f (n / 16) hf hq
      have hm : n % 16 < 16 := Nat.mod_lt _ (by decide)
      refine ⟨by rw [hexN_snoc, h1, dgU_hexv hm]; omega, fun b hb => ?_, by simp, fun j hj hnj => ?_⟩
      · rcases List.mem_append.1 hb with hb | hb
        · exact h2 b hb
        · rw [List.mem_singleton.1 hb]; exact dgU_hexd hm
      · rw [List.length_append, List.length_singleton]
        obtain ⟨j, rfl⟩ : ∃ i, j = i + 1 := ⟨j - 1, by omega⟩
        rcases Nat.eq_zero_or_pos j with h0 | h0
        · subst h0; simp at hnj; omega
        · have := h4 j h0 (by rw [Nat.pow_succ] at hnj; omega)
          omega
theorem hexL_facts {n : Nat} (hn : n < 4294967296) : hexN (hexL n) = n ∧ (∀ b ∈ hexL n, hexd b = true) ∧ 1 ≤ (hexL n).length ∧ (n < 16777216 → (hexL n).length ≤ 6) := by
  obtain ⟨h1, h2, h3, h4⟩ := hexF_facts 8 n (by decide) (by simpa using hn)
  exact ⟨h1, h2, h3, fun h => h4 6 (by decide) (by simpa using h)⟩
/-- A quoted word's byte. -/
def escB (b : UInt8) : List UInt8 := if b = 92 then [92, 92] else if b = 34 then [92, 34] else [b]
def quoteL (t : List UInt8) : List UInt8 := 34 :: (t.flatMap escB ++ [34])
def codeL (n : Nat) : List UInt8 := 39 :: 92 :: 117 :: 123 :: (hexL n ++ [125])
/-- What a sign is printed as. -/
def putL (k : Int) (t : List UInt8) (r : Int) : List UInt8 :=
  if k = 0 then []
  else if k = 1 then 36 :: t
  else if k = 2 then quoteL t
  else if k = 4 then codeL (min (max r 0) 1114111).toNat
  else if k = 5 then 123 :: (t ++ [125])
  else if k = 7 then [10]
  else t
def putT (t : Tok) : List UInt8 := putL t.kind t.text t.r
/-- Where a space is put ahead of a sign. -/
def gapB (b : List UInt8) (k : Int) : Bool := !(b == []) && !(b.getLast? == some 10) && !(k == 7)
/-- Signs printed behind b. -/
def printF (b : List UInt8) : List Tok → List UInt8
  | [] => b
  | t :: ts => if t.kind ≤ 0 ∨ 8 < t.kind then printF b ts else printF ((if gapB b t.kind = true then b ++ [32] else b) ++ putT t) ts
def printL (ts : List Tok) : List UInt8 := printF [] ts

theorem wordL_quote {t : List UInt8} : ∀ (b : List UInt8) (n : Nat) (r : List UInt8), (∀ x ∈ t, x ≠ 10) → allGood (nl (b ++ t)) = true → wordL (t.flatMap escB ++ 34 :: r) b n = some (b ++ t, n + (t.flatMap escB).length + 1) := by
  induction t with
  | nil =>
    intro b n r _ hg
    rw [List.append_nil] at hg ⊢
    rw [List.flatMap_nil, List.nil_append, wordL.eq_def]
    simp [hg]
  | cons c t ih =>
    intro b n r hx hg
    have hc := hx c (List.mem_cons_self ..)
    have ih' := fun n => ih (b ++ [c]) n r (fun x h => hx x (List.mem_cons_of_mem _ h)) (by rwa [List.append_assoc, List.singleton_append])
    rw [List.append_assoc, List.singleton_append] at ih'
    rw [List.flatMap_cons, List.append_assoc]
    by_cases h92 : c = 92
    · subst h92
      show wordL (92 :: 92 :: (t.flatMap escB ++ 34 :: r)) b n = _
      rw [wordL.eq_def]
      simp only [show ¬ ((92 : UInt8) = 34) by decide, show ¬ ((92 : UInt8) = 10) by decide, false_and, false_or, or_true, if_true, if_false]
      rw [ih' (n + 2)]
      simp [escB]
      omega
    · by_cases h34 : c = 34
      · subst h34
        show wordL (92 :: 34 :: (t.flatMap escB ++ 34 :: r)) b n = _
        rw [wordL.eq_def]
        simp only [show ¬ ((92 : UInt8) = 34) by decide, show ¬ ((92 : UInt8) = 10) by decide, false_and, false_or, true_or, if_true, if_false]
        rw [ih' (n + 2)]
        simp [escB]
        omega
      · have e : escB c = [c] := by unfold escB; rw [if_neg h92, if_neg h34]
        rw [e, List.singleton_append, wordL.eq_def]
        simp only [h34, hc, h92, false_and, false_or, if_false]
        rw [ih' (n + 1)]
        simp
        omega
theorem wordT_quote {t : List UInt8} (r : List UInt8) (hx : ∀ x ∈ t, x ≠ 10) (hg : allGood (nl t) = true) : wordT (t.flatMap escB ++ [34] ++ r) = some ⟨2, t, 0, (quoteL t).length⟩ := by
  unfold wordT
  rw [List.append_assoc, List.singleton_append, wordL_quote [] 1 r hx (by simpa using hg)]
  simp [quoteL]
  omega
theorem escT_code {n : Nat} (hn : n ≤ 1114111) (r : List UInt8) : escT (hexL n ++ [125] ++ r) = some ⟨4, [], (n : Int), (codeL n).length⟩ := by
  obtain ⟨h1, h2, h3, h4⟩ := hexL_facts (n := n) (by omega)
  have h5 := h4 (by omega)
  have hc : cnt hexd (hexL n ++ [125] ++ r) = (hexL n).length := by
    rw [List.append_assoc, cnt_app_full (cnt_of_all h2), List.singleton_append, cnt_no (by decide)]
    rfl
  unfold escT
  rw [hc, List.append_assoc, List.take_append_of_le_length (Nat.le_refl _), List.take_length, h1, List.getElem?_append_right (Nat.le_refl _), Nat.sub_self]
  rw [if_pos ⟨h3, h5, rfl, hn⟩]
  simp [codeL]
theorem charT_code {n : Nat} (hn : n ≤ 1114111) (r : List UInt8) : charT (92 :: 117 :: 123 :: (hexL n ++ [125] ++ r)) = some ⟨4, [], (n : Int), (codeL n).length⟩ := by
  unfold charT
  rw [if_pos (by rfl)]
  exact escT_code hn r
theorem oneT_code {n : Nat} (hn : n ≤ 1114111) (r : List UInt8) : oneT (codeL n ++ r) = some ⟨4, [], (n : Int), (codeL n).length⟩ := by
  have e : codeL n ++ r = 39 :: (92 :: 117 :: 123 :: (hexL n ++ [125] ++ r)) := by simp [codeL]
  rw [e]
  simp only [oneT]
  rw [if_neg (by decide), if_neg (by decide), if_neg (by decide), if_neg (by decide), if_neg (by decide), if_pos trivial]
  exact charT_code hn r
theorem oneT_quote {t : List UInt8} (r : List UInt8) (hx : ∀ x ∈ t, x ≠ 10) (hg : allGood (nl t) = true) : oneT (quoteL t ++ r) = some ⟨2, t, 0, (quoteL t).length⟩ := by
  have e : quoteL t ++ r = 34 :: (t.flatMap escB ++ [34] ++ r) := by simp [quoteL]
  rw [e]
  simp only [oneT]
  rw [if_neg (by decide), if_neg (by decide), if_neg (by decide), if_neg (by decide), if_pos trivial]
  exact wordT_quote r hx hg
end Go.Proofs.YtekpmpghbeeeoaaGreatDoor
