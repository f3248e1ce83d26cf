import Derived.Test.YthgjpppbpgndcaaGreatDoorTagRow
/- What tag.Canon tells: the plain law's words. -/
namespace Go.Proofs.YthgjpppbpgndcaaGreatDoor

def capU (t : List UInt8) : List UInt8 := (t.take 1).map Lib.upperB ++ t.drop 1
def stepC (next : Nat) (out : List (List UInt8)) (t : List UInt8) : Option (Nat × List UInt8) :=
  if next = 0 then (if allP isLow 2 3 t = true then some (1, t) else none)
  else if next = 1 ∧ allP isLow 4 4 t = true then some (2, capU t)
  else if (next = 1 ∨ next = 2) ∧ (allP isLow 2 2 t = true ∨ allP isDig 3 3 t = true) then some (3, t.map Lib.upperB)
  else if variantB t = true ∧ (out.drop 1).contains t = false then some (3, t)
  else none
def loopC : Nat → List (List UInt8) → List (List UInt8) → Option (Nat × List (List UInt8))
  | n, out, [] => some (n, out)
  | n, out, t :: ts => (stepC n out t).bind fun p => loopC p.1 (out ++ [p.2]) ts
theorem loopC_nil (n : Nat) (out : List (List UInt8)) : loopC n out [] = some (n, out) := rfl
theorem loopC_cons (n : Nat) (out : List (List UInt8)) (t : List UInt8) (ts : List (List UInt8)) : loopC n out (t :: ts) = (stepC n out t).bind fun p => loopC p.1 (out ++ [p.2]) ts := rfl
theorem loopC_append : ∀ (pre : List (List UInt8)) (n : Nat) (out : List (List UInt8)) (ts : List (List UInt8)), loopC n out (pre ++ ts) = (loopC n out pre).bind fun p => loopC p.1 p.2 ts
  | [], _, _, _ => rfl
  | t :: pre, n, out, ts => by
    rw [List.cons_append, loopC_cons, loopC_cons]
    cases stepC n out t with
    | none => rfl
    | some p => exact loopC_append pre p.1 (out ++ [p.2]) ts
theorem loopC_none {pre ts : List (List UInt8)} (h : pre <+: ts) {n : Nat} {out : List (List UInt8)} (h0 : loopC n out pre = none) : loopC n out ts = none := by
  obtain ⟨r, rfl⟩ := h
  rw [loopC_append, h0]
  rfl
theorem loopC_length : ∀ (ts : List (List UInt8)) (n : Nat) (out : List (List UInt8)) (p : Nat × List (List UInt8)), loopC n out ts = some p → p.2.length = out.length + ts.length
  | [], n, out, p, h => by cases h; rfl
  | t :: ts, n, out, p, h => by
    rw [loopC_cons] at h
    cases hs : stepC n out t with
    | none => rw [hs] at h; cases h
    | some q =>
      rw [hs] at h
      have := loopC_length ts q.1 (out ++ [q.2]) p h
      rw [this]
      simp only [List.length_append, List.length_cons, List.length_nil]
      omega
theorem capU_len (t : List UInt8) : (capU t).length = t.length := by
  unfold capU
  simp
  omega
theorem stepC_len {n : Nat} {out : List (List UInt8)} {t : List UInt8} {p : Nat × List UInt8} (h : stepC n out t = some p) : p.2.length = t.length := by
  unfold stepC at h
  repeat' split at h
  all_goals first | (cases h; first | rfl | exact capU_len t | simp) | cases h
theorem loopC_lens : ∀ (ts : List (List UInt8)) (n : Nat) (out : List (List UInt8)) (p : Nat × List (List UInt8)), loopC n out ts = some p → p.2.map List.length = (out ++ ts).map List.length
  | [], n, out, p, h => by cases h; simp
  | t :: ts, n, out, p, h => by
    rw [loopC_cons] at h
    cases hs : stepC n out t with
    | none => rw [hs] at h; cases h
    | some q =>
      rw [hs] at h
      have := loopC_lens ts q.1 (out ++ [q.2]) p h
      rw [this]
      simp [stepC_len hs]
theorem joinL_len : ∀ {a b : List (List UInt8)}, a.map List.length = b.map List.length → (joinL a).length = (joinL b).length
  | [], [], _ => rfl
  | [], _ :: _, h => by simp at h
  | _ :: _, [], h => by simp at h
  | [p], [q], h => by simpa [joinL] using h
  | [p], _ :: _ :: _, h => by simp at h
  | _ :: _ :: _, [q], h => by simp at h
  | p :: p2 :: ps, q :: q2 :: qs, h => by
    have h' : p.length = q.length ∧ (p2 :: ps).map List.length = (q2 :: qs).map List.length := by
      exact List.cons.inj (show p.length :: (p2 :: ps).map List.length = q.length :: (q2 :: qs).map List.length from h)
    have ih := joinL_len h'.2
    unfold joinL
    rw [List.length_append, List.length_append, List.length_cons, List.length_cons, ih, h'.1]
def rootL : List UInt8 := [114, 111, 111, 116]
def errC : Option (List UInt8) → Int
  | some _ => 0
  | none => 100
def canonL (l : List UInt8) : Option (List UInt8) :=
  if 40 < l.length then none else if smallL l = rootL then some rootL else (loopC 0 [] (splitL (normL l))).map fun p => joinL p.2
end Go.Proofs.YthgjpppbpgndcaaGreatDoor
