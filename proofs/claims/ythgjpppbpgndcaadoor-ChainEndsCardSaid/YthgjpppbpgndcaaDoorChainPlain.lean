import Derived.Test.YthgjpppbpgndcaaDoorChainMath
/- Chains as plain data. -/
namespace Go.Proofs.YthgjpppbpgndcaaDoor
open Go.RowKit Go.Maps

/-- A tag's parents by its parts. -/
def upsN : Nat → Nm → List Nm
  | 0, _ => []
  | n + 1, t => if parentL t = [] then [] else parentL t :: upsN n (parentL t)
def ups (t : Nm) : List Nm := upsN (t.length + 2) t
def firstUp (F : FM) (l : List Nm) : Option Nm := l.find? fun p => (flk F p).isSome
/-- Who is next: the name, whether there is one, the error. -/
def nextF (F : FM) (t : Nm) : Nm × Bool × Int := match flk F t with
  | none => ([], false, 240)
  | some named =>
    if named ≠ [] then (if (flk F named).isSome then (named, true, 0) else ([], false, 110))
    else match firstUp F (ups t) with
      | some p => (p, true, 0)
      | none => ([], false, 0)
def chainN (F : FM) : Nat → List Nm → Nm → List Nm × Int
  | 0, _, _ => ([], 112)
  | n + 1, out, t =>
    if t ∈ out then ([], 111) else if 6 ≤ out.length then ([], 112)
    else if (nextF F t).2.2 ≠ 0 then ([], (nextF F t).2.2)
    else if (nextF F t).2.1 then chainN F n (out ++ [t]) (nextF F t).1 else (out ++ [t], 0)
def chainF (F : FM) (t : Nm) : List Nm × Int := chainN F 7 [] t
def checkF (F : FM) : Nm × Int := match (F.map (·.1)).find? fun t => decide ((chainF F t).2 ≠ 0) with
  | some t => (t, (chainF F t).2)
  | none => ([], 0)
def underF (F : FM) (t : Nm) : List Nm := (F.map (·.1)).filter fun o => !(decide (o = t) || !decide (t ∈ (chainF F o).1))
def setF (F : FM) (t p : Nm) : Int × FM := if isC t = true ∧ (p = [] ∨ isC p = true) then (0, fput F t p) else (100, F)
def dropF (F : FM) (t : Nm) : Int × FM := if (flk F t).isSome then (0, fdel F t) else (240, F)

/-- What holds of every forest. -/
structure FOk (F : FM) : Prop where
  keys : ∀ p ∈ F, isC p.1 = true ∧ (p.2 = [] ∨ isC p.2 = true)
  many : F.length ≤ 100000
  rising : F.Pairwise fun p q => bytesBefore p.1 q.1 = true
end Go.Proofs.YthgjpppbpgndcaaDoor
