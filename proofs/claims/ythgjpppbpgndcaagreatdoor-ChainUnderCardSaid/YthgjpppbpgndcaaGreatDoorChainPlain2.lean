import Derived.Test.YthgjpppbpgndcaaGreatDoorTagCalls
import Derived.MapViews
import Derived.Maps.OwnSet
import Derived.Maps.RangeWalk
import Derived.Shelf.SortM.Plain
/- A map of names to names as plain data: a list that rises. -/
namespace Go.Proofs.YthgjpppbpgndcaaGreatDoor
open Go.RowKit Go.Maps

abbrev Nm := List UInt8
abbrev FM := List (Nm × Nm)
def flk (m : FM) (k : Nm) : Option Nm := (m.find? fun p => p.1 == k).map (·.2)
def fins (x : Nm × Nm) : FM → FM
  | [] => [x]
  | y :: r => if bytesBefore x.1 y.1 then x :: y :: r else y :: fins x r
def fdel (m : FM) (k : Nm) : FM := m.filter fun p => !(p.1 == k)
def fput (m : FM) (k v : Nm) : FM := fins (k, v) (fdel m k)
def toF (m : FM) : DataW Unit := .map (m.map fun p => (Lit.string p.1, DataW.lit (Lit.string p.2)))
theorem toF_find (m : FM) (k : Nm) : ((m.map fun p => (Lit.string p.1, (DataW.lit (Lit.string p.2) : DataW Unit))).find? fun p => p.1.sameKey (.string k)) = (m.find? fun p => p.1 == k).map fun p => (Lit.string p.1, DataW.lit (Lit.string p.2)) := by
  rw [List.find?_map]
  rfl
theorem toF_at (m : FM) (k : Nm) (z : DataW Unit) : (toF m).atKey (.string k) z = match flk m k with | some f => .lit (.string f) | none => z := by
  unfold toF DataW.atKey flk
  simp only [toF_find]
  cases m.find? fun p => p.1 == k <;> rfl
theorem toF_has (m : FM) (k : Nm) : Maps.has (toF m) (.string k) = (flk m k).isSome := by
  cases h : flk m k with
  | none =>
    refine Maps.has_false_of_atKey (fun z => ?_)
    rw [toF_at, h]
  | some f =>
    refine Maps.has_true_of_atKey (y := .lit (.string f)) (fun z => ?_)
    rw [toF_at, h]
theorem toF_del (m : FM) (k : Nm) : (toF m).del (.string k) = toF (fdel m k) := by
  unfold toF DataW.del fdel
  simp only
  congr 1
  rw [List.filter_map]
  rfl
theorem toF_ins (x : Nm × Nm) : ∀ (m : FM), DataW.insert (Lit.string x.1, (DataW.lit (Lit.string x.2) : DataW Unit)) (m.map fun p => (Lit.string p.1, DataW.lit (Lit.string p.2))) = (fins x m).map fun p => (Lit.string p.1, DataW.lit (Lit.string p.2))
  | [] => rfl
  | y :: r => by
    unfold fins
    rw [List.map_cons]
    unfold DataW.insert
    show (if bytesBefore x.1 y.1 = true then _ else _) = _
    split
    · rfl
    · rw [toF_ins x r]; rfl
theorem toF_put (m : FM) (k v : Nm) : (toF m).put (.string k) (.lit (.string v)) = toF (fput m k v) := by
  have h : ((m.map fun p => (Lit.string p.1, (DataW.lit (Lit.string p.2) : DataW Unit))).filter fun p => !p.1.sameKey (.string k)) = (fdel m k).map fun p => (Lit.string p.1, DataW.lit (Lit.string p.2)) := by
    rw [List.filter_map]
    rfl
  unfold toF fput
  show DataW.map (DataW.insert _ _) = _
  rw [h, toF_ins (k, v)]
theorem toF_size (m : FM) : Maps.size (toF m) = m.length := by
  unfold toF
  rw [Maps.size_eq, List.length_map]

/-! ### lookups -/
theorem flk_mem {m : FM} {k v : Nm} (h : flk m k = some v) : (k, v) ∈ m := by
  unfold flk at h
  obtain ⟨p, hp, hv⟩ := Option.map_eq_some_iff.1 h
  have h1 := List.mem_of_find?_eq_some hp
  have h2 := List.find?_some hp
  obtain rfl : p.1 = k := by simpa using h2
  rw [← hv]
  exact h1
theorem flk_some {m : FM} {p : Nm × Nm} (h : p ∈ m) : (flk m p.1).isSome = true := by
  unfold flk
  rw [Option.isSome_map, List.find?_isSome]
  exact ⟨p, h, by simp⟩
theorem bb_irrefl (a : Nm) : bytesBefore a a = false := by
  induction a with
  | nil => rfl
  | cons x r ih =>
    unfold bytesBefore
    simp [ih]
theorem bb_total {a b : Nm} (h : a ≠ b) (h2 : bytesBefore a b = false) : bytesBefore b a = true := by
  induction a generalizing b with
  | nil =>
    cases b with
    | nil => exact absurd rfl h
    | cons y s => cases h2
  | cons x r ih =>
    cases b with
    | nil => rfl
    | cons y s =>
      unfold bytesBefore at h2 ⊢
      simp only [Bool.or_eq_false_iff, Bool.and_eq_false_iff, decide_eq_false_iff_not, beq_eq_false_iff_ne] at h2
      simp only [Bool.or_eq_true, Bool.and_eq_true, decide_eq_true_eq, beq_iff_eq]
      by_cases hxy : x = y
      · right
        refine ⟨hxy.symm, ih (fun e => h (by rw [hxy, e])) ?_⟩
        rcases h2.2 with h3 | h3
        · exact absurd hxy h3
        · exact h3
      · left
        have h3 := h2.1
        have h4 : x.toNat ≠ y.toNat := fun e => hxy (UInt8.toNat_inj.1 e)
        first
          | (have h5 : ¬ x.toNat < y.toNat := h3; show y.toNat < x.toNat; omega)
          | (rw [UInt8.lt_iff_toNat_lt] at *; omega)
end Go.Proofs.YthgjpppbpgndcaaGreatDoor

/- Chains as plain data. -/
namespace Go.Proofs.YthgjpppbpgndcaaGreatDoor
open Go.RowKit Go.Maps

/-- A tag's parents by its parts. -/
def upsN : Nat → Nm → List Nm
  | 0, _ => []
  | n + 1, t => if parentL t = [] then [] else parentL t :: upsN n (parentL t)
def ups (t : Nm) : List Nm := upsN (t.length + 2) t
def firstUp (F : FM) (l : List Nm) : Option Nm := l.find? fun p => (flk F p).isSome
/-- Who is next: the name, whether there is one, the error. -/
def nextF (F : FM) (t : Nm) : Nm × Bool × Int := match flk F t with
  | none => ([], false, 240)
  | some named =>
    if named ≠ [] then (if (flk F named).isSome then (named, true, 0) else ([], false, 110))
    else match firstUp F (ups t) with
      | some p => (p, true, 0)
      | none => ([], false, 0)
def chainN (F : FM) : Nat → List Nm → Nm → List Nm × Int
  | 0, _, _ => ([], 112)
  | n + 1, out, t =>
    if t ∈ out then ([], 111) else if 6 ≤ out.length then ([], 112)
    else if (nextF F t).2.2 ≠ 0 then ([], (nextF F t).2.2)
    else if (nextF F t).2.1 then chainN F n (out ++ [t]) (nextF F t).1 else (out ++ [t], 0)
def chainF (F : FM) (t : Nm) : List Nm × Int := chainN F 7 [] t
def checkF (F : FM) : Nm × Int := match (F.map (·.1)).find? fun t => decide ((chainF F t).2 ≠ 0) with
  | some t => (t, (chainF F t).2)
  | none => ([], 0)
def underF (F : FM) (t : Nm) : List Nm := (F.map (·.1)).filter fun o => !(decide (o = t) || !decide (t ∈ (chainF F o).1))
def setF (F : FM) (t p : Nm) : Int × FM := if isC t = true ∧ (p = [] ∨ isC p = true) then (0, fput F t p) else (100, F)
def dropF (F : FM) (t : Nm) : Int × FM := if (flk F t).isSome then (0, fdel F t) else (240, F)

/-- What holds of every forest. -/
structure FOk (F : FM) : Prop where
  keys : ∀ p ∈ F, isC p.1 = true ∧ (p.2 = [] ∨ isC p.2 = true)
  many : F.length ≤ 100000
  rising : F.Pairwise fun p q => bytesBefore p.1 q.1 = true
end Go.Proofs.YthgjpppbpgndcaaGreatDoor
