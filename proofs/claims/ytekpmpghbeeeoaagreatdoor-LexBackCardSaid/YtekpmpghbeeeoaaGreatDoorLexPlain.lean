import Derived.Test.YtekpmpghbeeeoaaGreatDoorUtfMath
import Derived.Test.YtekpmpghbeeeoaaGreatDoorStrS
/- The signs of the rule language, as plain data: what a text begins with; all signs of a text. -/
namespace Go.Proofs.YtekpmpghbeeeoaaGreatDoor

/-- A sign: its kind, its place, its text, its code point. -/
structure Tok where
  kind : Int
  at_ : Nat
  text : List UInt8
  r : Int
instance : DecidableEq Tok := fun a b => decidable_of_iff (a.kind = b.kind ∧ a.at_ = b.at_ ∧ a.text = b.text ∧ a.r = b.r) (by cases a; cases b; simp)
def ltr (b : UInt8) : Bool := (decide (97 ≤ b.toNat) && decide (b.toNat ≤ 122)) || (decide (65 ≤ b.toNat) && decide (b.toNat ≤ 90))
def dgt (b : UInt8) : Bool := decide (48 ≤ b.toNat) && decide (b.toNat ≤ 57)
def hexd (b : UInt8) : Bool := dgt b || ((decide (97 ≤ b.toNat) && decide (b.toNat ≤ 102)) || (decide (65 ≤ b.toNat) && decide (b.toNat ≤ 70)))
def blk (b : UInt8) : Bool := (b == 32 || b == 9) || b == 13
def eid (b : UInt8) : Bool := ltr b || dgt b
def idn (b : UInt8) : Bool := ((ltr b || dgt b) || b == 45) || b == 95
def noLine (b : UInt8) : Bool := !(b == 10)
/-- How many bytes a text begins with that are so. -/
def cnt (p : UInt8 → Bool) (l : List UInt8) : Nat := (l.takeWhile p).length
theorem cnt_nil (p : UInt8 → Bool) : cnt p [] = 0 := rfl
theorem cnt_yes {p : UInt8 → Bool} {b : UInt8} (h : p b = true) (l : List UInt8) : cnt p (b :: l) = cnt p l + 1 := by
  unfold cnt
  rw [List.takeWhile_cons, if_pos h, List.length_cons]
theorem cnt_no {p : UInt8 → Bool} {b : UInt8} (h : p b = false) (l : List UInt8) : cnt p (b :: l) = 0 := by
  unfold cnt
  rw [List.takeWhile_cons, if_neg (by rw [h]; decide)]
  rfl
theorem cnt_le (p : UInt8 → Bool) (l : List UInt8) : cnt p l ≤ l.length := by
  induction l with
  | nil => exact Nat.le_refl _
  | cons b l ih =>
    cases h : p b with
    | true => rw [cnt_yes h, List.length_cons]; omega
    | false => rw [cnt_no h]; omega
/-- Up to there all are so. -/
theorem cnt_step {p : UInt8 → Bool} : ∀ {l : List UInt8} {k : Nat}, k ≤ cnt p l → (hk : k < l.length) → (k < cnt p l ↔ p l[k] = true)
  | [], k, _, hk => absurd hk (by simp)
  | b :: l, 0, _, _ => by
    cases h : p b with
    | true => rw [cnt_yes h]; simp [h]
    | false => rw [cnt_no h]; simp [h]
  | b :: l, k + 1, hle, hk => by
    cases h : p b with
    | true =>
      rw [cnt_yes h] at hle ⊢
      have := cnt_step (p := p) (l := l) (k := k) (by omega) (by simpa using hk)
      rw [List.getElem_cons_succ, ← this]
      omega
    | false =>
      rw [cnt_no h] at hle
      omega
/-- How many bytes at the beginning count for nothing. -/
def blankN (l : List UInt8) : Nat := if (l.drop (cnt blk l)).head? = some 35 then cnt blk l + cnt noLine (l.drop (cnt blk l)) else cnt blk l
theorem blankN_le (l : List UInt8) : blankN l ≤ l.length := by
  have h1 := cnt_le blk l
  have h2 := cnt_le noLine (l.drop (cnt blk l))
  rw [List.length_drop] at h2
  unfold blankN
  split <;> omega
/-- What a sign is: kind, text, code point, bytes. -/
structure One where
  kind : Int
  text : List UInt8
  r : Int
  n : Nat
def nameT (rest : List UInt8) : Option One := if (rest.head?.map ltr).getD false = true ∧ cnt eid rest ≤ 20 then some ⟨1, rest.take (cnt eid rest), 0, cnt eid rest + 1⟩ else none
def numT (l : List UInt8) : Option One := if 4 < cnt dgt l ∨ (1 < cnt dgt l ∧ l.head? = some 48) then none else some ⟨3, l.take (cnt dgt l), 0, cnt dgt l⟩
def identT (l : List UInt8) : Option One := some ⟨8, l.take (cnt idn l), 0, cnt idn l⟩
/-- What stands between quotes: the text, and the place behind the last one. -/
def wordL : List UInt8 → List UInt8 → Nat → Option (List UInt8 × Nat)
  | [], _, _ => none
  | c :: r, b, n =>
    if c = 34 ∧ allGood (nl b) = true then some (b, n + 1)
    else if c = 34 ∨ c = 10 then none
    else if c = 92 then
      match r with
      | [] => none
      | e :: r' => if e = 34 ∨ e = 92 then wordL r' (b ++ [e]) (n + 2) else none
    else wordL r (b ++ [c]) (n + 1)
def wordT (rest : List UInt8) : Option One := (wordL rest [] 1).map fun x => ⟨2, x.1, 0, x.2⟩
def hexv (b : UInt8) : Nat := if b.toNat ≤ 57 then b.toNat - 48 else if b.toNat ≤ 70 then b.toNat - 55 else b.toNat - 87
def hexN (l : List UInt8) : Nat := l.foldl (fun a b => a * 16 + hexv b) 0
/-- A code point's number, behind the four first signs. -/
def escT (t : List UInt8) : Option One :=
  if 1 ≤ cnt hexd t ∧ cnt hexd t ≤ 6 ∧ t[cnt hexd t]? = some 125 ∧ hexN (t.take (cnt hexd t)) ≤ 1114111 then some ⟨4, [], (hexN (t.take (cnt hexd t)) : Int), cnt hexd t + 5⟩ else none
def charT (rest : List UInt8) : Option One :=
  if rest.take 3 = [92, 117, 123] then escT (rest.drop 3)
  else if rest = [] then none
  else if ((dec (nl rest)).1 = 65533 ∧ (dec (nl rest)).2 = 1) ∨ (dec (nl rest)).1 = 10 ∨ (dec (nl rest)).1 = 92 then none
  else some ⟨4, [], ((dec (nl rest)).1 : Int), (dec (nl rest)).2 + 1⟩
def propT (rest : List UInt8) : Option One := if 0 < cnt ltr rest ∧ rest[cnt ltr rest]? = some 125 then some ⟨5, rest.take (cnt ltr rest), 0, cnt ltr rest + 2⟩ else none
def signs : List UInt8 := [91, 93, 40, 41, 124, 42, 43, 63, 46, 94, 45, 58, 61]
def signT (l : List UInt8) : Option One :=
  if l.take 2 = [62, 60] ∨ l.take 2 = [60, 62] then some ⟨6, l.take 2, 0, 2⟩
  else match l with
    | [] => none
    | c :: _ => if c ∈ signs then some ⟨6, [c], 0, 1⟩ else none
/-- The sign that a text begins with. -/
def oneT : List UInt8 → Option One
  | [] => none
  | c :: rest =>
    if c = 10 then some ⟨7, [], 0, 1⟩
    else if c = 36 then nameT rest
    else if dgt c = true then numT (c :: rest)
    else if ltr c = true then identT (c :: rest)
    else if c = 34 then wordT rest
    else if c = 39 then charT rest
    else if c = 123 then propT rest
    else signT (c :: rest)
/-- All signs, and the place where none begins. -/
def tkF : Nat → Nat → List UInt8 → List Tok × Option Nat
  | 0, _, _ => ([], none)
  | f + 1, a, l =>
    if l.drop (blankN l) = [] then ([], none)
    else match oneT (l.drop (blankN l)) with
      | none => ([], some (a + blankN l))
      | some o => (⟨o.kind, a + blankN l, o.text, o.r⟩ :: (tkF f (a + blankN l + o.n) ((l.drop (blankN l)).drop o.n)).1, (tkF f (a + blankN l + o.n) ((l.drop (blankN l)).drop o.n)).2)
def tk (a : Nat) (l : List UInt8) : List Tok × Option Nat := tkF l.length a l
/-- What Scan tells. -/
def scanL (l : List UInt8) : List Tok × Nat × Bool :=
  match (tk 0 l).2 with
  | none => ((tk 0 l).1 ++ [⟨0, l.length, [], 0⟩], 0, true)
  | some p => ([], p, false)
end Go.Proofs.YtekpmpghbeeeoaaGreatDoor
