import Derived.Test.YtmdecbockpgagaaBase
import Derived.MapViews
import Derived.Lib.Split
import Derived.Lib.SlicesS
import Derived.Test.YtmdecbockpgagaaRd
import Derived.Lib.ConvBytes
import Derived.Laws.AppendOwn
import Derived.Test.YtmdecbockpgagaaDiskShelf
import Derived.Maps.OwnSet
import Derived.Maps.RangeWalk
/- The disk as plain data: files by their numbers, names as a list in its order. -/
namespace Go.Proofs.Ytmdecbockpgagaa

abbrev Nm := List UInt8
abbrev NM := List (Nm × Nat)
def mlk (m : NM) (k : Nm) : Option Nat := (m.find? fun p => p.1 == k).map (·.2)
def mins (x : Nm × Nat) : NM → NM
  | [] => [x]
  | y :: r => if bytesBefore x.1 y.1 then x :: y :: r else y :: mins x r
def mdel (m : NM) (k : Nm) : NM := m.filter fun p => !(p.1 == k)
def mput (m : NM) (k : Nm) (f : Nat) : NM := mins (k, f) (mdel m k)

/-- How a map of names reads: the numbers are the files' blocks. -/
def toD (m : NM) : DataW Unit := .map (m.map fun p => (Lit.string p.1, DataW.lit (Lit.int .i64 (p.2 : Int))))
theorem toD_find (m : NM) (k : Nm) : ((m.map fun p => (Lit.string p.1, (DataW.lit (Lit.int .i64 (p.2 : Int)) : DataW Unit))).find? fun p => p.1.sameKey (.string k)) = (m.find? fun p => p.1 == k).map fun p => (Lit.string p.1, DataW.lit (Lit.int .i64 (p.2 : Int))) := by
  rw [List.find?_map]
  rfl
theorem toD_at (m : NM) (k : Nm) (z : DataW Unit) : (toD m).atKey (.string k) z = match mlk m k with | some f => .lit (.int .i64 (f : Int)) | none => z := by
  unfold toD DataW.atKey mlk
  simp only [toD_find]
  cases m.find? fun p => p.1 == k <;> rfl
theorem toD_del (m : NM) (k : Nm) : (toD m).del (.string k) = toD (mdel m k) := by
  unfold toD DataW.del mdel
  simp only
  congr 1
  rw [List.filter_map]
  rfl
theorem toD_ins (x : Nm × Nat) : ∀ (m : NM), DataW.insert (Lit.string x.1, (DataW.lit (Lit.int .i64 (x.2 : Int)) : DataW Unit)) (m.map fun p => (Lit.string p.1, DataW.lit (Lit.int .i64 (p.2 : Int)))) = (mins x m).map fun p => (Lit.string p.1, DataW.lit (Lit.int .i64 (p.2 : Int)))
  | [] => rfl
  | y :: r => by
    unfold mins
    rw [List.map_cons]
    unfold DataW.insert
    show (if bytesBefore x.1 y.1 = true then _ else _) = _
    split
    · rfl
    · rw [toD_ins x r]; rfl
theorem toD_put (m : NM) (k : Nm) (f : Nat) : (toD m).put (.string k) (.lit (.int .i64 (f : Int))) = toD (mput m k f) := by
  have h : ((m.map fun p => (Lit.string p.1, (DataW.lit (Lit.int .i64 (p.2 : Int)) : DataW Unit))).filter fun p => !p.1.sameKey (.string k)) = (mdel m k).map fun p => (Lit.string p.1, DataW.lit (Lit.int .i64 (p.2 : Int))) := by
    rw [List.filter_map]
    rfl
  unfold toD mput
  show DataW.map (DataW.insert _ _) = _
  rw [h, toD_ins (k, f)]
theorem toD_size (m : NM) : Maps.size (toD m) = m.length := by
  unfold toD
  rw [Maps.size_eq, List.length_map]

/-! ### the disk -/
structure Fl where
  b : List Int
  kept : Nat
structure Chg where
  f : Option Nat
  src : Nm
  dst : Nm
structure DS where
  quota : Int
  names : NM
  kept : NM
  since : List Chg
  steps : Int
  failAt : Int
  offAt : Int
  files : List Fl

def nameC (b : UInt8) : Bool := (decide (97 ≤ b.toNat) && decide (b.toNat ≤ 122)) || (decide (65 ≤ b.toNat) && decide (b.toNat ≤ 90)) || (decide (48 ≤ b.toNat) && decide (b.toNat ≤ 57)) || b == 45 || b == 46
def nameB (s : Nm) : Bool := s.all nameC && (decide (1 ≤ s.length) && decide (s.length ≤ 40))
def DS.off (d : DS) : Bool := decide (0 < d.offAt) && decide (d.offAt ≤ d.steps)
def DS.tick (d : DS) : DS := { d with steps := d.steps + 1 }
/-- What a step tells (behind the tick). -/
def DS.code (d : DS) (names : List Nm) : Int := if d.off then 203 else if d.steps = d.failAt then 202 else if names.all nameB then 0 else 200
/-- .. with a file that must be there. -/
def DS.open_ (d : DS) (s : Nm) (others : List Nm) : Int := if d.code (s :: others) ≠ 0 then d.code (s :: others) else if (mlk d.names s).isNone then 200 else 0

/-- A change of names. -/
def does (c : Chg) (m : NM) : Option NM :=
  if c.src = [] then (if c.dst = [] then some m else c.f.map fun f => mput m c.dst f)
  else (mlk m c.src).map fun f => if c.dst = [] then mdel m c.src else mput (mdel m c.src) c.dst f
def replay (m : NM) : List Chg → Option NM
  | [] => some m
  | c :: cs => (does c m).bind fun m' => replay m' cs

def bytesIn (d : DS) (i : Nat) : List Int := (d.files[i]?.map Fl.b).getD []
def DS.used (d : DS) : Nat := (d.names.map fun p => (bytesIn d p.2).length).sum

/-- What each method makes of it. -/
def DS.changes (d : DS) (c : Chg) : DS := { d with names := (does c d.names).getD [], since := d.since ++ [c] }
def DS.create (d0 : DS) (s : Nm) : Int × DS :=
  let d := d0.tick
  if d.code [s] ≠ 0 then (d.code [s], d)
  else if (mlk d.names s).isNone ∧ 200 ≤ d.names.length then (201, d)
  else (0, { d with files := d.files ++ [⟨[], 0⟩], names := mput d.names s d.files.length, since := d.since ++ [⟨some d.files.length, [], s⟩] })
def setFile (d : DS) (i : Nat) (f : Fl) : DS := { d with files := d.files.set i f }
def DS.append (d0 : DS) (s : Nm) (b : List Int) : Int × DS :=
  let d := d0.tick
  if d.open_ s [] ≠ 0 then (d.open_ s [], d)
  else let i := (mlk d.names s).getD 0; let f := (d.files[i]?).getD ⟨[], 0⟩
    if d.quota < d.used ∨ d.quota - d.used < b.length ∨ 400000 - (f.b.length : Int) < b.length then (201, d)
    else (0, setFile d i ⟨f.b ++ b, f.kept⟩)
def DS.sync (d0 : DS) (s : Nm) : Int × DS :=
  let d := d0.tick
  if d.open_ s [] ≠ 0 then (d.open_ s [], d)
  else let i := (mlk d.names s).getD 0; let f := (d.files[i]?).getD ⟨[], 0⟩
    (0, setFile d i ⟨f.b, f.b.length⟩)
def DS.rename (d0 : DS) (a b : Nm) : Int × DS :=
  let d := d0.tick
  if d.open_ a [b] ≠ 0 then (d.open_ a [b], d)
  else if a = b then (0, d) else (0, d.changes ⟨none, a, b⟩)
def DS.remove (d0 : DS) (s : Nm) : Int × DS :=
  let d := d0.tick
  if d.open_ s [] ≠ 0 then (d.open_ s [], d)
  else (0, d.changes ⟨none, s, []⟩)
def DS.syncDir (d0 : DS) : Int × DS :=
  let d := d0.tick
  if d.code [] ≠ 0 then (d.code [], d) else (0, { d with kept := d.names, since := [] })
def DS.read (d : DS) (s : Nm) : Int × List Int :=
  if d.off then (203, []) else match mlk d.names s with
    | none => (200, [])
    | some i => (0, bytesIn d i)
def DS.list (d : DS) : List Nm := if d.off then [] else d.names.map (·.1)
def DS.usedOut (d : DS) : Nat := if d.off then 0 else d.used
def DS.from_ (d : DS) (a : Int) : Int := if a ≤ 0 then 0 else d.steps + min a 1099511627776
def DS.fail (d : DS) (a : Int) : DS := { d with failAt := d.from_ a }
def DS.power (d : DS) (a : Int) : DS := if d.off then d else { d with offAt := d.from_ a }
def newD (quota : Int) : DS := ⟨quota, [], [], [], 0, 0, 0, []⟩

/-- Choices: the first, and what is left. -/
def pick1 (cs : List Int) (n : Nat) : Nat × List Int := match cs with
  | [] => (0, [])
  | c :: r => (c.toNat % (n + 1), r)
/-- What a crash makes of files, in the names' order. -/
def crashF : List Fl → List (Nm × Nat) → List Int → List Fl × List Int
  | fs, [], cs => (fs, cs)
  | fs, p :: ps, cs =>
    let f := (fs[p.2]?).getD ⟨[], 0⟩
    let a := pick1 cs (f.b.length - f.kept)
    let b := pick1 a.2 a.1
    let nb := f.b.take (f.kept + a.1)
    crashF (fs.set p.2 ⟨nb.take (nb.length - b.1) ++ List.replicate (min b.1 nb.length) 0, nb.length⟩) ps b.2
def DS.crash (d : DS) (cs : List Int) : DS :=
  let a := pick1 cs d.since.length
  let names := (replay d.kept (d.since.take a.1)).getD []
  let r := crashF d.files names a.2
  { d with failAt := 0, offAt := 0, names := names, kept := names, since := [], files := r.1 }

/-- What holds of every disk. -/
structure DS.Ok (d : DS) : Prop where
  steps : 0 ≤ d.steps ∧ d.steps ≤ 1000000000
  failAt : 0 ≤ d.failAt ∧ d.failAt ≤ 1200000000000
  offAt : 0 ≤ d.offAt ∧ d.offAt ≤ 1200000000000
  names : ∀ p ∈ d.names, p.2 < d.files.length
  kept : ∀ p ∈ d.kept, p.2 < d.files.length
  since : ∀ c ∈ d.since, ∀ i, c.f = some i → i < d.files.length
  back : replay d.kept d.since = some d.names
  many : d.names.length ≤ 200
  bytes : ∀ f ∈ d.files, f.b.length ≤ 400000 ∧ f.kept ≤ f.b.length
  manyAt : ∀ k m, replay d.kept (d.since.take k) = some m → m.length ≤ 200
  sinceN : (d.since.length : Int) ≤ 2 * d.steps
  lengths : ∀ c ∈ d.since, c.src.length ≤ 40 ∧ c.dst.length ≤ 40
end Go.Proofs.Ytmdecbockpgagaa

/- Strings as lists of bytes; rows of bytes that a conversion has laid; rows of strings. (Out of the Tag texts, for other seats.) -/
namespace Go.Proofs.Ytmdecbockpgagaa
open Go.RowKit Go.Proofs.YtmdecbockpgagaaW.PrintWords Go.Proofs.YtmdecbockpgagaaW.PrintMore

/-- The string of a list of bytes. -/
def S (l : List UInt8) : ByteArray := ⟨l.toArray⟩
theorem S_data (l : List UInt8) : (S l).data.toList = l := rfl
theorem S_size (l : List UInt8) : (S l).size = l.length := by
  rw [← data_length, S_data]
theorem S_of (s : ByteArray) : S s.data.toList = s := rfl
theorem S_inj {a b : List UInt8} (h : S a = S b) : a = b := congrArg (fun s => s.data.toList) h
theorem S_eq (a b : List UInt8) : ((S a).toList == (S b).toList) = decide (a = b) := by
  by_cases h : a = b
  · subst h; rw [decide_eq_true rfl]; exact (Lib.bytes_beq_iff _ _).2 rfl
  · rw [decide_eq_false h]; exact (Lib.bytes_beq_false_iff _ _).2 (fun e => h (S_inj e))
theorem bytesOf_S (l : List UInt8) : bytesOf (S l) = l.map fun b => (b.toNat : Int) := rfl
theorem strOf_nums (l : List UInt8) : strOfNums (l.map fun b => (b.toNat : Int)) = S l := by
  have := strOfNums_bytesOf (S l)
  rwa [bytesOf_S] at this

/-- A row that a conversion has laid: its cells may be written. -/
def Row8 (W : World) (g : Nat) (xs : List Int) : Prop :=
  ∃ (cs : Array Value) (t : TypeId) (fz : Nat × Nat), W.heap[g]? = some (.cells cs t fz) ∧ xs.length ≤ fz.1 ∧ xs.length ≤ cs.size ∧ ∀ j, j < xs.length → cs[j]? = some (.int .u8 (xs.getD j 0))
theorem Row8.cell {W : World} {g : Nat} {xs : List Int} (h : Row8 W g xs) {j : Nat} (hj : j < xs.length) : W.cell? ⟨g, j, none⟩ = some (.int .u8 (xs.getD j 0)) ∧ W.frozen? ⟨g, j, none⟩ = false := by
  obtain ⟨cs, t, fz, h1, h2, h3, h4⟩ := h
  constructor
  · unfold World.cell?
    rw [h1]
    exact h4 j hj
  · unfold World.frozen?
    rw [h1]
    simp only [Bool.and_eq_false_iff, decide_eq_false_iff_not]
    omega
theorem Row8.set_ {W : World} {g : Nat} {xs : List Int} (h : Row8 W g xs) (i : Nat) (x : Int) (hi : i < xs.length) : Row8 (W.setCell ⟨g, i, none⟩ (.int .u8 x)) g (xs.set i x) := by
  obtain ⟨cs, t, fz, h1, h2, h3, h4⟩ := h
  have hg := (Array.getElem?_eq_some_iff.1 h1).1
  refine ⟨cs.setIfInBounds i (.int .u8 x), t, fz, ?_, by rw [List.length_set]; exact h2, by rw [List.length_set, Array.size_setIfInBounds]; exact h3, fun j hj => ?_⟩
  · unfold World.setCell
    simp only [Array.getElem?_modify, if_pos, h1]
    rfl
  · rw [List.length_set] at hj
    rw [Array.getElem?_setIfInBounds, List.getD_eq_getElem?_getD, List.getElem?_set]
    by_cases e : i = j
    · subst e
      rw [if_pos rfl, if_pos rfl, if_pos (by omega), if_pos (by omega)]
      rfl
    · rw [if_neg e, if_neg e, h4 j hj, List.getD_eq_getElem?_getD]
theorem Row8.reads {W : World} {g : Nat} {xs : List Int} (h : Row8 W g xs) (hm : xs.length ≤ 9223372036854775807) : ReadsInt W .u8 (some ⟨g, 0, none⟩) xs.length xs :=
  ⟨rfl, hm, fun _ => ⟨_, rfl, fun j hj => by rw [add_plain]; exact (h.cell hj).1⟩⟩
theorem Row8.bytes (W : World) (e : TypeId) (s : ByteArray) : Row8 (Lib.bytesWorld W e s) W.heap.size (bytesOf s) := by
  refine ⟨_, _, _, Lib.bytesWorld_at_new W e s, ?_, ?_, fun j hj => ?_⟩
  · rw [bytesOf_length]; simp [Lib.bytesCells]
  · rw [bytesOf_length]; simp [Lib.bytesCells]
  · rw [bytesOf_length] at hj
    have := Lib.bytesWorld_cell W e s j hj
    unfold World.cell? at this
    rw [Lib.bytesWorld_at_new] at this
    have h' : j < s.data.toList.length := by rw [data_length]; exact hj
    have h2 : (Lib.bytesCells W e s)[j]? = some (.int .u8 (s.data.toList.getD j 0).toNat) := this
    rw [h2]
    simp [bytesOf, List.getD_eq_getElem?_getD, List.getElem?_eq_getElem h']
theorem Below.set_ {B : Nat} {w W : World} (h : Below B w W) {g : Nat} (hB : B ≤ g) (i : Nat) (v : Value) : Below B w (W.setCell ⟨g, i, none⟩ v) :=
  ⟨h.os, h.tape, h.output, by unfold World.setCell; simp only [Array.size_modify]; exact h.size, fun k hk => by
    unfold World.setCell
    simp only [Array.getElem?_modify]
    rw [if_neg (by omega)]
    exact h.block k hk⟩

def nl (l : List UInt8) : List Int := l.map fun b => (b.toNat : Int)
theorem nl_length (l : List UInt8) : (nl l).length = l.length := by rw [nl, List.length_map]
theorem nl_get {l : List UInt8} {k : Nat} (h : k < l.length) : (nl l).getD k 0 = ((l[k]).toNat : Int) := by
  simp [nl, List.getD_eq_getElem?_getD, h]
theorem idx8 (g n cap i : Nat) (hi : i < n) (W : World) : (Instr.indexAt 22 (.slice (some ⟨g, 0, none⟩) n cap) (.int .i64 (i : Int))).run Try.prog W = .ok (.pointer (some ⟨g, i, none⟩)) W := by
  have h2 : 0 ≤ (i : Int) ∧ (i : Int) < (n : Int) := ⟨by omega, by omega⟩
  have h3 : ({ block := g, off := 0, spot := none } : Addr).add i = ⟨g, i, none⟩ := by
    unfold Addr.add; split <;> simp_all
  go_simp
theorem kb (l : List UInt8) (W : World) : (convert 9 22 (.string (S l))).run Try.prog W = .ok (.slice (some ⟨W.heap.size, 0, none⟩) l.length (grownCap W l.length 0 5)) (Lib.bytesWorld W 5 (S l)) := by
  have := print_bytes (P := Try.prog) 9 22 5 Try.underlying9 Try.underlying22 Try.underlying5 (S l) W
  rwa [S_size] at this

theorem S_take (l : List UInt8) (i : Nat) : (S l).extract 0 i = S (l.take i) := by
  have := Lib.extract_from_zero (S l) i
  exact congrArg S this
theorem S_drop (l : List UInt8) (i : Nat) : (S l).extract i l.length = S (l.drop i) := by
  have h : ((S l).extract i l.length).data.toList = l.drop i := by
    rw [ByteArray.data_extract, Array.toList_extract]
    show l.extract i l.length = _
    rw [List.extract_eq_take_drop]
    exact List.take_of_length_le (by rw [List.length_drop]; omega)
  exact congrArg S h
def OwnS (w : World) (base : Nat) (v : Value) (ss : List (List UInt8)) : Prop := w.ownsRow base 9 1 v ss.length (ss.map fun s => Value.string (S s))
theorem info9 : (Try.prog.info? 9).map (fun i => (i.zero, i.size, i.bytes)) = some (some (.string ByteArray.empty), 1, 16) := by kernel_rfl
theorem OwnS.shape {w : World} {base : Nat} {v : Value} {ss : List (List UInt8)} (h : OwnS w base v ss) (hne : ss ≠ []) :
    ∃ g cap, v = .slice (some ⟨g, 0, none⟩) ss.length cap ∧ ss.length ≤ cap ∧ base ≤ g ∧ g < w.heap.size ∧ ∀ (j : Nat) x, ss[j]? = some x → w.cell? ⟨g, j, none⟩ = some (.string (S x)) := by
  have h' := h
  have hl := List.length_pos_iff.2 hne
  rcases h.2 with ⟨_, h0⟩ | ⟨g, cap, cur, rfl, hb, hg, hc, _, _, _⟩
  · omega
  · refine ⟨g, cap, rfl, by omega, hb, (h'.lt g rfl).2, fun j x hx => ?_⟩
    have := h'.cells rfl j (.string (S x)) (by rw [List.getElem?_map, hx]; rfl)
    rwa [add_plain] at this
/-! ### rows of strings -/
def RdL (w : World) (v : Value) (ss : List (List UInt8)) : Prop := ∃ A cap, v = .slice A ss.length cap ∧ ss.length ≤ cap ∧ (0 < ss.length → ∃ g, A = some ⟨g, 0, none⟩ ∧ g < w.heap.size ∧ ∀ (j : Nat) x, ss[j]? = some x → w.cell? ⟨g, j, none⟩ = some (.string (S x)))
theorem RdL.below {w w1 : World} {v : Value} {ss : List (List UInt8)} (h : RdL w v ss) (hb : Below w.heap.size w w1) : RdL w1 v ss := by
  obtain ⟨A, cap, rfl, hc, hr⟩ := h
  refine ⟨A, cap, rfl, hc, fun h0 => ?_⟩
  obtain ⟨g, rfl, hg, hr⟩ := hr h0
  exact ⟨g, rfl, by have := hb.size; omega, fun j x hx => pw_cell_below hb (hr j x hx)⟩
theorem RdL.nil (w : World) : RdL w (.slice none 0 0) [] := ⟨none, 0, rfl, Nat.le_refl _, fun h => absurd h (by simp)⟩
theorem OwnS.rd {w : World} {base : Nat} {v : Value} {ss : List (List UInt8)} (h : OwnS w base v ss) : RdL w v ss := by
  cases ss with
  | nil =>
    rcases h.2 with ⟨rfl, _⟩ | ⟨g, cap, cur, rfl, hb, hg, hc, _, _, _⟩
    · exact ⟨none, 0, rfl, Nat.le_refl _, fun h => absurd h (by simp)⟩
    · exact ⟨_, cap, rfl, by simp, fun h => absurd h (by simp)⟩
  | cons x ss =>
    obtain ⟨g, cap, rfl, hc, _, hg, hcell⟩ := h.shape (by simp)
    exact ⟨_, cap, rfl, hc, fun _ => ⟨g, rfl, hg, hcell⟩⟩

theorem Row8.below {W W' : World} {g : Nat} {xs : List Int} (h : Row8 W g xs) (hb : Below W.heap.size W W') : Row8 W' g xs := by
  obtain ⟨cs, t, fz, h1, h2, h3, h4⟩ := h
  exact ⟨cs, t, fz, (hb.block g (Array.getElem?_eq_some_iff.1 h1).1).trans h1, h2, h3, h4⟩

theorem idx9 (g n cap i : Nat) (hi : i < n) (W : World) : (Instr.indexAt 93 (.slice (some ⟨g, 0, none⟩) n cap) (.int .i64 (i : Int))).run Try.prog W = .ok (.pointer (some ⟨g, i, none⟩)) W := by
  have h2 : 0 ≤ (i : Int) ∧ (i : Int) < (n : Int) := ⟨by omega, by omega⟩
  have h3 : ({ block := g, off := 0, spot := none } : Addr).add i = ⟨g, i, none⟩ := by
    unfold Addr.add; split <;> simp_all
  go_simp
theorem all256 {p : UInt8 → Prop} (h : ∀ n : Fin 256, p (UInt8.ofNat n.1)) (b : UInt8) : p b := by
  have := h ⟨b.toNat, b.toNat_lt⟩
  simpa using this
/-- A byte of a string. -/
theorem idxS (l : List UInt8) (i : Nat) (hi : i < l.length) (W : World) : (Instr.index 9 (.string (S l)) (.int .i64 (i : Int))).run Try.prog W = .ok (.int .u8 ((l[i]).toNat : Int)) W := by
  have hz := S_size l
  have h2 : (i : Int) < (l.length : Int) := by omega
  have h3 : 0 ≤ (i : Int) := by omega
  have hg : (S l)[i]! = l[i] := by
    have : i < (S l).size := by rw [hz]; exact hi
    rw [getElem!_pos (S l) i this]
    rfl
  go_simp
  try rfl

theorem all_step (p : UInt8 → Bool) {l : List UInt8} {k : Nat} (h : k < l.length) : (l.take (k + 1)).all p = ((l.take k).all p && p l[k]) := by
  rw [List.take_succ_eq_append_getElem h, List.all_append]
  simp
theorem all_no (p : UInt8 → Bool) {l : List UInt8} {k : Nat} (h : k < l.length) (hp : p l[k] = false) : l.all p = false := by
  rw [← Bool.not_eq_true, List.all_eq_true]
  intro h2
  rw [h2 l[k] (List.getElem_mem h)] at hp
  cases hp

end Go.Proofs.Ytmdecbockpgagaa

/- disk.name. -/
namespace Go.Proofs.Ytmdecbockpgagaa
open Go.RowKit Go.Proofs.YtmdecbockpgagaaW.PrintWords Go.Proofs.YtmdecbockpgagaaW.PrintMore

theorem nameC_yes (b : UInt8) (h : (97 ≤ b.toNat ∧ b.toNat ≤ 122) ∨ (65 ≤ b.toNat ∧ b.toNat ≤ 90) ∨ (48 ≤ b.toNat ∧ b.toNat ≤ 57) ∨ b.toNat = 45 ∨ b.toNat = 46) : nameC b = true := by
  unfold nameC
  simp only [Bool.or_eq_true, Bool.and_eq_true, decide_eq_true_eq, beq_iff_eq]
  rcases h with h | h | h | h | h
  · exact .inl (.inl (.inl (.inl h)))
  · exact .inl (.inl (.inl (.inr h)))
  · exact .inl (.inl (.inr h))
  · exact .inl (.inr (UInt8.toNat_inj.1 h))
  · exact .inr (UInt8.toNat_inj.1 h)
theorem nameC_no (b : UInt8) (h1 : ¬ (97 ≤ b.toNat ∧ b.toNat ≤ 122)) (h2 : ¬ (65 ≤ b.toNat ∧ b.toNat ≤ 90)) (h3 : ¬ (48 ≤ b.toNat ∧ b.toNat ≤ 57)) (h4 : b.toNat ≠ 45) (h5 : b.toNat ≠ 46) : nameC b = false := by
  rw [← Bool.not_eq_true]
  unfold nameC
  simp only [Bool.or_eq_true, Bool.and_eq_true, decide_eq_true_eq, beq_iff_eq]
  rintro ((((h | h) | h) | h) | h)
  · exact h1 h
  · exact h2 h
  · exact h3 h
  · exact h4 (by rw [h]; rfl)
  · exact h5 (by rw [h]; rfl)

set_option maxRecDepth 100000 in
set_option maxHeartbeats 2000000 in
theorem disk_name (l : List UInt8) (hl : l.length ≤ 1000000) (W : World) :
    Calls Try.prog 69 #[.string (S l)] W fun e w' => e = .returned (.bool (nameB l)) ∧ Below W.heap.size W w' := by
  have hk := kb l W
  have HR0 := Lib.hid (Row8.bytes W 5 (S l))
  have HB0 := Lib.hid (bytes_below (Below.refl W.heap.size W) (Nat.le_refl _) 5 (S l))
  generalize Lib.bytesWorld W 5 (S l) = W1 at hk HR0 HB0
  generalize grownCap W l.length 0 5 = cap at hk
  have HR1 : Hid (Row8 W1 W.heap.size (nl l)) := HR0
  have hsz := S_size l
  go_enter Try.func69, Try.ntmps69
  go_wp2_with fail
  clear hk
  go_loopw [9] (fun i wr => ∃ k : Nat, k ≤ l.length ∧ i = .int .i64 (k : Int) ∧ wr = W1 ∧ Hid ((l.take k).all nameC = true)) (fun i _ => l.length - (intOf i).toNat)
  case atStart => exact ⟨0, Nat.zero_le _, rfl, rfl, Lib.hid rfl⟩
  case round =>
    obtain ⟨k, hk, rfl, rfl, HA⟩ := hrel
    by_cases hlt : k < l.length
    · obtain ⟨hc, -⟩ := HR1.out.cell (j := k) (by rw [nl_length]; exact hlt)
      rw [nl_get hlt] at hc
      have hi := idx8 W.heap.size l.length cap k hlt
      have HT : Hid (nameC l[k] = true → (l.take (k + 1)).all nameC = true) := Lib.hid (fun h => by rw [all_step nameC hlt, HA.out, h]; rfl)
      have HN : Hid (nameC l[k] = false → nameB l = false) := Lib.hid (fun h => by unfold nameB; rw [all_no nameC hlt h]; rfl)
      have HY := Lib.hid (nameC_yes l[k])
      have HX := Lib.hid (nameC_no l[k])
      clear HA
      generalize hb : l[k] = b at hc HT HN HY HX
      clear hb
      have hx1 := b.toNat_lt
      generalize b.toNat = m at hc HY HX hx1
      obtain ⟨x, hx⟩ : ∃ x : Int, (m : Int) = x := ⟨_, rfl⟩
      have hx0 : 0 ≤ x := by omega
      have hx256 : x < 256 := by omega
      rw [hx] at hc
      by_cases h6 : 97 ≤ x
      · by_cases h8 : x ≤ 122
        · have HT2 := Lib.hid (HT.out (HY.out (by omega)))
          clear HT HN HY HX hx hx1
          go_wp2_with fail
          go_roundw
          case rel => exact ⟨k + 1, by omega, by go_num, trivial, HT2⟩
          case measure => simp [intOf]; omega
        · have g0 : 65 ≤ x := by omega
          have g1 : ¬ x ≤ 90 := by omega
          have g2 : ¬ x < 48 := by omega
          have g3 : 57 < x := by omega
          have g4 : (x != 45) = true := bne_iff_ne.2 (by omega)
          have g5 : (x != 46) = true := bne_iff_ne.2 (by omega)
          have HN2 := Lib.hid (HN.out (HX.out (by omega) (by omega) (by omega) (by omega) (by omega)))
          clear HT HN HY HX hx hx1
          go_wp2_with fail
          go_ret
          exact ⟨by rw [HN2.out]; rfl, HB0.out⟩
      · by_cases h8 : 65 ≤ x
        · by_cases h10 : x ≤ 90
          · have HT2 := Lib.hid (HT.out (HY.out (by omega)))
            clear HT HN HY HX hx hx1
            go_wp2_with fail
            go_roundw
            case rel => exact ⟨k + 1, by omega, by go_num, trivial, HT2⟩
            case measure => simp [intOf]; omega
          · have g0 : ¬ x < 48 := by omega
            have g1 : 57 < x := by omega
            have g2 : (x != 45) = true := bne_iff_ne.2 (by omega)
            have g3 : (x != 46) = true := bne_iff_ne.2 (by omega)
            have HN2 := Lib.hid (HN.out (HX.out (by omega) (by omega) (by omega) (by omega) (by omega)))
            clear HT HN HY HX hx hx1
            go_wp2_with fail
            go_ret
            exact ⟨by rw [HN2.out]; rfl, HB0.out⟩
        · by_cases h10 : 57 < x
          · have g0 : ¬ x < 48 := by omega
            have g1 : (x != 45) = true := bne_iff_ne.2 (by omega)
            have g2 : (x != 46) = true := bne_iff_ne.2 (by omega)
            have HN2 := Lib.hid (HN.out (HX.out (by omega) (by omega) (by omega) (by omega) (by omega)))
            clear HT HN HY HX hx hx1
            go_wp2_with fail
            go_ret
            exact ⟨by rw [HN2.out]; rfl, HB0.out⟩
          · by_cases h12 : 48 ≤ x
            · have g0 : ¬ x < 48 := by omega
              have HT2 := Lib.hid (HT.out (HY.out (by omega)))
              clear HT HN HY HX hx hx1
              go_wp2_with fail
              go_roundw
              case rel => exact ⟨k + 1, by omega, by go_num, trivial, HT2⟩
              case measure => simp [intOf]; omega
            · by_cases h14 : x = 45
              · have g0 : x < 48 := by omega
                have g1 : (x != 45) = false := by rw [bne_eq_false_iff_eq]; omega
                have g2 : (x != 46) = true := bne_iff_ne.2 (by omega)
                have HT2 := Lib.hid (HT.out (HY.out (by omega)))
                clear HT HN HY HX hx hx1 h14
                go_wp2_with fail
                go_roundw
                case rel => exact ⟨k + 1, by omega, by go_num, trivial, HT2⟩
                case measure => simp [intOf]; omega
              · by_cases h16 : x = 46
                · have g0 : x < 48 := by omega
                  have g1 : (x != 45) = true := bne_iff_ne.2 (by omega)
                  have g2 : (x != 46) = false := by rw [bne_eq_false_iff_eq]; omega
                  have HT2 := Lib.hid (HT.out (HY.out (by omega)))
                  clear HT HN HY HX hx hx1 h16
                  go_wp2_with fail
                  go_roundw
                  case rel => exact ⟨k + 1, by omega, by go_num, trivial, HT2⟩
                  case measure => simp [intOf]; omega
                · have g0 : x < 48 := by omega
                  have g1 : (x != 45) = true := bne_iff_ne.2 (by omega)
                  have g2 : (x != 46) = true := bne_iff_ne.2 (by omega)
                  have HN2 := Lib.hid (HN.out (HX.out (by omega) (by omega) (by omega) (by omega) (by omega)))
                  clear HT HN HY HX hx hx1 h16
                  go_wp2_with fail
                  go_ret
                  exact ⟨by rw [HN2.out]; rfl, HB0.out⟩
    · have hkn : k = l.length := by omega
      subst hkn
      have HAll : Hid (l.all nameC = true) := Lib.hid (by have := HA.out; rwa [List.take_length] at this)
      by_cases h1 : 1 ≤ l.length
      · have h1' : (1 : Int) ≤ (l.length : Int) := by omega
        by_cases h2 : l.length ≤ 40
        · have h2' : (l.length : Int) ≤ 40 := by omega
          have HE : Hid (nameB l = true) := Lib.hid (by unfold nameB; rw [HAll.out, decide_eq_true h1, decide_eq_true h2]; rfl)
          clear h1 h2
          go_wp2_with fail
          go_ret
          exact ⟨by rw [HE.out]; rfl, HB0.out⟩
        · have h2' : ¬ (l.length : Int) ≤ 40 := by omega
          have HE : Hid (nameB l = false) := Lib.hid (by unfold nameB; rw [HAll.out, decide_eq_true h1, decide_eq_false h2]; rfl)
          clear h1 h2
          go_wp2_with fail
          go_ret
          exact ⟨by rw [HE.out]; rfl, HB0.out⟩
      · have h1' : ¬ (1 : Int) ≤ (l.length : Int) := by omega
        have HE : Hid (nameB l = false) := Lib.hid (by unfold nameB; rw [HAll.out, decide_eq_false h1]; rfl)
        clear h1
        go_wp2_with fail
        go_ret
        exact ⟨by rw [HE.out]; rfl, HB0.out⟩
end Go.Proofs.Ytmdecbockpgagaa

/- Rows of names: step$1, slices.IndexFunc, slices.ContainsFunc. -/
namespace Go.Proofs.Ytmdecbockpgagaa
open Go.RowKit Go.Proofs.YtmdecbockpgagaaW.PrintWords Go.Proofs.YtmdecbockpgagaaW.PrintMore

set_option maxHeartbeats 1000000 in
theorem disk_step1 (l : List UInt8) (hl : l.length ≤ 1000000) (W : World) :
    Calls Try.prog 68 #[.string (S l)] W fun e w' => e = .returned (.bool (!nameB l)) ∧ Below W.heap.size W w' := by
  have HF := Lib.hid (disk_name l hl W)
  generalize nameB l = b at HF ⊢
  go_enter Try.func68, Try.ntmps68
  go_wp2_with fail
  refine HF.out.mono ?_
  rintro e w1 ⟨rfl, hb⟩
  have HB := Lib.hid hb
  clear hb HF
  go_wp2_with fail
  go_ret
  exact ⟨rfl, HB.out⟩

/-- A row of strings at an index: its address. -/
theorem idxR (g : Nat) (A : Option Addr) (n cap i : Nat) (hA : A = some ⟨g, 0, none⟩) (hi : i < n) (W : World) : (Instr.indexAt 93 (.slice A n cap) (.int .i64 (i : Int))).run Try.prog W = .ok (.pointer (some ⟨g, i, none⟩)) W := by
  subst hA
  exact idx9 g n cap i hi W

set_option maxHeartbeats 1000000 in
theorem disk_index (ss : List (List UInt8)) (hs : ∀ s ∈ ss, s.length ≤ 1000000) (hn : ss.length ≤ 1000000) (W : World) (v : Value) (hv : RdL W v ss) :
    Calls Try.prog 81 #[v, .func (.func 68) #[] #[]] W fun e w' => (∃ r : Int, e = .returned (.int .i64 r) ∧ decide (0 ≤ r) = !(ss.all nameB)) ∧ Below W.heap.size W w' := by
  obtain ⟨A, cap, rfl, hcap, hr⟩ := hv
  have HR := Lib.hid hr
  clear hr
  have HS := Lib.hid hs
  clear hs
  go_enter Try.func81, Try.ntmps81
  go_wp2_with fail
  go_loopw [8] (fun i wr => ∃ k : Nat, k ≤ ss.length ∧ i = .int .i64 (k : Int) ∧ Hid (Below W.heap.size W wr) ∧ Hid ((ss.take k).all nameB = true)) (fun i _ => ss.length - (intOf i).toNat)
  case atStart => exact ⟨0, Nat.zero_le _, rfl, Lib.hid (Below.refl _ _), Lib.hid rfl⟩
  case round =>
    obtain ⟨k, hk, rfl, HB, HA⟩ := hrel
    by_cases hlt : k < ss.length
    · obtain ⟨g, hA, hg, hcell⟩ := HR.out (by omega)
      have hi := idxR g A ss.length cap k hA hlt
      have hc := pw_cell_below HB.out (hcell k ss[k] (List.getElem?_eq_getElem hlt))
      clear hcell hA
      have HF := Lib.hid (fun w => disk_step1 ss[k] (HS.out _ (List.getElem_mem hlt)) w)
      have HT : Hid (nameB ss[k] = true → (ss.take (k + 1)).all nameB = true) := Lib.hid (fun h => by rw [List.take_succ_eq_append_getElem hlt, List.all_append, HA.out, List.all_cons, h]; rfl)
      have HN : Hid (nameB ss[k] = false → ss.all nameB = false) := Lib.hid (fun h => by
        rw [← Bool.not_eq_true, List.all_eq_true]
        intro h2
        rw [h2 ss[k] (List.getElem_mem hlt)] at h
        cases h)
      generalize hx : ss[k] = x at hc HF HT HN
      clear hx
      go_wp2_with fail
      refine (HF.out _).mono ?_
      rintro e w1 ⟨rfl, hb⟩
      have HB2 := Lib.hid (HB.out.trans (hb.mono HB.out.size))
      clear hb HF
      cases hp : nameB x with
      | true =>
        have HT2 := Lib.hid (HT.out hp)
        clear HT HN hp
        go_wp2_with fail
        go_roundw
        case rel => exact ⟨k + 1, by omega, by go_num, HB2, HT2⟩
        case measure => simp [intOf]; omega
      | false =>
        have HN2 := Lib.hid (HN.out hp)
        clear HT HN hp
        go_wp2_with fail
        go_ret
        exact ⟨⟨_, rfl, by rw [HN2.out, decide_eq_true (by omega)]; rfl⟩, HB2.out⟩
    · have hkn : k = ss.length := by omega
      subst hkn
      have HAll : Hid (ss.all nameB = true) := Lib.hid (by have := HA.out; rwa [List.take_length] at this)
      go_wp2_with fail
      go_ret
      exact ⟨⟨_, rfl, by rw [HAll.out]; rfl⟩, HB.out⟩

set_option maxHeartbeats 1000000 in
theorem disk_contains (ss : List (List UInt8)) (hs : ∀ s ∈ ss, s.length ≤ 1000000) (hn : ss.length ≤ 1000000) (W : World) (v : Value) (hv : RdL W v ss) :
    Calls Try.prog 67 #[v, .func (.func 68) #[] #[]] W fun e w' => e = .returned (.bool (!(ss.all nameB))) ∧ Below W.heap.size W w' := by
  have HF := Lib.hid (disk_index ss hs hn W v hv)
  clear hs hv
  generalize ss.all nameB = b at HF ⊢
  go_enter Try.func67, Try.ntmps67
  go_wp2_with fail
  refine HF.out.mono ?_
  rintro e w1 ⟨⟨r, rfl, hr⟩, hb⟩
  have HB := Lib.hid hb
  have HR := Lib.hid hr
  clear hb HF hr
  go_wp2_with fail
  go_ret
  exact ⟨by rw [← HR.out]; rfl, HB.out⟩
end Go.Proofs.Ytmdecbockpgagaa

/- Maps of names to files. -/
namespace Go.Proofs.Ytmdecbockpgagaa
open Go.RowKit Go.Maps Go.Proofs.YtmdecbockpgagaaW.PrintWords Go.Proofs.YtmdecbockpgagaaW.PrintMore

def vOf : Option Nat → Value
  | some f => .pointer (some ⟨f, 0, none⟩)
  | none => .pointer none
def numO : Option Nat → Int
  | some f => (f : Int)
  | none => -1
theorem numO_inj {o o' : Option Nat} (h : numO o = numO o') : o = o' := by
  cases o <;> cases o' <;> simp [numO] at h ⊢ <;> omega
/-- How a file's pointer reads: by its block. -/
def ptrR : Value → Option (DataW Unit × List MemPlace)
  | .pointer none => some (.lit (.int .i64 (-1)), [])
  | .pointer (some ⟨f, 0, none⟩) => some (.lit (.int .i64 (f : Int)), [])
  | _ => none
theorem ptrR_inv {v : Value} {z : DataW Unit × List MemPlace} (h : ptrR v = some z) : ∃ o : Option Nat, v = vOf o ∧ z.1 = .lit (.int .i64 (numO o)) := by
  unfold ptrR at h
  split at h
  · cases h; exact ⟨none, rfl, rfl⟩
  · cases h; rename_i f; exact ⟨some f, rfl, rfl⟩
  · cases h
theorem vOf_inv {o o' : Option Nat} (h : (DataW.lit (.int .i64 (numO o)) : DataW Unit) = .lit (.int .i64 (numO o'))) : o = o' := by
  have h2 : numO o = numO o' := by injection h with h; injection h
  exact numO_inj h2

abbrev TM : TypeId := 59
def SM (w : World) (b : Nat) (m : NM) : Prop := w.ownsMap Try.prog 9 ptrR b m.length (toD m)
theorem KS : Keyed Try.prog 9 := string_keyed Try.underlying9
theorem SM.fit {w : World} {b n : Nat} {m : NM} (h : w.ownsMap Try.prog 9 ptrR b n (toD m)) : SM w b m := by
  obtain ⟨es, clock, hb, F, hs, hD⟩ := h
  refine ⟨es, clock, hb, F, ?_, hD⟩
  have h1 := toD_size m
  rw [hD] at h1
  have h2 := length_read (P := Try.prog) (k := 9) (R0 := ptrR) es
  rw [Maps.size_eq, h2] at h1
  omega
theorem SM.lt {w : World} {b : Nat} {m : NM} (h : SM w b m) : b < w.heap.size := World.ownsMap.lt h
theorem SM.kept {w w' : World} {b : Nat} {m : NM} (h : SM w b m) (he : w'.heap[b]? = w.heap[b]?) : SM w' b m := by
  obtain ⟨es, clock, hb, r⟩ := h
  exact ⟨es, clock, he.trans hb, r⟩
theorem SM.below {w w' : World} {b : Nat} {m : NM} (h : SM w b m) (hb : Below w.heap.size w w') : SM w' b m := h.kept (hb.block b h.lt)
theorem SM.setCell {w : World} {b : Nat} {m : NM} (h : SM w b m) {a : Addr} (ha : b ≠ a.block) (u : Value) : SM (w.setCell a u) b m := World.ownsMap.setCell h ha u
theorem keyS {s : List UInt8} (hs : s.length ≤ 1000000) : keyOf Try.prog 9 (.string (S s)) = some (.string s) :=
  WideMaps.keyOf_string_mk Try.underlying9 (by rw [S_size]; unfold maxLen; omega)
theorem SM.look {w : World} {b : Nat} {m : NM} (h : SM w b m) (s : List UInt8) (hs : s.length ≤ 1000000) :
    (Instr.lookup TM (.map (some b)) (.string (S s)) false).run Try.prog w = .ok (vOf (mlk m s)) w := by
  obtain ⟨v, ps, hrun, hv⟩ := World.ownsMap.lookup h KS Try.underlying59 (z := .pointer none) (Try.zeroValue71 w) (zd := .lit (.int .i64 (-1))) (zp := []) rfl (keyS hs)
  obtain ⟨o, rfl, ho⟩ := ptrR_inv hv
  rw [hrun]
  have : o = mlk m s := by
    refine vOf_inv (ho.symm.trans ?_)
    show (toD m).atKey (.string s) _ = _
    rw [toD_at]
    cases mlk m s <;> rfl
  rw [this]
theorem SM.put {w : World} {b : Nat} {m : NM} (h : SM w b m) (hm : m.length ≤ 1000000) (s : List UInt8) (hs : s.length ≤ 1000000) (f : Nat) :
    ∃ w', (Instr.mapUpdate TM (.map (some b)) (.string (S s)) (.pointer (some ⟨f, 0, none⟩))).run Try.prog w = .ok () w' ∧ SM w' b (mput m s f) ∧ w.mapTurned w' b := by
  obtain ⟨w', hr, ho, ht⟩ := World.ownsMap.store h KS Try.underlying59 (by unfold maxLen; omega) (keyS hs) (val := .pointer (some ⟨f, 0, none⟩)) (d := .lit (.int .i64 (f : Int))) (ps := []) rfl
  rw [toD_put] at ho
  exact ⟨w', hr, SM.fit ho, ht⟩
theorem SM.del {w : World} {b : Nat} {m : NM} (h : SM w b m) (s : List UInt8) (hs : s.length ≤ 1000000) (ty : TypeId) :
    ∃ w', (Builtin.delete_ #[TM, 9] ty #[.map (some b), .string (S s)]).run Try.prog w = .ok (.tuple #[]) w' ∧ SM w' b (mdel m s) ∧ w.mapTurned w' b := by
  obtain ⟨w', hr, ho, ht⟩ := World.ownsMap.drop h KS Try.underlying59 (keyS hs) ty
  rw [toD_del] at ho
  exact ⟨w', hr, SM.fit ho, ht⟩
theorem SM.len {w : World} {b : Nat} {m : NM} (h : SM w b m) (ty : TypeId) : (Builtin.len_ #[TM] ty #[.map (some b)]).run Try.prog w = .ok (.int .i64 (m.length : Int)) w := by
  have := World.ownsMap.len h Try.underlying59 ty
  rwa [toD_size] at this
theorem SM.made (w : World) : SM (w.alloc (.map #[] 0)) w.heap.size [] := World.ownsMap_made w _ _ _
theorem SM.rising {w : World} {b : Nat} {m : NM} (h : SM w b m) : m.Pairwise fun p q => bytesBefore p.1 q.1 = true := by
  obtain ⟨es, clock, hb, F, hs, hD⟩ := h
  have h1 := WideShapes.rising_pairwise _ (fit_rising KS F)
  unfold toD at hD
  injection hD with hD
  rw [← hD] at h1
  exact (List.pairwise_map.1 h1).imp fun h => h
theorem before_le {a b : List UInt8} (h : bytesBefore a b = true) : a ≤ b := by
  induction a generalizing b with
  | nil => exact List.nil_le b
  | cons x r ih =>
    cases b with
    | nil => cases h
    | cons y s =>
      unfold bytesBefore at h
      simp only [Bool.or_eq_true, Bool.and_eq_true, decide_eq_true_eq, beq_iff_eq] at h
      rcases h with h | ⟨rfl, h⟩
      · exact List.cons_le_cons_iff.2 (.inl h)
      · exact List.cons_le_cons_iff.2 (.inr ⟨rfl, ih h⟩)
theorem SM.keys {w : World} {b : Nat} {m : NM} (h : SM w b m) {ss : List (List UInt8)} (hp : ss.Perm (Go.strKeys (toD m))) : ss.mergeSort (fun x y => decide (x ≤ y)) = m.map (·.1) := by
  have hk : Go.strKeys (toD m) = m.map (·.1) := by
    show ((m.map fun p => (Lit.string p.1, (DataW.lit (Lit.int .i64 (p.2 : Int)) : DataW Unit))).map fun p => strOf p.1) = _
    rw [List.map_map]
    rfl
  rw [hk] at hp
  rw [Go.mergeSort_of_perm hp]
  refine List.mergeSort_of_pairwise ?_
  refine List.pairwise_map.2 (h.rising.imp fun h => ?_)
  exact decide_eq_true (before_le h)

/-! ### files by other numbers -/
def nmB (g : Nat → Nat) (m : NM) : NM := m.map fun p => (p.1, g p.2)
theorem nmB_length (g : Nat → Nat) (m : NM) : (nmB g m).length = m.length := List.length_map ..
theorem nmB_lk (g : Nat → Nat) (m : NM) (s : Nm) : mlk (nmB g m) s = (mlk m s).map g := by
  unfold mlk nmB
  rw [List.find?_map]
  show Option.map _ (Option.map _ (m.find? fun p => p.1 == s)) = _
  cases m.find? fun p => p.1 == s <;> rfl
theorem nmB_del (g : Nat → Nat) (m : NM) (s : Nm) : mdel (nmB g m) s = nmB g (mdel m s) := by
  unfold mdel nmB
  rw [List.filter_map]
  rfl
theorem nmB_ins (g : Nat → Nat) (x : Nm × Nat) : ∀ (m : NM), mins (x.1, g x.2) (nmB g m) = nmB g (mins x m)
  | [] => rfl
  | y :: r => by
    show (if bytesBefore x.1 y.1 = true then _ else _) = nmB g (if bytesBefore x.1 y.1 = true then _ else _)
    split
    · rfl
    · show _ :: mins _ (nmB g r) = _
      rw [nmB_ins g x r]
      rfl
theorem nmB_put (g : Nat → Nat) (m : NM) (s : Nm) (f : Nat) : mput (nmB g m) s (g f) = nmB g (mput m s f) := by
  unfold mput
  rw [nmB_del]
  exact nmB_ins g (s, f) _
theorem nmB_congr {g g' : Nat → Nat} {m : NM} (h : ∀ p ∈ m, g p.2 = g' p.2) : nmB g m = nmB g' m := by
  unfold nmB
  exact List.map_congr_left fun p hp => by rw [h p hp]
theorem mlk_mem {m : NM} {s : Nm} {f : Nat} (h : mlk m s = some f) : (s, f) ∈ m := by
  unfold mlk at h
  obtain ⟨p, hp, rfl⟩ := Option.map_eq_some_iff.1 h
  have h1 := List.find?_some hp
  have h2 := List.mem_of_find?_eq_some hp
  have : p.1 = s := by simpa using h1
  rw [← this]
  exact h2
theorem mdel_mem {m : NM} {s : Nm} {p : Nm × Nat} (h : p ∈ mdel m s) : p ∈ m := (List.mem_filter.1 h).1
theorem mins_mem {x p : Nm × Nat} : ∀ {m : NM}, p ∈ mins x m → p = x ∨ p ∈ m
  | [], h => by rw [show mins x [] = [x] from rfl] at h; exact .inl (List.mem_singleton.1 h)
  | y :: r, h => by
    unfold mins at h
    split at h
    · rcases List.mem_cons.1 h with h | h
      · exact .inl h
      · exact .inr h
    · rcases List.mem_cons.1 h with h | h
      · exact .inr (by rw [h]; exact List.mem_cons_self)
      · rcases mins_mem h with h | h
        · exact .inl h
        · exact .inr (List.mem_cons_of_mem _ h)
theorem mput_mem {m : NM} {s : Nm} {f : Nat} {p : Nm × Nat} (h : p ∈ mput m s f) : p = (s, f) ∨ p ∈ m := by
  rcases mins_mem h with h | h
  · exact .inl h
  · exact .inr (mdel_mem h)
end Go.Proofs.Ytmdecbockpgagaa

/- What holds of every disk, behind each call. -/
namespace Go.Proofs.Ytmdecbockpgagaa
open Go.RowKit

variable {d : DS}
theorem Ok.tick (h : d.Ok) (hs : d.steps < 1000000000) : d.tick.Ok :=
  { steps := ⟨by have := h.steps.1; show 0 ≤ d.steps + 1; omega, by show d.steps + 1 ≤ 1000000000; omega⟩, failAt := h.failAt, offAt := h.offAt, names := h.names, kept := h.kept, since := h.since, back := h.back, many := h.many, bytes := h.bytes, manyAt := h.manyAt, sinceN := by have := h.sinceN; show (d.since.length : Int) ≤ 2 * (d.steps + 1); omega, lengths := h.lengths }
theorem replay_snoc (c : Chg) : ∀ (l : List Chg) (m : NM), replay m (l ++ [c]) = (replay m l).bind (does c)
  | [], m => by
    show (does c m).bind (fun m' => some m') = _
    show _ = does c m
    cases does c m <;> rfl
  | c' :: l, m => by
    show (does c' m).bind (fun m' => replay m' (l ++ [c])) = ((does c' m).bind fun m' => replay m' l).bind (does c)
    cases does c' m with
    | none => rfl
    | some m' => exact replay_snoc c l m'
theorem does_mem {c : Chg} {m m' : NM} {n : Nat} (h : does c m = some m') (hm : ∀ p ∈ m, p.2 < n) (hf : ∀ i, c.f = some i → i < n) : ∀ p ∈ m', p.2 < n := by
  unfold does at h
  split at h
  · split at h
    · cases h; exact hm
    · cases hc : c.f with
      | none => rw [hc] at h; cases h
      | some i =>
        rw [hc] at h
        cases h
        intro p hp
        rcases mput_mem hp with rfl | hp
        · exact hf i hc
        · exact hm p hp
  · cases hl : mlk m c.src with
    | none => rw [hl] at h; cases h
    | some i =>
      rw [hl] at h
      have hi := hm _ (mlk_mem hl)
      by_cases h2 : c.dst = []
      · have : mdel m c.src = m' := by simpa [h2] using h
        subst this
        exact fun p hp => hm p (mdel_mem hp)
      · have : mput (mdel m c.src) c.dst i = m' := by simpa [h2] using h
        subst this
        intro p hp
        rcases mput_mem hp with rfl | hp
        · exact hi
        · exact hm p (mdel_mem hp)
theorem mins_len (x : Nm × Nat) : ∀ (m : NM), (mins x m).length = m.length + 1
  | [] => rfl
  | y :: r => by
    unfold mins
    split
    · rfl
    · rw [List.length_cons, mins_len x r]; rfl
theorem mdel_len_le (m : NM) (s : Nm) : (mdel m s).length ≤ m.length := List.length_filter_le _ _
theorem mdel_len_lt {m : NM} {s : Nm} {i : Nat} (h : mlk m s = some i) : (mdel m s).length < m.length := by
  have hm := mlk_mem h
  clear h
  unfold mdel
  induction m with
  | nil => cases hm
  | cons y r ih =>
    rw [List.filter_cons]
    split
    · rename_i h1
      rcases List.mem_cons.1 hm with rfl | hm
      · simp at h1
      · have := ih hm
        simp only [List.length_cons]
        omega
    · have := List.length_filter_le (fun p : Nm × Nat => !(p.1 == s)) r
      simp only [List.length_cons]
      omega
theorem mput_len_le (m : NM) (s : Nm) (f : Nat) : (mput m s f).length ≤ m.length + 1 := by
  unfold mput
  rw [mins_len]
  have := mdel_len_le m s
  omega
theorem mput_len_some {m : NM} {s : Nm} {f i : Nat} (h : mlk m s = some i) : (mput m s f).length ≤ m.length := by
  unfold mput
  rw [mins_len]
  exact mdel_len_lt h
theorem Ok.changes (h : d.Ok) (c : Chg) (m' : NM) (hd : does c d.names = some m') (hf : ∀ i, c.f = some i → i < d.files.length) (hl : c.src.length ≤ 40 ∧ c.dst.length ≤ 40) (hn : m'.length ≤ 200) (hs : (d.since.length : Int) + 1 ≤ 2 * d.steps) : (d.changes c).Ok := by
  have he : d.changes c = { d with names := m', since := d.since ++ [c] } := by unfold DS.changes; rw [hd]; rfl
  rw [he]
  exact { steps := h.steps, failAt := h.failAt, offAt := h.offAt, names := does_mem hd h.names hf, kept := h.kept
          since := fun c' hc' => by
            rcases List.mem_append.1 hc' with hc' | hc'
            · exact h.since c' hc'
            · obtain rfl := List.mem_singleton.1 hc'
              exact hf
          back := by
            show replay d.kept (d.since ++ [c]) = some m'
            rw [replay_snoc, h.back]
            exact hd
          many := hn, bytes := h.bytes
          manyAt := fun k m hm => by
            rcases Nat.lt_or_ge d.since.length k with hk | hk
            · have h1 : (d.since ++ [c]).take k = d.since ++ [c] := List.take_of_length_le (by rw [List.length_append, List.length_singleton]; omega)
              have h2 : replay d.kept ((d.since ++ [c]).take k) = some m := hm
              rw [h1, replay_snoc, h.back] at h2
              have h3 : does c d.names = some m := h2
              rw [hd] at h3
              cases h3
              exact hn
            · refine h.manyAt k m ?_
              have h2 : replay d.kept ((d.since ++ [c]).take k) = some m := hm
              rwa [List.take_append_of_le_length hk] at h2
          sinceN := by
            show ((d.since ++ [c]).length : Int) ≤ _
            rw [List.length_append]
            simp
            omega
          lengths := fun c' hc' => by
            rcases List.mem_append.1 hc' with hc' | hc'
            · exact h.lengths c' hc'
            · obtain rfl := List.mem_singleton.1 hc'
              exact hl }
theorem Ok.file_new (h : d.Ok) : ({ d with files := d.files ++ [⟨[], 0⟩] } : DS).Ok :=
  { steps := h.steps, failAt := h.failAt, offAt := h.offAt
    names := fun p hp => by have := h.names p hp; show _ < (d.files ++ [_]).length; rw [List.length_append]; omega
    kept := fun p hp => by have := h.kept p hp; show _ < (d.files ++ [_]).length; rw [List.length_append]; omega
    since := fun c hc i hi => by have := h.since c hc i hi; show _ < (d.files ++ [_]).length; rw [List.length_append]; omega
    back := h.back, many := h.many
    bytes := fun f hf => by
      rcases List.mem_append.1 hf with hf | hf
      · exact h.bytes f hf
      · obtain rfl := List.mem_singleton.1 hf
        exact ⟨by simp, by simp⟩
    manyAt := h.manyAt, sinceN := h.sinceN, lengths := h.lengths }
theorem nameB_len {s : Nm} (h : nameB s = true) : 1 ≤ s.length ∧ s.length ≤ 40 := by
  unfold nameB at h
  simp only [Bool.and_eq_true, decide_eq_true_eq] at h
  exact h.2
theorem nameB_ne {s : Nm} (h : nameB s = true) : s ≠ [] := by
  rintro rfl
  have := (nameB_len h).1
  simp at this
theorem code_zero {ss : List Nm} (h : d.code ss = 0) : ∀ s ∈ ss, nameB s = true := by
  unfold DS.code at h
  split at h
  · cases h
  · split at h
    · cases h
    · split at h
      · rename_i h2
        exact fun s hs => List.all_eq_true.1 h2 s hs
      · cases h
theorem does_new {m : NM} {i : Nat} {s : Nm} (hs : s ≠ []) : does ⟨some i, [], s⟩ m = some (mput m s i) := by
  unfold does
  rw [if_pos rfl, if_neg hs]
  rfl
theorem create_eq (d0 : DS) (s : Nm) (h : d0.tick.code [s] = 0) (h2 : ¬ ((mlk d0.names s).isNone ∧ 200 ≤ d0.names.length)) :
    d0.create s = (0, ({ d0.tick with files := d0.files ++ [⟨[], 0⟩] } : DS).changes ⟨some d0.files.length, [], s⟩) := by
  have hs := nameB_ne (code_zero h s List.mem_cons_self)
  unfold DS.create DS.changes
  simp only
  rw [if_neg (by rw [h]; simp), if_neg (show ¬ ((mlk d0.tick.names s).isNone ∧ 200 ≤ d0.tick.names.length) from h2), does_new hs]
  rfl
theorem create_len {d0 : DS} {s : Nm} (ho : d0.Ok) (h2 : ¬ ((mlk d0.names s).isNone ∧ 200 ≤ d0.names.length)) (i : Nat) : (mput d0.names s i).length ≤ 200 := by
  have hm := ho.many
  cases hl : mlk d0.names s with
  | none =>
    have := mput_len_le d0.names s i
    rw [hl] at h2
    have h3 : ¬ 200 ≤ d0.names.length := fun h => h2 ⟨rfl, h⟩
    omega
  | some j => exact Nat.le_trans (mput_len_some hl) hm
theorem Ok.create {d0 : DS} (ho : d0.Ok) (hst : d0.steps < 1000000000) (s : Nm) : (d0.create s).2.Ok := by
  by_cases h : d0.tick.code [s] = 0
  · by_cases h2 : (mlk d0.names s).isNone ∧ 200 ≤ d0.names.length
    · have : (d0.create s).2 = d0.tick := by
        unfold DS.create
        simp only
        rw [if_neg (by rw [h]; simp), if_pos (show (mlk d0.tick.names s).isNone ∧ 200 ≤ d0.tick.names.length from h2)]
      rw [this]
      exact Ok.tick ho hst
    · rw [create_eq d0 s h h2]
      have hn := code_zero h s List.mem_cons_self
      refine Ok.changes (Ok.file_new (Ok.tick ho hst)) _ _ (does_new (nameB_ne hn)) ?_ ⟨by simp, (nameB_len hn).2⟩ (create_len ho h2 _) ?_
      · intro i hi
        cases hi
        show _ < (d0.files ++ [_]).length
        rw [List.length_append]
        simp
      · have := ho.sinceN
        show (d0.since.length : Int) + 1 ≤ 2 * (d0.steps + 1)
        omega
  · have : (d0.create s).2 = d0.tick := by
      unfold DS.create
      simp only
      rw [if_pos h]
    rw [this]
    exact Ok.tick ho hst
end Go.Proofs.Ytmdecbockpgagaa

/- Where a disk lies: its block, its two maps, its row of changes, its files. -/
namespace Go.Proofs.Ytmdecbockpgagaa
open Go.RowKit Go.Maps Go.Proofs.YtmdecbockpgagaaW.PrintWords Go.Proofs.YtmdecbockpgagaaW.PrintMore

theorem own_keep {w w' : World} {base : Nat} {e : TypeId} {size : Nat} {v : Value} {n : Nat} {xs : List Value} (h : w.ownsRow base e size v n xs) (hk : ∀ g, v.ownBlock = some g → w'.heap[g]? = w.heap[g]?) : w'.ownsRow base e size v n xs := by
  refine ⟨h.1, ?_⟩
  rcases h.2 with h2 | ⟨g, cap, cur, rfl, hb, hg, r⟩
  · exact .inl h2
  · exact .inr ⟨g, cap, cur, rfl, hb, (hk g rfl).trans hg, r⟩
theorem own_obj {w : World} {base : Nat} {e : TypeId} {size : Nat} {v : Value} {n : Nat} {xs : List Value} (h : w.ownsRow base e size v n xs) {g : Nat} (hg : v.ownBlock = some g) : ∃ cur, w.heap[g]? = some (.cells cur e (0, 0)) := by
  rcases h.2 with ⟨rfl, _⟩ | ⟨g', cap, cur, rfl, hb, hg', r⟩
  · cases hg
  · cases hg
    exact ⟨cur, hg'⟩

/-- The files: their blocks bl, their rows vl. -/
structure FA (B : Nat) (bl : List Nat) (vl : List Value) (fs : List Fl) (w : World) : Prop where
  nb : bl.length = fs.length
  nv : vl.length = fs.length
  file : ∀ (i : Nat) f, fs[i]? = some f → w.heap[bl.getD i 0]? = some (.cells #[vl.getD i (.pointer none), .int .i64 (f.kept : Int)] 79 (0, 0))
  rows : ∀ (i : Nat) f, fs[i]? = some f → OwnB w B (vl.getD i (.pointer none)) f.b
  bys : ∀ (i : Nat) f, fs[i]? = some f → By f.b
  ab : ∀ i j, i < fs.length → j < fs.length → bl.getD i 0 = bl.getD j 0 → i = j
  av : ∀ i j g, i < fs.length → j < fs.length → (vl.getD i (.pointer none)).ownBlock = some g → (vl.getD j (.pointer none)).ownBlock = some g → i = j
  lo : ∀ i, i < fs.length → B ≤ bl.getD i 0
theorem FA.keep {B : Nat} {bl : List Nat} {vl : List Value} {fs : List Fl} {w w' : World} (h : FA B bl vl fs w) (hb : ∀ i, i < fs.length → w'.heap[bl.getD i 0]? = w.heap[bl.getD i 0]?) (hr : ∀ i g, i < fs.length → (vl.getD i (.pointer none)).ownBlock = some g → w'.heap[g]? = w.heap[g]?) : FA B bl vl fs w' :=
  { h with
    file := fun i f hf => (hb i (List.getElem?_eq_some_iff.1 hf).1).trans (h.file i f hf)
    rows := fun i f hf => own_keep (h.rows i f hf) (fun g hg => hr i g (List.getElem?_eq_some_iff.1 hf).1 hg) }

structure DG where
  p : Nat
  mn : Nat
  mq : Nat
  vs : Value
  bl : List Nat
  vl : List Value
def DG.blk (G : DG) (i : Nat) : Nat := G.bl.getD i 0
def DG.row (G : DG) (i : Nat) : Value := G.vl.getD i (.pointer none)
/-- The blocks of a disk. -/
def DG.has (G : DG) (k : Nat) : Prop := k = G.p ∨ k = G.mn ∨ k = G.mq ∨ G.vs.ownBlock = some k ∨ (∃ i, i < G.bl.length ∧ G.blk i = k) ∨ ∃ i, i < G.vl.length ∧ (G.row i).ownBlock = some k

def chgV (g : Nat → Nat) (c : Chg) : List Value := [vOf (c.f.map g), .string (S c.src), .string (S c.dst)]
theorem chgV_length (g : Nat → Nat) : ∀ (l : List Chg), (l.flatMap (chgV g)).length = l.length * 3
  | [] => rfl
  | c :: r => by
    rw [List.flatMap_cons, List.length_append, chgV_length g r, List.length_cons]
    show 3 + _ = _
    omega

def pcells (G : DG) (d : DS) : Array Value := #[.int .i64 d.quota, .map (some G.mn), .map (some G.mq), G.vs, .int .i64 d.steps, .int .i64 d.failAt, .int .i64 d.offAt]
structure At (B : Nat) (G : DG) (d : DS) (w : World) : Prop where
  cell : w.heap[G.p]? = some (.cells (pcells G d) 62 (0, 0))
  names : SM w G.mn (nmB G.blk d.names)
  kept : SM w G.mq (nmB G.blk d.kept)
  apart : G.mn ≠ G.mq
  since : w.ownsRow B 73 3 G.vs d.since.length (d.since.flatMap (chgV G.blk))
  files : FA B G.bl G.vl d.files w
  lo : B ≤ G.p ∧ B ≤ G.mn ∧ B ≤ G.mq

variable {B : Nat} {G : DG} {d : DS} {w w' : World}
theorem At.load (h : At B G d w) (j : Nat) (v : Value) (hj : (pcells G d)[j]? = some v) : w.cell? ⟨G.p, j, none⟩ = some v := by
  unfold World.cell?
  rw [h.cell]
  exact hj
theorem At.l0 (h : At B G d w) : w.cell? ⟨G.p, 0, none⟩ = some (.int .i64 d.quota) := h.load 0 _ rfl
theorem At.l1 (h : At B G d w) : w.cell? ⟨G.p, 1, none⟩ = some (.map (some G.mn)) := h.load 1 _ rfl
theorem At.l2 (h : At B G d w) : w.cell? ⟨G.p, 2, none⟩ = some (.map (some G.mq)) := h.load 2 _ rfl
theorem At.l3 (h : At B G d w) : w.cell? ⟨G.p, 3, none⟩ = some (G.vs) := h.load 3 _ rfl
theorem At.l4 (h : At B G d w) : w.cell? ⟨G.p, 4, none⟩ = some (.int .i64 d.steps) := h.load 4 _ rfl
theorem At.l5 (h : At B G d w) : w.cell? ⟨G.p, 5, none⟩ = some (.int .i64 d.failAt) := h.load 5 _ rfl
theorem At.l6 (h : At B G d w) : w.cell? ⟨G.p, 6, none⟩ = some (.int .i64 d.offAt) := h.load 6 _ rfl
theorem At.thaw (h : At B G d w) (j : Nat) : w.frozen? ⟨G.p, j, none⟩ = false := by
  unfold World.frozen?
  rw [h.cell]
  simp
theorem obj_ne {a b : Nat} {x y : Obj} (ha : w.heap[a]? = some x) (hb : w.heap[b]? = some y) (h : x ≠ y) : a ≠ b := by
  rintro rfl
  rw [ha] at hb
  cases hb
  exact h rfl
theorem At.p_lt (h : At B G d w) : G.p < w.heap.size := (Array.getElem?_eq_some_iff.1 h.cell).1
theorem SM.obj {b : Nat} {m : NM} (h : SM w b m) : ∃ es clock, w.heap[b]? = some (.map es clock) := by
  obtain ⟨es, clock, hb, _⟩ := h
  exact ⟨es, clock, hb⟩
theorem At.p_mn (h : At B G d w) : G.p ≠ G.mn := by
  obtain ⟨es, clock, hb⟩ := h.names.obj
  exact obj_ne h.cell hb (by simp)
theorem At.p_mq (h : At B G d w) : G.p ≠ G.mq := by
  obtain ⟨es, clock, hb⟩ := h.kept.obj
  exact obj_ne h.cell hb (by simp)
theorem At.p_vs (h : At B G d w) {g : Nat} (hg : G.vs.ownBlock = some g) : G.p ≠ g := by
  obtain ⟨cur, hb⟩ := own_obj h.since hg
  exact obj_ne h.cell hb (by simp)
theorem At.p_blk (h : At B G d w) {i : Nat} (hi : i < d.files.length) : G.p ≠ G.blk i :=
  obj_ne h.cell (h.files.file i _ (List.getElem?_eq_getElem hi)) (by simp)
theorem At.p_row (h : At B G d w) {i g : Nat} (hi : i < d.files.length) (hg : (G.row i).ownBlock = some g) : G.p ≠ g := by
  obtain ⟨cur, hb⟩ := own_obj (h.files.rows i _ (List.getElem?_eq_getElem hi)) hg
  exact obj_ne h.cell hb (by simp)
theorem At.has_lt (h : At B G d w) {k : Nat} (hk : G.has k) : B ≤ k ∧ k < w.heap.size := by
  rcases hk with rfl | rfl | rfl | hk | ⟨i, hi, rfl⟩ | ⟨i, hi, hk⟩
  · exact ⟨h.lo.1, h.p_lt⟩
  · exact ⟨h.lo.2.1, h.names.lt⟩
  · exact ⟨h.lo.2.2, h.kept.lt⟩
  · exact h.since.lt k hk
  · rw [h.files.nb] at hi
    exact ⟨h.files.lo i hi, (Array.getElem?_eq_some_iff.1 (h.files.file i _ (List.getElem?_eq_getElem hi))).1⟩
  · rw [h.files.nv] at hi
    exact World.ownsRow.lt (h.files.rows i _ (List.getElem?_eq_getElem hi)) k hk
theorem has_blk {i : Nat} (h : At B G d w) (hi : i < d.files.length) : G.has (G.blk i) := .inr (.inr (.inr (.inr (.inl ⟨i, by rw [h.files.nb]; exact hi, rfl⟩))))
theorem has_row {i g : Nat} (h : At B G d w) (hi : i < d.files.length) (hg : (G.row i).ownBlock = some g) : G.has g := .inr (.inr (.inr (.inr (.inr ⟨i, by rw [h.files.nv]; exact hi, hg⟩))))
/-- Nothing of the disk has turned. -/
theorem At.keep (h : At B G d w) (hk : ∀ k, G.has k → w'.heap[k]? = w.heap[k]?) : At B G d w' :=
  { h with
    cell := (hk _ (.inl rfl)).trans h.cell
    names := h.names.kept (hk _ (.inr (.inl rfl)))
    kept := h.kept.kept (hk _ (.inr (.inr (.inl rfl))))
    since := own_keep h.since (fun _ hg => hk _ (.inr (.inr (.inr (.inl hg)))))
    files := h.files.keep (fun _ hi => hk _ (has_blk h hi)) (fun _ _ hi hg => hk _ (has_row h hi hg)) }
theorem At.below (h : At B G d w) (hb : Below w.heap.size w w') : At B G d w' := h.keep fun k hk => hb.block k (h.has_lt hk).2

/-- What a disk's call leaves of all else. -/
structure Tr (w : World) (G : DG) (w' : World) (G' : DG) : Prop where
  os : w'.os = w.os
  tape : w'.tape = w.tape
  output : w'.output = w.output
  size : w.heap.size ≤ w'.heap.size
  block : ∀ k, k < w.heap.size → ¬ G.has k → w'.heap[k]? = w.heap[k]?
  p : G'.p = G.p
  foot : ∀ k, k < w.heap.size → G'.has k → G.has k
theorem Tr.below {G' : DG} (h : Tr w G w' G') (hA : At B G d w) : Below B w w' :=
  ⟨h.os, h.tape, h.output, h.size, fun k hk => h.block k (by
    have := (hA.has_lt (.inl rfl : G.has G.p))
    omega) (fun hh => by have := (hA.has_lt hh).1; omega)⟩
theorem Tr.refl (w : World) (G : DG) : Tr w G w G := ⟨rfl, rfl, rfl, Nat.le_refl _, fun _ _ _ => rfl, rfl, fun _ _ h => h⟩
theorem Tr.of_below (hb : Below w.heap.size w w') (G : DG) : Tr w G w' G := ⟨hb.os, hb.tape, hb.output, hb.size, fun k hk _ => hb.block k hk, rfl, fun _ _ h => h⟩
theorem Tr.trans {w1 w2 w3 : World} {G1 G2 G3 : DG} (h : Tr w1 G1 w2 G2) (k : Tr w2 G2 w3 G3) : Tr w1 G1 w3 G3 :=
  ⟨k.os.trans h.os, k.tape.trans h.tape, k.output.trans h.output, Nat.le_trans h.size k.size,
   fun i hi hn => (k.block i (Nat.lt_of_lt_of_le hi h.size) (fun hh => hn (h.foot i hi hh))).trans (h.block i hi hn),
   k.p.trans h.p, fun i hi hh => h.foot i hi (k.foot i (Nat.lt_of_lt_of_le hi h.size) hh)⟩
theorem Tr.then_below {w1 w2 w3 : World} {G1 G2 : DG} (h : Tr w1 G1 w2 G2) (hb : Below w2.heap.size w2 w3) : Tr w1 G1 w3 G2 := h.trans (Tr.of_below hb G2)
theorem Tr.setCell (w : World) (G : DG) (j : Nat) (v : Value) : Tr w G (w.setCell ⟨G.p, j, none⟩ v) G :=
  ⟨rfl, rfl, rfl, by unfold World.setCell; simp, fun k hk hn => by
    unfold World.setCell
    simp only [Array.getElem?_modify]
    rw [if_neg (fun e => hn (.inl e.symm))], rfl, fun _ _ h => h⟩

/-- A cell of the disk's block is written. -/
theorem At.setP (h : At B G d w) (j : Nat) (v : Value) {d' : DS} (hc : (pcells G d).setIfInBounds j v = pcells G d') (hn : d'.names = d.names) (hk : d'.kept = d.kept) (hs : d'.since = d.since) (hf : d'.files = d.files) :
    At B G d' (w.setCell ⟨G.p, j, none⟩ v) := by
  have hother : ∀ k, G.p ≠ k → (w.setCell ⟨G.p, j, none⟩ v).heap[k]? = w.heap[k]? := fun k hk => by
    unfold World.setCell
    simp only [Array.getElem?_modify]
    rw [if_neg hk]
  refine { cell := ?_, names := ?_, kept := ?_, apart := h.apart, since := ?_, files := ?_, lo := h.lo }
  · unfold World.setCell
    simp only [Array.getElem?_modify, if_pos, h.cell]
    rw [← hc]
    rfl
  · rw [hn]; exact h.names.kept (hother _ h.p_mn)
  · rw [hk]; exact h.kept.kept (hother _ h.p_mq)
  · rw [hs]; exact own_keep h.since (fun _ hg => hother _ (h.p_vs hg))
  · rw [hf]; exact h.files.keep (fun _ hi => hother _ (h.p_blk hi)) (fun _ _ hi hg => hother _ (h.p_row hi hg))

theorem At.tick (h : At B G d w) : At B G d.tick (w.setCell ⟨G.p, 4, none⟩ (.int .i64 (d.steps + 1))) :=
  h.setP 4 _ rfl rfl rfl rfl rfl
end Go.Proofs.Ytmdecbockpgagaa
