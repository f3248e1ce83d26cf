import Derived.Test.YthgjpppbpgndcaaGreatDoorTagShelf
import Derived.Test.YthgjpppbpgndcaaGreatDoorBase
import Derived.Test.YthgjpppbpgndcaaGreatDoorRd
import Derived.Lib.ConvBytes
/- Strings as lists of bytes, the row of a converted string, and the small functions of package tag. -/
namespace Go.Proofs.YthgjpppbpgndcaaGreatDoor
open Go.RowKit Go.Shelf Go.Proofs.YthgjpppbpgndcaaGreatDoorW.PrintWords Go.Proofs.YthgjpppbpgndcaaGreatDoorW.PrintMore

/-- The string of a list of bytes. -/
def S (l : List UInt8) : ByteArray := ⟨l.toArray⟩
theorem S_data (l : List UInt8) : (S l).data.toList = l := rfl
theorem S_size (l : List UInt8) : (S l).size = l.length := by
  rw [← data_length, S_data]
theorem S_of (s : ByteArray) : S s.data.toList = s := rfl
theorem S_inj {a b : List UInt8} (h : S a = S b) : a = b := congrArg (fun s => s.data.toList) h
theorem S_eq (a b : List UInt8) : ((S a).toList == (S b).toList) = decide (a = b) := by
  by_cases h : a = b
  · subst h; rw [decide_eq_true rfl]; exact (Lib.bytes_beq_iff _ _).2 rfl
  · rw [decide_eq_false h]; exact (Lib.bytes_beq_false_iff _ _).2 (fun e => h (S_inj e))
theorem bytesOf_S (l : List UInt8) : bytesOf (S l) = l.map fun b => (b.toNat : Int) := rfl
theorem strOf_nums (l : List UInt8) : strOfNums (l.map fun b => (b.toNat : Int)) = S l := by
  have := strOfNums_bytesOf (S l)
  rwa [bytesOf_S] at this

/-- A row that a conversion has laid: its cells may be written. -/
def Row8 (W : World) (g : Nat) (xs : List Int) : Prop :=
  ∃ (cs : Array Value) (t : TypeId) (fz : Nat × Nat), W.heap[g]? = some (.cells cs t fz) ∧ xs.length ≤ fz.1 ∧ xs.length ≤ cs.size ∧ ∀ j, j < xs.length → cs[j]? = some (.int .u8 (xs.getD j 0))
theorem Row8.cell {W : World} {g : Nat} {xs : List Int} (h : Row8 W g xs) {j : Nat} (hj : j < xs.length) : W.cell? ⟨g, j, none⟩ = some (.int .u8 (xs.getD j 0)) ∧ W.frozen? ⟨g, j, none⟩ = false := by
  obtain ⟨cs, t, fz, h1, h2, h3, h4⟩ := h
  constructor
  · unfold World.cell?
    rw [h1]
    exact h4 j hj
  · unfold World.frozen?
    rw [h1]
    simp only [Bool.and_eq_false_iff, decide_eq_false_iff_not]
    omega
theorem Row8.set_ {W : World} {g : Nat} {xs : List Int} (h : Row8 W g xs) (i : Nat) (x : Int) (hi : i < xs.length) : Row8 (W.setCell ⟨g, i, none⟩ (.int .u8 x)) g (xs.set i x) := by
  obtain ⟨cs, t, fz, h1, h2, h3, h4⟩ := h
  have hg := (Array.getElem?_eq_some_iff.1 h1).1
  refine ⟨cs.setIfInBounds i (.int .u8 x), t, fz, ?_, by rw [List.length_set]; exact h2, by rw [List.length_set, Array.size_setIfInBounds]; exact h3, fun j hj => ?_⟩
  · unfold World.setCell
    simp only [Array.getElem?_modify, if_pos, h1]
    rfl
  · rw [List.length_set] at hj
    rw [Array.getElem?_setIfInBounds, List.getD_eq_getElem?_getD, List.getElem?_set]
    by_cases e : i = j
    · subst e
      rw [if_pos rfl, if_pos rfl, if_pos (by omega), if_pos (by omega)]
      rfl
    · rw [if_neg e, if_neg e, h4 j hj, List.getD_eq_getElem?_getD]
theorem Row8.reads {W : World} {g : Nat} {xs : List Int} (h : Row8 W g xs) (hm : xs.length ≤ 9223372036854775807) : ReadsInt W .u8 (some ⟨g, 0, none⟩) xs.length xs :=
  ⟨rfl, hm, fun _ => ⟨_, rfl, fun j hj => by rw [add_plain]; exact (h.cell hj).1⟩⟩
theorem Row8.bytes (W : World) (e : TypeId) (s : ByteArray) : Row8 (Lib.bytesWorld W e s) W.heap.size (bytesOf s) := by
  refine ⟨_, _, _, Lib.bytesWorld_at_new W e s, ?_, ?_, fun j hj => ?_⟩
  · rw [bytesOf_length]; simp [Lib.bytesCells]
  · rw [bytesOf_length]; simp [Lib.bytesCells]
  · rw [bytesOf_length] at hj
    have := Lib.bytesWorld_cell W e s j hj
    unfold World.cell? at this
    rw [Lib.bytesWorld_at_new] at this
    have h' : j < s.data.toList.length := by rw [data_length]; exact hj
    have h2 : (Lib.bytesCells W e s)[j]? = some (.int .u8 (s.data.toList.getD j 0).toNat) := this
    rw [h2]
    simp [bytesOf, List.getD_eq_getElem?_getD, List.getElem?_eq_getElem h']
theorem Below.set_ {B : Nat} {w W : World} (h : Below B w W) {g : Nat} (hB : B ≤ g) (i : Nat) (v : Value) : Below B w (W.setCell ⟨g, i, none⟩ v) :=
  ⟨h.os, h.tape, h.output, by unfold World.setCell; simp only [Array.size_modify]; exact h.size, fun k hk => by
    unfold World.setCell
    simp only [Array.getElem?_modify]
    rw [if_neg (by omega)]
    exact h.block k hk⟩

/-! ### the small functions -/
def isLow (b : UInt8) : Bool := decide (97 ≤ b.toNat) && decide (b.toNat ≤ 122)
def isDig (b : UInt8) : Bool := decide (48 ≤ b.toNat) && decide (b.toNat ≤ 57)
def isEi (b : UInt8) : Bool := isLow b || isDig b
def lowU (b : UInt8) : UInt8 := if 65 ≤ b.toNat ∧ b.toNat ≤ 90 then UInt8.ofNat (b.toNat + 32) else b
def lowI (x : Int) : Int := if 65 ≤ x ∧ x ≤ 90 then x + 32 else x
theorem lowU_toNat (b : UInt8) : ((lowU b).toNat : Int) = lowI (b.toNat : Int) := by
  have hb := b.toNat_lt
  unfold lowU lowI
  by_cases h : 65 ≤ b.toNat ∧ b.toNat ≤ 90
  · rw [if_pos h, if_pos (by omega), UInt8.toNat_ofNat']
    omega
  · rw [if_neg h, if_neg (by omega)]
def smallL (l : List UInt8) : List UInt8 := l.map lowU

theorem tag_letter (b : UInt8) (W : World) : Calls Tryz.prog 47 #[.int .u8 (b.toNat : Int)] W fun e w' => e = .returned (.bool (isLow b)) ∧ W = w' := by
  have hb := b.toNat_lt
  unfold isLow
  by_cases h1 : 97 ≤ b.toNat
  · by_cases h2 : b.toNat ≤ 122
    · go_enter Tryz.func47, Tryz.ntmps47
      go_wp2_with fail
      go_ret
      exact ⟨by simp [h1, h2]; omega, rfl⟩
    · go_enter Tryz.func47, Tryz.ntmps47
      go_wp2_with fail
      go_ret
      exact ⟨by simp [h2]; omega, rfl⟩
  · go_enter Tryz.func47, Tryz.ntmps47
    go_wp2_with fail
    go_ret
    exact ⟨by simp, rfl⟩
theorem tag_digit (b : UInt8) (W : World) : Calls Tryz.prog 49 #[.int .u8 (b.toNat : Int)] W fun e w' => e = .returned (.bool (isDig b)) ∧ W = w' := by
  have hb := b.toNat_lt
  unfold isDig
  by_cases h1 : 48 ≤ b.toNat
  · by_cases h2 : b.toNat ≤ 57
    · go_enter Tryz.func49, Tryz.ntmps49
      go_wp2_with fail
      go_ret
      exact ⟨by simp [h1, h2]; omega, rfl⟩
    · go_enter Tryz.func49, Tryz.ntmps49
      go_wp2_with fail
      go_ret
      exact ⟨by simp [h2]; omega, rfl⟩
  · go_enter Tryz.func49, Tryz.ntmps49
    go_wp2_with fail
    go_ret
    exact ⟨by simp, rfl⟩
theorem tag_either (b : UInt8) (W : World) : Calls Tryz.prog 71 #[.int .u8 (b.toNat : Int)] W fun e w' => e = .returned (.bool (isEi b)) ∧ W = w' := by
  unfold isEi
  have HL := Lib.hid (tag_letter b W)
  have HD := Lib.hid (tag_digit b W)
  cases h1 : isLow b with
  | true =>
    rw [h1] at HL
    go_enter Tryz.func71, Tryz.ntmps71
    go_wp2_with fail
    refine HL.out.mono ?_
    rintro e w1 ⟨rfl, rfl⟩
    go_wp2
    go_ret
    exact ⟨rfl, rfl⟩
  | false =>
    rw [h1] at HL
    go_enter Tryz.func71, Tryz.ntmps71
    go_wp2_with fail
    refine HL.out.mono ?_
    rintro e w1 ⟨rfl, rfl⟩
    go_wp2_with fail
    refine HD.out.mono ?_
    rintro e w1 ⟨rfl, rfl⟩
    go_wp2
    go_ret
    exact ⟨rfl, rfl⟩
end Go.Proofs.YthgjpppbpgndcaaGreatDoor
