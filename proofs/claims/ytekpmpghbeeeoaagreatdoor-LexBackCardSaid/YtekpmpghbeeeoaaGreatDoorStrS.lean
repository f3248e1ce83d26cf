import Derived.Test.YtekpmpghbeeeoaaGreatDoorBase
import Derived.Test.YtekpmpghbeeeoaaGreatDoorRd
import Derived.Lib.ConvBytes
import Derived.Lib.SlicesS
/- Strings as lists of bytes, and the row of a converted string. -/
namespace Go.Proofs.YtekpmpghbeeeoaaGreatDoor
open Go.RowKit Go.Proofs.YtekpmpghbeeeoaaGreatDoorW.PrintWords Go.Proofs.YtekpmpghbeeeoaaGreatDoorW.PrintMore

/-- The string of a list of bytes. -/
def S (l : List UInt8) : ByteArray := ⟨l.toArray⟩
theorem S_data (l : List UInt8) : (S l).data.toList = l := rfl
theorem S_size (l : List UInt8) : (S l).size = l.length := by
  rw [← data_length, S_data]
theorem S_of (s : ByteArray) : S s.data.toList = s := rfl
theorem S_inj {a b : List UInt8} (h : S a = S b) : a = b := congrArg (fun s => s.data.toList) h
theorem S_eq (a b : List UInt8) : ((S a).toList == (S b).toList) = decide (a = b) := by
  by_cases h : a = b
  · subst h; rw [decide_eq_true rfl]; exact (Lib.bytes_beq_iff _ _).2 rfl
  · rw [decide_eq_false h]; exact (Lib.bytes_beq_false_iff _ _).2 (fun e => h (S_inj e))
theorem bytesOf_S (l : List UInt8) : bytesOf (S l) = l.map fun b => (b.toNat : Int) := rfl
theorem strOf_nums (l : List UInt8) : strOfNums (l.map fun b => (b.toNat : Int)) = S l := by
  have := strOfNums_bytesOf (S l)
  rwa [bytesOf_S] at this

/-- A row that a conversion has laid: its cells may be written. -/
def Row8 (W : World) (g : Nat) (xs : List Int) : Prop :=
  ∃ (cs : Array Value) (t : TypeId) (fz : Nat × Nat), W.heap[g]? = some (.cells cs t fz) ∧ xs.length ≤ fz.1 ∧ xs.length ≤ cs.size ∧ ∀ j, j < xs.length → cs[j]? = some (.int .u8 (xs.getD j 0))
theorem Row8.cell {W : World} {g : Nat} {xs : List Int} (h : Row8 W g xs) {j : Nat} (hj : j < xs.length) : W.cell? ⟨g, j, none⟩ = some (.int .u8 (xs.getD j 0)) ∧ W.frozen? ⟨g, j, none⟩ = false := by
  obtain ⟨cs, t, fz, h1, h2, h3, h4⟩ := h
  constructor
  · unfold World.cell?
    rw [h1]
    exact h4 j hj
  · unfold World.frozen?
    rw [h1]
    simp only [Bool.and_eq_false_iff, decide_eq_false_iff_not]
    omega
theorem Row8.set_ {W : World} {g : Nat} {xs : List Int} (h : Row8 W g xs) (i : Nat) (x : Int) (hi : i < xs.length) : Row8 (W.setCell ⟨g, i, none⟩ (.int .u8 x)) g (xs.set i x) := by
  obtain ⟨cs, t, fz, h1, h2, h3, h4⟩ := h
  have hg := (Array.getElem?_eq_some_iff.1 h1).1
  refine ⟨cs.setIfInBounds i (.int .u8 x), t, fz, ?_, by rw [List.length_set]; exact h2, by rw [List.length_set, Array.size_setIfInBounds]; exact h3, fun j hj => ?_⟩
  · unfold World.setCell
    simp only [Array.getElem?_modify, if_pos, h1]
    rfl
  · rw [List.length_set] at hj
    rw [Array.getElem?_setIfInBounds, List.getD_eq_getElem?_getD, List.getElem?_set]
    by_cases e : i = j
    · subst e
      rw [if_pos rfl, if_pos rfl, if_pos (by omega), if_pos (by omega)]
      rfl
    · rw [if_neg e, if_neg e, h4 j hj, List.getD_eq_getElem?_getD]
theorem Row8.reads {W : World} {g : Nat} {xs : List Int} (h : Row8 W g xs) (hm : xs.length ≤ 9223372036854775807) : ReadsInt W .u8 (some ⟨g, 0, none⟩) xs.length xs :=
  ⟨rfl, hm, fun _ => ⟨_, rfl, fun j hj => by rw [add_plain]; exact (h.cell hj).1⟩⟩
theorem Row8.bytes (W : World) (e : TypeId) (s : ByteArray) : Row8 (Lib.bytesWorld W e s) W.heap.size (bytesOf s) := by
  refine ⟨_, _, _, Lib.bytesWorld_at_new W e s, ?_, ?_, fun j hj => ?_⟩
  · rw [bytesOf_length]; simp [Lib.bytesCells]
  · rw [bytesOf_length]; simp [Lib.bytesCells]
  · rw [bytesOf_length] at hj
    have := Lib.bytesWorld_cell W e s j hj
    unfold World.cell? at this
    rw [Lib.bytesWorld_at_new] at this
    have h' : j < s.data.toList.length := by rw [data_length]; exact hj
    have h2 : (Lib.bytesCells W e s)[j]? = some (.int .u8 (s.data.toList.getD j 0).toNat) := this
    rw [h2]
    simp [bytesOf, List.getD_eq_getElem?_getD, List.getElem?_eq_getElem h']
theorem Below.set_ {B : Nat} {w W : World} (h : Below B w W) {g : Nat} (hB : B ≤ g) (i : Nat) (v : Value) : Below B w (W.setCell ⟨g, i, none⟩ v) :=
  ⟨h.os, h.tape, h.output, by unfold World.setCell; simp only [Array.size_modify]; exact h.size, fun k hk => by
    unfold World.setCell
    simp only [Array.getElem?_modify]
    rw [if_neg (by omega)]
    exact h.block k hk⟩
def nl (l : List UInt8) : List Int := l.map fun b => (b.toNat : Int)
theorem nl_length (l : List UInt8) : (nl l).length = l.length := by rw [nl, List.length_map]
theorem nl_get {l : List UInt8} {k : Nat} (h : k < l.length) : (nl l).getD k 0 = ((l[k]).toNat : Int) := by
  simp [nl, List.getD_eq_getElem?_getD, h]
theorem idx8 (g n cap i : Nat) (hi : i < n) (W : World) : (Instr.indexAt 39 (.slice (some ⟨g, 0, none⟩) n cap) (.int .i64 (i : Int))).run Tryz.prog W = .ok (.pointer (some ⟨g, i, none⟩)) W := by
  have h2 : 0 ≤ (i : Int) ∧ (i : Int) < (n : Int) := ⟨by omega, by omega⟩
  have h3 : ({ block := g, off := 0, spot := none } : Addr).add i = ⟨g, i, none⟩ := by
    unfold Addr.add; split <;> simp_all
  go_simp
theorem nl_set (l : List UInt8) (k : Nat) (b : UInt8) : nl (l.set k b) = (nl l).set k (b.toNat : Int) := by
  unfold nl
  rw [List.map_set]
theorem kb (l : List UInt8) (W : World) : (convert 9 39 (.string (S l))).run Tryz.prog W = .ok (.slice (some ⟨W.heap.size, 0, none⟩) l.length (grownCap W l.length 0 5)) (Lib.bytesWorld W 5 (S l)) := by
  have := print_bytes (P := Tryz.prog) 9 39 5 Tryz.underlying9 Tryz.underlying39 Tryz.underlying5 (S l) W
  rwa [S_size] at this
theorem S_take (l : List UInt8) (i : Nat) : (S l).extract 0 i = S (l.take i) := by
  have h : ((S l).extract 0 i).data.toList = l.take i := by
    rw [ByteArray.data_extract, Array.toList_extract]
    show l.extract 0 i = _
    rw [List.extract_eq_take_drop, List.drop_zero, Nat.sub_zero]
  exact congrArg S h
theorem S_drop (l : List UInt8) (i : Nat) : (S l).extract i l.length = S (l.drop i) := by
  have h : ((S l).extract i l.length).data.toList = l.drop i := by
    rw [ByteArray.data_extract, Array.toList_extract]
    show l.extract i l.length = _
    rw [List.extract_eq_take_drop]
    exact List.take_of_length_le (by rw [List.length_drop]; omega)
  exact congrArg S h
theorem run_take (l : List UInt8) (i : Nat) (hi : i ≤ l.length) (W : World) : (Instr.slice 9 (.string (S l)) none (some (.int .i64 (i : Int))) none).run Tryz.prog W = .ok (.string (S (l.take i))) W := by
  have hz := S_size l
  have h2 : (i : Int) ≤ (l.length : Int) := by omega
  have he := S_take l i
  go_simp
theorem run_drop (l : List UInt8) (i : Nat) (hi : i ≤ l.length) (W : World) : (Instr.slice 9 (.string (S l)) (some (.int .i64 (i : Int))) none none).run Tryz.prog W = .ok (.string (S (l.drop i))) W := by
  have hz := S_size l
  have h2 : (i : Int) ≤ (l.length : Int) := by omega
  have he := S_drop l i
  go_simp
theorem S_sub (l : List UInt8) (i j : Nat) : (S l).extract i j = S ((l.take j).drop i) := by
  have h : ((S l).extract i j).data.toList = (l.take j).drop i := by
    rw [ByteArray.data_extract, Array.toList_extract]
    show l.extract i j = _
    rw [List.extract_eq_take_drop, List.drop_take]
  exact congrArg S h
theorem run_sub (l : List UInt8) (i j : Nat) (hij : i ≤ j) (hj : j ≤ l.length) (W : World) : (Instr.slice 9 (.string (S l)) (some (.int .i64 (i : Int))) (some (.int .i64 (j : Int))) none).run Tryz.prog W = .ok (.string (S ((l.take j).drop i))) W := by
  have hz := S_size l
  have h1 : (i : Int) ≤ (j : Int) := by omega
  have h2 : (j : Int) ≤ (l.length : Int) := by omega
  have he := S_sub l i j
  go_simp
theorem ixS {l : List UInt8} {k : Nat} (h : k < l.length) (W : World) : (Instr.index 9 (.string (S l)) (.int .i64 (k : Int))).run Tryz.prog W = .ok (.int .u8 ((l[k]).toNat : Int)) W := by
  have hz := S_size l
  rw [run_index_string W 9 (S l) .i64 (k : Int) Tryz.underlying9, dif_pos ⟨by omega, by omega⟩]
  rfl
theorem S_cat (a b : List UInt8) : S a ++ S b = S (a ++ b) := by
  have h : (S a ++ S b).data.toList = a ++ b := by
    rw [ByteArray.data_append, Array.toList_append]
    rfl
  exact congrArg S h
end Go.Proofs.YtekpmpghbeeeoaaGreatDoor
