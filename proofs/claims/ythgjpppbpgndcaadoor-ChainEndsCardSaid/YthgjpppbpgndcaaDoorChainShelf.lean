/- The functions of packages slices and maps that package chain calls, at this translation: laid by the kit's own program (numbers of the seat). -/
import Derived.Shelf.SlIter.Nil
import Derived.Shelf.SortM.Plain
import Derived.Shelf.SortM.SortNone
import Derived.Test.YthgjpppbpgndcaaDoorProg
namespace Go.Proofs.YthgjpppbpgndcaaDoor
open Go.Shelf Go.Proofs
def TrydlayKeys_ren : Go.Shelf.Ren := ⟨fun | 7 => 22 | 10 => 39 | n => n, fun | 23 => 49 | 26 => 9 | 3 => 9 | 28 => 57 | 0 => 0 | 27 => 56 | 33 => 54 | 4 => 4 | n => n, fun | n => n⟩
theorem TrydlayKeys : Go.Proofs.SlLaysZ.n7 Tryd.prog TrydlayKeys_ren := {
  mixed := by kernel_rfl
  f7 := ⟨Tryd.f22.name, by decide, Tryd.func22.trans (congrArg some (by kernel_rfl))⟩
  f10 := ⟨Tryd.f39.name, by decide, Tryd.func39.trans (congrArg some (by kernel_rfl))⟩
  t0 := Tryd.underlying0
  a0 := Tryd.isAgg0
  z0 := Tryd.sizeOf0
  v0 := Tryd.zeroValue0
  t4 := Tryd.underlying4
  a4 := Tryd.isAgg4
  z4 := Tryd.sizeOf4
  v4 := Tryd.zeroValue4
  t23 := Tryd.underlying49
  a23 := Tryd.isAgg49
  z23 := Tryd.sizeOf49
  v23 := Tryd.zeroValue49
  t26 := Tryd.underlying9
  a26 := Tryd.isAgg9
  z26 := Tryd.sizeOf9
  v26 := Tryd.zeroValue9
  t27 := Tryd.underlying56
  a27 := Tryd.isAgg56
  z27 := Tryd.sizeOf56
  v27 := Tryd.zeroValue56
  t28 := Tryd.underlying57
  a28 := Tryd.isAgg57
  z28 := Tryd.sizeOf57
  v28 := Tryd.zeroValue57
  t33 := Tryd.underlying54
  a33 := Tryd.isAgg54
  z33 := Tryd.sizeOf54
  v33 := Tryd.zeroValue54 }
def TrydlaySorted_ren : Go.Shelf.Ren := ⟨fun | 6 => 21 | 8 => 37 | 9 => 38 | 11 => 53 | 13 => 55 | 12 => 54 | 23 => 74 | 24 => 75 | 14 => 65 | 15 => 66 | 16 => 67 | 17 => 68 | 18 => 69 | 19 => 70 | 20 => 71 | 21 => 72 | 22 => 73 | 25 => 84 | 26 => 85 | 27 => 86 | 28 => 87 | 29 => 88 | 30 => 89 | 31 => 96 | n => n, fun | 26 => 9 | 28 => 57 | 24 => 33 | 0 => 0 | 3 => 3 | 37 => 44 | 48 => 107 | 50 => 109 | 4 => 4 | 40 => 99 | 39 => 98 | 45 => 104 | 5 => 5 | 9 => 9 | 51 => 118 | 55 => 122 | 57 => 132 | 58 => 133 | 33 => 54 | n => n, fun | n => n⟩
theorem TrydlaySorted : Go.Proofs.SlLaysZ.n6 Tryd.prog TrydlaySorted_ren := {
  mixed := by kernel_rfl
  f6 := ⟨Tryd.f21.name, by decide, Tryd.func21.trans (congrArg some (by kernel_rfl))⟩
  f8 := ⟨Tryd.f37.name, by decide, Tryd.func37.trans (congrArg some (by kernel_rfl))⟩
  f11 := ⟨Tryd.f53.name, by decide, Tryd.func53.trans (congrArg some (by kernel_rfl))⟩
  t0 := Tryd.underlying0
  a0 := Tryd.isAgg0
  z0 := Tryd.sizeOf0
  v0 := Tryd.zeroValue0
  t24 := Tryd.underlying33
  a24 := Tryd.isAgg33
  z24 := Tryd.sizeOf33
  v24 := Tryd.zeroValue33
  t26 := Tryd.underlying9
  a26 := Tryd.isAgg9
  z26 := Tryd.sizeOf9
  v26 := Tryd.zeroValue9
  t28 := Tryd.underlying57
  a28 := Tryd.isAgg57
  z28 := Tryd.sizeOf57
  v28 := Tryd.zeroValue57
  i26 := by kernel_rfl }
def TrydlaySort_ren : Go.Shelf.Ren := ⟨fun | 6 => 38 | 8 => 55 | 9 => 54 | 19 => 74 | 20 => 75 | 21 => 65 | 22 => 66 | 23 => 67 | 24 => 68 | 25 => 69 | 26 => 70 | 27 => 71 | 28 => 72 | 29 => 73 | 36 => 84 | 31 => 85 | 32 => 86 | 37 => 87 | 38 => 88 | 39 => 89 | 41 => 96 | n => n, fun | 27 => 33 | 29 => 9 | 3 => 3 | 32 => 44 | 26 => 33 | 0 => 0 | 44 => 107 | 46 => 109 | 4 => 4 | 36 => 99 | 35 => 98 | 41 => 104 | 5 => 5 | 9 => 9 | 53 => 118 | 57 => 122 | 63 => 132 | 64 => 133 | n => n, fun | n => n⟩
theorem TrydlaySort : Go.Proofs.SlLaysM.n6 Tryd.prog TrydlaySort_ren := {
  mixed := by kernel_rfl
  f6 := ⟨Tryd.f38.name, by decide, Tryd.func38.trans (congrArg some (by kernel_rfl))⟩
  f8 := Tryd.func55.trans (congrArg some (by kernel_rfl))
  f9 := ⟨Tryd.f54.name, by decide, Tryd.func54.trans (congrArg some (by kernel_rfl))⟩
  f19 := Tryd.func74.trans (congrArg some (by kernel_rfl))
  f20 := Tryd.func75.trans (congrArg some (by kernel_rfl))
  f21 := ⟨Tryd.f65.name, by decide, Tryd.func65.trans (congrArg some (by kernel_rfl))⟩
  f22 := ⟨Tryd.f66.name, by decide, Tryd.func66.trans (congrArg some (by kernel_rfl))⟩
  f23 := ⟨Tryd.f67.name, by decide, Tryd.func67.trans (congrArg some (by kernel_rfl))⟩
  f24 := ⟨Tryd.f68.name, by decide, Tryd.func68.trans (congrArg some (by kernel_rfl))⟩
  f25 := ⟨Tryd.f69.name, by decide, Tryd.func69.trans (congrArg some (by kernel_rfl))⟩
  f26 := ⟨Tryd.f70.name, by decide, Tryd.func70.trans (congrArg some (by kernel_rfl))⟩
  f27 := ⟨Tryd.f71.name, by decide, Tryd.func71.trans (congrArg some (by kernel_rfl))⟩
  f28 := ⟨Tryd.f72.name, by decide, Tryd.func72.trans (congrArg some (by kernel_rfl))⟩
  f29 := ⟨Tryd.f73.name, by decide, Tryd.func73.trans (congrArg some (by kernel_rfl))⟩
  f31 := Tryd.func85.trans (congrArg some (by kernel_rfl))
  f32 := Tryd.func86.trans (congrArg some (by kernel_rfl))
  f36 := ⟨Tryd.f84.name, by decide, Tryd.func84.trans (congrArg some (by kernel_rfl))⟩
  f37 := ⟨Tryd.f87.name, by decide, Tryd.func87.trans (congrArg some (by kernel_rfl))⟩
  f38 := ⟨Tryd.f88.name, by decide, Tryd.func88.trans (congrArg some (by kernel_rfl))⟩
  f39 := ⟨Tryd.f89.name, by decide, Tryd.func89.trans (congrArg some (by kernel_rfl))⟩
  f41 := ⟨Tryd.f96.name, by decide, Tryd.func96.trans (congrArg some (by kernel_rfl))⟩
  t0 := Tryd.underlying0
  a0 := Tryd.isAgg0
  z0 := Tryd.sizeOf0
  v0 := Tryd.zeroValue0
  t3 := Tryd.underlying3
  a3 := Tryd.isAgg3
  z3 := Tryd.sizeOf3
  v3 := Tryd.zeroValue3
  t4 := Tryd.underlying4
  a4 := Tryd.isAgg4
  z4 := Tryd.sizeOf4
  v4 := Tryd.zeroValue4
  t5 := Tryd.underlying5
  a5 := Tryd.isAgg5
  z5 := Tryd.sizeOf5
  v5 := Tryd.zeroValue5
  t9 := Tryd.underlying9
  a9 := Tryd.isAgg9
  z9 := Tryd.sizeOf9
  v9 := Tryd.zeroValue9
  t26 := Tryd.underlying33
  a26 := Tryd.isAgg33
  z26 := Tryd.sizeOf33
  v26 := Tryd.zeroValue33
  t27 := Tryd.underlying33
  a27 := Tryd.isAgg33
  z27 := Tryd.sizeOf33
  v27 := Tryd.zeroValue33
  t29 := Tryd.underlying9
  a29 := Tryd.isAgg9
  z29 := Tryd.sizeOf9
  v29 := Tryd.zeroValue9
  t32 := Tryd.underlying44
  a32 := Tryd.isAgg44
  z32 := Tryd.sizeOf44
  v32 := Tryd.zeroValue44
  t35 := Tryd.underlying98
  a35 := Tryd.isAgg98
  z35 := Tryd.sizeOf98
  v35 := Tryd.zeroValue98
  t36 := Tryd.underlying99
  a36 := Tryd.isAgg99
  z36 := Tryd.sizeOf99
  v36 := Tryd.zeroValue99
  t41 := Tryd.underlying104
  a41 := Tryd.isAgg104
  z41 := Tryd.sizeOf104
  v41 := Tryd.zeroValue104
  t44 := Tryd.underlying107
  a44 := Tryd.isAgg107
  z44 := Tryd.sizeOf107
  v44 := Tryd.zeroValue107
  t46 := Tryd.underlying109
  a46 := Tryd.isAgg109
  z46 := Tryd.sizeOf109
  v46 := Tryd.zeroValue109
  t53 := Tryd.underlying118
  a53 := Tryd.isAgg118
  z53 := Tryd.sizeOf118
  v53 := Tryd.zeroValue118
  t57 := Tryd.underlying122
  a57 := Tryd.isAgg122
  z57 := Tryd.sizeOf122
  v57 := Tryd.zeroValue122
  t63 := Tryd.underlying132
  a63 := Tryd.isAgg132
  z63 := Tryd.sizeOf132
  v63 := Tryd.zeroValue132
  t64 := Tryd.underlying133
  a64 := Tryd.isAgg133
  z64 := Tryd.sizeOf133
  v64 := Tryd.zeroValue133 }
open Go.RowKit Go.Maps Go.Sort
theorem TrydlaySorts (m : Nat) : AnyZ.SortsIn Tryd.prog TrydlaySorted_ren Fence.wide m :=
  ⟨fun blk off cap ss W hH hblk hsz => callsIn_wide.2 (AnyM.slices_Sort_string TrydlaySort blk off cap ss W hH hblk hsz),
   fun p cap W => callsIn_wide.2 (AnyM.slices_Sort_string_none TrydlaySort p cap W)⟩
theorem lib_keys (mb : Option Nat) (W : World) : CallsIn Fence.wide 5 Tryd.prog 22 #[.map mb] W fun e w' => e = .returned (.func (.func 39) #[] #[.pointer (some ⟨W.heap.size, 0, none⟩)]) ∧ w' = W.alloc (.cells #[.map mb] 49) :=
  AnyZ.keys_in TrydlayKeys Fence.wide 5 trivial rfl mb W

set_option maxHeartbeats 1000000 in
theorem lib_sorted {H : Type} (b nn : Nat) (D0 : DataW H) (R : Value → Option (DataW H × List MemPlace)) (w : World) (hown : w.ownsMap Tryd.prog 9 R b nn D0) (hmax : Maps.size D0 ≤ maxLen) (hbytes : Maps.size D0 * 16 ≤ 140737488355328) :
    CallsIn Fence.wide 5 Tryd.prog 21 #[.func (.func 39) #[] #[.pointer (some ⟨w.heap.size, 0, none⟩)]] (w.alloc (.cells #[.map (some b)] 49)) fun e w' => ∃ (v : Value) (ss : List (List UInt8)), e = .returned v ∧ ss.Perm (strKeys D0) ∧
      w'.ownsRow (w.alloc (.cells #[.map (some b)] 49)).heap.size 9 1 v ss.length ((ss.mergeSort (fun x y => decide (x ≤ y))).map encStr) ∧ (v = .slice none 0 0 ↔ ss = []) ∧ Below (w.alloc (.cells #[.map (some b)] 49)).heap.size (w.alloc (.cells #[.map (some b)] 49)) w' := by
  have hbl := hown.lt
  have hseq : SeqGives Fence.wide 2 Tryd.prog 39 #[.pointer (some ⟨w.heap.size, 0, none⟩)] encStr (fun ss => ss.Perm (strKeys D0)) (Maps.size D0) (w.alloc (.cells #[.map (some b)] 49)) :=
    AnyZ.keys_gives (ρ := TrydlayKeys_ren) { TrydlayKeys with } Fence.wide _ trivial rfl (by omega) w.heap.size b nn D0 _ (by simp) (by simp) (by
      obtain ⟨es, clock, hb, Ft, hs, hD⟩ := hown
      exact ⟨es, clock, (Below.heap_alloc _ _ b hbl).trans hb, Ft, hs, hD⟩)
  exact AnyZ.sorted_in TrydlaySorted Fence.wide 5 trivial trivial trivial trivial rfl (by omega) (TrydlaySorts _) (enters_of Tryd.func38 (by kernel_rfl) rfl) 39 #[.pointer (some ⟨w.heap.size, 0, none⟩)] trivial (enters_of Tryd.func39 (by kernel_rfl) rfl) _ _ hmax hbytes _ hseq
end Go.Proofs.YthgjpppbpgndcaaDoor
