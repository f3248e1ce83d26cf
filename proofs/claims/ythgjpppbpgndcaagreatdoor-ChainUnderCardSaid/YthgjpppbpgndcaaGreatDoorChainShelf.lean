/- The functions of packages slices and maps that package chain calls, at this translation: laid by the kit's own program (numbers of the seat). -/
import Derived.Shelf.SlIter.Nil
import Derived.Shelf.SortM.Plain
import Derived.Shelf.SortM.SortNone
import Derived.Test.YthgjpppbpgndcaaGreatDoorProg
namespace Go.Proofs.YthgjpppbpgndcaaGreatDoor
open Go.Shelf Go.Proofs
def TryzlayKeys_ren : Go.Shelf.Ren := ⟨fun | 7 => 20 | 10 => 37 | n => n, fun | 23 => 46 | 26 => 9 | 3 => 9 | 28 => 53 | 0 => 0 | 27 => 52 | 33 => 36 | 4 => 4 | n => n, fun | n => n⟩
theorem TryzlayKeys : Go.Proofs.SlLaysZ.n7 Tryz.prog TryzlayKeys_ren := {
  mixed := by kernel_rfl
  f7 := ⟨Tryz.f20.name, by decide, Tryz.func20.trans (congrArg some (by kernel_rfl))⟩
  f10 := ⟨Tryz.f37.name, by decide, Tryz.func37.trans (congrArg some (by kernel_rfl))⟩
  t0 := Tryz.underlying0
  a0 := Tryz.isAgg0
  z0 := Tryz.sizeOf0
  v0 := Tryz.zeroValue0
  t4 := Tryz.underlying4
  a4 := Tryz.isAgg4
  z4 := Tryz.sizeOf4
  v4 := Tryz.zeroValue4
  t23 := Tryz.underlying46
  a23 := Tryz.isAgg46
  z23 := Tryz.sizeOf46
  v23 := Tryz.zeroValue46
  t26 := Tryz.underlying9
  a26 := Tryz.isAgg9
  z26 := Tryz.sizeOf9
  v26 := Tryz.zeroValue9
  t27 := Tryz.underlying52
  a27 := Tryz.isAgg52
  z27 := Tryz.sizeOf52
  v27 := Tryz.zeroValue52
  t28 := Tryz.underlying53
  a28 := Tryz.isAgg53
  z28 := Tryz.sizeOf53
  v28 := Tryz.zeroValue53
  t33 := Tryz.underlying36
  a33 := Tryz.isAgg36
  z33 := Tryz.sizeOf36
  v33 := Tryz.zeroValue36 }
def TryzlaySorted_ren : Go.Shelf.Ren := ⟨fun | 6 => 19 | 8 => 35 | 9 => 36 | 11 => 52 | 13 => 54 | 12 => 53 | 23 => 81 | 24 => 82 | 14 => 72 | 15 => 73 | 16 => 74 | 17 => 75 | 18 => 76 | 19 => 77 | 20 => 78 | 21 => 79 | 22 => 80 | 25 => 95 | 26 => 96 | 27 => 97 | 28 => 98 | 29 => 99 | 30 => 100 | 31 => 110 | n => n, fun | 26 => 9 | 28 => 53 | 24 => 30 | 0 => 0 | 3 => 3 | 37 => 83 | 48 => 110 | 50 => 112 | 4 => 4 | 40 => 102 | 39 => 101 | 45 => 107 | 5 => 5 | 9 => 9 | 51 => 123 | 55 => 127 | 57 => 136 | 58 => 137 | 33 => 36 | n => n, fun | n => n⟩
theorem TryzlaySorted : Go.Proofs.SlLaysZ.n6 Tryz.prog TryzlaySorted_ren := {
  mixed := by kernel_rfl
  f6 := ⟨Tryz.f19.name, by decide, Tryz.func19.trans (congrArg some (by kernel_rfl))⟩
  f8 := ⟨Tryz.f35.name, by decide, Tryz.func35.trans (congrArg some (by kernel_rfl))⟩
  f11 := ⟨Tryz.f52.name, by decide, Tryz.func52.trans (congrArg some (by kernel_rfl))⟩
  t0 := Tryz.underlying0
  a0 := Tryz.isAgg0
  z0 := Tryz.sizeOf0
  v0 := Tryz.zeroValue0
  t24 := Tryz.underlying30
  a24 := Tryz.isAgg30
  z24 := Tryz.sizeOf30
  v24 := Tryz.zeroValue30
  t26 := Tryz.underlying9
  a26 := Tryz.isAgg9
  z26 := Tryz.sizeOf9
  v26 := Tryz.zeroValue9
  t28 := Tryz.underlying53
  a28 := Tryz.isAgg53
  z28 := Tryz.sizeOf53
  v28 := Tryz.zeroValue53
  i26 := by kernel_rfl }
def TryzlaySort_ren : Go.Shelf.Ren := ⟨fun | 6 => 36 | 8 => 54 | 9 => 53 | 19 => 81 | 20 => 82 | 21 => 72 | 22 => 73 | 23 => 74 | 24 => 75 | 25 => 76 | 26 => 77 | 27 => 78 | 28 => 79 | 29 => 80 | 36 => 95 | 31 => 96 | 32 => 97 | 37 => 98 | 38 => 99 | 39 => 100 | 41 => 110 | n => n, fun | 27 => 30 | 29 => 9 | 3 => 3 | 32 => 83 | 26 => 30 | 0 => 0 | 44 => 110 | 46 => 112 | 4 => 4 | 36 => 102 | 35 => 101 | 41 => 107 | 5 => 5 | 9 => 9 | 53 => 123 | 57 => 127 | 63 => 136 | 64 => 137 | n => n, fun | n => n⟩
theorem TryzlaySort : Go.Proofs.SlLaysM.n6 Tryz.prog TryzlaySort_ren := {
  mixed := by kernel_rfl
  f6 := ⟨Tryz.f36.name, by decide, Tryz.func36.trans (congrArg some (by kernel_rfl))⟩
  f8 := Tryz.func54.trans (congrArg some (by kernel_rfl))
  f9 := ⟨Tryz.f53.name, by decide, Tryz.func53.trans (congrArg some (by kernel_rfl))⟩
  f19 := Tryz.func81.trans (congrArg some (by kernel_rfl))
  f20 := Tryz.func82.trans (congrArg some (by kernel_rfl))
  f21 := ⟨Tryz.f72.name, by decide, Tryz.func72.trans (congrArg some (by kernel_rfl))⟩
  f22 := ⟨Tryz.f73.name, by decide, Tryz.func73.trans (congrArg some (by kernel_rfl))⟩
  f23 := ⟨Tryz.f74.name, by decide, Tryz.func74.trans (congrArg some (by kernel_rfl))⟩
  f24 := ⟨Tryz.f75.name, by decide, Tryz.func75.trans (congrArg some (by kernel_rfl))⟩
  f25 := ⟨Tryz.f76.name, by decide, Tryz.func76.trans (congrArg some (by kernel_rfl))⟩
  f26 := ⟨Tryz.f77.name, by decide, Tryz.func77.trans (congrArg some (by kernel_rfl))⟩
  f27 := ⟨Tryz.f78.name, by decide, Tryz.func78.trans (congrArg some (by kernel_rfl))⟩
  f28 := ⟨Tryz.f79.name, by decide, Tryz.func79.trans (congrArg some (by kernel_rfl))⟩
  f29 := ⟨Tryz.f80.name, by decide, Tryz.func80.trans (congrArg some (by kernel_rfl))⟩
  f31 := Tryz.func96.trans (congrArg some (by kernel_rfl))
  f32 := Tryz.func97.trans (congrArg some (by kernel_rfl))
  f36 := ⟨Tryz.f95.name, by decide, Tryz.func95.trans (congrArg some (by kernel_rfl))⟩
  f37 := ⟨Tryz.f98.name, by decide, Tryz.func98.trans (congrArg some (by kernel_rfl))⟩
  f38 := ⟨Tryz.f99.name, by decide, Tryz.func99.trans (congrArg some (by kernel_rfl))⟩
  f39 := ⟨Tryz.f100.name, by decide, Tryz.func100.trans (congrArg some (by kernel_rfl))⟩
  f41 := ⟨Tryz.f110.name, by decide, Tryz.func110.trans (congrArg some (by kernel_rfl))⟩
  t0 := Tryz.underlying0
  a0 := Tryz.isAgg0
  z0 := Tryz.sizeOf0
  v0 := Tryz.zeroValue0
  t3 := Tryz.underlying3
  a3 := Tryz.isAgg3
  z3 := Tryz.sizeOf3
  v3 := Tryz.zeroValue3
  t4 := Tryz.underlying4
  a4 := Tryz.isAgg4
  z4 := Tryz.sizeOf4
  v4 := Tryz.zeroValue4
  t5 := Tryz.underlying5
  a5 := Tryz.isAgg5
  z5 := Tryz.sizeOf5
  v5 := Tryz.zeroValue5
  t9 := Tryz.underlying9
  a9 := Tryz.isAgg9
  z9 := Tryz.sizeOf9
  v9 := Tryz.zeroValue9
  t26 := Tryz.underlying30
  a26 := Tryz.isAgg30
  z26 := Tryz.sizeOf30
  v26 := Tryz.zeroValue30
  t27 := Tryz.underlying30
  a27 := Tryz.isAgg30
  z27 := Tryz.sizeOf30
  v27 := Tryz.zeroValue30
  t29 := Tryz.underlying9
  a29 := Tryz.isAgg9
  z29 := Tryz.sizeOf9
  v29 := Tryz.zeroValue9
  t32 := Tryz.underlying83
  a32 := Tryz.isAgg83
  z32 := Tryz.sizeOf83
  v32 := Tryz.zeroValue83
  t35 := Tryz.underlying101
  a35 := Tryz.isAgg101
  z35 := Tryz.sizeOf101
  v35 := Tryz.zeroValue101
  t36 := Tryz.underlying102
  a36 := Tryz.isAgg102
  z36 := Tryz.sizeOf102
  v36 := Tryz.zeroValue102
  t41 := Tryz.underlying107
  a41 := Tryz.isAgg107
  z41 := Tryz.sizeOf107
  v41 := Tryz.zeroValue107
  t44 := Tryz.underlying110
  a44 := Tryz.isAgg110
  z44 := Tryz.sizeOf110
  v44 := Tryz.zeroValue110
  t46 := Tryz.underlying112
  a46 := Tryz.isAgg112
  z46 := Tryz.sizeOf112
  v46 := Tryz.zeroValue112
  t53 := Tryz.underlying123
  a53 := Tryz.isAgg123
  z53 := Tryz.sizeOf123
  v53 := Tryz.zeroValue123
  t57 := Tryz.underlying127
  a57 := Tryz.isAgg127
  z57 := Tryz.sizeOf127
  v57 := Tryz.zeroValue127
  t63 := Tryz.underlying136
  a63 := Tryz.isAgg136
  z63 := Tryz.sizeOf136
  v63 := Tryz.zeroValue136
  t64 := Tryz.underlying137
  a64 := Tryz.isAgg137
  z64 := Tryz.sizeOf137
  v64 := Tryz.zeroValue137 }
open Go.RowKit Go.Maps Go.Sort
theorem TryzlaySorts (m : Nat) : AnyZ.SortsIn Tryz.prog TryzlaySorted_ren Fence.wide m :=
  ⟨fun blk off cap ss W hH hblk hsz => callsIn_wide.2 (AnyM.slices_Sort_string TryzlaySort blk off cap ss W hH hblk hsz),
   fun p cap W => callsIn_wide.2 (AnyM.slices_Sort_string_none TryzlaySort p cap W)⟩
theorem lib_keys (mb : Option Nat) (W : World) : CallsIn Fence.wide 5 Tryz.prog 20 #[.map mb] W fun e w' => e = .returned (.func (.func 37) #[] #[.pointer (some ⟨W.heap.size, 0, none⟩)]) ∧ w' = W.alloc (.cells #[.map mb] 46) :=
  AnyZ.keys_in TryzlayKeys Fence.wide 5 trivial rfl mb W

set_option maxHeartbeats 1000000 in
theorem lib_sorted {H : Type} (b nn : Nat) (D0 : DataW H) (R : Value → Option (DataW H × List MemPlace)) (w : World) (hown : w.ownsMap Tryz.prog 9 R b nn D0) (hmax : Maps.size D0 ≤ maxLen) (hbytes : Maps.size D0 * 16 ≤ 140737488355328) :
    CallsIn Fence.wide 5 Tryz.prog 19 #[.func (.func 37) #[] #[.pointer (some ⟨w.heap.size, 0, none⟩)]] (w.alloc (.cells #[.map (some b)] 46)) fun e w' => ∃ (v : Value) (ss : List (List UInt8)), e = .returned v ∧ ss.Perm (strKeys D0) ∧
      w'.ownsRow (w.alloc (.cells #[.map (some b)] 46)).heap.size 9 1 v ss.length ((ss.mergeSort (fun x y => decide (x ≤ y))).map encStr) ∧ (v = .slice none 0 0 ↔ ss = []) ∧ Below (w.alloc (.cells #[.map (some b)] 46)).heap.size (w.alloc (.cells #[.map (some b)] 46)) w' := by
  have hbl := hown.lt
  have hseq : SeqGives Fence.wide 2 Tryz.prog 37 #[.pointer (some ⟨w.heap.size, 0, none⟩)] encStr (fun ss => ss.Perm (strKeys D0)) (Maps.size D0) (w.alloc (.cells #[.map (some b)] 46)) :=
    AnyZ.keys_gives (ρ := TryzlayKeys_ren) { TryzlayKeys with } Fence.wide _ trivial rfl (by omega) w.heap.size b nn D0 _ (by simp) (by simp) (by
      obtain ⟨es, clock, hb, Ft, hs, hD⟩ := hown
      exact ⟨es, clock, (Below.heap_alloc _ _ b hbl).trans hb, Ft, hs, hD⟩)
  exact AnyZ.sorted_in TryzlaySorted Fence.wide 5 trivial trivial trivial trivial rfl (by omega) (TryzlaySorts _) (enters_of Tryz.func36 (by kernel_rfl) rfl) 37 #[.pointer (some ⟨w.heap.size, 0, none⟩)] trivial (enters_of Tryz.func37 (by kernel_rfl) rfl) _ _ hmax hbytes _ hseq
end Go.Proofs.YthgjpppbpgndcaaGreatDoor
