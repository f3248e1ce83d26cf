import Derived.Shelf.SlMaps.Clone
import Derived.Test.YtmdecbockpgagaaDiskShelfLay
/- The contracts of the functions of packages slices and maps that package disk calls. -/
namespace Go.Proofs.Ytmdecbockpgagaa
open Go.Shelf Go.Proofs
def TrylayClone_ren : Go.Shelf.Ren := ⟨fun | 5 => 66 | 7 => 80 | n => n, fun | 23 => 59 | 25 => 9 | 3 => 71 | 4 => 4 | 20 => 20 | n => n, fun | n => n⟩
theorem TrylayClone : Go.Proofs.SlLaysW.n5 Try.prog TrylayClone_ren := {
  mixed := by kernel_rfl
  f5 := ⟨Try.f66.name, by decide, Try.func66.trans (congrArg some (by kernel_rfl))⟩
  f7 := Try.func80.trans (congrArg some (by kernel_rfl))
  t4 := Try.underlying4
  a4 := Try.isAgg4
  z4 := Try.sizeOf4
  v4 := Try.zeroValue4
  t20 := Try.underlying20
  a20 := Try.isAgg20
  z20 := Try.sizeOf20
  v20 := Try.zeroValue20
  t23 := Try.underlying59
  a23 := Try.isAgg59
  z23 := Try.sizeOf59
  v23 := Try.zeroValue59 }
open Go.RowKit Go.Maps Go.Sort
theorem TrylaySorts (m : Nat) : AnyZ.SortsIn Try.prog TrylaySorted_ren Fence.wide m :=
  ⟨fun blk off cap ss W hH hblk hsz => callsIn_wide.2 (AnyM.slices_Sort_string TrylaySort blk off cap ss W hH hblk hsz),
   fun p cap W => callsIn_wide.2 (AnyM.slices_Sort_string_none TrylaySort p cap W)⟩
theorem lib_keys (mb : Option Nat) (W : World) : CallsIn Fence.wide 5 Try.prog 65 #[.map mb] W fun e w' => e = .returned (.func (.func 79) #[] #[.pointer (some ⟨W.heap.size, 0, none⟩)]) ∧ w' = W.alloc (.cells #[.map mb] 59) :=
  AnyZ.keys_in TrylayKeys Fence.wide 5 trivial rfl mb W

set_option maxHeartbeats 1000000 in
theorem lib_sorted {H : Type} (b nn : Nat) (D0 : DataW H) (R : Value → Option (DataW H × List MemPlace)) (w : World) (hown : w.ownsMap Try.prog 9 R b nn D0) (hmax : Maps.size D0 ≤ maxLen) (hbytes : Maps.size D0 * 16 ≤ 140737488355328) :
    CallsIn Fence.wide 5 Try.prog 64 #[.func (.func 79) #[] #[.pointer (some ⟨w.heap.size, 0, none⟩)]] (w.alloc (.cells #[.map (some b)] 59)) fun e w' => ∃ (v : Value) (ss : List (List UInt8)), e = .returned v ∧ ss.Perm (strKeys D0) ∧
      w'.ownsRow (w.alloc (.cells #[.map (some b)] 59)).heap.size 9 1 v ss.length ((ss.mergeSort (fun x y => decide (x ≤ y))).map encStr) ∧ (v = .slice none 0 0 ↔ ss = []) ∧ Below (w.alloc (.cells #[.map (some b)] 59)).heap.size (w.alloc (.cells #[.map (some b)] 59)) w' := by
  have hbl := hown.lt
  have hseq : SeqGives Fence.wide 2 Try.prog 79 #[.pointer (some ⟨w.heap.size, 0, none⟩)] encStr (fun ss => ss.Perm (strKeys D0)) (Maps.size D0) (w.alloc (.cells #[.map (some b)] 59)) :=
    AnyZ.keys_gives (ρ := TrylayKeys_ren) { TrylayKeys with } Fence.wide _ trivial rfl (by omega) w.heap.size b nn D0 _ (by simp) (by simp) (by
      obtain ⟨es, clock, hb, Ft, hs, hD⟩ := hown
      exact ⟨es, clock, (Below.heap_alloc _ _ b hbl).trans hb, Ft, hs, hD⟩)
  exact AnyZ.sorted_in TrylaySorted Fence.wide 5 trivial trivial trivial trivial rfl (by omega) (TrylaySorts _) (enters_of Try.func78 (by kernel_rfl) rfl) 79 #[.pointer (some ⟨w.heap.size, 0, none⟩)] trivial (enters_of Try.func79 (by kernel_rfl) rfl) _ _ hmax hbytes _ hseq
/-- maps.Clone. -/
theorem lib_clone {H : Type} (R : Value → Option (DataW H × List MemPlace)) (b n : Nat) (D : DataW H) (w : World) (hown : w.ownsMap Try.prog 9 R b n D) :
    Calls Try.prog 66 #[.map (some b)] w fun e w' => e = .returned (.map (some w.heap.size)) ∧ w'.ownsMap Try.prog 9 R w.heap.size n D ∧ w'.ownsMap Try.prog 9 R b n D ∧ Below w.heap.size w w' :=
  AnyW.maps_Clone_owns TrylayClone 9 R b n D w hown
end Go.Proofs.Ytmdecbockpgagaa
