import Derived.Shelf.SlMaps.Clone
import Derived.Test.YthgjpppbpgndcaaGreatDoorChainUnder
/- maps.Clone at this translation, and what chain.Copy does. -/
namespace Go.Proofs.YthgjpppbpgndcaaGreatDoor
open Go.Shelf Go.Proofs
def TryzlayClone_ren : Go.Shelf.Ren := ⟨fun | 5 => 25 | 7 => 41 | n => n, fun | 23 => 46 | 25 => 9 | 3 => 9 | 4 => 4 | 20 => 20 | n => n, fun | n => n⟩
theorem TryzlayClone : Go.Proofs.SlLaysW.n5 Tryz.prog TryzlayClone_ren := {
  mixed := by kernel_rfl
  f5 := ⟨Tryz.f25.name, by decide, Tryz.func25.trans (congrArg some (by kernel_rfl))⟩
  f7 := Tryz.func41.trans (congrArg some (by kernel_rfl))
  t4 := Tryz.underlying4
  a4 := Tryz.isAgg4
  z4 := Tryz.sizeOf4
  v4 := Tryz.zeroValue4
  t20 := Tryz.underlying20
  a20 := Tryz.isAgg20
  z20 := Tryz.sizeOf20
  v20 := Tryz.zeroValue20
  t23 := Tryz.underlying46
  a23 := Tryz.isAgg46
  z23 := Tryz.sizeOf46
  v23 := Tryz.zeroValue46 }
open Go.RowKit Go.Maps Go.Proofs.YthgjpppbpgndcaaGreatDoorW.PrintWords Go.Proofs.YthgjpppbpgndcaaGreatDoorW.PrintMore
theorem lib_cloneF {H : Type} (R : Value → Option (DataW H × List MemPlace)) (b n : Nat) (D : DataW H) (w : World) (hown : w.ownsMap Tryz.prog 9 R b n D) :
    Calls Tryz.prog 25 #[.map (some b)] w fun e w' => e = .returned (.map (some w.heap.size)) ∧ w'.ownsMap Tryz.prog 9 R w.heap.size n D ∧ w'.ownsMap Tryz.prog 9 R b n D ∧ Below w.heap.size w w' :=
  AnyW.maps_Clone_owns TryzlayClone 9 R b n D w hown
set_option maxHeartbeats 1000000 in
theorem chain_copy {B p : Nat} {w0 w : World} {F : FM} (h : Ft B p w0 F w) :
    Calls Tryz.prog 11 #[pv p] w fun e w' => ∃ q, e = .returned (pv q) ∧ Ft w.heap.size q w F w' := by
  obtain ⟨mb, hc, hm, -⟩ := h.at_
  have c0 := cell_blk hc 0 _ rfl
  have HC := Lib.hid (lib_cloneF RF mb _ _ w hm)
  have HH := Lib.hid h
  clear h hc hm
  go_enter Tryz.func11, Tryz.ntmps11
  go_wp2_with fail
  refine HC.out.mono ?_
  rintro e w1 ⟨rfl, h1, -, hb⟩
  have hlt : w.heap.size < w1.heap.size := FSM.lt (FSM.fit h1)
  have HF : Hid (Ft w.heap.size w1.heap.size w F (w1.alloc (.cells #[.map (some w.heap.size)] 50))) := Lib.hid {
    at_ := ⟨w.heap.size, by unfold World.alloc; simp, (FSM.fit h1).below ((Below.refl _ w1).alloc (Nat.le_refl _) _), Nat.le_refl _⟩
    lo := by omega
    small := HH.out.small
    many := HH.out.many
    ml := (HH.out.ml.below hb).below ((Below.refl _ w1).alloc (Nat.le_refl _) _)
    mlb := Nat.lt_of_lt_of_le HH.out.mlb HH.out.base
    bel := hb.trans (((Below.refl _ w1).alloc (Nat.le_refl _) _).mono (by omega)) }
  clear HC h1 hb HH c0
  go_wp2_with fail
  go_ret
  exact ⟨_, rfl, HF.out⟩
end Go.Proofs.YthgjpppbpgndcaaGreatDoor
