/- The function of unicode/utf8 that the program calls, at this translation: laid by the kit's own program (numbers of seat l; to be filled under the name UtfShelf). -/
import Derived.Shelf.Lays7
import Derived.Shelf.Spec.DecodeRune
import Derived.Test.YtekpmpghbeeeoaaGreatDoorProg
namespace Go.Proofs.YtekpmpghbeeeoaaGreatDoor
open Go.Shelf Go.Proofs
def TryzlayDec_ren : Go.Shelf.Ren := ⟨fun | 32 => 97 | 49 => 109 | n => n, fun | 30 => 39 | 21 => 21 | 3 => 3 | 0 => 0 | 5 => 5 | 4 => 4 | 33 => 75 | 66 => 119 | 25 => 105 | 69 => 122 | 68 => 121 | n => n, fun | 2 => 2 | 3 => 3 | n => n⟩
theorem TryzlayDec : Go.Proofs.Lays7.n32 Tryz.prog TryzlayDec_ren := {
  mixed := by kernel_rfl
  f32 := Tryz.func97.trans (congrArg some (by kernel_rfl))
  f49 := Tryz.func109.trans (congrArg some (by kernel_rfl))
  t0 := Tryz.underlying0
  a0 := Tryz.isAgg0
  z0 := Tryz.sizeOf0
  v0 := Tryz.zeroValue0
  i0 := by kernel_rfl
  t3 := Tryz.underlying3
  a3 := Tryz.isAgg3
  z3 := Tryz.sizeOf3
  v3 := Tryz.zeroValue3
  i3 := by kernel_rfl
  t4 := Tryz.underlying4
  a4 := Tryz.isAgg4
  z4 := Tryz.sizeOf4
  v4 := Tryz.zeroValue4
  i4 := by kernel_rfl
  t5 := Tryz.underlying5
  a5 := Tryz.isAgg5
  z5 := Tryz.sizeOf5
  v5 := Tryz.zeroValue5
  i5 := by kernel_rfl
  t21 := Tryz.underlying21
  a21 := Tryz.isAgg21
  z21 := Tryz.sizeOf21
  v21 := Tryz.zeroValue21
  i21 := by kernel_rfl
  t25 := Tryz.underlying105
  a25 := Tryz.isAgg105
  z25 := Tryz.sizeOf105
  v25 := Tryz.zeroValue105
  i25 := by kernel_rfl
  t30 := Tryz.underlying39
  a30 := Tryz.isAgg39
  z30 := Tryz.sizeOf39
  v30 := Tryz.zeroValue39
  i30 := by kernel_rfl
  t33 := Tryz.underlying75
  a33 := Tryz.isAgg75
  z33 := Tryz.sizeOf75
  v33 := Tryz.zeroValue75
  i33 := by kernel_rfl
  t66 := Tryz.underlying119
  a66 := Tryz.isAgg119
  z66 := Tryz.sizeOf119
  t68 := Tryz.underlying121
  a68 := Tryz.isAgg121
  z68 := Tryz.sizeOf121
  v68 := Tryz.zeroValue121
  i68 := by kernel_rfl
  t69 := Tryz.underlying122
  a69 := Tryz.isAgg122
  z69 := Tryz.sizeOf122
  v69 := Tryz.zeroValue122
  i69 := by kernel_rfl
  g2 := by kernel_rfl
  g3 := by kernel_rfl }
end Go.Proofs.YtekpmpghbeeeoaaGreatDoor
