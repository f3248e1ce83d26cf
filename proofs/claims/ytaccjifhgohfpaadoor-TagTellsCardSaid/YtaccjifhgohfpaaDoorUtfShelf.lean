/- The two functions of unicode/utf8 that the program calls, at this translation: laid by the kit's own program. -/
import Derived.Shelf.Lays7
import Derived.Shelf.Spec.DecodeRune
import Derived.Shelf.Utf8.AppendRunePlain
import Derived.Test.YtaccjifhgohfpaaDoorProg
namespace Go.Proofs.YtaccjifhgohfpaaDoor
open Go.Shelf Go.Proofs
def TrydlayDec_ren : Go.Shelf.Ren := ⟨fun | 32 => 53 | 49 => 69 | n => n, fun | 30 => 22 | 21 => 21 | 3 => 3 | 0 => 0 | 5 => 5 | 4 => 4 | 33 => 58 | 66 => 99 | 25 => 51 | 69 => 102 | 68 => 101 | n => n, fun | 2 => 1 | 3 => 2 | n => n⟩
theorem TrydlayDec : Go.Proofs.Lays7.n32 Tryd.prog TrydlayDec_ren := {
  mixed := by kernel_rfl
  f32 := Tryd.func53.trans (congrArg some (by kernel_rfl))
  f49 := Tryd.func69.trans (congrArg some (by kernel_rfl))
  t0 := Tryd.underlying0
  a0 := Tryd.isAgg0
  z0 := Tryd.sizeOf0
  v0 := Tryd.zeroValue0
  i0 := by kernel_rfl
  t3 := Tryd.underlying3
  a3 := Tryd.isAgg3
  z3 := Tryd.sizeOf3
  v3 := Tryd.zeroValue3
  i3 := by kernel_rfl
  t4 := Tryd.underlying4
  a4 := Tryd.isAgg4
  z4 := Tryd.sizeOf4
  v4 := Tryd.zeroValue4
  i4 := by kernel_rfl
  t5 := Tryd.underlying5
  a5 := Tryd.isAgg5
  z5 := Tryd.sizeOf5
  v5 := Tryd.zeroValue5
  i5 := by kernel_rfl
  t21 := Tryd.underlying21
  a21 := Tryd.isAgg21
  z21 := Tryd.sizeOf21
  v21 := Tryd.zeroValue21
  i21 := by kernel_rfl
  t25 := Tryd.underlying51
  a25 := Tryd.isAgg51
  z25 := Tryd.sizeOf51
  v25 := Tryd.zeroValue51
  i25 := by kernel_rfl
  t30 := Tryd.underlying22
  a30 := Tryd.isAgg22
  z30 := Tryd.sizeOf22
  v30 := Tryd.zeroValue22
  i30 := by kernel_rfl
  t33 := Tryd.underlying58
  a33 := Tryd.isAgg58
  z33 := Tryd.sizeOf58
  v33 := Tryd.zeroValue58
  i33 := by kernel_rfl
  t66 := Tryd.underlying99
  a66 := Tryd.isAgg99
  z66 := Tryd.sizeOf99
  t68 := Tryd.underlying101
  a68 := Tryd.isAgg101
  z68 := Tryd.sizeOf101
  v68 := Tryd.zeroValue101
  i68 := by kernel_rfl
  t69 := Tryd.underlying102
  a69 := Tryd.isAgg102
  z69 := Tryd.sizeOf102
  v69 := Tryd.zeroValue102
  i69 := by kernel_rfl
  g2 := by kernel_rfl
  g3 := by kernel_rfl }
def TrydlayApp_ren : Go.Shelf.Ren := ⟨fun | 242 => 34 | 278 => 54 | n => n, fun | 37 => 22 | 21 => 21 | 51 => 72 | 4 => 4 | 5 => 5 | 46 => 51 | n => n, fun | n => n⟩
theorem TrydlayApp : Go.Proofs.Lays.n242 Tryd.prog TrydlayApp_ren := {
  mixed := by kernel_rfl
  f242 := Tryd.func34.trans (congrArg some (by kernel_rfl))
  f278 := Tryd.func54.trans (congrArg some (by kernel_rfl))
  t4 := Tryd.underlying4
  a4 := Tryd.isAgg4
  z4 := Tryd.sizeOf4
  v4 := Tryd.zeroValue4
  t5 := Tryd.underlying5
  a5 := Tryd.isAgg5
  z5 := Tryd.sizeOf5
  v5 := Tryd.zeroValue5
  t21 := Tryd.underlying21
  a21 := Tryd.isAgg21
  z21 := Tryd.sizeOf21
  v21 := Tryd.zeroValue21
  t37 := Tryd.underlying22
  a37 := Tryd.isAgg22
  z37 := Tryd.sizeOf22
  v37 := Tryd.zeroValue22
  t46 := Tryd.underlying51
  a46 := Tryd.isAgg51
  z46 := Tryd.sizeOf51
  v46 := Tryd.zeroValue51
  t51 := Tryd.underlying72
  a51 := Tryd.isAgg72
  z51 := Tryd.sizeOf72
  v51 := Tryd.zeroValue72 }
end Go.Proofs.YtaccjifhgohfpaaDoor
