import Derived.Test.YtaccjifhgohfpaaDoorOpen
import Derived.Test.YtaccjifhgohfpaaDoorUtf
import Derived.Test.YtaccjifhgohfpaaDoorUtfBytes
import Derived.Test.YtaccjifhgohfpaaDoorTie
import Derived.Test.YtaccjifhgohfpaaDoorCards
import Derived.Lib.LaidIn
import Derived.Lib.LaidU8T
import Derived.Handed
import Derived.LaidHandle
import Derived.LaidLaws
import Derived.SevenTiedAt
/- The two tables of unicode/utf8: what the statement's condition says of them, and a world that meets it. -/
namespace Go.Proofs.YtaccjifhgohfpaaDoor
open Go.ChangeShapes Go.WideShapes Go.ChangeAt Go.RowKit Go.Shelf Go.Proofs.YtaccjifhgohfpaaDoorW Go.Proofs.YtaccjifhgohfpaaDoorW.PrintWords

def u8Ren : Go.Shelf.Ren := ⟨fun n => n, fun | 5 => 5 | 119 => 99 | 138 => 101 | 139 => 102 | n => n, fun | 3 => 1 | 4 => 2 | n => n⟩
theorem u8types : U8Types Tryd.prog u8Ren := ⟨Tryd.underlying5, Tryd.underlying99, Tryd.underlying101, Tryd.underlying102⟩
theorem u8extra : U8Extra Tryd.prog u8Ren := ⟨by kernel_rfl, by kernel_rfl, by kernel_rfl, by kernel_rfl, by kernel_rfl, by kernel_rfl, by kernel_rfl⟩
theorem first_is : (Rows.laid_unicode_utf8_first : DataW Unit) = Lib.firstData := by kernel_rfl
theorem accept_is : (Rows.laid_unicode_utf8_acceptRanges : DataW Unit) = Lib.acceptData := by kernel_rfl

abbrev laid2 : List (String × DataW Unit) := [("unicode/utf8.acceptRanges", Rows.laid_unicode_utf8_acceptRanges), ("unicode/utf8.first", Rows.laid_unicode_utf8_first)]
/-- What the condition gives a walk. -/
theorem tabs_of_laid {W : World} (h : laidMetH Tryd.prog laid2 W) : Tabs W := by
  have h' : laidMet Tryd.prog laid2 W := h
  have h1 := Lib.laidMet.reads h' (n := "unicode/utf8.acceptRanges") (d := Rows.laid_unicode_utf8_acceptRanges) (.head _)
  have h2 := Lib.laidMet.reads h' (n := "unicode/utf8.first") (d := Rows.laid_unicode_utf8_first) (.tail _ (.head _))
  rw [accept_is] at h1
  rw [first_is] at h2
  exact utf8Tabs_of_readsT u8types u8extra h2 h1

/-- A world that meets it. -/
noncomputable def laidWorld (os : Os) : World :=
  let w0 := World.holding Tryd.prog os ⟨#[], #[], []⟩
  let put (h : Array Obj) (g : Nat) (cs : Array Value) : Array Obj := h.modify g fun
    | .cells _ t frozen => .cells cs t frozen
    | o => o
  let h1 := put w0.heap 1 (Lib.firstTab.map fun z => Value.int .u8 z).toArray
  let h2 := put h1 2 ((List.range 16).flatMap fun i => [Value.int .u8 (Lib.accLo i), Value.int .u8 (Lib.accHi i)]).toArray
  { w0 with heap := h2 }
theorem laid_met (os : Os) (args : Array Value) : laidMetH Tryd.prog laid2 ((laidWorld os).forCall (fun _ _ => 0) ⟨#[], args, []⟩).memory := by
  have h : laidMet Tryd.prog [("unicode/utf8.acceptRanges", Lib.acceptData), ("unicode/utf8.first", Lib.firstData)] ((laidWorld os).forCall (fun _ _ => 0) ⟨#[], args, []⟩).memory :=
    (LaidIn.of_run (l := [("unicode/utf8.acceptRanges", Lib.acceptData), ("unicode/utf8.first", Lib.firstData)]) [2, 1] 8 (by kernel_rfl) (by kernel_rfl) (by kernel_rfl) (by kernel_rfl)).met
  rw [← accept_is, ← first_is] at h
  exact h
end Go.Proofs.YtaccjifhgohfpaaDoor
