/-
  DERIVED. GIVEN WITH THE SEED: THE CARDS: each row of YtaccjifhgohfpaaDoorRows.lean that lists a variable, with what it lists TIED to the program's text (the seventh form; the later family's looks); each row that meets fmt, with fmt's text TOLD by the authors' own Lean function (tested against real Go, not proved from fmt's source: count such statements apart). THE CARD IS WHAT COUNTS. Prove the row's statement (the work); the ties are given (YtaccjifhgohfpaaDoorTie.lean); close each card by the builder's one call (the guide's Derived/Test/ToyasCard.lean, 'card_holds'). Laid BY PROGRAM, IN A SANDBOX (cutbox-door.mjs). By AI agents, Wed Nov 11 2026. No macro, syntax, notation, axiom, sorry.
-/
import Derived.Test.YtaccjifhgohfpaaDoorRows
import GoSem.ClaimSeven
namespace Go.Proofs.YtaccjifhgohfpaaDoor
namespace Rows

/-- THE TIED CARD OF 'hornbooklaw2.UtfTells'. -/
def utfTellsCard : Claim7 := { stood := { row := utfTellsRow, standIns := [], harness := (true, "fc6e2a36c707acbb7f4e215d0cb27be75562cfa1877de5b2e6ea195434d6a7cb"), looks := false }, kinds := [], alts := [], laidByText := true, laidKinds := [.data, .pinned], laidTests := true, laidLooks := .later }
def UtfTellsCardSaid : Prop := Claim7.holds Tryd.pinned (.plain (OpenSpec.ofChange utfTellsSpec)) utfTellsCard

/-- THE TIED CARD OF 'hornbooklaw2.UtfBack'. -/
def utfBackCard : Claim7 := { stood := { row := utfBackRow, standIns := [], harness := (true, "fc6e2a36c707acbb7f4e215d0cb27be75562cfa1877de5b2e6ea195434d6a7cb"), looks := false }, kinds := [], alts := [], laidByText := true, laidKinds := [.data, .pinned], laidTests := true, laidLooks := .later }
def UtfBackCardSaid : Prop := Claim7.holds Tryd.pinned (.plain (OpenSpec.ofChange utfBackSpec)) utfBackCard

/-- THE TIED CARD OF 'hornbooklaw2.UtfCuts'. -/
def utfCutsCard : Claim7 := { stood := { row := utfCutsRow, standIns := [], harness := (true, "fc6e2a36c707acbb7f4e215d0cb27be75562cfa1877de5b2e6ea195434d6a7cb"), looks := false }, kinds := [], alts := [], laidByText := true, laidKinds := [.data, .pinned], laidTests := true, laidLooks := .later }
def UtfCutsCardSaid : Prop := Claim7.holds Tryd.pinned (.plain (OpenSpec.ofChange utfCutsSpec)) utfCutsCard

/-- THE TIED CARD OF 'hornbooklaw2.UtfSizes'. -/
def utfSizesCard : Claim7 := { stood := { row := utfSizesRow, standIns := [], harness := (true, "fc6e2a36c707acbb7f4e215d0cb27be75562cfa1877de5b2e6ea195434d6a7cb"), looks := false }, kinds := [], alts := [], laidByText := true, laidKinds := [.data, .pinned], laidTests := true, laidLooks := .later }
def UtfSizesCardSaid : Prop := Claim7.holds Tryd.pinned (.plain (OpenSpec.ofChange utfSizesSpec)) utfSizesCard

/-- THE TIED CARD OF 'hornbooklaw2.UtfTorn'. -/
def utfTornCard : Claim7 := { stood := { row := utfTornRow, standIns := [], harness := (true, "fc6e2a36c707acbb7f4e215d0cb27be75562cfa1877de5b2e6ea195434d6a7cb"), looks := false }, kinds := [], alts := [], laidByText := true, laidKinds := [.data, .pinned], laidTests := true, laidLooks := .later }
def UtfTornCardSaid : Prop := Claim7.holds Tryd.pinned (.plain (OpenSpec.ofChange utfTornSpec)) utfTornCard

/-- THE TIED CARD OF 'hornbooklaw9.TagTells'. -/
def tagTellsCard : Claim7 := { stood := { row := tagTellsRow, standIns := [], harness := (true, "fc6e2a36c707acbb7f4e215d0cb27be75562cfa1877de5b2e6ea195434d6a7cb"), looks := false }, kinds := [], alts := [], laidByText := true, laidKinds := [.data, .pinned, .pinned], laidTests := true, laidLooks := .later }
def TagTellsCardSaid : Prop := Claim7.holds Tryd.pinned (.plain (OpenSpec.ofChange tagTellsSpec)) tagTellsCard

/-- THE TIED CARD OF 'hornbooklaw9.TagClimbs'. -/
def tagClimbsCard : Claim7 := { stood := { row := tagClimbsRow, standIns := [], harness := (true, "fc6e2a36c707acbb7f4e215d0cb27be75562cfa1877de5b2e6ea195434d6a7cb"), looks := false }, kinds := [], alts := [], laidByText := true, laidKinds := [.data, .pinned, .pinned], laidTests := true, laidLooks := .later }
def TagClimbsCardSaid : Prop := Claim7.holds Tryd.pinned (.plain (OpenSpec.ofChange tagClimbsSpec)) tagClimbsCard

/-- THE TIED CARD OF 'hornbooklaw9.TagBuilt'. -/
def tagBuiltCard : Claim7 := { stood := { row := tagBuiltRow, standIns := [], harness := (true, "fc6e2a36c707acbb7f4e215d0cb27be75562cfa1877de5b2e6ea195434d6a7cb"), looks := false }, kinds := [], alts := [], laidByText := true, laidKinds := [.data, .pinned, .pinned], laidTests := true, laidLooks := .later }
def TagBuiltCardSaid : Prop := Claim7.holds Tryd.pinned (.plain (OpenSpec.ofChange tagBuiltSpec)) tagBuiltCard

/-- THE TIED CARD OF 'hornbooklaw9.TagRefuses'. -/
def tagRefusesCard : Claim7 := { stood := { row := tagRefusesRow, standIns := [], harness := (true, "fc6e2a36c707acbb7f4e215d0cb27be75562cfa1877de5b2e6ea195434d6a7cb"), looks := false }, kinds := [], alts := [], laidByText := true, laidKinds := [.data, .pinned, .pinned], laidTests := true, laidLooks := .later }
def TagRefusesCardSaid : Prop := Claim7.holds Tryd.pinned (.plain (OpenSpec.ofChange tagRefusesSpec)) tagRefusesCard

/-- THE TIED CARD OF 'hornbooklaw9.TagRoots'. -/
def tagRootsCard : Claim7 := { stood := { row := tagRootsRow, standIns := [], harness := (true, "fc6e2a36c707acbb7f4e215d0cb27be75562cfa1877de5b2e6ea195434d6a7cb"), looks := false }, kinds := [], alts := [], laidByText := true, laidKinds := [.data, .pinned, .pinned], laidTests := true, laidLooks := .later }
def TagRootsCardSaid : Prop := Claim7.holds Tryd.pinned (.plain (OpenSpec.ofChange tagRootsSpec)) tagRootsCard

/-- THE SECOND FORM's CARD OF 'hornbooklaw2.UtfTells'. -/
def utfTellsUptoCard : Claim7 := { stood := { row := utfTellsUptoRow, standIns := [], harness := (true, "fc6e2a36c707acbb7f4e215d0cb27be75562cfa1877de5b2e6ea195434d6a7cb"), looks := false }, kinds := [], alts := [], laidByText := true, laidKinds := [.data, .pinned], laidTests := true, laidLooks := .later }
def UtfTellsUptoCardSaid : Prop := Claim7.holds Tryd.pinned (.plain (OpenSpec.upto utfTellsSpec)) utfTellsUptoCard

/-- THE SECOND FORM's CARD OF 'hornbooklaw2.UtfBack'. -/
def utfBackUptoCard : Claim7 := { stood := { row := utfBackUptoRow, standIns := [], harness := (true, "fc6e2a36c707acbb7f4e215d0cb27be75562cfa1877de5b2e6ea195434d6a7cb"), looks := false }, kinds := [], alts := [], laidByText := true, laidKinds := [.data, .pinned], laidTests := true, laidLooks := .later }
def UtfBackUptoCardSaid : Prop := Claim7.holds Tryd.pinned (.plain (OpenSpec.upto utfBackSpec)) utfBackUptoCard

/-- THE SECOND FORM's CARD OF 'hornbooklaw2.UtfCuts'. -/
def utfCutsUptoCard : Claim7 := { stood := { row := utfCutsUptoRow, standIns := [], harness := (true, "fc6e2a36c707acbb7f4e215d0cb27be75562cfa1877de5b2e6ea195434d6a7cb"), looks := false }, kinds := [], alts := [], laidByText := true, laidKinds := [.data, .pinned], laidTests := true, laidLooks := .later }
def UtfCutsUptoCardSaid : Prop := Claim7.holds Tryd.pinned (.plain (OpenSpec.upto utfCutsSpec)) utfCutsUptoCard

/-- THE SECOND FORM's CARD OF 'hornbooklaw2.UtfSizes'. -/
def utfSizesUptoCard : Claim7 := { stood := { row := utfSizesUptoRow, standIns := [], harness := (true, "fc6e2a36c707acbb7f4e215d0cb27be75562cfa1877de5b2e6ea195434d6a7cb"), looks := false }, kinds := [], alts := [], laidByText := true, laidKinds := [.data, .pinned], laidTests := true, laidLooks := .later }
def UtfSizesUptoCardSaid : Prop := Claim7.holds Tryd.pinned (.plain (OpenSpec.upto utfSizesSpec)) utfSizesUptoCard

/-- THE SECOND FORM's CARD OF 'hornbooklaw2.UtfTorn'. -/
def utfTornUptoCard : Claim7 := { stood := { row := utfTornUptoRow, standIns := [], harness := (true, "fc6e2a36c707acbb7f4e215d0cb27be75562cfa1877de5b2e6ea195434d6a7cb"), looks := false }, kinds := [], alts := [], laidByText := true, laidKinds := [.data, .pinned], laidTests := true, laidLooks := .later }
def UtfTornUptoCardSaid : Prop := Claim7.holds Tryd.pinned (.plain (OpenSpec.upto utfTornSpec)) utfTornUptoCard

/-- THE SECOND FORM's CARD OF 'hornbooklaw9.TagTells'. -/
def tagTellsUptoCard : Claim7 := { stood := { row := tagTellsUptoRow, standIns := [], harness := (true, "fc6e2a36c707acbb7f4e215d0cb27be75562cfa1877de5b2e6ea195434d6a7cb"), looks := false }, kinds := [], alts := [], laidByText := true, laidKinds := [.data, .pinned, .pinned], laidTests := true, laidLooks := .later }
def TagTellsUptoCardSaid : Prop := Claim7.holds Tryd.pinned (.plain (OpenSpec.upto tagTellsSpec)) tagTellsUptoCard

/-- THE SECOND FORM's CARD OF 'hornbooklaw9.TagClimbs'. -/
def tagClimbsUptoCard : Claim7 := { stood := { row := tagClimbsUptoRow, standIns := [], harness := (true, "fc6e2a36c707acbb7f4e215d0cb27be75562cfa1877de5b2e6ea195434d6a7cb"), looks := false }, kinds := [], alts := [], laidByText := true, laidKinds := [.data, .pinned, .pinned], laidTests := true, laidLooks := .later }
def TagClimbsUptoCardSaid : Prop := Claim7.holds Tryd.pinned (.plain (OpenSpec.upto tagClimbsSpec)) tagClimbsUptoCard

/-- THE SECOND FORM's CARD OF 'hornbooklaw9.TagBuilt'. -/
def tagBuiltUptoCard : Claim7 := { stood := { row := tagBuiltUptoRow, standIns := [], harness := (true, "fc6e2a36c707acbb7f4e215d0cb27be75562cfa1877de5b2e6ea195434d6a7cb"), looks := false }, kinds := [], alts := [], laidByText := true, laidKinds := [.data, .pinned, .pinned], laidTests := true, laidLooks := .later }
def TagBuiltUptoCardSaid : Prop := Claim7.holds Tryd.pinned (.plain (OpenSpec.upto tagBuiltSpec)) tagBuiltUptoCard

/-- THE SECOND FORM's CARD OF 'hornbooklaw9.TagRefuses'. -/
def tagRefusesUptoCard : Claim7 := { stood := { row := tagRefusesUptoRow, standIns := [], harness := (true, "fc6e2a36c707acbb7f4e215d0cb27be75562cfa1877de5b2e6ea195434d6a7cb"), looks := false }, kinds := [], alts := [], laidByText := true, laidKinds := [.data, .pinned, .pinned], laidTests := true, laidLooks := .later }
def TagRefusesUptoCardSaid : Prop := Claim7.holds Tryd.pinned (.plain (OpenSpec.upto tagRefusesSpec)) tagRefusesUptoCard

/-- THE SECOND FORM's CARD OF 'hornbooklaw9.TagRoots'. -/
def tagRootsUptoCard : Claim7 := { stood := { row := tagRootsUptoRow, standIns := [], harness := (true, "fc6e2a36c707acbb7f4e215d0cb27be75562cfa1877de5b2e6ea195434d6a7cb"), looks := false }, kinds := [], alts := [], laidByText := true, laidKinds := [.data, .pinned, .pinned], laidTests := true, laidLooks := .later }
def TagRootsUptoCardSaid : Prop := Claim7.holds Tryd.pinned (.plain (OpenSpec.upto tagRootsSpec)) tagRootsUptoCard
end Rows
end Go.Proofs.YtaccjifhgohfpaaDoor
