/-
  DERIVED. GIVEN WITH THE SEED: THE CARDS: each row of YthgjpppbpgndcaaDoorRows.lean that lists a variable, with what it lists TIED to the program's text (the seventh form; the later family's looks); each row that meets fmt, with fmt's text TOLD by the authors' own Lean function (tested against real Go, not proved from fmt's source: count such statements apart). THE CARD IS WHAT COUNTS. Prove the row's statement (the work); the ties are given (YthgjpppbpgndcaaDoorTie.lean); close each card by the builder's one call (the guide's Derived/Test/ToyasCard.lean, 'card_holds'). Laid BY PROGRAM, IN A SANDBOX (cutbox-door.mjs). By AI agents, Wed Nov 11 2026. No macro, syntax, notation, axiom, sorry.
-/
import Derived.Test.YthgjpppbpgndcaaDoorRows
import GoSem.ClaimSeven
namespace Go.Proofs.YthgjpppbpgndcaaDoor
namespace Rows

/-- THE TIED CARD OF 'hornbooklaw11.ChainEnds'. -/
def chainEndsCard : Claim7 := { stood := { row := chainEndsRow, standIns := [], harness := (true, "abdeada0e30e1fea6399736efb2fada9844fab753a52792543e2be0df53e3a69"), looks := false }, kinds := [], alts := [], laidByText := true, laidKinds := [.data, .pinned, .pinned], laidTests := true, laidLooks := .later }
def ChainEndsCardSaid : Prop := Claim7.holds Tryd.pinned (.plain (OpenSpec.ofChange chainEndsSpec)) chainEndsCard

/-- THE TIED CARD OF 'hornbooklaw11.ChainLong'. -/
def chainLongCard : Claim7 := { stood := { row := chainLongRow, standIns := [], harness := (true, "abdeada0e30e1fea6399736efb2fada9844fab753a52792543e2be0df53e3a69"), looks := false }, kinds := [], alts := [], laidByText := true, laidKinds := [.data, .pinned, .pinned], laidTests := true, laidLooks := .later }
def ChainLongCardSaid : Prop := Claim7.holds Tryd.pinned (.plain (OpenSpec.ofChange chainLongSpec)) chainLongCard

/-- THE TIED CARD OF 'hornbooklaw11.ChainTags'. -/
def chainTagsCard : Claim7 := { stood := { row := chainTagsRow, standIns := [], harness := (true, "abdeada0e30e1fea6399736efb2fada9844fab753a52792543e2be0df53e3a69"), looks := false }, kinds := [], alts := [], laidByText := true, laidKinds := [.data, .pinned, .pinned], laidTests := true, laidLooks := .later }
def ChainTagsCardSaid : Prop := Claim7.holds Tryd.pinned (.plain (OpenSpec.ofChange chainTagsSpec)) chainTagsCard

/-- THE TIED CARD OF 'hornbooklaw11.ChainGone'. -/
def chainGoneCard : Claim7 := { stood := { row := chainGoneRow, standIns := [], harness := (true, "abdeada0e30e1fea6399736efb2fada9844fab753a52792543e2be0df53e3a69"), looks := false }, kinds := [], alts := [], laidByText := true, laidKinds := [.data, .pinned, .pinned], laidTests := true, laidLooks := .later }
def ChainGoneCardSaid : Prop := Claim7.holds Tryd.pinned (.plain (OpenSpec.ofChange chainGoneSpec)) chainGoneCard

/-- THE SECOND FORM's CARD OF 'hornbooklaw11.ChainEnds'. -/
def chainEndsUptoCard : Claim7 := { stood := { row := chainEndsUptoRow, standIns := [], harness := (true, "abdeada0e30e1fea6399736efb2fada9844fab753a52792543e2be0df53e3a69"), looks := false }, kinds := [], alts := [], laidByText := true, laidKinds := [.data, .pinned, .pinned], laidTests := true, laidLooks := .later }
def ChainEndsUptoCardSaid : Prop := Claim7.holds Tryd.pinned (.plain (OpenSpec.upto chainEndsSpec)) chainEndsUptoCard

/-- THE SECOND FORM's CARD OF 'hornbooklaw11.ChainLong'. -/
def chainLongUptoCard : Claim7 := { stood := { row := chainLongUptoRow, standIns := [], harness := (true, "abdeada0e30e1fea6399736efb2fada9844fab753a52792543e2be0df53e3a69"), looks := false }, kinds := [], alts := [], laidByText := true, laidKinds := [.data, .pinned, .pinned], laidTests := true, laidLooks := .later }
def ChainLongUptoCardSaid : Prop := Claim7.holds Tryd.pinned (.plain (OpenSpec.upto chainLongSpec)) chainLongUptoCard

/-- THE SECOND FORM's CARD OF 'hornbooklaw11.ChainTags'. -/
def chainTagsUptoCard : Claim7 := { stood := { row := chainTagsUptoRow, standIns := [], harness := (true, "abdeada0e30e1fea6399736efb2fada9844fab753a52792543e2be0df53e3a69"), looks := false }, kinds := [], alts := [], laidByText := true, laidKinds := [.data, .pinned, .pinned], laidTests := true, laidLooks := .later }
def ChainTagsUptoCardSaid : Prop := Claim7.holds Tryd.pinned (.plain (OpenSpec.upto chainTagsSpec)) chainTagsUptoCard

/-- THE SECOND FORM's CARD OF 'hornbooklaw11.ChainGone'. -/
def chainGoneUptoCard : Claim7 := { stood := { row := chainGoneUptoRow, standIns := [], harness := (true, "abdeada0e30e1fea6399736efb2fada9844fab753a52792543e2be0df53e3a69"), looks := false }, kinds := [], alts := [], laidByText := true, laidKinds := [.data, .pinned, .pinned], laidTests := true, laidLooks := .later }
def ChainGoneUptoCardSaid : Prop := Claim7.holds Tryd.pinned (.plain (OpenSpec.upto chainGoneSpec)) chainGoneUptoCard
end Rows
end Go.Proofs.YthgjpppbpgndcaaDoor
