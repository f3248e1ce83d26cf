/-
  DERIVED. GIVEN WITH THE SEED: THE CARDS: each row of YthgjpppbpgndcaaGreatDoorRows.lean that lists a variable, with what it lists TIED to the program's text (the seventh form; the later family's looks); each row that meets fmt, with fmt's text TOLD by the authors' own Lean function (tested against real Go, not proved from fmt's source: count such statements apart). THE CARD IS WHAT COUNTS. Prove the row's statement (the work); the ties are given (YthgjpppbpgndcaaGreatDoorTie.lean); close each card by the builder's one call (the guide's Derived/Test/ToyasCard.lean, 'card_holds'). Laid BY PROGRAM, IN A SANDBOX (cutbox-door.mjs). By AI agents, Wed Nov 11 2026. No macro, syntax, notation, axiom, sorry.
-/
import Derived.Test.YthgjpppbpgndcaaGreatDoorRows
import GoSem.ClaimSeven
namespace Go.Proofs.YthgjpppbpgndcaaGreatDoor
namespace Rows

/-- THE TIED CARD OF 'hornbooklaw11.ChainUnder'. -/
def chainUnderCard : Claim7 := { stood := { row := chainUnderRow, standIns := [], harness := (true, "d81c57e7b956c137571ccf9f8d724ab6d7524e9eb0aeba069e375841c52b32f0"), looks := true }, kinds := [], alts := [], laidByText := true, laidKinds := [.data, .pinned, .pinned], laidTests := true, laidLooks := .later }
def ChainUnderCardSaid : Prop := Claim7.holds Tryz.pinned (.plain (OpenSpec.ofChange chainUnderSpec)) chainUnderCard

/-- THE TIED CARD OF 'hornbooklaw11.ChainPlays'. -/
def chainPlaysCard : Claim7 := { stood := { row := chainPlaysRow, standIns := [], harness := (true, "d81c57e7b956c137571ccf9f8d724ab6d7524e9eb0aeba069e375841c52b32f0"), looks := true }, kinds := [], alts := [], laidByText := true, laidKinds := [.data, .pinned, .pinned], laidTests := true, laidLooks := .later }
def ChainPlaysCardSaid : Prop := Claim7.holds Tryz.pinned (.plain (OpenSpec.ofChange chainPlaysSpec)) chainPlaysCard

/-- THE SECOND FORM's CARD OF 'hornbooklaw11.ChainUnder'. -/
def chainUnderUptoCard : Claim7 := { stood := { row := chainUnderUptoRow, standIns := [], harness := (true, "d81c57e7b956c137571ccf9f8d724ab6d7524e9eb0aeba069e375841c52b32f0"), looks := true }, kinds := [], alts := [], laidByText := true, laidKinds := [.data, .pinned, .pinned], laidTests := true, laidLooks := .later }
def ChainUnderUptoCardSaid : Prop := Claim7.holds Tryz.pinned (.plain (OpenSpec.upto chainUnderSpec)) chainUnderUptoCard

/-- THE SECOND FORM's CARD OF 'hornbooklaw11.ChainPlays'. -/
def chainPlaysUptoCard : Claim7 := { stood := { row := chainPlaysUptoRow, standIns := [], harness := (true, "d81c57e7b956c137571ccf9f8d724ab6d7524e9eb0aeba069e375841c52b32f0"), looks := true }, kinds := [], alts := [], laidByText := true, laidKinds := [.data, .pinned, .pinned], laidTests := true, laidLooks := .later }
def ChainPlaysUptoCardSaid : Prop := Claim7.holds Tryz.pinned (.plain (OpenSpec.upto chainPlaysSpec)) chainPlaysUptoCard
end Rows
end Go.Proofs.YthgjpppbpgndcaaGreatDoor
