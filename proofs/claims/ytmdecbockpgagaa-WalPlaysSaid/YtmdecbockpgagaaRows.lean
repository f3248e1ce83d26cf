/-
  No cell of these rows narrows 'for every input' (looked for: loops, veiled, ifaces, maps, wideKeys, modest, calm, conditions, laid).
  DERIVED. THE GIVEN ROWS OF THIS SEAT. 7 by the template 'for every input the law returns true; each argument reads behind the call as it read before'; 0 by the template 'total and deterministic' (their statements: YtmdecbockpgagaaTotals.lean).
  GIVEN WITH THE SEED: the statements are not yours to turn. If you find one false, say at which input.
  Laid BY PROGRAM, IN A SANDBOX (cutbox-rows.mjs): the forced cells as the released guide's own fill.sh prints them over the translation ea87440663c99a9b… (all of the seat's roots in one cut). By AI agents, Wed Nov 11 2026. No macro, syntax, notation, axiom, sorry.
-/
import Derived.Test.YtmdecbockpgagaaChecked
import GoSem.Claim
import GoSem.ClaimJoined
import GoSem.ClaimMapViews
import Derived.JoinedTies
import Derived.KernelRfl
namespace Go.Proofs.Ytmdecbockpgagaa
/- THE CELL 'sum', in the pinned program and in every row, IS THE sha256 OF THE DUMP (.gsa) THAT YtmdecbockpgagaaProg.lean LOADS. Nothing in Lean hashes anything: it is a label: what it is worth is what the hold of that sum in a sandbox is worth. -/
noncomputable def Try.pinned : Pinned := { name := "ytmdecbockpgagaa", sum := "ea87440663c99a9bb1c370f1d5fac26ae0c9b255bd14728f303f9fdd0e86ec20", checked := Try.checked }
namespace Rows
def none {H : Type} : Left H := { results := [], args := [] }

/-- 'hornbooklaw22.WalClears': WHATEVER THE INPUT: true; the input reads as it did. -/
def walClearsSpec : ChangeSpec := { name := "walClears", fn := fun _ => fun
  | [d1, d2, d3] => { results := [.lit (.bool true)], args := [d1, d2, d3] }
  | _ => none }
def walClearsRow : OpenClaim := { program := "ytmdecbockpgagaa", sum := "ea87440663c99a9bb1c370f1d5fac26ae0c9b255bd14728f303f9fdd0e86ec20", func := "hornbook/hornbooklaw22.WalClears", spec := "walClears", inPlace := ["maps.clone"], unfollowed := true, recurses := true, apart := false }
def WalClearsSaid : Prop := walClearsRow.holds Try.pinned (OpenSpec.ofChange walClearsSpec)

/-- ITS FALSE NEIGHBOUR: 'it returns false'. Refute it at one input. -/
def walClearsWrong : ChangeSpec := { name := "walClears", fn := fun _ => fun
  | [d1, d2, d3] => { results := [.lit (.bool false)], args := [d1, d2, d3] }
  | _ => none }
def WalClearsWrongFalsely : Prop := walClearsRow.holds Try.pinned (OpenSpec.ofChange walClearsWrong)

/-- 'hornbooklaw22.WalTorn': WHATEVER THE INPUT: true; the input reads as it did. -/
def walTornSpec : ChangeSpec := { name := "walTorn", fn := fun _ => fun
  | [d1, d2, d3] => { results := [.lit (.bool true)], args := [d1, d2, d3] }
  | _ => none }
def walTornRow : OpenClaim := { program := "ytmdecbockpgagaa", sum := "ea87440663c99a9bb1c370f1d5fac26ae0c9b255bd14728f303f9fdd0e86ec20", func := "hornbook/hornbooklaw22.WalTorn", spec := "walTorn", inPlace := ["maps.clone"], unfollowed := true, recurses := true, apart := false }
def WalTornSaid : Prop := walTornRow.holds Try.pinned (OpenSpec.ofChange walTornSpec)

/-- ITS FALSE NEIGHBOUR: 'it returns false'. Refute it at one input. -/
def walTornWrong : ChangeSpec := { name := "walTorn", fn := fun _ => fun
  | [d1, d2, d3] => { results := [.lit (.bool false)], args := [d1, d2, d3] }
  | _ => none }
def WalTornWrongFalsely : Prop := walTornRow.holds Try.pinned (OpenSpec.ofChange walTornWrong)

/-- 'hornbooklaw22.WalRows': WHATEVER THE INPUT: true; the input reads as it did. -/
def walRowsSpec : ChangeSpec := { name := "walRows", fn := fun _ => fun
  | [d1, d2] => { results := [.lit (.bool true)], args := [d1, d2] }
  | _ => none }
def walRowsRow : OpenClaim := { program := "ytmdecbockpgagaa", sum := "ea87440663c99a9bb1c370f1d5fac26ae0c9b255bd14728f303f9fdd0e86ec20", func := "hornbook/hornbooklaw22.WalRows", spec := "walRows", inPlace := ["maps.clone"], unfollowed := true, recurses := true, apart := false }
def WalRowsSaid : Prop := walRowsRow.holds Try.pinned (OpenSpec.ofChange walRowsSpec)

/-- ITS FALSE NEIGHBOUR: 'it returns false'. Refute it at one input. -/
def walRowsWrong : ChangeSpec := { name := "walRows", fn := fun _ => fun
  | [d1, d2] => { results := [.lit (.bool false)], args := [d1, d2] }
  | _ => none }
def WalRowsWrongFalsely : Prop := walRowsRow.holds Try.pinned (OpenSpec.ofChange walRowsWrong)

/-- 'hornbooklaw22.WalBounds': WHATEVER THE INPUT: true; the input reads as it did. -/
def walBoundsSpec : ChangeSpec := { name := "walBounds", fn := fun _ => fun
  | [d1, d2, d3, d4] => { results := [.lit (.bool true)], args := [d1, d2, d3, d4] }
  | _ => none }
def walBoundsRow : OpenClaim := { program := "ytmdecbockpgagaa", sum := "ea87440663c99a9bb1c370f1d5fac26ae0c9b255bd14728f303f9fdd0e86ec20", func := "hornbook/hornbooklaw22.WalBounds", spec := "walBounds", inPlace := ["maps.clone"], unfollowed := true, recurses := true, apart := false }
def WalBoundsSaid : Prop := walBoundsRow.holds Try.pinned (OpenSpec.ofChange walBoundsSpec)

/-- ITS FALSE NEIGHBOUR: 'it returns false'. Refute it at one input. -/
def walBoundsWrong : ChangeSpec := { name := "walBounds", fn := fun _ => fun
  | [d1, d2, d3, d4] => { results := [.lit (.bool false)], args := [d1, d2, d3, d4] }
  | _ => none }
def WalBoundsWrongFalsely : Prop := walBoundsRow.holds Try.pinned (OpenSpec.ofChange walBoundsWrong)

/-- 'hornbooklaw22.WalFull': WHATEVER THE INPUT: true; the input reads as it did. -/
def walFullSpec : ChangeSpec := { name := "walFull", fn := fun _ => fun
  | [d1, d2] => { results := [.lit (.bool true)], args := [d1, d2] }
  | _ => none }
def walFullRow : OpenClaim := { program := "ytmdecbockpgagaa", sum := "ea87440663c99a9bb1c370f1d5fac26ae0c9b255bd14728f303f9fdd0e86ec20", func := "hornbook/hornbooklaw22.WalFull", spec := "walFull", inPlace := ["maps.clone"], unfollowed := true, recurses := true, apart := false }
def WalFullSaid : Prop := walFullRow.holds Try.pinned (OpenSpec.ofChange walFullSpec)

/-- ITS FALSE NEIGHBOUR: 'it returns false'. Refute it at one input. -/
def walFullWrong : ChangeSpec := { name := "walFull", fn := fun _ => fun
  | [d1, d2] => { results := [.lit (.bool false)], args := [d1, d2] }
  | _ => none }
def WalFullWrongFalsely : Prop := walFullRow.holds Try.pinned (OpenSpec.ofChange walFullWrong)

/-- 'hornbooklaw22.WalBroken': WHATEVER THE INPUT: true; the input reads as it did. -/
def walBrokenSpec : ChangeSpec := { name := "walBroken", fn := fun _ => fun
  | [d1, d2, d3, d4, d5] => { results := [.lit (.bool true)], args := [d1, d2, d3, d4, d5] }
  | _ => none }
def walBrokenRow : OpenClaim := { program := "ytmdecbockpgagaa", sum := "ea87440663c99a9bb1c370f1d5fac26ae0c9b255bd14728f303f9fdd0e86ec20", func := "hornbook/hornbooklaw22.WalBroken", spec := "walBroken", inPlace := ["maps.clone"], unfollowed := true, recurses := true, apart := false }
def WalBrokenSaid : Prop := walBrokenRow.holds Try.pinned (OpenSpec.ofChange walBrokenSpec)

/-- ITS FALSE NEIGHBOUR: 'it returns false'. Refute it at one input. -/
def walBrokenWrong : ChangeSpec := { name := "walBroken", fn := fun _ => fun
  | [d1, d2, d3, d4, d5] => { results := [.lit (.bool false)], args := [d1, d2, d3, d4, d5] }
  | _ => none }
def WalBrokenWrongFalsely : Prop := walBrokenRow.holds Try.pinned (OpenSpec.ofChange walBrokenWrong)

/-- 'hornbooklaw22.WalPlays': WHATEVER THE INPUT: true; the input reads as it did. -/
def walPlaysSpec : ChangeSpec := { name := "walPlays", fn := fun _ => fun
  | [d] => { results := [.lit (.bool true)], args := [d] }
  | _ => none }
def walPlaysRow : OpenClaim := { program := "ytmdecbockpgagaa", sum := "ea87440663c99a9bb1c370f1d5fac26ae0c9b255bd14728f303f9fdd0e86ec20", func := "hornbook/hornbooklaw22.WalPlays", spec := "walPlays", inPlace := ["maps.clone"], unfollowed := true, recurses := true, apart := false }
def WalPlaysSaid : Prop := walPlaysRow.holds Try.pinned (OpenSpec.ofChange walPlaysSpec)

/-- ITS FALSE NEIGHBOUR: 'it returns false'. Refute it at one input. -/
def walPlaysWrong : ChangeSpec := { name := "walPlays", fn := fun _ => fun
  | [d] => { results := [.lit (.bool false)], args := [d] }
  | _ => none }
def WalPlaysWrongFalsely : Prop := walPlaysRow.holds Try.pinned (OpenSpec.ofChange walPlaysWrong)

/- THE SECOND FORM. 'bulk': how many values and letters a reading holds, each counted each time it is reached (what is shared counts as often as it is met; a slice's spare places count too). A statement '..UptoSaid' is the law's where the arguments, and the package variables that the reading takes, are together of bulk at most 1048576: NARROWER than '..Said'. Prove '..Said' where nothing that the law and all that it calls make is longer than what came in: it says more and counts as full. Else prove '..UptoSaid'. A law counts once. -/
mutual
def uptoBulk {H : Type} : DataW H → Nat
  | .lit (.string bytes) => bytes.length + 1
  | .lit _ => 1
  | .nil => 1
  | .ptr d => uptoBulk d + 1
  | .slice elems spare => uptoBulkAll elems + uptoBulkAll spare + 1
  | .agg parts => uptoBulkAll parts + 1
  | .iface _ d => uptoBulk d + 1
  | .map entries => uptoBulkEntries entries + 1
  | .held _ => 1
def uptoBulkAll {H : Type} : List (DataW H) → Nat
  | [] => 0
  | d :: r => uptoBulk d + uptoBulkAll r
def uptoBulkEntries {H : Type} : List (Lit × DataW H) → Nat
  | [] => 0
  | x :: r => uptoBulkEntry x + uptoBulkEntries r
def uptoBulkEntry {H : Type} : Lit × DataW H → Nat
  | (.string bytes, d) => bytes.length + uptoBulk d + 1
  | (_, d) => uptoBulk d + 1
 end
def uptoSmall : (H : Type) → List (DataW H) → Bool := fun _ ds => decide (uptoBulkAll ds ≤ 1048576)
def OpenSpec.upto (s : _root_.Go.ChangeSpec) : _root_.Go.OpenSpec := { _root_.Go.OpenSpec.ofChange s with cond := some uptoSmall }

/-- 'hornbooklaw22.WalClears', WHERE WHAT IT READS IS OF BULK AT MOST 1048576: true; the input reads as it did. -/
def walClearsUptoRow : OpenClaim := { program := "ytmdecbockpgagaa", sum := "ea87440663c99a9bb1c370f1d5fac26ae0c9b255bd14728f303f9fdd0e86ec20", func := "hornbook/hornbooklaw22.WalClears", spec := "walClears", inPlace := ["maps.clone"], unfollowed := true, recurses := true, apart := false, narrowed := true }
def WalClearsUptoSaid : Prop := walClearsUptoRow.holds Try.pinned (OpenSpec.upto walClearsSpec)

/-- 'hornbooklaw22.WalTorn', WHERE WHAT IT READS IS OF BULK AT MOST 1048576: true; the input reads as it did. -/
def walTornUptoRow : OpenClaim := { program := "ytmdecbockpgagaa", sum := "ea87440663c99a9bb1c370f1d5fac26ae0c9b255bd14728f303f9fdd0e86ec20", func := "hornbook/hornbooklaw22.WalTorn", spec := "walTorn", inPlace := ["maps.clone"], unfollowed := true, recurses := true, apart := false, narrowed := true }
def WalTornUptoSaid : Prop := walTornUptoRow.holds Try.pinned (OpenSpec.upto walTornSpec)

/-- 'hornbooklaw22.WalRows', WHERE WHAT IT READS IS OF BULK AT MOST 1048576: true; the input reads as it did. -/
def walRowsUptoRow : OpenClaim := { program := "ytmdecbockpgagaa", sum := "ea87440663c99a9bb1c370f1d5fac26ae0c9b255bd14728f303f9fdd0e86ec20", func := "hornbook/hornbooklaw22.WalRows", spec := "walRows", inPlace := ["maps.clone"], unfollowed := true, recurses := true, apart := false, narrowed := true }
def WalRowsUptoSaid : Prop := walRowsUptoRow.holds Try.pinned (OpenSpec.upto walRowsSpec)

/-- 'hornbooklaw22.WalBounds', WHERE WHAT IT READS IS OF BULK AT MOST 1048576: true; the input reads as it did. -/
def walBoundsUptoRow : OpenClaim := { program := "ytmdecbockpgagaa", sum := "ea87440663c99a9bb1c370f1d5fac26ae0c9b255bd14728f303f9fdd0e86ec20", func := "hornbook/hornbooklaw22.WalBounds", spec := "walBounds", inPlace := ["maps.clone"], unfollowed := true, recurses := true, apart := false, narrowed := true }
def WalBoundsUptoSaid : Prop := walBoundsUptoRow.holds Try.pinned (OpenSpec.upto walBoundsSpec)

/-- 'hornbooklaw22.WalFull', WHERE WHAT IT READS IS OF BULK AT MOST 1048576: true; the input reads as it did. -/
def walFullUptoRow : OpenClaim := { program := "ytmdecbockpgagaa", sum := "ea87440663c99a9bb1c370f1d5fac26ae0c9b255bd14728f303f9fdd0e86ec20", func := "hornbook/hornbooklaw22.WalFull", spec := "walFull", inPlace := ["maps.clone"], unfollowed := true, recurses := true, apart := false, narrowed := true }
def WalFullUptoSaid : Prop := walFullUptoRow.holds Try.pinned (OpenSpec.upto walFullSpec)

/-- 'hornbooklaw22.WalBroken', WHERE WHAT IT READS IS OF BULK AT MOST 1048576: true; the input reads as it did. -/
def walBrokenUptoRow : OpenClaim := { program := "ytmdecbockpgagaa", sum := "ea87440663c99a9bb1c370f1d5fac26ae0c9b255bd14728f303f9fdd0e86ec20", func := "hornbook/hornbooklaw22.WalBroken", spec := "walBroken", inPlace := ["maps.clone"], unfollowed := true, recurses := true, apart := false, narrowed := true }
def WalBrokenUptoSaid : Prop := walBrokenUptoRow.holds Try.pinned (OpenSpec.upto walBrokenSpec)

/-- 'hornbooklaw22.WalPlays', WHERE WHAT IT READS IS OF BULK AT MOST 1048576: true; the input reads as it did. -/
def walPlaysUptoRow : OpenClaim := { program := "ytmdecbockpgagaa", sum := "ea87440663c99a9bb1c370f1d5fac26ae0c9b255bd14728f303f9fdd0e86ec20", func := "hornbook/hornbooklaw22.WalPlays", spec := "walPlays", inPlace := ["maps.clone"], unfollowed := true, recurses := true, apart := false, narrowed := true }
def WalPlaysUptoSaid : Prop := walPlaysUptoRow.holds Try.pinned (OpenSpec.upto walPlaysSpec)

end Rows
end Go.Proofs.Ytmdecbockpgagaa
