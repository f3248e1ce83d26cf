/-
  No cell of these rows narrows 'for every input' (looked for: loops, veiled, ifaces, maps, wideKeys, modest, calm, conditions, laid).
  DERIVED. THE GIVEN ROWS OF THIS SEAT. 11 by the template 'for every input the law returns true; each argument reads behind the call as it read before'; 0 by the template 'total and deterministic' (their statements: YteebojnabifccaaTotals.lean).
  GIVEN WITH THE SEED: the statements are not yours to turn. If you find one false, say at which input.
  Laid BY PROGRAM, IN A SANDBOX (cutbox-rows.mjs): the forced cells as the released guide's own fill.sh prints them over the translation ef43e66ce0c3b781… (all of the seat's roots in one cut). By AI agents, Wed Nov 11 2026. No macro, syntax, notation, axiom, sorry.
-/
import Derived.Test.YteebojnabifccaaChecked
import GoSem.Claim
import GoSem.ClaimJoined
import GoSem.ClaimMapViews
import Derived.JoinedTies
import Derived.KernelRfl
namespace Go.Proofs.Yteebojnabifccaa
/- THE CELL 'sum', in the pinned program and in every row, IS THE sha256 OF THE DUMP (.gsa) THAT YteebojnabifccaaProg.lean LOADS. Nothing in Lean hashes anything: it is a label: what it is worth is what the hold of that sum in a sandbox is worth. -/
noncomputable def Try.pinned : Pinned := { name := "yteebojnabifccaa", sum := "ef43e66ce0c3b781e8cd06f6c4a1dc80691b3807c7bb2958e6146a64be4b4842", checked := Try.checked }
namespace Rows
def none {H : Type} : Left H := { results := [], args := [] }

/-- 'hornbooklaw1.CrcTells': WHATEVER THE INPUT: true; the input reads as it did. -/
def crcTellsSpec : ChangeSpec := { name := "crcTells", fn := fun _ => fun
  | [d1, d2, d3, d4] => { results := [.lit (.bool true)], args := [d1, d2, d3, d4] }
  | _ => none }
def crcTellsRow : OpenClaim := { program := "yteebojnabifccaa", sum := "ef43e66ce0c3b781e8cd06f6c4a1dc80691b3807c7bb2958e6146a64be4b4842", func := "hornbook/hornbooklaw1.CrcTells", spec := "crcTells", apart := false }
def CrcTellsSaid : Prop := crcTellsRow.holds Try.pinned (OpenSpec.ofChange crcTellsSpec)

/-- ITS FALSE NEIGHBOUR: 'it returns false'. Refute it at one input. -/
def crcTellsWrong : ChangeSpec := { name := "crcTells", fn := fun _ => fun
  | [d1, d2, d3, d4] => { results := [.lit (.bool false)], args := [d1, d2, d3, d4] }
  | _ => none }
def CrcTellsWrongFalsely : Prop := crcTellsRow.holds Try.pinned (OpenSpec.ofChange crcTellsWrong)

/-- 'hornbooklaw1.CrcFinds': WHATEVER THE INPUT: true; the input reads as it did. -/
def crcFindsSpec : ChangeSpec := { name := "crcFinds", fn := fun _ => fun
  | [d1, d2, d3] => { results := [.lit (.bool true)], args := [d1, d2, d3] }
  | _ => none }
def crcFindsRow : OpenClaim := { program := "yteebojnabifccaa", sum := "ef43e66ce0c3b781e8cd06f6c4a1dc80691b3807c7bb2958e6146a64be4b4842", func := "hornbook/hornbooklaw1.CrcFinds", spec := "crcFinds", apart := false }
def CrcFindsSaid : Prop := crcFindsRow.holds Try.pinned (OpenSpec.ofChange crcFindsSpec)

/-- ITS FALSE NEIGHBOUR: 'it returns false'. Refute it at one input. -/
def crcFindsWrong : ChangeSpec := { name := "crcFinds", fn := fun _ => fun
  | [d1, d2, d3] => { results := [.lit (.bool false)], args := [d1, d2, d3] }
  | _ => none }
def CrcFindsWrongFalsely : Prop := crcFindsRow.holds Try.pinned (OpenSpec.ofChange crcFindsWrong)

/-- 'hornbooklaw1.CrcParts': WHATEVER THE INPUT: true; the input reads as it did. -/
def crcPartsSpec : ChangeSpec := { name := "crcParts", fn := fun _ => fun
  | [d1, d2] => { results := [.lit (.bool true)], args := [d1, d2] }
  | _ => none }
def crcPartsRow : OpenClaim := { program := "yteebojnabifccaa", sum := "ef43e66ce0c3b781e8cd06f6c4a1dc80691b3807c7bb2958e6146a64be4b4842", func := "hornbook/hornbooklaw1.CrcParts", spec := "crcParts", apart := false }
def CrcPartsSaid : Prop := crcPartsRow.holds Try.pinned (OpenSpec.ofChange crcPartsSpec)

/-- ITS FALSE NEIGHBOUR: 'it returns false'. Refute it at one input. -/
def crcPartsWrong : ChangeSpec := { name := "crcParts", fn := fun _ => fun
  | [d1, d2] => { results := [.lit (.bool false)], args := [d1, d2] }
  | _ => none }
def CrcPartsWrongFalsely : Prop := crcPartsRow.holds Try.pinned (OpenSpec.ofChange crcPartsWrong)

/-- 'hornbooklaw1.CrcTexts': WHATEVER THE INPUT: true; the input reads as it did. -/
def crcTextsSpec : ChangeSpec := { name := "crcTexts", fn := fun _ => fun
  | [d1, d2, d3] => { results := [.lit (.bool true)], args := [d1, d2, d3] }
  | _ => none }
def crcTextsRow : OpenClaim := { program := "yteebojnabifccaa", sum := "ef43e66ce0c3b781e8cd06f6c4a1dc80691b3807c7bb2958e6146a64be4b4842", func := "hornbook/hornbooklaw1.CrcTexts", spec := "crcTexts", apart := false }
def CrcTextsSaid : Prop := crcTextsRow.holds Try.pinned (OpenSpec.ofChange crcTextsSpec)

/-- ITS FALSE NEIGHBOUR: 'it returns false'. Refute it at one input. -/
def crcTextsWrong : ChangeSpec := { name := "crcTexts", fn := fun _ => fun
  | [d1, d2, d3] => { results := [.lit (.bool false)], args := [d1, d2, d3] }
  | _ => none }
def CrcTextsWrongFalsely : Prop := crcTextsRow.holds Try.pinned (OpenSpec.ofChange crcTextsWrong)

/-- 'hornbooklaw1.CrcRows': WHATEVER THE INPUT: true; the input reads as it did. -/
def crcRowsSpec : ChangeSpec := { name := "crcRows", fn := fun _ => fun
  | [d1, d2] => { results := [.lit (.bool true)], args := [d1, d2] }
  | _ => none }
def crcRowsRow : OpenClaim := { program := "yteebojnabifccaa", sum := "ef43e66ce0c3b781e8cd06f6c4a1dc80691b3807c7bb2958e6146a64be4b4842", func := "hornbook/hornbooklaw1.CrcRows", spec := "crcRows", apart := false }
def CrcRowsSaid : Prop := crcRowsRow.holds Try.pinned (OpenSpec.ofChange crcRowsSpec)

/-- ITS FALSE NEIGHBOUR: 'it returns false'. Refute it at one input. -/
def crcRowsWrong : ChangeSpec := { name := "crcRows", fn := fun _ => fun
  | [d1, d2] => { results := [.lit (.bool false)], args := [d1, d2] }
  | _ => none }
def CrcRowsWrongFalsely : Prop := crcRowsRow.holds Try.pinned (OpenSpec.ofChange crcRowsWrong)

/-- 'hornbooklaw1.CrcShort': WHATEVER THE INPUT: true; the input reads as it did. -/
def crcShortSpec : ChangeSpec := { name := "crcShort", fn := fun _ => fun
  | [d1, d2, d3, d4] => { results := [.lit (.bool true)], args := [d1, d2, d3, d4] }
  | _ => none }
def crcShortRow : OpenClaim := { program := "yteebojnabifccaa", sum := "ef43e66ce0c3b781e8cd06f6c4a1dc80691b3807c7bb2958e6146a64be4b4842", func := "hornbook/hornbooklaw1.CrcShort", spec := "crcShort", apart := false }
def CrcShortSaid : Prop := crcShortRow.holds Try.pinned (OpenSpec.ofChange crcShortSpec)

/-- ITS FALSE NEIGHBOUR: 'it returns false'. Refute it at one input. -/
def crcShortWrong : ChangeSpec := { name := "crcShort", fn := fun _ => fun
  | [d1, d2, d3, d4] => { results := [.lit (.bool false)], args := [d1, d2, d3, d4] }
  | _ => none }
def CrcShortWrongFalsely : Prop := crcShortRow.holds Try.pinned (OpenSpec.ofChange crcShortWrong)

/-- 'hornbooklaw21.FrameNoughts': WHATEVER THE INPUT: true; the input reads as it did. -/
def frameNoughtsSpec : ChangeSpec := { name := "frameNoughts", fn := fun _ => fun
  | [d1, d2, d3] => { results := [.lit (.bool true)], args := [d1, d2, d3] }
  | _ => none }
def frameNoughtsRow : OpenClaim := { program := "yteebojnabifccaa", sum := "ef43e66ce0c3b781e8cd06f6c4a1dc80691b3807c7bb2958e6146a64be4b4842", func := "hornbook/hornbooklaw21.FrameNoughts", spec := "frameNoughts", apart := false }
def FrameNoughtsSaid : Prop := frameNoughtsRow.holds Try.pinned (OpenSpec.ofChange frameNoughtsSpec)

/-- ITS FALSE NEIGHBOUR: 'it returns false'. Refute it at one input. -/
def frameNoughtsWrong : ChangeSpec := { name := "frameNoughts", fn := fun _ => fun
  | [d1, d2, d3] => { results := [.lit (.bool false)], args := [d1, d2, d3] }
  | _ => none }
def FrameNoughtsWrongFalsely : Prop := frameNoughtsRow.holds Try.pinned (OpenSpec.ofChange frameNoughtsWrong)

/-- 'hornbooklaw21.FrameLengths': WHATEVER THE INPUT: true; the input reads as it did. -/
def frameLengthsSpec : ChangeSpec := { name := "frameLengths", fn := fun _ => fun
  | [d1, d2] => { results := [.lit (.bool true)], args := [d1, d2] }
  | _ => none }
def frameLengthsRow : OpenClaim := { program := "yteebojnabifccaa", sum := "ef43e66ce0c3b781e8cd06f6c4a1dc80691b3807c7bb2958e6146a64be4b4842", func := "hornbook/hornbooklaw21.FrameLengths", spec := "frameLengths", apart := false }
def FrameLengthsSaid : Prop := frameLengthsRow.holds Try.pinned (OpenSpec.ofChange frameLengthsSpec)

/-- ITS FALSE NEIGHBOUR: 'it returns false'. Refute it at one input. -/
def frameLengthsWrong : ChangeSpec := { name := "frameLengths", fn := fun _ => fun
  | [d1, d2] => { results := [.lit (.bool false)], args := [d1, d2] }
  | _ => none }
def FrameLengthsWrongFalsely : Prop := frameLengthsRow.holds Try.pinned (OpenSpec.ofChange frameLengthsWrong)

/-- 'hornbooklaw21.FrameSeals': WHATEVER THE INPUT: true; the input reads as it did. -/
def frameSealsSpec : ChangeSpec := { name := "frameSeals", fn := fun _ => fun
  | [d1, d2, d3, d4, d5] => { results := [.lit (.bool true)], args := [d1, d2, d3, d4, d5] }
  | _ => none }
def frameSealsRow : OpenClaim := { program := "yteebojnabifccaa", sum := "ef43e66ce0c3b781e8cd06f6c4a1dc80691b3807c7bb2958e6146a64be4b4842", func := "hornbook/hornbooklaw21.FrameSeals", spec := "frameSeals", apart := false }
def FrameSealsSaid : Prop := frameSealsRow.holds Try.pinned (OpenSpec.ofChange frameSealsSpec)

/-- ITS FALSE NEIGHBOUR: 'it returns false'. Refute it at one input. -/
def frameSealsWrong : ChangeSpec := { name := "frameSeals", fn := fun _ => fun
  | [d1, d2, d3, d4, d5] => { results := [.lit (.bool false)], args := [d1, d2, d3, d4, d5] }
  | _ => none }
def FrameSealsWrongFalsely : Prop := frameSealsRow.holds Try.pinned (OpenSpec.ofChange frameSealsWrong)

/-- 'hornbooklaw21.FrameRows': WHATEVER THE INPUT: true; the input reads as it did. -/
def frameRowsSpec : ChangeSpec := { name := "frameRows", fn := fun _ => fun
  | [d1, d2] => { results := [.lit (.bool true)], args := [d1, d2] }
  | _ => none }
def frameRowsRow : OpenClaim := { program := "yteebojnabifccaa", sum := "ef43e66ce0c3b781e8cd06f6c4a1dc80691b3807c7bb2958e6146a64be4b4842", func := "hornbook/hornbooklaw21.FrameRows", spec := "frameRows", unfollowed := true, recurses := true, apart := false }
def FrameRowsSaid : Prop := frameRowsRow.holds Try.pinned (OpenSpec.ofChange frameRowsSpec)

/-- ITS FALSE NEIGHBOUR: 'it returns false'. Refute it at one input. -/
def frameRowsWrong : ChangeSpec := { name := "frameRows", fn := fun _ => fun
  | [d1, d2] => { results := [.lit (.bool false)], args := [d1, d2] }
  | _ => none }
def FrameRowsWrongFalsely : Prop := frameRowsRow.holds Try.pinned (OpenSpec.ofChange frameRowsWrong)

/-- 'hornbooklaw21.FrameTells': WHATEVER THE INPUT: true; the input reads as it did. -/
def frameTellsSpec : ChangeSpec := { name := "frameTells", fn := fun _ => fun
  | [d1, d2] => { results := [.lit (.bool true)], args := [d1, d2] }
  | _ => none }
def frameTellsRow : OpenClaim := { program := "yteebojnabifccaa", sum := "ef43e66ce0c3b781e8cd06f6c4a1dc80691b3807c7bb2958e6146a64be4b4842", func := "hornbook/hornbooklaw21.FrameTells", spec := "frameTells", unfollowed := true, recurses := true, apart := false }
def FrameTellsSaid : Prop := frameTellsRow.holds Try.pinned (OpenSpec.ofChange frameTellsSpec)

/-- ITS FALSE NEIGHBOUR: 'it returns false'. Refute it at one input. -/
def frameTellsWrong : ChangeSpec := { name := "frameTells", fn := fun _ => fun
  | [d1, d2] => { results := [.lit (.bool false)], args := [d1, d2] }
  | _ => none }
def FrameTellsWrongFalsely : Prop := frameTellsRow.holds Try.pinned (OpenSpec.ofChange frameTellsWrong)

/- THE SECOND FORM. 'bulk': how many values and letters a reading holds, each counted each time it is reached (what is shared counts as often as it is met; a slice's spare places count too). A statement '..UptoSaid' is the law's where the arguments, and the package variables that the reading takes, are together of bulk at most 1048576: NARROWER than '..Said'. Prove '..Said' where nothing that the law and all that it calls make is longer than what came in: it says more and counts as full. Else prove '..UptoSaid'. A law counts once. -/
mutual
def uptoBulk {H : Type} : DataW H → Nat
  | .lit (.string bytes) => bytes.length + 1
  | .lit _ => 1
  | .nil => 1
  | .ptr d => uptoBulk d + 1
  | .slice elems spare => uptoBulkAll elems + uptoBulkAll spare + 1
  | .agg parts => uptoBulkAll parts + 1
  | .iface _ d => uptoBulk d + 1
  | .map entries => uptoBulkEntries entries + 1
  | .held _ => 1
def uptoBulkAll {H : Type} : List (DataW H) → Nat
  | [] => 0
  | d :: r => uptoBulk d + uptoBulkAll r
def uptoBulkEntries {H : Type} : List (Lit × DataW H) → Nat
  | [] => 0
  | x :: r => uptoBulkEntry x + uptoBulkEntries r
def uptoBulkEntry {H : Type} : Lit × DataW H → Nat
  | (.string bytes, d) => bytes.length + uptoBulk d + 1
  | (_, d) => uptoBulk d + 1
 end
def uptoSmall : (H : Type) → List (DataW H) → Bool := fun _ ds => decide (uptoBulkAll ds ≤ 1048576)
def OpenSpec.upto (s : _root_.Go.ChangeSpec) : _root_.Go.OpenSpec := { _root_.Go.OpenSpec.ofChange s with cond := some uptoSmall }

/-- 'hornbooklaw1.CrcTells', WHERE WHAT IT READS IS OF BULK AT MOST 1048576: true; the input reads as it did. -/
def crcTellsUptoRow : OpenClaim := { program := "yteebojnabifccaa", sum := "ef43e66ce0c3b781e8cd06f6c4a1dc80691b3807c7bb2958e6146a64be4b4842", func := "hornbook/hornbooklaw1.CrcTells", spec := "crcTells", apart := false, narrowed := true }
def CrcTellsUptoSaid : Prop := crcTellsUptoRow.holds Try.pinned (OpenSpec.upto crcTellsSpec)

/-- 'hornbooklaw1.CrcFinds', WHERE WHAT IT READS IS OF BULK AT MOST 1048576: true; the input reads as it did. -/
def crcFindsUptoRow : OpenClaim := { program := "yteebojnabifccaa", sum := "ef43e66ce0c3b781e8cd06f6c4a1dc80691b3807c7bb2958e6146a64be4b4842", func := "hornbook/hornbooklaw1.CrcFinds", spec := "crcFinds", apart := false, narrowed := true }
def CrcFindsUptoSaid : Prop := crcFindsUptoRow.holds Try.pinned (OpenSpec.upto crcFindsSpec)

/-- 'hornbooklaw1.CrcParts', WHERE WHAT IT READS IS OF BULK AT MOST 1048576: true; the input reads as it did. -/
def crcPartsUptoRow : OpenClaim := { program := "yteebojnabifccaa", sum := "ef43e66ce0c3b781e8cd06f6c4a1dc80691b3807c7bb2958e6146a64be4b4842", func := "hornbook/hornbooklaw1.CrcParts", spec := "crcParts", apart := false, narrowed := true }
def CrcPartsUptoSaid : Prop := crcPartsUptoRow.holds Try.pinned (OpenSpec.upto crcPartsSpec)

/-- 'hornbooklaw1.CrcTexts', WHERE WHAT IT READS IS OF BULK AT MOST 1048576: true; the input reads as it did. -/
def crcTextsUptoRow : OpenClaim := { program := "yteebojnabifccaa", sum := "ef43e66ce0c3b781e8cd06f6c4a1dc80691b3807c7bb2958e6146a64be4b4842", func := "hornbook/hornbooklaw1.CrcTexts", spec := "crcTexts", apart := false, narrowed := true }
def CrcTextsUptoSaid : Prop := crcTextsUptoRow.holds Try.pinned (OpenSpec.upto crcTextsSpec)

/-- 'hornbooklaw1.CrcRows', WHERE WHAT IT READS IS OF BULK AT MOST 1048576: true; the input reads as it did. -/
def crcRowsUptoRow : OpenClaim := { program := "yteebojnabifccaa", sum := "ef43e66ce0c3b781e8cd06f6c4a1dc80691b3807c7bb2958e6146a64be4b4842", func := "hornbook/hornbooklaw1.CrcRows", spec := "crcRows", apart := false, narrowed := true }
def CrcRowsUptoSaid : Prop := crcRowsUptoRow.holds Try.pinned (OpenSpec.upto crcRowsSpec)

/-- 'hornbooklaw1.CrcShort', WHERE WHAT IT READS IS OF BULK AT MOST 1048576: true; the input reads as it did. -/
def crcShortUptoRow : OpenClaim := { program := "yteebojnabifccaa", sum := "ef43e66ce0c3b781e8cd06f6c4a1dc80691b3807c7bb2958e6146a64be4b4842", func := "hornbook/hornbooklaw1.CrcShort", spec := "crcShort", apart := false, narrowed := true }
def CrcShortUptoSaid : Prop := crcShortUptoRow.holds Try.pinned (OpenSpec.upto crcShortSpec)

/-- 'hornbooklaw21.FrameNoughts', WHERE WHAT IT READS IS OF BULK AT MOST 1048576: true; the input reads as it did. -/
def frameNoughtsUptoRow : OpenClaim := { program := "yteebojnabifccaa", sum := "ef43e66ce0c3b781e8cd06f6c4a1dc80691b3807c7bb2958e6146a64be4b4842", func := "hornbook/hornbooklaw21.FrameNoughts", spec := "frameNoughts", apart := false, narrowed := true }
def FrameNoughtsUptoSaid : Prop := frameNoughtsUptoRow.holds Try.pinned (OpenSpec.upto frameNoughtsSpec)

/-- 'hornbooklaw21.FrameLengths', WHERE WHAT IT READS IS OF BULK AT MOST 1048576: true; the input reads as it did. -/
def frameLengthsUptoRow : OpenClaim := { program := "yteebojnabifccaa", sum := "ef43e66ce0c3b781e8cd06f6c4a1dc80691b3807c7bb2958e6146a64be4b4842", func := "hornbook/hornbooklaw21.FrameLengths", spec := "frameLengths", apart := false, narrowed := true }
def FrameLengthsUptoSaid : Prop := frameLengthsUptoRow.holds Try.pinned (OpenSpec.upto frameLengthsSpec)

/-- 'hornbooklaw21.FrameSeals', WHERE WHAT IT READS IS OF BULK AT MOST 1048576: true; the input reads as it did. -/
def frameSealsUptoRow : OpenClaim := { program := "yteebojnabifccaa", sum := "ef43e66ce0c3b781e8cd06f6c4a1dc80691b3807c7bb2958e6146a64be4b4842", func := "hornbook/hornbooklaw21.FrameSeals", spec := "frameSeals", apart := false, narrowed := true }
def FrameSealsUptoSaid : Prop := frameSealsUptoRow.holds Try.pinned (OpenSpec.upto frameSealsSpec)

/-- 'hornbooklaw21.FrameRows', WHERE WHAT IT READS IS OF BULK AT MOST 1048576: true; the input reads as it did. -/
def frameRowsUptoRow : OpenClaim := { program := "yteebojnabifccaa", sum := "ef43e66ce0c3b781e8cd06f6c4a1dc80691b3807c7bb2958e6146a64be4b4842", func := "hornbook/hornbooklaw21.FrameRows", spec := "frameRows", unfollowed := true, recurses := true, apart := false, narrowed := true }
def FrameRowsUptoSaid : Prop := frameRowsUptoRow.holds Try.pinned (OpenSpec.upto frameRowsSpec)

/-- 'hornbooklaw21.FrameTells', WHERE WHAT IT READS IS OF BULK AT MOST 1048576: true; the input reads as it did. -/
def frameTellsUptoRow : OpenClaim := { program := "yteebojnabifccaa", sum := "ef43e66ce0c3b781e8cd06f6c4a1dc80691b3807c7bb2958e6146a64be4b4842", func := "hornbook/hornbooklaw21.FrameTells", spec := "frameTells", unfollowed := true, recurses := true, apart := false, narrowed := true }
def FrameTellsUptoSaid : Prop := frameTellsUptoRow.holds Try.pinned (OpenSpec.upto frameTellsSpec)

end Rows
end Go.Proofs.Yteebojnabifccaa
