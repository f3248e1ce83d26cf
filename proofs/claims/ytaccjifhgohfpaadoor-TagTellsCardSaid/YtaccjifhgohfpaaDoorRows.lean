/-
  NARROWER THAN 'FOR EVERY INPUT', by the rows' own cells (each row's printed sentence says how): UtfTells: laid · UtfBack: laid · UtfCuts: laid · UtfSizes: laid · UtfTorn: laid · TagTells: laid · TagClimbs: laid · TagBuilt: laid · TagRefuses: laid · TagRoots: laid.
  DERIVED. THE GIVEN ROWS OF THIS SEAT. 10 by the template 'for every input the law returns true; each argument reads behind the call as it read before'; 0 by the template 'total and deterministic' (their statements: YtaccjifhgohfpaaDoorTotals.lean).
  GIVEN WITH THE SEED: the statements are not yours to turn. If you find one false, say at which input.
  Laid BY PROGRAM, IN A SANDBOX (cutbox-rows.mjs): the forced cells as the released guide's own fill.sh prints them over the translation b63a8fead8e109d2… (all of the seat's roots in one cut). By AI agents, Wed Nov 11 2026. No macro, syntax, notation, axiom, sorry.
-/
import Derived.Test.YtaccjifhgohfpaaDoorChecked
import GoSem.PinnedTables
import GoSem.Claim
import GoSem.ClaimJoined
import GoSem.ClaimMapViews
import Derived.JoinedTies
import Derived.KernelRfl
namespace Go.Proofs.YtaccjifhgohfpaaDoor
/- THE CELL 'sum', in the pinned program and in every row, IS THE sha256 OF THE DUMP (.gsa) THAT YtaccjifhgohfpaaDoorProg.lean LOADS. Nothing in Lean hashes anything: it is a label: what it is worth is what the hold of that sum in a sandbox is worth. -/
noncomputable def Tryd.pinned : Pinned := { name := "ytaccjifhgohfpaadoor", sum := "b63a8fead8e109d23babb8802d87e942746fcc08e855eb71be26349e0c953bbc", checked := Tryd.checked }
namespace Rows
def none {H : Type} : Left H := { results := [], args := [] }

/- WHAT THE LISTED PACKAGE-LEVEL VARIABLES READ AS WHEN THE CALL BEGINS. Each datum BY PROGRAM (the guide's laid-datum.mjs) off the statement by which the dump's own 'gosem.cut.vars' lays the variable. In a bare row this is a premise. The card (YtaccjifhgohfpaaDoorCards.lean) ties it to the program's text. -/
def laid_unicode_utf8_acceptRanges {H : Type} : DataW H := .agg [.agg [.lit (.int .u8 128), .lit (.int .u8 191)], .agg [.lit (.int .u8 160), .lit (.int .u8 191)], .agg [.lit (.int .u8 128), .lit (.int .u8 159)], .agg [.lit (.int .u8 144), .lit (.int .u8 191)], .agg [.lit (.int .u8 128), .lit (.int .u8 143)], .agg [.lit (.int .u8 0), .lit (.int .u8 0)], .agg [.lit (.int .u8 0), .lit (.int .u8 0)], .agg [.lit (.int .u8 0), .lit (.int .u8 0)], .agg [.lit (.int .u8 0), .lit (.int .u8 0)], .agg [.lit (.int .u8 0), .lit (.int .u8 0)], .agg [.lit (.int .u8 0), .lit (.int .u8 0)], .agg [.lit (.int .u8 0), .lit (.int .u8 0)], .agg [.lit (.int .u8 0), .lit (.int .u8 0)], .agg [.lit (.int .u8 0), .lit (.int .u8 0)], .agg [.lit (.int .u8 0), .lit (.int .u8 0)], .agg [.lit (.int .u8 0), .lit (.int .u8 0)]]
/-- One of Go's own tables, pinned by name: the form's constant. -/
def laid_unicode_utf8_first : DataW Unit := Go.Pinned.utf8First
/-- One of Go's own tables, pinned by name: the form's constant. -/
def laid_unicode_CaseRanges : DataW Unit := Go.Pinned.caseRanges

/-- 'hornbooklaw2.UtfTells': WHATEVER THE INPUT: true; the input reads as it did. -/
def utfTellsSpec : ChangeSpec := { name := "utfTells", fn := fun _ => fun
  | [d1, d2] => { results := [.lit (.bool true)], args := [d1, d2] }
  | _ => none }
def utfTellsRow : OpenClaim := { program := "ytaccjifhgohfpaadoor", sum := "b63a8fead8e109d23babb8802d87e942746fcc08e855eb71be26349e0c953bbc", func := "hornbook/hornbooklaw2.UtfTells", spec := "utfTells", unfollowed := true, recurses := true, named := ["unicode/utf8.first", "unicode/utf8.acceptRanges"], apart := false, laid := [("unicode/utf8.acceptRanges", laid_unicode_utf8_acceptRanges), ("unicode/utf8.first", laid_unicode_utf8_first)] }
def UtfTellsSaid : Prop := utfTellsRow.holds Tryd.pinned (OpenSpec.ofChange utfTellsSpec)

/-- ITS FALSE NEIGHBOUR: 'it returns false'. Refute it at one input. -/
def utfTellsWrong : ChangeSpec := { name := "utfTells", fn := fun _ => fun
  | [d1, d2] => { results := [.lit (.bool false)], args := [d1, d2] }
  | _ => none }
def UtfTellsWrongFalsely : Prop := utfTellsRow.holds Tryd.pinned (OpenSpec.ofChange utfTellsWrong)

/-- 'hornbooklaw2.UtfBack': WHATEVER THE INPUT: true; the input reads as it did. -/
def utfBackSpec : ChangeSpec := { name := "utfBack", fn := fun _ => fun
  | [d] => { results := [.lit (.bool true)], args := [d] }
  | _ => none }
def utfBackRow : OpenClaim := { program := "ytaccjifhgohfpaadoor", sum := "b63a8fead8e109d23babb8802d87e942746fcc08e855eb71be26349e0c953bbc", func := "hornbook/hornbooklaw2.UtfBack", spec := "utfBack", unfollowed := true, recurses := true, named := ["unicode/utf8.first", "unicode/utf8.acceptRanges"], apart := false, laid := [("unicode/utf8.acceptRanges", laid_unicode_utf8_acceptRanges), ("unicode/utf8.first", laid_unicode_utf8_first)] }
def UtfBackSaid : Prop := utfBackRow.holds Tryd.pinned (OpenSpec.ofChange utfBackSpec)

/-- ITS FALSE NEIGHBOUR: 'it returns false'. Refute it at one input. -/
def utfBackWrong : ChangeSpec := { name := "utfBack", fn := fun _ => fun
  | [d] => { results := [.lit (.bool false)], args := [d] }
  | _ => none }
def UtfBackWrongFalsely : Prop := utfBackRow.holds Tryd.pinned (OpenSpec.ofChange utfBackWrong)

/-- 'hornbooklaw2.UtfCuts': WHATEVER THE INPUT: true; the input reads as it did. -/
def utfCutsSpec : ChangeSpec := { name := "utfCuts", fn := fun _ => fun
  | [d1, d2, d3] => { results := [.lit (.bool true)], args := [d1, d2, d3] }
  | _ => none }
def utfCutsRow : OpenClaim := { program := "ytaccjifhgohfpaadoor", sum := "b63a8fead8e109d23babb8802d87e942746fcc08e855eb71be26349e0c953bbc", func := "hornbook/hornbooklaw2.UtfCuts", spec := "utfCuts", unfollowed := true, recurses := true, named := ["unicode/utf8.first", "unicode/utf8.acceptRanges"], apart := false, laid := [("unicode/utf8.acceptRanges", laid_unicode_utf8_acceptRanges), ("unicode/utf8.first", laid_unicode_utf8_first)] }
def UtfCutsSaid : Prop := utfCutsRow.holds Tryd.pinned (OpenSpec.ofChange utfCutsSpec)

/-- ITS FALSE NEIGHBOUR: 'it returns false'. Refute it at one input. -/
def utfCutsWrong : ChangeSpec := { name := "utfCuts", fn := fun _ => fun
  | [d1, d2, d3] => { results := [.lit (.bool false)], args := [d1, d2, d3] }
  | _ => none }
def UtfCutsWrongFalsely : Prop := utfCutsRow.holds Tryd.pinned (OpenSpec.ofChange utfCutsWrong)

/-- 'hornbooklaw2.UtfSizes': WHATEVER THE INPUT: true; the input reads as it did. -/
def utfSizesSpec : ChangeSpec := { name := "utfSizes", fn := fun _ => fun
  | [d] => { results := [.lit (.bool true)], args := [d] }
  | _ => none }
def utfSizesRow : OpenClaim := { program := "ytaccjifhgohfpaadoor", sum := "b63a8fead8e109d23babb8802d87e942746fcc08e855eb71be26349e0c953bbc", func := "hornbook/hornbooklaw2.UtfSizes", spec := "utfSizes", unfollowed := true, recurses := true, named := ["unicode/utf8.first", "unicode/utf8.acceptRanges"], apart := false, laid := [("unicode/utf8.acceptRanges", laid_unicode_utf8_acceptRanges), ("unicode/utf8.first", laid_unicode_utf8_first)] }
def UtfSizesSaid : Prop := utfSizesRow.holds Tryd.pinned (OpenSpec.ofChange utfSizesSpec)

/-- ITS FALSE NEIGHBOUR: 'it returns false'. Refute it at one input. -/
def utfSizesWrong : ChangeSpec := { name := "utfSizes", fn := fun _ => fun
  | [d] => { results := [.lit (.bool false)], args := [d] }
  | _ => none }
def UtfSizesWrongFalsely : Prop := utfSizesRow.holds Tryd.pinned (OpenSpec.ofChange utfSizesWrong)

/-- 'hornbooklaw2.UtfTorn': WHATEVER THE INPUT: true; the input reads as it did. -/
def utfTornSpec : ChangeSpec := { name := "utfTorn", fn := fun _ => fun
  | [d1, d2, d3] => { results := [.lit (.bool true)], args := [d1, d2, d3] }
  | _ => none }
def utfTornRow : OpenClaim := { program := "ytaccjifhgohfpaadoor", sum := "b63a8fead8e109d23babb8802d87e942746fcc08e855eb71be26349e0c953bbc", func := "hornbook/hornbooklaw2.UtfTorn", spec := "utfTorn", unfollowed := true, recurses := true, named := ["unicode/utf8.first", "unicode/utf8.acceptRanges"], apart := false, laid := [("unicode/utf8.acceptRanges", laid_unicode_utf8_acceptRanges), ("unicode/utf8.first", laid_unicode_utf8_first)] }
def UtfTornSaid : Prop := utfTornRow.holds Tryd.pinned (OpenSpec.ofChange utfTornSpec)

/-- ITS FALSE NEIGHBOUR: 'it returns false'. Refute it at one input. -/
def utfTornWrong : ChangeSpec := { name := "utfTorn", fn := fun _ => fun
  | [d1, d2, d3] => { results := [.lit (.bool false)], args := [d1, d2, d3] }
  | _ => none }
def UtfTornWrongFalsely : Prop := utfTornRow.holds Tryd.pinned (OpenSpec.ofChange utfTornWrong)

/-- 'hornbooklaw9.TagTells': WHATEVER THE INPUT: true; the input reads as it did. -/
def tagTellsSpec : ChangeSpec := { name := "tagTells", fn := fun _ => fun
  | [d] => { results := [.lit (.bool true)], args := [d] }
  | _ => none }
def tagTellsRow : OpenClaim := { program := "ytaccjifhgohfpaadoor", sum := "b63a8fead8e109d23babb8802d87e942746fcc08e855eb71be26349e0c953bbc", func := "hornbook/hornbooklaw9.TagTells", spec := "tagTells", inPlace := ["internal/bytealg.CountString", "internal/bytealg.IndexByteString", "internal/bytealg.IndexString", "internal/abi.NoEscape", "internal/bytealg.MakeNoZero"], unfollowed := true, recurses := true, named := ["internal/bytealg.MaxLen", "unicode/utf8.first", "unicode/utf8.acceptRanges", "unicode.CaseRanges"], apart := false, laid := [("unicode/utf8.acceptRanges", laid_unicode_utf8_acceptRanges), ("unicode.CaseRanges", laid_unicode_CaseRanges), ("unicode/utf8.first", laid_unicode_utf8_first)] }
def TagTellsSaid : Prop := tagTellsRow.holds Tryd.pinned (OpenSpec.ofChange tagTellsSpec)

/-- ITS FALSE NEIGHBOUR: 'it returns false'. Refute it at one input. -/
def tagTellsWrong : ChangeSpec := { name := "tagTells", fn := fun _ => fun
  | [d] => { results := [.lit (.bool false)], args := [d] }
  | _ => none }
def TagTellsWrongFalsely : Prop := tagTellsRow.holds Tryd.pinned (OpenSpec.ofChange tagTellsWrong)

/-- 'hornbooklaw9.TagClimbs': WHATEVER THE INPUT: true; the input reads as it did. -/
def tagClimbsSpec : ChangeSpec := { name := "tagClimbs", fn := fun _ => fun
  | [d] => { results := [.lit (.bool true)], args := [d] }
  | _ => none }
def tagClimbsRow : OpenClaim := { program := "ytaccjifhgohfpaadoor", sum := "b63a8fead8e109d23babb8802d87e942746fcc08e855eb71be26349e0c953bbc", func := "hornbook/hornbooklaw9.TagClimbs", spec := "tagClimbs", inPlace := ["internal/bytealg.CountString", "internal/bytealg.IndexByteString", "internal/bytealg.IndexString", "internal/abi.NoEscape", "internal/bytealg.MakeNoZero"], unfollowed := true, recurses := true, named := ["internal/bytealg.MaxLen", "unicode/utf8.first", "unicode/utf8.acceptRanges", "unicode.CaseRanges"], apart := false, laid := [("unicode/utf8.acceptRanges", laid_unicode_utf8_acceptRanges), ("unicode.CaseRanges", laid_unicode_CaseRanges), ("unicode/utf8.first", laid_unicode_utf8_first)] }
def TagClimbsSaid : Prop := tagClimbsRow.holds Tryd.pinned (OpenSpec.ofChange tagClimbsSpec)

/-- ITS FALSE NEIGHBOUR: 'it returns false'. Refute it at one input. -/
def tagClimbsWrong : ChangeSpec := { name := "tagClimbs", fn := fun _ => fun
  | [d] => { results := [.lit (.bool false)], args := [d] }
  | _ => none }
def TagClimbsWrongFalsely : Prop := tagClimbsRow.holds Tryd.pinned (OpenSpec.ofChange tagClimbsWrong)

/-- 'hornbooklaw9.TagBuilt': WHATEVER THE INPUT: true; the input reads as it did. -/
def tagBuiltSpec : ChangeSpec := { name := "tagBuilt", fn := fun _ => fun
  | [d1, d2, d3, d4, d5, d6, d7] => { results := [.lit (.bool true)], args := [d1, d2, d3, d4, d5, d6, d7] }
  | _ => none }
def tagBuiltRow : OpenClaim := { program := "ytaccjifhgohfpaadoor", sum := "b63a8fead8e109d23babb8802d87e942746fcc08e855eb71be26349e0c953bbc", func := "hornbook/hornbooklaw9.TagBuilt", spec := "tagBuilt", inPlace := ["internal/bytealg.CountString", "internal/bytealg.IndexByteString", "internal/bytealg.IndexString", "internal/abi.NoEscape", "internal/bytealg.MakeNoZero"], unfollowed := true, recurses := true, named := ["internal/bytealg.MaxLen", "unicode/utf8.first", "unicode/utf8.acceptRanges", "unicode.CaseRanges"], apart := false, laid := [("unicode/utf8.acceptRanges", laid_unicode_utf8_acceptRanges), ("unicode.CaseRanges", laid_unicode_CaseRanges), ("unicode/utf8.first", laid_unicode_utf8_first)] }
def TagBuiltSaid : Prop := tagBuiltRow.holds Tryd.pinned (OpenSpec.ofChange tagBuiltSpec)

/-- ITS FALSE NEIGHBOUR: 'it returns false'. Refute it at one input. -/
def tagBuiltWrong : ChangeSpec := { name := "tagBuilt", fn := fun _ => fun
  | [d1, d2, d3, d4, d5, d6, d7] => { results := [.lit (.bool false)], args := [d1, d2, d3, d4, d5, d6, d7] }
  | _ => none }
def TagBuiltWrongFalsely : Prop := tagBuiltRow.holds Tryd.pinned (OpenSpec.ofChange tagBuiltWrong)

/-- 'hornbooklaw9.TagRefuses': WHATEVER THE INPUT: true; the input reads as it did. -/
def tagRefusesSpec : ChangeSpec := { name := "tagRefuses", fn := fun _ => fun
  | [d1, d2, d3] => { results := [.lit (.bool true)], args := [d1, d2, d3] }
  | _ => none }
def tagRefusesRow : OpenClaim := { program := "ytaccjifhgohfpaadoor", sum := "b63a8fead8e109d23babb8802d87e942746fcc08e855eb71be26349e0c953bbc", func := "hornbook/hornbooklaw9.TagRefuses", spec := "tagRefuses", inPlace := ["internal/bytealg.CountString", "internal/bytealg.IndexByteString", "internal/bytealg.IndexString", "internal/abi.NoEscape", "internal/bytealg.MakeNoZero"], unfollowed := true, recurses := true, named := ["internal/bytealg.MaxLen", "unicode/utf8.first", "unicode/utf8.acceptRanges", "unicode.CaseRanges"], apart := false, laid := [("unicode/utf8.acceptRanges", laid_unicode_utf8_acceptRanges), ("unicode.CaseRanges", laid_unicode_CaseRanges), ("unicode/utf8.first", laid_unicode_utf8_first)] }
def TagRefusesSaid : Prop := tagRefusesRow.holds Tryd.pinned (OpenSpec.ofChange tagRefusesSpec)

/-- ITS FALSE NEIGHBOUR: 'it returns false'. Refute it at one input. -/
def tagRefusesWrong : ChangeSpec := { name := "tagRefuses", fn := fun _ => fun
  | [d1, d2, d3] => { results := [.lit (.bool false)], args := [d1, d2, d3] }
  | _ => none }
def TagRefusesWrongFalsely : Prop := tagRefusesRow.holds Tryd.pinned (OpenSpec.ofChange tagRefusesWrong)

/-- 'hornbooklaw9.TagRoots': WHATEVER THE INPUT: true; the input reads as it did. -/
def tagRootsSpec : ChangeSpec := { name := "tagRoots", fn := fun _ => fun
  | [d1, d2] => { results := [.lit (.bool true)], args := [d1, d2] }
  | _ => none }
def tagRootsRow : OpenClaim := { program := "ytaccjifhgohfpaadoor", sum := "b63a8fead8e109d23babb8802d87e942746fcc08e855eb71be26349e0c953bbc", func := "hornbook/hornbooklaw9.TagRoots", spec := "tagRoots", inPlace := ["internal/bytealg.CountString", "internal/bytealg.IndexByteString", "internal/bytealg.IndexString", "internal/abi.NoEscape", "internal/bytealg.MakeNoZero"], unfollowed := true, recurses := true, named := ["internal/bytealg.MaxLen", "unicode/utf8.first", "unicode/utf8.acceptRanges", "unicode.CaseRanges"], apart := false, laid := [("unicode/utf8.acceptRanges", laid_unicode_utf8_acceptRanges), ("unicode.CaseRanges", laid_unicode_CaseRanges), ("unicode/utf8.first", laid_unicode_utf8_first)] }
def TagRootsSaid : Prop := tagRootsRow.holds Tryd.pinned (OpenSpec.ofChange tagRootsSpec)

/-- ITS FALSE NEIGHBOUR: 'it returns false'. Refute it at one input. -/
def tagRootsWrong : ChangeSpec := { name := "tagRoots", fn := fun _ => fun
  | [d1, d2] => { results := [.lit (.bool false)], args := [d1, d2] }
  | _ => none }
def TagRootsWrongFalsely : Prop := tagRootsRow.holds Tryd.pinned (OpenSpec.ofChange tagRootsWrong)

/- THE SECOND FORM. 'bulk': how many values and letters a reading holds, each counted each time it is reached (what is shared counts as often as it is met; a slice's spare places count too). A statement '..UptoSaid' is the law's where the arguments, and the package variables that the reading takes, are together of bulk at most 1048576: NARROWER than '..Said'. Prove '..Said' where nothing that the law and all that it calls make is longer than what came in: it says more and counts as full. Else prove '..UptoSaid'. A law counts once. -/
mutual
def uptoBulk {H : Type} : DataW H → Nat
  | .lit (.string bytes) => bytes.length + 1
  | .lit _ => 1
  | .nil => 1
  | .ptr d => uptoBulk d + 1
  | .slice elems spare => uptoBulkAll elems + uptoBulkAll spare + 1
  | .agg parts => uptoBulkAll parts + 1
  | .iface _ d => uptoBulk d + 1
  | .map entries => uptoBulkEntries entries + 1
  | .held _ => 1
def uptoBulkAll {H : Type} : List (DataW H) → Nat
  | [] => 0
  | d :: r => uptoBulk d + uptoBulkAll r
def uptoBulkEntries {H : Type} : List (Lit × DataW H) → Nat
  | [] => 0
  | x :: r => uptoBulkEntry x + uptoBulkEntries r
def uptoBulkEntry {H : Type} : Lit × DataW H → Nat
  | (.string bytes, d) => bytes.length + uptoBulk d + 1
  | (_, d) => uptoBulk d + 1
 end
def uptoSmall : (H : Type) → List (DataW H) → Bool := fun _ ds => decide (uptoBulkAll ds ≤ 1048576)
def OpenSpec.upto (s : _root_.Go.ChangeSpec) : _root_.Go.OpenSpec := { _root_.Go.OpenSpec.ofChange s with cond := some uptoSmall }

/-- 'hornbooklaw2.UtfTells', WHERE WHAT IT READS IS OF BULK AT MOST 1048576: true; the input reads as it did. -/
def utfTellsUptoRow : OpenClaim := { program := "ytaccjifhgohfpaadoor", sum := "b63a8fead8e109d23babb8802d87e942746fcc08e855eb71be26349e0c953bbc", func := "hornbook/hornbooklaw2.UtfTells", spec := "utfTells", unfollowed := true, recurses := true, named := ["unicode/utf8.first", "unicode/utf8.acceptRanges"], apart := false, laid := [("unicode/utf8.acceptRanges", laid_unicode_utf8_acceptRanges), ("unicode/utf8.first", laid_unicode_utf8_first)], narrowed := true }
def UtfTellsUptoSaid : Prop := utfTellsUptoRow.holds Tryd.pinned (OpenSpec.upto utfTellsSpec)

/-- 'hornbooklaw2.UtfBack', WHERE WHAT IT READS IS OF BULK AT MOST 1048576: true; the input reads as it did. -/
def utfBackUptoRow : OpenClaim := { program := "ytaccjifhgohfpaadoor", sum := "b63a8fead8e109d23babb8802d87e942746fcc08e855eb71be26349e0c953bbc", func := "hornbook/hornbooklaw2.UtfBack", spec := "utfBack", unfollowed := true, recurses := true, named := ["unicode/utf8.first", "unicode/utf8.acceptRanges"], apart := false, laid := [("unicode/utf8.acceptRanges", laid_unicode_utf8_acceptRanges), ("unicode/utf8.first", laid_unicode_utf8_first)], narrowed := true }
def UtfBackUptoSaid : Prop := utfBackUptoRow.holds Tryd.pinned (OpenSpec.upto utfBackSpec)

/-- 'hornbooklaw2.UtfCuts', WHERE WHAT IT READS IS OF BULK AT MOST 1048576: true; the input reads as it did. -/
def utfCutsUptoRow : OpenClaim := { program := "ytaccjifhgohfpaadoor", sum := "b63a8fead8e109d23babb8802d87e942746fcc08e855eb71be26349e0c953bbc", func := "hornbook/hornbooklaw2.UtfCuts", spec := "utfCuts", unfollowed := true, recurses := true, named := ["unicode/utf8.first", "unicode/utf8.acceptRanges"], apart := false, laid := [("unicode/utf8.acceptRanges", laid_unicode_utf8_acceptRanges), ("unicode/utf8.first", laid_unicode_utf8_first)], narrowed := true }
def UtfCutsUptoSaid : Prop := utfCutsUptoRow.holds Tryd.pinned (OpenSpec.upto utfCutsSpec)

/-- 'hornbooklaw2.UtfSizes', WHERE WHAT IT READS IS OF BULK AT MOST 1048576: true; the input reads as it did. -/
def utfSizesUptoRow : OpenClaim := { program := "ytaccjifhgohfpaadoor", sum := "b63a8fead8e109d23babb8802d87e942746fcc08e855eb71be26349e0c953bbc", func := "hornbook/hornbooklaw2.UtfSizes", spec := "utfSizes", unfollowed := true, recurses := true, named := ["unicode/utf8.first", "unicode/utf8.acceptRanges"], apart := false, laid := [("unicode/utf8.acceptRanges", laid_unicode_utf8_acceptRanges), ("unicode/utf8.first", laid_unicode_utf8_first)], narrowed := true }
def UtfSizesUptoSaid : Prop := utfSizesUptoRow.holds Tryd.pinned (OpenSpec.upto utfSizesSpec)

/-- 'hornbooklaw2.UtfTorn', WHERE WHAT IT READS IS OF BULK AT MOST 1048576: true; the input reads as it did. -/
def utfTornUptoRow : OpenClaim := { program := "ytaccjifhgohfpaadoor", sum := "b63a8fead8e109d23babb8802d87e942746fcc08e855eb71be26349e0c953bbc", func := "hornbook/hornbooklaw2.UtfTorn", spec := "utfTorn", unfollowed := true, recurses := true, named := ["unicode/utf8.first", "unicode/utf8.acceptRanges"], apart := false, laid := [("unicode/utf8.acceptRanges", laid_unicode_utf8_acceptRanges), ("unicode/utf8.first", laid_unicode_utf8_first)], narrowed := true }
def UtfTornUptoSaid : Prop := utfTornUptoRow.holds Tryd.pinned (OpenSpec.upto utfTornSpec)

/-- 'hornbooklaw9.TagTells', WHERE WHAT IT READS IS OF BULK AT MOST 1048576: true; the input reads as it did. -/
def tagTellsUptoRow : OpenClaim := { program := "ytaccjifhgohfpaadoor", sum := "b63a8fead8e109d23babb8802d87e942746fcc08e855eb71be26349e0c953bbc", func := "hornbook/hornbooklaw9.TagTells", spec := "tagTells", inPlace := ["internal/bytealg.CountString", "internal/bytealg.IndexByteString", "internal/bytealg.IndexString", "internal/abi.NoEscape", "internal/bytealg.MakeNoZero"], unfollowed := true, recurses := true, named := ["internal/bytealg.MaxLen", "unicode/utf8.first", "unicode/utf8.acceptRanges", "unicode.CaseRanges"], apart := false, laid := [("unicode/utf8.acceptRanges", laid_unicode_utf8_acceptRanges), ("unicode.CaseRanges", laid_unicode_CaseRanges), ("unicode/utf8.first", laid_unicode_utf8_first)], narrowed := true }
def TagTellsUptoSaid : Prop := tagTellsUptoRow.holds Tryd.pinned (OpenSpec.upto tagTellsSpec)

/-- 'hornbooklaw9.TagClimbs', WHERE WHAT IT READS IS OF BULK AT MOST 1048576: true; the input reads as it did. -/
def tagClimbsUptoRow : OpenClaim := { program := "ytaccjifhgohfpaadoor", sum := "b63a8fead8e109d23babb8802d87e942746fcc08e855eb71be26349e0c953bbc", func := "hornbook/hornbooklaw9.TagClimbs", spec := "tagClimbs", inPlace := ["internal/bytealg.CountString", "internal/bytealg.IndexByteString", "internal/bytealg.IndexString", "internal/abi.NoEscape", "internal/bytealg.MakeNoZero"], unfollowed := true, recurses := true, named := ["internal/bytealg.MaxLen", "unicode/utf8.first", "unicode/utf8.acceptRanges", "unicode.CaseRanges"], apart := false, laid := [("unicode/utf8.acceptRanges", laid_unicode_utf8_acceptRanges), ("unicode.CaseRanges", laid_unicode_CaseRanges), ("unicode/utf8.first", laid_unicode_utf8_first)], narrowed := true }
def TagClimbsUptoSaid : Prop := tagClimbsUptoRow.holds Tryd.pinned (OpenSpec.upto tagClimbsSpec)

/-- 'hornbooklaw9.TagBuilt', WHERE WHAT IT READS IS OF BULK AT MOST 1048576: true; the input reads as it did. -/
def tagBuiltUptoRow : OpenClaim := { program := "ytaccjifhgohfpaadoor", sum := "b63a8fead8e109d23babb8802d87e942746fcc08e855eb71be26349e0c953bbc", func := "hornbook/hornbooklaw9.TagBuilt", spec := "tagBuilt", inPlace := ["internal/bytealg.CountString", "internal/bytealg.IndexByteString", "internal/bytealg.IndexString", "internal/abi.NoEscape", "internal/bytealg.MakeNoZero"], unfollowed := true, recurses := true, named := ["internal/bytealg.MaxLen", "unicode/utf8.first", "unicode/utf8.acceptRanges", "unicode.CaseRanges"], apart := false, laid := [("unicode/utf8.acceptRanges", laid_unicode_utf8_acceptRanges), ("unicode.CaseRanges", laid_unicode_CaseRanges), ("unicode/utf8.first", laid_unicode_utf8_first)], narrowed := true }
def TagBuiltUptoSaid : Prop := tagBuiltUptoRow.holds Tryd.pinned (OpenSpec.upto tagBuiltSpec)

/-- 'hornbooklaw9.TagRefuses', WHERE WHAT IT READS IS OF BULK AT MOST 1048576: true; the input reads as it did. -/
def tagRefusesUptoRow : OpenClaim := { program := "ytaccjifhgohfpaadoor", sum := "b63a8fead8e109d23babb8802d87e942746fcc08e855eb71be26349e0c953bbc", func := "hornbook/hornbooklaw9.TagRefuses", spec := "tagRefuses", inPlace := ["internal/bytealg.CountString", "internal/bytealg.IndexByteString", "internal/bytealg.IndexString", "internal/abi.NoEscape", "internal/bytealg.MakeNoZero"], unfollowed := true, recurses := true, named := ["internal/bytealg.MaxLen", "unicode/utf8.first", "unicode/utf8.acceptRanges", "unicode.CaseRanges"], apart := false, laid := [("unicode/utf8.acceptRanges", laid_unicode_utf8_acceptRanges), ("unicode.CaseRanges", laid_unicode_CaseRanges), ("unicode/utf8.first", laid_unicode_utf8_first)], narrowed := true }
def TagRefusesUptoSaid : Prop := tagRefusesUptoRow.holds Tryd.pinned (OpenSpec.upto tagRefusesSpec)

/-- 'hornbooklaw9.TagRoots', WHERE WHAT IT READS IS OF BULK AT MOST 1048576: true; the input reads as it did. -/
def tagRootsUptoRow : OpenClaim := { program := "ytaccjifhgohfpaadoor", sum := "b63a8fead8e109d23babb8802d87e942746fcc08e855eb71be26349e0c953bbc", func := "hornbook/hornbooklaw9.TagRoots", spec := "tagRoots", inPlace := ["internal/bytealg.CountString", "internal/bytealg.IndexByteString", "internal/bytealg.IndexString", "internal/abi.NoEscape", "internal/bytealg.MakeNoZero"], unfollowed := true, recurses := true, named := ["internal/bytealg.MaxLen", "unicode/utf8.first", "unicode/utf8.acceptRanges", "unicode.CaseRanges"], apart := false, laid := [("unicode/utf8.acceptRanges", laid_unicode_utf8_acceptRanges), ("unicode.CaseRanges", laid_unicode_CaseRanges), ("unicode/utf8.first", laid_unicode_utf8_first)], narrowed := true }
def TagRootsUptoSaid : Prop := tagRootsUptoRow.holds Tryd.pinned (OpenSpec.upto tagRootsSpec)

end Rows
end Go.Proofs.YtaccjifhgohfpaaDoor
