/-
  No cell of these rows narrows 'for every input' (looked for: loops, veiled, ifaces, maps, wideKeys, modest, calm, conditions, laid).
  DERIVED. THE GIVEN ROWS OF THIS SEAT. 8 by the template 'for every input the law returns true; each argument reads behind the call as it read before'; 0 by the template 'total and deterministic' (their statements: YtbooiaaejhbbkaaTotals.lean).
  GIVEN WITH THE SEED: the statements are not yours to turn. If you find one false, say at which input.
  Laid BY PROGRAM, IN A SANDBOX (cutbox-rows.mjs): the forced cells as the released guide's own fill.sh prints them over the translation 524fd6bfe2bd18bd… (all of the seat's roots in one cut). By AI agents, Wed Nov 11 2026. No macro, syntax, notation, axiom, sorry.
-/
import Derived.Test.YtbooiaaejhbbkaaChecked
import GoSem.Claim
import GoSem.ClaimJoined
import GoSem.ClaimMapViews
import Derived.JoinedTies
import Derived.KernelRfl
namespace Go.Proofs.Ytbooiaaejhbbkaa
/- THE CELL 'sum', in the pinned program and in every row, IS THE sha256 OF THE DUMP (.gsa) THAT YtbooiaaejhbbkaaProg.lean LOADS. Nothing in Lean hashes anything: it is a label: what it is worth is what the hold of that sum in a sandbox is worth. -/
noncomputable def Try.pinned : Pinned := { name := "ytbooiaaejhbbkaa", sum := "524fd6bfe2bd18bd7902a96e79b705988b7d9bd9046add317d34ac627bd43fb5", checked := Try.checked }
namespace Rows
def none {H : Type} : Left H := { results := [], args := [] }

/-- 'hornbooklaw20.DiskDirs': WHATEVER THE INPUT: true; the input reads as it did. -/
def diskDirsSpec : ChangeSpec := { name := "diskDirs", fn := fun _ => fun
  | [d1, d2, d3] => { results := [.lit (.bool true)], args := [d1, d2, d3] }
  | _ => none }
def diskDirsRow : OpenClaim := { program := "ytbooiaaejhbbkaa", sum := "524fd6bfe2bd18bd7902a96e79b705988b7d9bd9046add317d34ac627bd43fb5", func := "hornbook/hornbooklaw20.DiskDirs", spec := "diskDirs", inPlace := ["maps.clone"], unfollowed := true, recurses := true, apart := false }
def DiskDirsSaid : Prop := diskDirsRow.holds Try.pinned (OpenSpec.ofChange diskDirsSpec)

/-- ITS FALSE NEIGHBOUR: 'it returns false'. Refute it at one input. -/
def diskDirsWrong : ChangeSpec := { name := "diskDirs", fn := fun _ => fun
  | [d1, d2, d3] => { results := [.lit (.bool false)], args := [d1, d2, d3] }
  | _ => none }
def DiskDirsWrongFalsely : Prop := diskDirsRow.holds Try.pinned (OpenSpec.ofChange diskDirsWrong)

/-- 'hornbooklaw20.DiskQuota': WHATEVER THE INPUT: true; the input reads as it did. -/
def diskQuotaSpec : ChangeSpec := { name := "diskQuota", fn := fun _ => fun
  | [d1, d2] => { results := [.lit (.bool true)], args := [d1, d2] }
  | _ => none }
def diskQuotaRow : OpenClaim := { program := "ytbooiaaejhbbkaa", sum := "524fd6bfe2bd18bd7902a96e79b705988b7d9bd9046add317d34ac627bd43fb5", func := "hornbook/hornbooklaw20.DiskQuota", spec := "diskQuota", inPlace := ["maps.clone"], unfollowed := true, recurses := true, apart := false }
def DiskQuotaSaid : Prop := diskQuotaRow.holds Try.pinned (OpenSpec.ofChange diskQuotaSpec)

/-- ITS FALSE NEIGHBOUR: 'it returns false'. Refute it at one input. -/
def diskQuotaWrong : ChangeSpec := { name := "diskQuota", fn := fun _ => fun
  | [d1, d2] => { results := [.lit (.bool false)], args := [d1, d2] }
  | _ => none }
def DiskQuotaWrongFalsely : Prop := diskQuotaRow.holds Try.pinned (OpenSpec.ofChange diskQuotaWrong)

/-- 'hornbooklaw20.DiskFails': WHATEVER THE INPUT: true; the input reads as it did. -/
def diskFailsSpec : ChangeSpec := { name := "diskFails", fn := fun _ => fun
  | [d1, d2, d3] => { results := [.lit (.bool true)], args := [d1, d2, d3] }
  | _ => none }
def diskFailsRow : OpenClaim := { program := "ytbooiaaejhbbkaa", sum := "524fd6bfe2bd18bd7902a96e79b705988b7d9bd9046add317d34ac627bd43fb5", func := "hornbook/hornbooklaw20.DiskFails", spec := "diskFails", inPlace := ["maps.clone"], unfollowed := true, recurses := true, apart := false }
def DiskFailsSaid : Prop := diskFailsRow.holds Try.pinned (OpenSpec.ofChange diskFailsSpec)

/-- ITS FALSE NEIGHBOUR: 'it returns false'. Refute it at one input. -/
def diskFailsWrong : ChangeSpec := { name := "diskFails", fn := fun _ => fun
  | [d1, d2, d3] => { results := [.lit (.bool false)], args := [d1, d2, d3] }
  | _ => none }
def DiskFailsWrongFalsely : Prop := diskFailsRow.holds Try.pinned (OpenSpec.ofChange diskFailsWrong)

/-- 'hornbooklaw20.DiskPowers': WHATEVER THE INPUT: true; the input reads as it did. -/
def diskPowersSpec : ChangeSpec := { name := "diskPowers", fn := fun _ => fun
  | [d1, d2] => { results := [.lit (.bool true)], args := [d1, d2] }
  | _ => none }
def diskPowersRow : OpenClaim := { program := "ytbooiaaejhbbkaa", sum := "524fd6bfe2bd18bd7902a96e79b705988b7d9bd9046add317d34ac627bd43fb5", func := "hornbook/hornbooklaw20.DiskPowers", spec := "diskPowers", inPlace := ["maps.clone"], unfollowed := true, recurses := true, apart := false }
def DiskPowersSaid : Prop := diskPowersRow.holds Try.pinned (OpenSpec.ofChange diskPowersSpec)

/-- ITS FALSE NEIGHBOUR: 'it returns false'. Refute it at one input. -/
def diskPowersWrong : ChangeSpec := { name := "diskPowers", fn := fun _ => fun
  | [d1, d2] => { results := [.lit (.bool false)], args := [d1, d2] }
  | _ => none }
def DiskPowersWrongFalsely : Prop := diskPowersRow.holds Try.pinned (OpenSpec.ofChange diskPowersWrong)

/-- 'hornbooklaw20.DiskKeeps': WHATEVER THE INPUT: true; the input reads as it did. -/
def diskKeepsSpec : ChangeSpec := { name := "diskKeeps", fn := fun _ => fun
  | [d1, d2, d3, d4, d5] => { results := [.lit (.bool true)], args := [d1, d2, d3, d4, d5] }
  | _ => none }
def diskKeepsRow : OpenClaim := { program := "ytbooiaaejhbbkaa", sum := "524fd6bfe2bd18bd7902a96e79b705988b7d9bd9046add317d34ac627bd43fb5", func := "hornbook/hornbooklaw20.DiskKeeps", spec := "diskKeeps", inPlace := ["maps.clone"], unfollowed := true, recurses := true, apart := false }
def DiskKeepsSaid : Prop := diskKeepsRow.holds Try.pinned (OpenSpec.ofChange diskKeepsSpec)

/-- ITS FALSE NEIGHBOUR: 'it returns false'. Refute it at one input. -/
def diskKeepsWrong : ChangeSpec := { name := "diskKeeps", fn := fun _ => fun
  | [d1, d2, d3, d4, d5] => { results := [.lit (.bool false)], args := [d1, d2, d3, d4, d5] }
  | _ => none }
def DiskKeepsWrongFalsely : Prop := diskKeepsRow.holds Try.pinned (OpenSpec.ofChange diskKeepsWrong)

/-- 'hornbooklaw20.DiskNames': WHATEVER THE INPUT: true; the input reads as it did. -/
def diskNamesSpec : ChangeSpec := { name := "diskNames", fn := fun _ => fun
  | [d1, d2, d3] => { results := [.lit (.bool true)], args := [d1, d2, d3] }
  | _ => none }
def diskNamesRow : OpenClaim := { program := "ytbooiaaejhbbkaa", sum := "524fd6bfe2bd18bd7902a96e79b705988b7d9bd9046add317d34ac627bd43fb5", func := "hornbook/hornbooklaw20.DiskNames", spec := "diskNames", inPlace := ["maps.clone"], unfollowed := true, recurses := true, apart := false }
def DiskNamesSaid : Prop := diskNamesRow.holds Try.pinned (OpenSpec.ofChange diskNamesSpec)

/-- ITS FALSE NEIGHBOUR: 'it returns false'. Refute it at one input. -/
def diskNamesWrong : ChangeSpec := { name := "diskNames", fn := fun _ => fun
  | [d1, d2, d3] => { results := [.lit (.bool false)], args := [d1, d2, d3] }
  | _ => none }
def DiskNamesWrongFalsely : Prop := diskNamesRow.holds Try.pinned (OpenSpec.ofChange diskNamesWrong)

/-- 'hornbooklaw20.DiskOver': WHATEVER THE INPUT: true; the input reads as it did. -/
def diskOverSpec : ChangeSpec := { name := "diskOver", fn := fun _ => fun
  | [d1, d2, d3, d4, d5] => { results := [.lit (.bool true)], args := [d1, d2, d3, d4, d5] }
  | _ => none }
def diskOverRow : OpenClaim := { program := "ytbooiaaejhbbkaa", sum := "524fd6bfe2bd18bd7902a96e79b705988b7d9bd9046add317d34ac627bd43fb5", func := "hornbook/hornbooklaw20.DiskOver", spec := "diskOver", inPlace := ["maps.clone"], unfollowed := true, recurses := true, apart := false }
def DiskOverSaid : Prop := diskOverRow.holds Try.pinned (OpenSpec.ofChange diskOverSpec)

/-- ITS FALSE NEIGHBOUR: 'it returns false'. Refute it at one input. -/
def diskOverWrong : ChangeSpec := { name := "diskOver", fn := fun _ => fun
  | [d1, d2, d3, d4, d5] => { results := [.lit (.bool false)], args := [d1, d2, d3, d4, d5] }
  | _ => none }
def DiskOverWrongFalsely : Prop := diskOverRow.holds Try.pinned (OpenSpec.ofChange diskOverWrong)

/-- 'hornbooklaw20.DiskPlays': WHATEVER THE INPUT: true; the input reads as it did. -/
def diskPlaysSpec : ChangeSpec := { name := "diskPlays", fn := fun _ => fun
  | [d1, d2] => { results := [.lit (.bool true)], args := [d1, d2] }
  | _ => none }
def diskPlaysRow : OpenClaim := { program := "ytbooiaaejhbbkaa", sum := "524fd6bfe2bd18bd7902a96e79b705988b7d9bd9046add317d34ac627bd43fb5", func := "hornbook/hornbooklaw20.DiskPlays", spec := "diskPlays", inPlace := ["maps.clone"], unfollowed := true, recurses := true, apart := false }
def DiskPlaysSaid : Prop := diskPlaysRow.holds Try.pinned (OpenSpec.ofChange diskPlaysSpec)

/-- ITS FALSE NEIGHBOUR: 'it returns false'. Refute it at one input. -/
def diskPlaysWrong : ChangeSpec := { name := "diskPlays", fn := fun _ => fun
  | [d1, d2] => { results := [.lit (.bool false)], args := [d1, d2] }
  | _ => none }
def DiskPlaysWrongFalsely : Prop := diskPlaysRow.holds Try.pinned (OpenSpec.ofChange diskPlaysWrong)

/- THE SECOND FORM. 'bulk': how many values and letters a reading holds, each counted each time it is reached (what is shared counts as often as it is met; a slice's spare places count too). A statement '..UptoSaid' is the law's where the arguments, and the package variables that the reading takes, are together of bulk at most 1048576: NARROWER than '..Said'. Prove '..Said' where nothing that the law and all that it calls make is longer than what came in: it says more and counts as full. Else prove '..UptoSaid'. A law counts once. -/
mutual
def uptoBulk {H : Type} : DataW H → Nat
  | .lit (.string bytes) => bytes.length + 1
  | .lit _ => 1
  | .nil => 1
  | .ptr d => uptoBulk d + 1
  | .slice elems spare => uptoBulkAll elems + uptoBulkAll spare + 1
  | .agg parts => uptoBulkAll parts + 1
  | .iface _ d => uptoBulk d + 1
  | .map entries => uptoBulkEntries entries + 1
  | .held _ => 1
def uptoBulkAll {H : Type} : List (DataW H) → Nat
  | [] => 0
  | d :: r => uptoBulk d + uptoBulkAll r
def uptoBulkEntries {H : Type} : List (Lit × DataW H) → Nat
  | [] => 0
  | x :: r => uptoBulkEntry x + uptoBulkEntries r
def uptoBulkEntry {H : Type} : Lit × DataW H → Nat
  | (.string bytes, d) => bytes.length + uptoBulk d + 1
  | (_, d) => uptoBulk d + 1
 end
def uptoSmall : (H : Type) → List (DataW H) → Bool := fun _ ds => decide (uptoBulkAll ds ≤ 1048576)
def OpenSpec.upto (s : _root_.Go.ChangeSpec) : _root_.Go.OpenSpec := { _root_.Go.OpenSpec.ofChange s with cond := some uptoSmall }

/-- 'hornbooklaw20.DiskDirs', WHERE WHAT IT READS IS OF BULK AT MOST 1048576: true; the input reads as it did. -/
def diskDirsUptoRow : OpenClaim := { program := "ytbooiaaejhbbkaa", sum := "524fd6bfe2bd18bd7902a96e79b705988b7d9bd9046add317d34ac627bd43fb5", func := "hornbook/hornbooklaw20.DiskDirs", spec := "diskDirs", inPlace := ["maps.clone"], unfollowed := true, recurses := true, apart := false, narrowed := true }
def DiskDirsUptoSaid : Prop := diskDirsUptoRow.holds Try.pinned (OpenSpec.upto diskDirsSpec)

/-- 'hornbooklaw20.DiskQuota', WHERE WHAT IT READS IS OF BULK AT MOST 1048576: true; the input reads as it did. -/
def diskQuotaUptoRow : OpenClaim := { program := "ytbooiaaejhbbkaa", sum := "524fd6bfe2bd18bd7902a96e79b705988b7d9bd9046add317d34ac627bd43fb5", func := "hornbook/hornbooklaw20.DiskQuota", spec := "diskQuota", inPlace := ["maps.clone"], unfollowed := true, recurses := true, apart := false, narrowed := true }
def DiskQuotaUptoSaid : Prop := diskQuotaUptoRow.holds Try.pinned (OpenSpec.upto diskQuotaSpec)

/-- 'hornbooklaw20.DiskFails', WHERE WHAT IT READS IS OF BULK AT MOST 1048576: true; the input reads as it did. -/
def diskFailsUptoRow : OpenClaim := { program := "ytbooiaaejhbbkaa", sum := "524fd6bfe2bd18bd7902a96e79b705988b7d9bd9046add317d34ac627bd43fb5", func := "hornbook/hornbooklaw20.DiskFails", spec := "diskFails", inPlace := ["maps.clone"], unfollowed := true, recurses := true, apart := false, narrowed := true }
def DiskFailsUptoSaid : Prop := diskFailsUptoRow.holds Try.pinned (OpenSpec.upto diskFailsSpec)

/-- 'hornbooklaw20.DiskPowers', WHERE WHAT IT READS IS OF BULK AT MOST 1048576: true; the input reads as it did. -/
def diskPowersUptoRow : OpenClaim := { program := "ytbooiaaejhbbkaa", sum := "524fd6bfe2bd18bd7902a96e79b705988b7d9bd9046add317d34ac627bd43fb5", func := "hornbook/hornbooklaw20.DiskPowers", spec := "diskPowers", inPlace := ["maps.clone"], unfollowed := true, recurses := true, apart := false, narrowed := true }
def DiskPowersUptoSaid : Prop := diskPowersUptoRow.holds Try.pinned (OpenSpec.upto diskPowersSpec)

/-- 'hornbooklaw20.DiskKeeps', WHERE WHAT IT READS IS OF BULK AT MOST 1048576: true; the input reads as it did. -/
def diskKeepsUptoRow : OpenClaim := { program := "ytbooiaaejhbbkaa", sum := "524fd6bfe2bd18bd7902a96e79b705988b7d9bd9046add317d34ac627bd43fb5", func := "hornbook/hornbooklaw20.DiskKeeps", spec := "diskKeeps", inPlace := ["maps.clone"], unfollowed := true, recurses := true, apart := false, narrowed := true }
def DiskKeepsUptoSaid : Prop := diskKeepsUptoRow.holds Try.pinned (OpenSpec.upto diskKeepsSpec)

/-- 'hornbooklaw20.DiskNames', WHERE WHAT IT READS IS OF BULK AT MOST 1048576: true; the input reads as it did. -/
def diskNamesUptoRow : OpenClaim := { program := "ytbooiaaejhbbkaa", sum := "524fd6bfe2bd18bd7902a96e79b705988b7d9bd9046add317d34ac627bd43fb5", func := "hornbook/hornbooklaw20.DiskNames", spec := "diskNames", inPlace := ["maps.clone"], unfollowed := true, recurses := true, apart := false, narrowed := true }
def DiskNamesUptoSaid : Prop := diskNamesUptoRow.holds Try.pinned (OpenSpec.upto diskNamesSpec)

/-- 'hornbooklaw20.DiskOver', WHERE WHAT IT READS IS OF BULK AT MOST 1048576: true; the input reads as it did. -/
def diskOverUptoRow : OpenClaim := { program := "ytbooiaaejhbbkaa", sum := "524fd6bfe2bd18bd7902a96e79b705988b7d9bd9046add317d34ac627bd43fb5", func := "hornbook/hornbooklaw20.DiskOver", spec := "diskOver", inPlace := ["maps.clone"], unfollowed := true, recurses := true, apart := false, narrowed := true }
def DiskOverUptoSaid : Prop := diskOverUptoRow.holds Try.pinned (OpenSpec.upto diskOverSpec)

/-- 'hornbooklaw20.DiskPlays', WHERE WHAT IT READS IS OF BULK AT MOST 1048576: true; the input reads as it did. -/
def diskPlaysUptoRow : OpenClaim := { program := "ytbooiaaejhbbkaa", sum := "524fd6bfe2bd18bd7902a96e79b705988b7d9bd9046add317d34ac627bd43fb5", func := "hornbook/hornbooklaw20.DiskPlays", spec := "diskPlays", inPlace := ["maps.clone"], unfollowed := true, recurses := true, apart := false, narrowed := true }
def DiskPlaysUptoSaid : Prop := diskPlaysUptoRow.holds Try.pinned (OpenSpec.upto diskPlaysSpec)

end Rows
end Go.Proofs.Ytbooiaaejhbbkaa
