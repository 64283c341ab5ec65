/-
  No cell of these rows narrows 'for every input' (looked for: loops, veiled, ifaces, maps, wideKeys, modest, calm, conditions, laid).
  DERIVED. THE GIVEN ROWS OF THIS SEAT. 6 by the template 'for every input the law returns true; each argument reads behind the call as it read before'; 0 by the template 'total and deterministic' (their statements: YtofgclmibemniaaTotals.lean).
  GIVEN WITH THE SEED: the statements are not yours to turn. If you find one false, say at which input.
  Laid BY PROGRAM, IN A SANDBOX (cutbox-rows.mjs): the forced cells as the released guide's own fill.sh prints them over the translation e2ed50b35944cd67… (all of the seat's roots in one cut). By AI agents, Wed Nov 11 2026. No macro, syntax, notation, axiom, sorry.
-/
import Derived.Test.YtofgclmibemniaaChecked
import GoSem.Claim
import GoSem.ClaimJoined
import GoSem.ClaimMapViews
import Derived.JoinedTies
import Derived.KernelRfl
namespace Go.Proofs.Ytofgclmibemniaa
/- THE CELL 'sum', in the pinned program and in every row, IS THE sha256 OF THE DUMP (.gsa) THAT YtofgclmibemniaaProg.lean LOADS. Nothing in Lean hashes anything: it is a label: what it is worth is what the hold of that sum in a sandbox is worth. -/
noncomputable def Try.pinned : Pinned := { name := "ytofgclmibemniaa", sum := "e2ed50b35944cd67686d6e001fc924f3e1363199cc5e8fbf15d586d7fa6ff0d9", checked := Try.checked }
namespace Rows
def none {H : Type} : Left H := { results := [], args := [] }

/-- 'postilionlaw12.TreeNames': WHATEVER THE INPUT: true; the input reads as it did. -/
def treeNamesSpec : ChangeSpec := { name := "treeNames", fn := fun _ => fun
  | [] => { results := [.lit (.bool true)], args := [] }
  | _ => none }
def treeNamesRow : OpenClaim := { program := "ytofgclmibemniaa", sum := "e2ed50b35944cd67686d6e001fc924f3e1363199cc5e8fbf15d586d7fa6ff0d9", func := "postilion/postilionlaw12.TreeNames", spec := "treeNames", unfollowed := true, recurses := true, apart := false }
def TreeNamesSaid : Prop := treeNamesRow.holds Try.pinned (OpenSpec.ofChange treeNamesSpec)

/-- ITS FALSE NEIGHBOUR: 'it returns false'. Refute it at one input. -/
def treeNamesWrong : ChangeSpec := { name := "treeNames", fn := fun _ => fun
  | [] => { results := [.lit (.bool false)], args := [] }
  | _ => none }
def TreeNamesWrongFalsely : Prop := treeNamesRow.holds Try.pinned (OpenSpec.ofChange treeNamesWrong)

/-- 'postilionlaw12.TreeWays': WHATEVER THE INPUT: true; the input reads as it did. -/
def treeWaysSpec : ChangeSpec := { name := "treeWays", fn := fun _ => fun
  | [d1, d2, d3] => { results := [.lit (.bool true)], args := [d1, d2, d3] }
  | _ => none }
def treeWaysRow : OpenClaim := { program := "ytofgclmibemniaa", sum := "e2ed50b35944cd67686d6e001fc924f3e1363199cc5e8fbf15d586d7fa6ff0d9", func := "postilion/postilionlaw12.TreeWays", spec := "treeWays", unfollowed := true, recurses := true, apart := false }
def TreeWaysSaid : Prop := treeWaysRow.holds Try.pinned (OpenSpec.ofChange treeWaysSpec)

/-- ITS FALSE NEIGHBOUR: 'it returns false'. Refute it at one input. -/
def treeWaysWrong : ChangeSpec := { name := "treeWays", fn := fun _ => fun
  | [d1, d2, d3] => { results := [.lit (.bool false)], args := [d1, d2, d3] }
  | _ => none }
def TreeWaysWrongFalsely : Prop := treeWaysRow.holds Try.pinned (OpenSpec.ofChange treeWaysWrong)

/-- 'postilionlaw12.TreeKids': WHATEVER THE INPUT: true; the input reads as it did. -/
def treeKidsSpec : ChangeSpec := { name := "treeKids", fn := fun _ => fun
  | [d1, d2] => { results := [.lit (.bool true)], args := [d1, d2] }
  | _ => none }
def treeKidsRow : OpenClaim := { program := "ytofgclmibemniaa", sum := "e2ed50b35944cd67686d6e001fc924f3e1363199cc5e8fbf15d586d7fa6ff0d9", func := "postilion/postilionlaw12.TreeKids", spec := "treeKids", unfollowed := true, recurses := true, apart := false }
def TreeKidsSaid : Prop := treeKidsRow.holds Try.pinned (OpenSpec.ofChange treeKidsSpec)

/-- ITS FALSE NEIGHBOUR: 'it returns false'. Refute it at one input. -/
def treeKidsWrong : ChangeSpec := { name := "treeKids", fn := fun _ => fun
  | [d1, d2] => { results := [.lit (.bool false)], args := [d1, d2] }
  | _ => none }
def TreeKidsWrongFalsely : Prop := treeKidsRow.holds Try.pinned (OpenSpec.ofChange treeKidsWrong)

/-- 'postilionlaw12.TreeLong': WHATEVER THE INPUT: true; the input reads as it did. -/
def treeLongSpec : ChangeSpec := { name := "treeLong", fn := fun _ => fun
  | [d1, d2, d3] => { results := [.lit (.bool true)], args := [d1, d2, d3] }
  | _ => none }
def treeLongRow : OpenClaim := { program := "ytofgclmibemniaa", sum := "e2ed50b35944cd67686d6e001fc924f3e1363199cc5e8fbf15d586d7fa6ff0d9", func := "postilion/postilionlaw12.TreeLong", spec := "treeLong", unfollowed := true, recurses := true, apart := false }
def TreeLongSaid : Prop := treeLongRow.holds Try.pinned (OpenSpec.ofChange treeLongSpec)

/-- ITS FALSE NEIGHBOUR: 'it returns false'. Refute it at one input. -/
def treeLongWrong : ChangeSpec := { name := "treeLong", fn := fun _ => fun
  | [d1, d2, d3] => { results := [.lit (.bool false)], args := [d1, d2, d3] }
  | _ => none }
def TreeLongWrongFalsely : Prop := treeLongRow.holds Try.pinned (OpenSpec.ofChange treeLongWrong)

/-- 'postilionlaw12.TreeAbove': WHATEVER THE INPUT: true; the input reads as it did. -/
def treeAboveSpec : ChangeSpec := { name := "treeAbove", fn := fun _ => fun
  | [d1, d2, d3, d4] => { results := [.lit (.bool true)], args := [d1, d2, d3, d4] }
  | _ => none }
def treeAboveRow : OpenClaim := { program := "ytofgclmibemniaa", sum := "e2ed50b35944cd67686d6e001fc924f3e1363199cc5e8fbf15d586d7fa6ff0d9", func := "postilion/postilionlaw12.TreeAbove", spec := "treeAbove", unfollowed := true, recurses := true, apart := false }
def TreeAboveSaid : Prop := treeAboveRow.holds Try.pinned (OpenSpec.ofChange treeAboveSpec)

/-- ITS FALSE NEIGHBOUR: 'it returns false'. Refute it at one input. -/
def treeAboveWrong : ChangeSpec := { name := "treeAbove", fn := fun _ => fun
  | [d1, d2, d3, d4] => { results := [.lit (.bool false)], args := [d1, d2, d3, d4] }
  | _ => none }
def TreeAboveWrongFalsely : Prop := treeAboveRow.holds Try.pinned (OpenSpec.ofChange treeAboveWrong)

/-- 'postilionlaw12.TreeSteps': WHATEVER THE INPUT: true; the input reads as it did. -/
def treeStepsSpec : ChangeSpec := { name := "treeSteps", fn := fun _ => fun
  | [d1, d2, d3] => { results := [.lit (.bool true)], args := [d1, d2, d3] }
  | _ => none }
def treeStepsRow : OpenClaim := { program := "ytofgclmibemniaa", sum := "e2ed50b35944cd67686d6e001fc924f3e1363199cc5e8fbf15d586d7fa6ff0d9", func := "postilion/postilionlaw12.TreeSteps", spec := "treeSteps", unfollowed := true, recurses := true, apart := false }
def TreeStepsSaid : Prop := treeStepsRow.holds Try.pinned (OpenSpec.ofChange treeStepsSpec)

/-- ITS FALSE NEIGHBOUR: 'it returns false'. Refute it at one input. -/
def treeStepsWrong : ChangeSpec := { name := "treeSteps", fn := fun _ => fun
  | [d1, d2, d3] => { results := [.lit (.bool false)], args := [d1, d2, d3] }
  | _ => none }
def TreeStepsWrongFalsely : Prop := treeStepsRow.holds Try.pinned (OpenSpec.ofChange treeStepsWrong)

/- THE SECOND FORM. 'bulk': how many values and letters a reading holds, each counted each time it is reached (what is shared counts as often as it is met; a slice's spare places count too). A statement '..UptoSaid' is the law's where the arguments, and the package variables that the reading takes, are together of bulk at most 1048576: NARROWER than '..Said'. Prove '..Said' where nothing that the law and all that it calls make is longer than what came in: it says more and counts as full. Else prove '..UptoSaid'. A law counts once. -/
mutual
def uptoBulk {H : Type} : DataW H → Nat
  | .lit (.string bytes) => bytes.length + 1
  | .lit _ => 1
  | .nil => 1
  | .ptr d => uptoBulk d + 1
  | .slice elems spare => uptoBulkAll elems + uptoBulkAll spare + 1
  | .agg parts => uptoBulkAll parts + 1
  | .iface _ d => uptoBulk d + 1
  | .map entries => uptoBulkEntries entries + 1
  | .held _ => 1
def uptoBulkAll {H : Type} : List (DataW H) → Nat
  | [] => 0
  | d :: r => uptoBulk d + uptoBulkAll r
def uptoBulkEntries {H : Type} : List (Lit × DataW H) → Nat
  | [] => 0
  | x :: r => uptoBulkEntry x + uptoBulkEntries r
def uptoBulkEntry {H : Type} : Lit × DataW H → Nat
  | (.string bytes, d) => bytes.length + uptoBulk d + 1
  | (_, d) => uptoBulk d + 1
 end
def uptoSmall : (H : Type) → List (DataW H) → Bool := fun _ ds => decide (uptoBulkAll ds ≤ 1048576)
def OpenSpec.upto (s : _root_.Go.ChangeSpec) : _root_.Go.OpenSpec := { _root_.Go.OpenSpec.ofChange s with cond := some uptoSmall }

/-- 'postilionlaw12.TreeNames', WHERE WHAT IT READS IS OF BULK AT MOST 1048576: true; the input reads as it did. -/
def treeNamesUptoRow : OpenClaim := { program := "ytofgclmibemniaa", sum := "e2ed50b35944cd67686d6e001fc924f3e1363199cc5e8fbf15d586d7fa6ff0d9", func := "postilion/postilionlaw12.TreeNames", spec := "treeNames", unfollowed := true, recurses := true, apart := false, narrowed := true }
def TreeNamesUptoSaid : Prop := treeNamesUptoRow.holds Try.pinned (OpenSpec.upto treeNamesSpec)

/-- 'postilionlaw12.TreeWays', WHERE WHAT IT READS IS OF BULK AT MOST 1048576: true; the input reads as it did. -/
def treeWaysUptoRow : OpenClaim := { program := "ytofgclmibemniaa", sum := "e2ed50b35944cd67686d6e001fc924f3e1363199cc5e8fbf15d586d7fa6ff0d9", func := "postilion/postilionlaw12.TreeWays", spec := "treeWays", unfollowed := true, recurses := true, apart := false, narrowed := true }
def TreeWaysUptoSaid : Prop := treeWaysUptoRow.holds Try.pinned (OpenSpec.upto treeWaysSpec)

/-- 'postilionlaw12.TreeKids', WHERE WHAT IT READS IS OF BULK AT MOST 1048576: true; the input reads as it did. -/
def treeKidsUptoRow : OpenClaim := { program := "ytofgclmibemniaa", sum := "e2ed50b35944cd67686d6e001fc924f3e1363199cc5e8fbf15d586d7fa6ff0d9", func := "postilion/postilionlaw12.TreeKids", spec := "treeKids", unfollowed := true, recurses := true, apart := false, narrowed := true }
def TreeKidsUptoSaid : Prop := treeKidsUptoRow.holds Try.pinned (OpenSpec.upto treeKidsSpec)

/-- 'postilionlaw12.TreeLong', WHERE WHAT IT READS IS OF BULK AT MOST 1048576: true; the input reads as it did. -/
def treeLongUptoRow : OpenClaim := { program := "ytofgclmibemniaa", sum := "e2ed50b35944cd67686d6e001fc924f3e1363199cc5e8fbf15d586d7fa6ff0d9", func := "postilion/postilionlaw12.TreeLong", spec := "treeLong", unfollowed := true, recurses := true, apart := false, narrowed := true }
def TreeLongUptoSaid : Prop := treeLongUptoRow.holds Try.pinned (OpenSpec.upto treeLongSpec)

/-- 'postilionlaw12.TreeAbove', WHERE WHAT IT READS IS OF BULK AT MOST 1048576: true; the input reads as it did. -/
def treeAboveUptoRow : OpenClaim := { program := "ytofgclmibemniaa", sum := "e2ed50b35944cd67686d6e001fc924f3e1363199cc5e8fbf15d586d7fa6ff0d9", func := "postilion/postilionlaw12.TreeAbove", spec := "treeAbove", unfollowed := true, recurses := true, apart := false, narrowed := true }
def TreeAboveUptoSaid : Prop := treeAboveUptoRow.holds Try.pinned (OpenSpec.upto treeAboveSpec)

/-- 'postilionlaw12.TreeSteps', WHERE WHAT IT READS IS OF BULK AT MOST 1048576: true; the input reads as it did. -/
def treeStepsUptoRow : OpenClaim := { program := "ytofgclmibemniaa", sum := "e2ed50b35944cd67686d6e001fc924f3e1363199cc5e8fbf15d586d7fa6ff0d9", func := "postilion/postilionlaw12.TreeSteps", spec := "treeSteps", unfollowed := true, recurses := true, apart := false, narrowed := true }
def TreeStepsUptoSaid : Prop := treeStepsUptoRow.holds Try.pinned (OpenSpec.upto treeStepsSpec)

end Rows
end Go.Proofs.Ytofgclmibemniaa
