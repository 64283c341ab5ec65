/-
  No cell of these rows narrows 'for every input' (looked for: loops, veiled, ifaces, maps, wideKeys, modest, calm, conditions, laid).
  DERIVED. THE GIVEN ROWS OF THIS SEAT. 7 by the template 'for every input the law returns true; each argument reads behind the call as it read before'; 0 by the template 'total and deterministic' (their statements: YtjbdnogonfnjkaaTotals.lean).
  GIVEN WITH THE SEED: the statements are not yours to turn. If you find one false, say at which input.
  Laid BY PROGRAM, IN A SANDBOX (cutbox-rows.mjs): the forced cells as the released guide's own fill.sh prints them over the translation 9b66398683636986… (all of the seat's roots in one cut). By AI agents, Wed Nov 11 2026. No macro, syntax, notation, axiom, sorry.
-/
import Derived.Test.YtjbdnogonfnjkaaChecked
import GoSem.Claim
import GoSem.ClaimJoined
import GoSem.ClaimMapViews
import Derived.JoinedTies
import Derived.KernelRfl
namespace Go.Proofs.Ytjbdnogonfnjkaa
/- THE CELL 'sum', in the pinned program and in every row, IS THE sha256 OF THE DUMP (.gsa) THAT YtjbdnogonfnjkaaProg.lean LOADS. Nothing in Lean hashes anything: it is a label: what it is worth is what the hold of that sum in a sandbox is worth. -/
noncomputable def Try.pinned : Pinned := { name := "ytjbdnogonfnjkaa", sum := "9b66398683636986636ba9d07315a05ef7b68ec657da8389d6c4c120ac47b415", checked := Try.checked }
namespace Rows
def none {H : Type} : Left H := { results := [], args := [] }

/-- 'postilionlaw09.DiskNames': WHATEVER THE INPUT: true; the input reads as it did. -/
def diskNamesSpec : ChangeSpec := { name := "diskNames", fn := fun _ => fun
  | [] => { results := [.lit (.bool true)], args := [] }
  | _ => none }
def diskNamesRow : OpenClaim := { program := "ytjbdnogonfnjkaa", sum := "9b66398683636986636ba9d07315a05ef7b68ec657da8389d6c4c120ac47b415", func := "postilion/postilionlaw09.DiskNames", spec := "diskNames", apart := false }
def DiskNamesSaid : Prop := diskNamesRow.holds Try.pinned (OpenSpec.ofChange diskNamesSpec)

/-- ITS FALSE NEIGHBOUR: 'it returns false'. Refute it at one input. -/
def diskNamesWrong : ChangeSpec := { name := "diskNames", fn := fun _ => fun
  | [] => { results := [.lit (.bool false)], args := [] }
  | _ => none }
def DiskNamesWrongFalsely : Prop := diskNamesRow.holds Try.pinned (OpenSpec.ofChange diskNamesWrong)

/-- 'postilionlaw09.DiskOwn': WHATEVER THE INPUT: true; the input reads as it did. -/
def diskOwnSpec : ChangeSpec := { name := "diskOwn", fn := fun _ => fun
  | [d] => { results := [.lit (.bool true)], args := [d] }
  | _ => none }
def diskOwnRow : OpenClaim := { program := "ytjbdnogonfnjkaa", sum := "9b66398683636986636ba9d07315a05ef7b68ec657da8389d6c4c120ac47b415", func := "postilion/postilionlaw09.DiskOwn", spec := "diskOwn", apart := false }
def DiskOwnSaid : Prop := diskOwnRow.holds Try.pinned (OpenSpec.ofChange diskOwnSpec)

/-- ITS FALSE NEIGHBOUR: 'it returns false'. Refute it at one input. -/
def diskOwnWrong : ChangeSpec := { name := "diskOwn", fn := fun _ => fun
  | [d] => { results := [.lit (.bool false)], args := [d] }
  | _ => none }
def DiskOwnWrongFalsely : Prop := diskOwnRow.holds Try.pinned (OpenSpec.ofChange diskOwnWrong)

/-- 'postilionlaw09.DiskPlays': WHATEVER THE INPUT: true; the input reads as it did. -/
def diskPlaysSpec : ChangeSpec := { name := "diskPlays", fn := fun _ => fun
  | [d1, d2] => { results := [.lit (.bool true)], args := [d1, d2] }
  | _ => none }
def diskPlaysRow : OpenClaim := { program := "ytjbdnogonfnjkaa", sum := "9b66398683636986636ba9d07315a05ef7b68ec657da8389d6c4c120ac47b415", func := "postilion/postilionlaw09.DiskPlays", spec := "diskPlays", apart := false }
def DiskPlaysSaid : Prop := diskPlaysRow.holds Try.pinned (OpenSpec.ofChange diskPlaysSpec)

/-- ITS FALSE NEIGHBOUR: 'it returns false'. Refute it at one input. -/
def diskPlaysWrong : ChangeSpec := { name := "diskPlays", fn := fun _ => fun
  | [d1, d2] => { results := [.lit (.bool false)], args := [d1, d2] }
  | _ => none }
def DiskPlaysWrongFalsely : Prop := diskPlaysRow.holds Try.pinned (OpenSpec.ofChange diskPlaysWrong)

/-- 'postilionlaw09.DiskLasts': WHATEVER THE INPUT: true; the input reads as it did. -/
def diskLastsSpec : ChangeSpec := { name := "diskLasts", fn := fun _ => fun
  | [d1, d2] => { results := [.lit (.bool true)], args := [d1, d2] }
  | _ => none }
def diskLastsRow : OpenClaim := { program := "ytjbdnogonfnjkaa", sum := "9b66398683636986636ba9d07315a05ef7b68ec657da8389d6c4c120ac47b415", func := "postilion/postilionlaw09.DiskLasts", spec := "diskLasts", apart := false }
def DiskLastsSaid : Prop := diskLastsRow.holds Try.pinned (OpenSpec.ofChange diskLastsSpec)

/-- ITS FALSE NEIGHBOUR: 'it returns false'. Refute it at one input. -/
def diskLastsWrong : ChangeSpec := { name := "diskLasts", fn := fun _ => fun
  | [d1, d2] => { results := [.lit (.bool false)], args := [d1, d2] }
  | _ => none }
def DiskLastsWrongFalsely : Prop := diskLastsRow.holds Try.pinned (OpenSpec.ofChange diskLastsWrong)

/-- 'postilionlaw09.DiskRoom': WHATEVER THE INPUT: true; the input reads as it did. -/
def diskRoomSpec : ChangeSpec := { name := "diskRoom", fn := fun _ => fun
  | [d1, d2] => { results := [.lit (.bool true)], args := [d1, d2] }
  | _ => none }
def diskRoomRow : OpenClaim := { program := "ytjbdnogonfnjkaa", sum := "9b66398683636986636ba9d07315a05ef7b68ec657da8389d6c4c120ac47b415", func := "postilion/postilionlaw09.DiskRoom", spec := "diskRoom", apart := false }
def DiskRoomSaid : Prop := diskRoomRow.holds Try.pinned (OpenSpec.ofChange diskRoomSpec)

/-- ITS FALSE NEIGHBOUR: 'it returns false'. Refute it at one input. -/
def diskRoomWrong : ChangeSpec := { name := "diskRoom", fn := fun _ => fun
  | [d1, d2] => { results := [.lit (.bool false)], args := [d1, d2] }
  | _ => none }
def DiskRoomWrongFalsely : Prop := diskRoomRow.holds Try.pinned (OpenSpec.ofChange diskRoomWrong)

/-- 'postilionlaw09.DiskNil': WHATEVER THE INPUT: true; the input reads as it did. -/
def diskNilSpec : ChangeSpec := { name := "diskNil", fn := fun _ => fun
  | [d1, d2] => { results := [.lit (.bool true)], args := [d1, d2] }
  | _ => none }
def diskNilRow : OpenClaim := { program := "ytjbdnogonfnjkaa", sum := "9b66398683636986636ba9d07315a05ef7b68ec657da8389d6c4c120ac47b415", func := "postilion/postilionlaw09.DiskNil", spec := "diskNil", apart := false }
def DiskNilSaid : Prop := diskNilRow.holds Try.pinned (OpenSpec.ofChange diskNilSpec)

/-- ITS FALSE NEIGHBOUR: 'it returns false'. Refute it at one input. -/
def diskNilWrong : ChangeSpec := { name := "diskNil", fn := fun _ => fun
  | [d1, d2] => { results := [.lit (.bool false)], args := [d1, d2] }
  | _ => none }
def DiskNilWrongFalsely : Prop := diskNilRow.holds Try.pinned (OpenSpec.ofChange diskNilWrong)

/-- 'postilionlaw09.DiskCuts': WHATEVER THE INPUT: true; the input reads as it did. -/
def diskCutsSpec : ChangeSpec := { name := "diskCuts", fn := fun _ => fun
  | [d1, d2, d3, d4] => { results := [.lit (.bool true)], args := [d1, d2, d3, d4] }
  | _ => none }
def diskCutsRow : OpenClaim := { program := "ytjbdnogonfnjkaa", sum := "9b66398683636986636ba9d07315a05ef7b68ec657da8389d6c4c120ac47b415", func := "postilion/postilionlaw09.DiskCuts", spec := "diskCuts", apart := false }
def DiskCutsSaid : Prop := diskCutsRow.holds Try.pinned (OpenSpec.ofChange diskCutsSpec)

/-- ITS FALSE NEIGHBOUR: 'it returns false'. Refute it at one input. -/
def diskCutsWrong : ChangeSpec := { name := "diskCuts", fn := fun _ => fun
  | [d1, d2, d3, d4] => { results := [.lit (.bool false)], args := [d1, d2, d3, d4] }
  | _ => none }
def DiskCutsWrongFalsely : Prop := diskCutsRow.holds Try.pinned (OpenSpec.ofChange diskCutsWrong)

/- THE SECOND FORM. 'bulk': how many values and letters a reading holds, each counted each time it is reached (what is shared counts as often as it is met; a slice's spare places count too). A statement '..UptoSaid' is the law's where the arguments, and the package variables that the reading takes, are together of bulk at most 1048576: NARROWER than '..Said'. Prove '..Said' where nothing that the law and all that it calls make is longer than what came in: it says more and counts as full. Else prove '..UptoSaid'. A law counts once. -/
mutual
def uptoBulk {H : Type} : DataW H → Nat
  | .lit (.string bytes) => bytes.length + 1
  | .lit _ => 1
  | .nil => 1
  | .ptr d => uptoBulk d + 1
  | .slice elems spare => uptoBulkAll elems + uptoBulkAll spare + 1
  | .agg parts => uptoBulkAll parts + 1
  | .iface _ d => uptoBulk d + 1
  | .map entries => uptoBulkEntries entries + 1
  | .held _ => 1
def uptoBulkAll {H : Type} : List (DataW H) → Nat
  | [] => 0
  | d :: r => uptoBulk d + uptoBulkAll r
def uptoBulkEntries {H : Type} : List (Lit × DataW H) → Nat
  | [] => 0
  | x :: r => uptoBulkEntry x + uptoBulkEntries r
def uptoBulkEntry {H : Type} : Lit × DataW H → Nat
  | (.string bytes, d) => bytes.length + uptoBulk d + 1
  | (_, d) => uptoBulk d + 1
 end
def uptoSmall : (H : Type) → List (DataW H) → Bool := fun _ ds => decide (uptoBulkAll ds ≤ 1048576)
def OpenSpec.upto (s : _root_.Go.ChangeSpec) : _root_.Go.OpenSpec := { _root_.Go.OpenSpec.ofChange s with cond := some uptoSmall }

/-- 'postilionlaw09.DiskNames', WHERE WHAT IT READS IS OF BULK AT MOST 1048576: true; the input reads as it did. -/
def diskNamesUptoRow : OpenClaim := { program := "ytjbdnogonfnjkaa", sum := "9b66398683636986636ba9d07315a05ef7b68ec657da8389d6c4c120ac47b415", func := "postilion/postilionlaw09.DiskNames", spec := "diskNames", apart := false, narrowed := true }
def DiskNamesUptoSaid : Prop := diskNamesUptoRow.holds Try.pinned (OpenSpec.upto diskNamesSpec)

/-- 'postilionlaw09.DiskOwn', WHERE WHAT IT READS IS OF BULK AT MOST 1048576: true; the input reads as it did. -/
def diskOwnUptoRow : OpenClaim := { program := "ytjbdnogonfnjkaa", sum := "9b66398683636986636ba9d07315a05ef7b68ec657da8389d6c4c120ac47b415", func := "postilion/postilionlaw09.DiskOwn", spec := "diskOwn", apart := false, narrowed := true }
def DiskOwnUptoSaid : Prop := diskOwnUptoRow.holds Try.pinned (OpenSpec.upto diskOwnSpec)

/-- 'postilionlaw09.DiskPlays', WHERE WHAT IT READS IS OF BULK AT MOST 1048576: true; the input reads as it did. -/
def diskPlaysUptoRow : OpenClaim := { program := "ytjbdnogonfnjkaa", sum := "9b66398683636986636ba9d07315a05ef7b68ec657da8389d6c4c120ac47b415", func := "postilion/postilionlaw09.DiskPlays", spec := "diskPlays", apart := false, narrowed := true }
def DiskPlaysUptoSaid : Prop := diskPlaysUptoRow.holds Try.pinned (OpenSpec.upto diskPlaysSpec)

/-- 'postilionlaw09.DiskLasts', WHERE WHAT IT READS IS OF BULK AT MOST 1048576: true; the input reads as it did. -/
def diskLastsUptoRow : OpenClaim := { program := "ytjbdnogonfnjkaa", sum := "9b66398683636986636ba9d07315a05ef7b68ec657da8389d6c4c120ac47b415", func := "postilion/postilionlaw09.DiskLasts", spec := "diskLasts", apart := false, narrowed := true }
def DiskLastsUptoSaid : Prop := diskLastsUptoRow.holds Try.pinned (OpenSpec.upto diskLastsSpec)

/-- 'postilionlaw09.DiskRoom', WHERE WHAT IT READS IS OF BULK AT MOST 1048576: true; the input reads as it did. -/
def diskRoomUptoRow : OpenClaim := { program := "ytjbdnogonfnjkaa", sum := "9b66398683636986636ba9d07315a05ef7b68ec657da8389d6c4c120ac47b415", func := "postilion/postilionlaw09.DiskRoom", spec := "diskRoom", apart := false, narrowed := true }
def DiskRoomUptoSaid : Prop := diskRoomUptoRow.holds Try.pinned (OpenSpec.upto diskRoomSpec)

/-- 'postilionlaw09.DiskNil', WHERE WHAT IT READS IS OF BULK AT MOST 1048576: true; the input reads as it did. -/
def diskNilUptoRow : OpenClaim := { program := "ytjbdnogonfnjkaa", sum := "9b66398683636986636ba9d07315a05ef7b68ec657da8389d6c4c120ac47b415", func := "postilion/postilionlaw09.DiskNil", spec := "diskNil", apart := false, narrowed := true }
def DiskNilUptoSaid : Prop := diskNilUptoRow.holds Try.pinned (OpenSpec.upto diskNilSpec)

/-- 'postilionlaw09.DiskCuts', WHERE WHAT IT READS IS OF BULK AT MOST 1048576: true; the input reads as it did. -/
def diskCutsUptoRow : OpenClaim := { program := "ytjbdnogonfnjkaa", sum := "9b66398683636986636ba9d07315a05ef7b68ec657da8389d6c4c120ac47b415", func := "postilion/postilionlaw09.DiskCuts", spec := "diskCuts", apart := false, narrowed := true }
def DiskCutsUptoSaid : Prop := diskCutsUptoRow.holds Try.pinned (OpenSpec.upto diskCutsSpec)

end Rows
end Go.Proofs.Ytjbdnogonfnjkaa
