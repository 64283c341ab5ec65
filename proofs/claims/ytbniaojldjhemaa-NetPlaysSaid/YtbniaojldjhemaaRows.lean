/-
  No cell of these rows narrows 'for every input' (looked for: loops, veiled, ifaces, maps, wideKeys, modest, calm, conditions, laid).
  DERIVED. THE GIVEN ROWS OF THIS SEAT. 8 by the template 'for every input the law returns true; each argument reads behind the call as it read before'; 0 by the template 'total and deterministic' (their statements: YtbniaojldjhemaaTotals.lean).
  GIVEN WITH THE SEED: the statements are not yours to turn. If you find one false, say at which input.
  Laid BY PROGRAM, IN A SANDBOX (cutbox-rows.mjs): the forced cells as the released guide's own fill.sh prints them over the translation 39a377f4640f1de0… (all of the seat's roots in one cut). By AI agents, Wed Nov 11 2026. No macro, syntax, notation, axiom, sorry.
-/
import Derived.Test.YtbniaojldjhemaaChecked
import GoSem.Claim
import GoSem.ClaimJoined
import GoSem.ClaimMapViews
import Derived.JoinedTies
import Derived.KernelRfl
namespace Go.Proofs.Ytbniaojldjhemaa
/- THE CELL 'sum', in the pinned program and in every row, IS THE sha256 OF THE DUMP (.gsa) THAT YtbniaojldjhemaaProg.lean LOADS. Nothing in Lean hashes anything: it is a label: what it is worth is what the hold of that sum in a sandbox is worth. -/
noncomputable def Try.pinned : Pinned := { name := "ytbniaojldjhemaa", sum := "39a377f4640f1de00b1613cddc7996ce5fe9ac951d955946985af1ed659cdb27", checked := Try.checked }
namespace Rows
def none {H : Type} : Left H := { results := [], args := [] }

/-- 'postilionlaw14.NetNames': WHATEVER THE INPUT: true; the input reads as it did. -/
def netNamesSpec : ChangeSpec := { name := "netNames", fn := fun _ => fun
  | [] => { results := [.lit (.bool true)], args := [] }
  | _ => none }
def netNamesRow : OpenClaim := { program := "ytbniaojldjhemaa", sum := "39a377f4640f1de00b1613cddc7996ce5fe9ac951d955946985af1ed659cdb27", func := "postilion/postilionlaw14.NetNames", spec := "netNames", plainKeys := false, apart := false }
def NetNamesSaid : Prop := netNamesRow.holds Try.pinned (OpenSpec.ofChange netNamesSpec)

/-- ITS FALSE NEIGHBOUR: 'it returns false'. Refute it at one input. -/
def netNamesWrong : ChangeSpec := { name := "netNames", fn := fun _ => fun
  | [] => { results := [.lit (.bool false)], args := [] }
  | _ => none }
def NetNamesWrongFalsely : Prop := netNamesRow.holds Try.pinned (OpenSpec.ofChange netNamesWrong)

/-- 'postilionlaw14.NetOrder': WHATEVER THE INPUT: true; the input reads as it did. -/
def netOrderSpec : ChangeSpec := { name := "netOrder", fn := fun _ => fun
  | [d1, d2] => { results := [.lit (.bool true)], args := [d1, d2] }
  | _ => none }
def netOrderRow : OpenClaim := { program := "ytbniaojldjhemaa", sum := "39a377f4640f1de00b1613cddc7996ce5fe9ac951d955946985af1ed659cdb27", func := "postilion/postilionlaw14.NetOrder", spec := "netOrder", plainKeys := false, apart := false }
def NetOrderSaid : Prop := netOrderRow.holds Try.pinned (OpenSpec.ofChange netOrderSpec)

/-- ITS FALSE NEIGHBOUR: 'it returns false'. Refute it at one input. -/
def netOrderWrong : ChangeSpec := { name := "netOrder", fn := fun _ => fun
  | [d1, d2] => { results := [.lit (.bool false)], args := [d1, d2] }
  | _ => none }
def NetOrderWrongFalsely : Prop := netOrderRow.holds Try.pinned (OpenSpec.ofChange netOrderWrong)

/-- 'postilionlaw14.NetEmpties': WHATEVER THE INPUT: true; the input reads as it did. -/
def netEmptiesSpec : ChangeSpec := { name := "netEmpties", fn := fun _ => fun
  | [d1, d2, d3] => { results := [.lit (.bool true)], args := [d1, d2, d3] }
  | _ => none }
def netEmptiesRow : OpenClaim := { program := "ytbniaojldjhemaa", sum := "39a377f4640f1de00b1613cddc7996ce5fe9ac951d955946985af1ed659cdb27", func := "postilion/postilionlaw14.NetEmpties", spec := "netEmpties", plainKeys := false, apart := false }
def NetEmptiesSaid : Prop := netEmptiesRow.holds Try.pinned (OpenSpec.ofChange netEmptiesSpec)

/-- ITS FALSE NEIGHBOUR: 'it returns false'. Refute it at one input. -/
def netEmptiesWrong : ChangeSpec := { name := "netEmpties", fn := fun _ => fun
  | [d1, d2, d3] => { results := [.lit (.bool false)], args := [d1, d2, d3] }
  | _ => none }
def NetEmptiesWrongFalsely : Prop := netEmptiesRow.holds Try.pinned (OpenSpec.ofChange netEmptiesWrong)

/-- 'postilionlaw14.NetOwn': WHATEVER THE INPUT: true; the input reads as it did. -/
def netOwnSpec : ChangeSpec := { name := "netOwn", fn := fun _ => fun
  | [d1, d2] => { results := [.lit (.bool true)], args := [d1, d2] }
  | _ => none }
def netOwnRow : OpenClaim := { program := "ytbniaojldjhemaa", sum := "39a377f4640f1de00b1613cddc7996ce5fe9ac951d955946985af1ed659cdb27", func := "postilion/postilionlaw14.NetOwn", spec := "netOwn", plainKeys := false, apart := false }
def NetOwnSaid : Prop := netOwnRow.holds Try.pinned (OpenSpec.ofChange netOwnSpec)

/-- ITS FALSE NEIGHBOUR: 'it returns false'. Refute it at one input. -/
def netOwnWrong : ChangeSpec := { name := "netOwn", fn := fun _ => fun
  | [d1, d2] => { results := [.lit (.bool false)], args := [d1, d2] }
  | _ => none }
def NetOwnWrongFalsely : Prop := netOwnRow.holds Try.pinned (OpenSpec.ofChange netOwnWrong)

/-- 'postilionlaw14.NetTurns': WHATEVER THE INPUT: true; the input reads as it did. -/
def netTurnsSpec : ChangeSpec := { name := "netTurns", fn := fun _ => fun
  | [d] => { results := [.lit (.bool true)], args := [d] }
  | _ => none }
def netTurnsRow : OpenClaim := { program := "ytbniaojldjhemaa", sum := "39a377f4640f1de00b1613cddc7996ce5fe9ac951d955946985af1ed659cdb27", func := "postilion/postilionlaw14.NetTurns", spec := "netTurns", plainKeys := false, apart := false }
def NetTurnsSaid : Prop := netTurnsRow.holds Try.pinned (OpenSpec.ofChange netTurnsSpec)

/-- ITS FALSE NEIGHBOUR: 'it returns false'. Refute it at one input. -/
def netTurnsWrong : ChangeSpec := { name := "netTurns", fn := fun _ => fun
  | [d] => { results := [.lit (.bool false)], args := [d] }
  | _ => none }
def NetTurnsWrongFalsely : Prop := netTurnsRow.holds Try.pinned (OpenSpec.ofChange netTurnsWrong)

/-- 'postilionlaw14.NetLinks': WHATEVER THE INPUT: true; the input reads as it did. -/
def netLinksSpec : ChangeSpec := { name := "netLinks", fn := fun _ => fun
  | [d1, d2, d3] => { results := [.lit (.bool true)], args := [d1, d2, d3] }
  | _ => none }
def netLinksRow : OpenClaim := { program := "ytbniaojldjhemaa", sum := "39a377f4640f1de00b1613cddc7996ce5fe9ac951d955946985af1ed659cdb27", func := "postilion/postilionlaw14.NetLinks", spec := "netLinks", plainKeys := false, apart := false }
def NetLinksSaid : Prop := netLinksRow.holds Try.pinned (OpenSpec.ofChange netLinksSpec)

/-- ITS FALSE NEIGHBOUR: 'it returns false'. Refute it at one input. -/
def netLinksWrong : ChangeSpec := { name := "netLinks", fn := fun _ => fun
  | [d1, d2, d3] => { results := [.lit (.bool false)], args := [d1, d2, d3] }
  | _ => none }
def NetLinksWrongFalsely : Prop := netLinksRow.holds Try.pinned (OpenSpec.ofChange netLinksWrong)

/-- 'postilionlaw14.NetPlays': WHATEVER THE INPUT: true; the input reads as it did. -/
def netPlaysSpec : ChangeSpec := { name := "netPlays", fn := fun _ => fun
  | [d1, d2] => { results := [.lit (.bool true)], args := [d1, d2] }
  | _ => none }
def netPlaysRow : OpenClaim := { program := "ytbniaojldjhemaa", sum := "39a377f4640f1de00b1613cddc7996ce5fe9ac951d955946985af1ed659cdb27", func := "postilion/postilionlaw14.NetPlays", spec := "netPlays", plainKeys := false, apart := false }
def NetPlaysSaid : Prop := netPlaysRow.holds Try.pinned (OpenSpec.ofChange netPlaysSpec)

/-- ITS FALSE NEIGHBOUR: 'it returns false'. Refute it at one input. -/
def netPlaysWrong : ChangeSpec := { name := "netPlays", fn := fun _ => fun
  | [d1, d2] => { results := [.lit (.bool false)], args := [d1, d2] }
  | _ => none }
def NetPlaysWrongFalsely : Prop := netPlaysRow.holds Try.pinned (OpenSpec.ofChange netPlaysWrong)

/-- 'postilionlaw14.NetNil': WHATEVER THE INPUT: true; the input reads as it did. -/
def netNilSpec : ChangeSpec := { name := "netNil", fn := fun _ => fun
  | [d1, d2] => { results := [.lit (.bool true)], args := [d1, d2] }
  | _ => none }
def netNilRow : OpenClaim := { program := "ytbniaojldjhemaa", sum := "39a377f4640f1de00b1613cddc7996ce5fe9ac951d955946985af1ed659cdb27", func := "postilion/postilionlaw14.NetNil", spec := "netNil", plainKeys := false, apart := false }
def NetNilSaid : Prop := netNilRow.holds Try.pinned (OpenSpec.ofChange netNilSpec)

/-- ITS FALSE NEIGHBOUR: 'it returns false'. Refute it at one input. -/
def netNilWrong : ChangeSpec := { name := "netNil", fn := fun _ => fun
  | [d1, d2] => { results := [.lit (.bool false)], args := [d1, d2] }
  | _ => none }
def NetNilWrongFalsely : Prop := netNilRow.holds Try.pinned (OpenSpec.ofChange netNilWrong)

/- THE SECOND FORM. 'bulk': how many values and letters a reading holds, each counted each time it is reached (what is shared counts as often as it is met; a slice's spare places count too). A statement '..UptoSaid' is the law's where the arguments, and the package variables that the reading takes, are together of bulk at most 1048576: NARROWER than '..Said'. Prove '..Said' where nothing that the law and all that it calls make is longer than what came in: it says more and counts as full. Else prove '..UptoSaid'. A law counts once. -/
mutual
def uptoBulk {H : Type} : DataW H → Nat
  | .lit (.string bytes) => bytes.length + 1
  | .lit _ => 1
  | .nil => 1
  | .ptr d => uptoBulk d + 1
  | .slice elems spare => uptoBulkAll elems + uptoBulkAll spare + 1
  | .agg parts => uptoBulkAll parts + 1
  | .iface _ d => uptoBulk d + 1
  | .map entries => uptoBulkEntries entries + 1
  | .held _ => 1
def uptoBulkAll {H : Type} : List (DataW H) → Nat
  | [] => 0
  | d :: r => uptoBulk d + uptoBulkAll r
def uptoBulkEntries {H : Type} : List (Lit × DataW H) → Nat
  | [] => 0
  | x :: r => uptoBulkEntry x + uptoBulkEntries r
def uptoBulkEntry {H : Type} : Lit × DataW H → Nat
  | (.string bytes, d) => bytes.length + uptoBulk d + 1
  | (_, d) => uptoBulk d + 1
 end
def uptoSmall : (H : Type) → List (DataW H) → Bool := fun _ ds => decide (uptoBulkAll ds ≤ 1048576)
def OpenSpec.upto (s : _root_.Go.ChangeSpec) : _root_.Go.OpenSpec := { _root_.Go.OpenSpec.ofChange s with cond := some uptoSmall }

/-- 'postilionlaw14.NetNames', WHERE WHAT IT READS IS OF BULK AT MOST 1048576: true; the input reads as it did. -/
def netNamesUptoRow : OpenClaim := { program := "ytbniaojldjhemaa", sum := "39a377f4640f1de00b1613cddc7996ce5fe9ac951d955946985af1ed659cdb27", func := "postilion/postilionlaw14.NetNames", spec := "netNames", plainKeys := false, apart := false, narrowed := true }
def NetNamesUptoSaid : Prop := netNamesUptoRow.holds Try.pinned (OpenSpec.upto netNamesSpec)

/-- 'postilionlaw14.NetOrder', WHERE WHAT IT READS IS OF BULK AT MOST 1048576: true; the input reads as it did. -/
def netOrderUptoRow : OpenClaim := { program := "ytbniaojldjhemaa", sum := "39a377f4640f1de00b1613cddc7996ce5fe9ac951d955946985af1ed659cdb27", func := "postilion/postilionlaw14.NetOrder", spec := "netOrder", plainKeys := false, apart := false, narrowed := true }
def NetOrderUptoSaid : Prop := netOrderUptoRow.holds Try.pinned (OpenSpec.upto netOrderSpec)

/-- 'postilionlaw14.NetEmpties', WHERE WHAT IT READS IS OF BULK AT MOST 1048576: true; the input reads as it did. -/
def netEmptiesUptoRow : OpenClaim := { program := "ytbniaojldjhemaa", sum := "39a377f4640f1de00b1613cddc7996ce5fe9ac951d955946985af1ed659cdb27", func := "postilion/postilionlaw14.NetEmpties", spec := "netEmpties", plainKeys := false, apart := false, narrowed := true }
def NetEmptiesUptoSaid : Prop := netEmptiesUptoRow.holds Try.pinned (OpenSpec.upto netEmptiesSpec)

/-- 'postilionlaw14.NetOwn', WHERE WHAT IT READS IS OF BULK AT MOST 1048576: true; the input reads as it did. -/
def netOwnUptoRow : OpenClaim := { program := "ytbniaojldjhemaa", sum := "39a377f4640f1de00b1613cddc7996ce5fe9ac951d955946985af1ed659cdb27", func := "postilion/postilionlaw14.NetOwn", spec := "netOwn", plainKeys := false, apart := false, narrowed := true }
def NetOwnUptoSaid : Prop := netOwnUptoRow.holds Try.pinned (OpenSpec.upto netOwnSpec)

/-- 'postilionlaw14.NetTurns', WHERE WHAT IT READS IS OF BULK AT MOST 1048576: true; the input reads as it did. -/
def netTurnsUptoRow : OpenClaim := { program := "ytbniaojldjhemaa", sum := "39a377f4640f1de00b1613cddc7996ce5fe9ac951d955946985af1ed659cdb27", func := "postilion/postilionlaw14.NetTurns", spec := "netTurns", plainKeys := false, apart := false, narrowed := true }
def NetTurnsUptoSaid : Prop := netTurnsUptoRow.holds Try.pinned (OpenSpec.upto netTurnsSpec)

/-- 'postilionlaw14.NetLinks', WHERE WHAT IT READS IS OF BULK AT MOST 1048576: true; the input reads as it did. -/
def netLinksUptoRow : OpenClaim := { program := "ytbniaojldjhemaa", sum := "39a377f4640f1de00b1613cddc7996ce5fe9ac951d955946985af1ed659cdb27", func := "postilion/postilionlaw14.NetLinks", spec := "netLinks", plainKeys := false, apart := false, narrowed := true }
def NetLinksUptoSaid : Prop := netLinksUptoRow.holds Try.pinned (OpenSpec.upto netLinksSpec)

/-- 'postilionlaw14.NetPlays', WHERE WHAT IT READS IS OF BULK AT MOST 1048576: true; the input reads as it did. -/
def netPlaysUptoRow : OpenClaim := { program := "ytbniaojldjhemaa", sum := "39a377f4640f1de00b1613cddc7996ce5fe9ac951d955946985af1ed659cdb27", func := "postilion/postilionlaw14.NetPlays", spec := "netPlays", plainKeys := false, apart := false, narrowed := true }
def NetPlaysUptoSaid : Prop := netPlaysUptoRow.holds Try.pinned (OpenSpec.upto netPlaysSpec)

/-- 'postilionlaw14.NetNil', WHERE WHAT IT READS IS OF BULK AT MOST 1048576: true; the input reads as it did. -/
def netNilUptoRow : OpenClaim := { program := "ytbniaojldjhemaa", sum := "39a377f4640f1de00b1613cddc7996ce5fe9ac951d955946985af1ed659cdb27", func := "postilion/postilionlaw14.NetNil", spec := "netNil", plainKeys := false, apart := false, narrowed := true }
def NetNilUptoSaid : Prop := netNilUptoRow.holds Try.pinned (OpenSpec.upto netNilSpec)

end Rows
end Go.Proofs.Ytbniaojldjhemaa
