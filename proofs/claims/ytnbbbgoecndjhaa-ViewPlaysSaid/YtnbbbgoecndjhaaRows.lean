/-
  No cell of these rows narrows 'for every input' (looked for: loops, veiled, ifaces, maps, wideKeys, modest, calm, conditions, laid).
  DERIVED. THE GIVEN ROWS OF THIS SEAT. 4 by the template 'for every input the law returns true; each argument reads behind the call as it read before'; 0 by the template 'total and deterministic' (their statements: YtnbbbgoecndjhaaTotals.lean).
  GIVEN WITH THE SEED: the statements are not yours to turn. If you find one false, say at which input.
  Laid BY PROGRAM, IN A SANDBOX (cutbox-rows.mjs): the forced cells as the released guide's own fill.sh prints them over the translation 2043d3add090c4b7… (all of the seat's roots in one cut). By AI agents, Wed Nov 11 2026. No macro, syntax, notation, axiom, sorry.
-/
import Derived.Test.YtnbbbgoecndjhaaChecked
import GoSem.Claim
import GoSem.ClaimJoined
import GoSem.ClaimMapViews
import Derived.JoinedTies
import Derived.KernelRfl
namespace Go.Proofs.Ytnbbbgoecndjhaa
/- THE CELL 'sum', in the pinned program and in every row, IS THE sha256 OF THE DUMP (.gsa) THAT YtnbbbgoecndjhaaProg.lean LOADS. Nothing in Lean hashes anything: it is a label: what it is worth is what the hold of that sum in a sandbox is worth. -/
noncomputable def Try.pinned : Pinned := { name := "ytnbbbgoecndjhaa", sum := "2043d3add090c4b75980c159efaed11eb942078cc3625268d4e4ade9dfa97ab5", checked := Try.checked }
namespace Rows
def none {H : Type} : Left H := { results := [], args := [] }

/-- 'notcherlaw24.ViewReads': WHATEVER THE INPUT: true; the input reads as it did. -/
def viewReadsSpec : ChangeSpec := { name := "viewReads", fn := fun _ => fun
  | [d1, d2, d3] => { results := [.lit (.bool true)], args := [d1, d2, d3] }
  | _ => none }
def viewReadsRow : OpenClaim := { program := "ytnbbbgoecndjhaa", sum := "2043d3add090c4b75980c159efaed11eb942078cc3625268d4e4ade9dfa97ab5", func := "notcher/notcherlaw24.ViewReads", spec := "viewReads", unfollowed := true, recurses := true, apart := false }
def ViewReadsSaid : Prop := viewReadsRow.holds Try.pinned (OpenSpec.ofChange viewReadsSpec)

/-- ITS FALSE NEIGHBOUR: 'it returns false'. Refute it at one input. -/
def viewReadsWrong : ChangeSpec := { name := "viewReads", fn := fun _ => fun
  | [d1, d2, d3] => { results := [.lit (.bool false)], args := [d1, d2, d3] }
  | _ => none }
def ViewReadsWrongFalsely : Prop := viewReadsRow.holds Try.pinned (OpenSpec.ofChange viewReadsWrong)

/-- 'notcherlaw24.ViewOwn': WHATEVER THE INPUT: true; the input reads as it did. -/
def viewOwnSpec : ChangeSpec := { name := "viewOwn", fn := fun _ => fun
  | [d1, d2, d3] => { results := [.lit (.bool true)], args := [d1, d2, d3] }
  | _ => none }
def viewOwnRow : OpenClaim := { program := "ytnbbbgoecndjhaa", sum := "2043d3add090c4b75980c159efaed11eb942078cc3625268d4e4ade9dfa97ab5", func := "notcher/notcherlaw24.ViewOwn", spec := "viewOwn", unfollowed := true, recurses := true, apart := false }
def ViewOwnSaid : Prop := viewOwnRow.holds Try.pinned (OpenSpec.ofChange viewOwnSpec)

/-- ITS FALSE NEIGHBOUR: 'it returns false'. Refute it at one input. -/
def viewOwnWrong : ChangeSpec := { name := "viewOwn", fn := fun _ => fun
  | [d1, d2, d3] => { results := [.lit (.bool false)], args := [d1, d2, d3] }
  | _ => none }
def ViewOwnWrongFalsely : Prop := viewOwnRow.holds Try.pinned (OpenSpec.ofChange viewOwnWrong)

/-- 'notcherlaw24.ViewPlays': WHATEVER THE INPUT: true; the input reads as it did. -/
def viewPlaysSpec : ChangeSpec := { name := "viewPlays", fn := fun _ => fun
  | [d] => { results := [.lit (.bool true)], args := [d] }
  | _ => none }
def viewPlaysRow : OpenClaim := { program := "ytnbbbgoecndjhaa", sum := "2043d3add090c4b75980c159efaed11eb942078cc3625268d4e4ade9dfa97ab5", func := "notcher/notcherlaw24.ViewPlays", spec := "viewPlays", unfollowed := true, recurses := true, apart := false }
def ViewPlaysSaid : Prop := viewPlaysRow.holds Try.pinned (OpenSpec.ofChange viewPlaysSpec)

/-- ITS FALSE NEIGHBOUR: 'it returns false'. Refute it at one input. -/
def viewPlaysWrong : ChangeSpec := { name := "viewPlays", fn := fun _ => fun
  | [d] => { results := [.lit (.bool false)], args := [d] }
  | _ => none }
def ViewPlaysWrongFalsely : Prop := viewPlaysRow.holds Try.pinned (OpenSpec.ofChange viewPlaysWrong)

/-- 'notcherlaw24.ViewLow': WHATEVER THE INPUT: true; the input reads as it did. -/
def viewLowSpec : ChangeSpec := { name := "viewLow", fn := fun _ => fun
  | [d1, d2, d3] => { results := [.lit (.bool true)], args := [d1, d2, d3] }
  | _ => none }
def viewLowRow : OpenClaim := { program := "ytnbbbgoecndjhaa", sum := "2043d3add090c4b75980c159efaed11eb942078cc3625268d4e4ade9dfa97ab5", func := "notcher/notcherlaw24.ViewLow", spec := "viewLow", unfollowed := true, recurses := true, apart := false }
def ViewLowSaid : Prop := viewLowRow.holds Try.pinned (OpenSpec.ofChange viewLowSpec)

/-- ITS FALSE NEIGHBOUR: 'it returns false'. Refute it at one input. -/
def viewLowWrong : ChangeSpec := { name := "viewLow", fn := fun _ => fun
  | [d1, d2, d3] => { results := [.lit (.bool false)], args := [d1, d2, d3] }
  | _ => none }
def ViewLowWrongFalsely : Prop := viewLowRow.holds Try.pinned (OpenSpec.ofChange viewLowWrong)

/- THE SECOND FORM. 'bulk': how many values and letters a reading holds, each counted each time it is reached (what is shared counts as often as it is met; a slice's spare places count too). A statement '..UptoSaid' is the law's where the arguments, and the package variables that the reading takes, are together of bulk at most 1048576: NARROWER than '..Said'. Prove '..Said' where nothing that the law and all that it calls make is longer than what came in: it says more and counts as full. Else prove '..UptoSaid'. A law counts once. -/
mutual
def uptoBulk {H : Type} : DataW H → Nat
  | .lit (.string bytes) => bytes.length + 1
  | .lit _ => 1
  | .nil => 1
  | .ptr d => uptoBulk d + 1
  | .slice elems spare => uptoBulkAll elems + uptoBulkAll spare + 1
  | .agg parts => uptoBulkAll parts + 1
  | .iface _ d => uptoBulk d + 1
  | .map entries => uptoBulkEntries entries + 1
  | .held _ => 1
def uptoBulkAll {H : Type} : List (DataW H) → Nat
  | [] => 0
  | d :: r => uptoBulk d + uptoBulkAll r
def uptoBulkEntries {H : Type} : List (Lit × DataW H) → Nat
  | [] => 0
  | x :: r => uptoBulkEntry x + uptoBulkEntries r
def uptoBulkEntry {H : Type} : Lit × DataW H → Nat
  | (.string bytes, d) => bytes.length + uptoBulk d + 1
  | (_, d) => uptoBulk d + 1
 end
def uptoSmall : (H : Type) → List (DataW H) → Bool := fun _ ds => decide (uptoBulkAll ds ≤ 1048576)
def OpenSpec.upto (s : _root_.Go.ChangeSpec) : _root_.Go.OpenSpec := { _root_.Go.OpenSpec.ofChange s with cond := some uptoSmall }

/-- 'notcherlaw24.ViewReads', WHERE WHAT IT READS IS OF BULK AT MOST 1048576: true; the input reads as it did. -/
def viewReadsUptoRow : OpenClaim := { program := "ytnbbbgoecndjhaa", sum := "2043d3add090c4b75980c159efaed11eb942078cc3625268d4e4ade9dfa97ab5", func := "notcher/notcherlaw24.ViewReads", spec := "viewReads", unfollowed := true, recurses := true, apart := false, narrowed := true }
def ViewReadsUptoSaid : Prop := viewReadsUptoRow.holds Try.pinned (OpenSpec.upto viewReadsSpec)

/-- 'notcherlaw24.ViewOwn', WHERE WHAT IT READS IS OF BULK AT MOST 1048576: true; the input reads as it did. -/
def viewOwnUptoRow : OpenClaim := { program := "ytnbbbgoecndjhaa", sum := "2043d3add090c4b75980c159efaed11eb942078cc3625268d4e4ade9dfa97ab5", func := "notcher/notcherlaw24.ViewOwn", spec := "viewOwn", unfollowed := true, recurses := true, apart := false, narrowed := true }
def ViewOwnUptoSaid : Prop := viewOwnUptoRow.holds Try.pinned (OpenSpec.upto viewOwnSpec)

/-- 'notcherlaw24.ViewPlays', WHERE WHAT IT READS IS OF BULK AT MOST 1048576: true; the input reads as it did. -/
def viewPlaysUptoRow : OpenClaim := { program := "ytnbbbgoecndjhaa", sum := "2043d3add090c4b75980c159efaed11eb942078cc3625268d4e4ade9dfa97ab5", func := "notcher/notcherlaw24.ViewPlays", spec := "viewPlays", unfollowed := true, recurses := true, apart := false, narrowed := true }
def ViewPlaysUptoSaid : Prop := viewPlaysUptoRow.holds Try.pinned (OpenSpec.upto viewPlaysSpec)

/-- 'notcherlaw24.ViewLow', WHERE WHAT IT READS IS OF BULK AT MOST 1048576: true; the input reads as it did. -/
def viewLowUptoRow : OpenClaim := { program := "ytnbbbgoecndjhaa", sum := "2043d3add090c4b75980c159efaed11eb942078cc3625268d4e4ade9dfa97ab5", func := "notcher/notcherlaw24.ViewLow", spec := "viewLow", unfollowed := true, recurses := true, apart := false, narrowed := true }
def ViewLowUptoSaid : Prop := viewLowUptoRow.holds Try.pinned (OpenSpec.upto viewLowSpec)

end Rows
end Go.Proofs.Ytnbbbgoecndjhaa
