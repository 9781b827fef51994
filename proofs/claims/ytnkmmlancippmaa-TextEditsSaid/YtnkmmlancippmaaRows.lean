/-
  No cell of these rows narrows 'for every input' (looked for: loops, veiled, ifaces, maps, wideKeys, modest, calm, conditions, laid).
  DERIVED. THE GIVEN ROWS OF THIS SEAT. 2 by the template 'for every input the law returns true; each argument reads behind the call as it read before'; 0 by the template 'total and deterministic' (their statements: YtnkmmlancippmaaTotals.lean).
  GIVEN WITH THE SEED: the statements are not yours to turn. If you find one false, say at which input.
  Laid BY PROGRAM, IN A SANDBOX (cutbox-rows.mjs): the forced cells as the released guide's own fill.sh prints them over the translation dfaf854a0e9c828a… (all of the seat's roots in one cut). By AI agents, Wed Nov 11 2026. No macro, syntax, notation, axiom, sorry.
-/
import Derived.Test.YtnkmmlancippmaaChecked
import GoSem.Claim
import GoSem.ClaimJoined
import GoSem.ClaimMapViews
import Derived.JoinedTies
import Derived.KernelRfl
namespace Go.Proofs.Ytnkmmlancippmaa
/- THE CELL 'sum', in the pinned program and in every row, IS THE sha256 OF THE DUMP (.gsa) THAT YtnkmmlancippmaaProg.lean LOADS. Nothing in Lean hashes anything: it is a label: what it is worth is what the hold of that sum in a sandbox is worth. -/
noncomputable def Try.pinned : Pinned := { name := "ytnkmmlancippmaa", sum := "dfaf854a0e9c828a7d329e4661f3392f0d311654eccbffee040a4aa80032e687", checked := Try.checked }
namespace Rows
def none {H : Type} : Left H := { results := [], args := [] }

/-- 'florlaw1.TextMarks': WHATEVER THE INPUT: true; the input reads as it did. -/
def textMarksSpec : ChangeSpec := { name := "textMarks", fn := fun _ => fun
  | [d1, d2, d3] => { results := [.lit (.bool true)], args := [d1, d2, d3] }
  | _ => none }
def textMarksRow : OpenClaim := { program := "ytnkmmlancippmaa", sum := "dfaf854a0e9c828a7d329e4661f3392f0d311654eccbffee040a4aa80032e687", func := "florilegium/florlaw1.TextMarks", spec := "textMarks", apart := false }
def TextMarksSaid : Prop := textMarksRow.holds Try.pinned (OpenSpec.ofChange textMarksSpec)

/-- ITS FALSE NEIGHBOUR: 'it returns false'. Refute it at one input. -/
def textMarksWrong : ChangeSpec := { name := "textMarks", fn := fun _ => fun
  | [d1, d2, d3] => { results := [.lit (.bool false)], args := [d1, d2, d3] }
  | _ => none }
def TextMarksWrongFalsely : Prop := textMarksRow.holds Try.pinned (OpenSpec.ofChange textMarksWrong)

/-- 'florlaw1.TextEdits': WHATEVER THE INPUT: true; the input reads as it did. -/
def textEditsSpec : ChangeSpec := { name := "textEdits", fn := fun _ => fun
  | [d1, d2, d3] => { results := [.lit (.bool true)], args := [d1, d2, d3] }
  | _ => none }
def textEditsRow : OpenClaim := { program := "ytnkmmlancippmaa", sum := "dfaf854a0e9c828a7d329e4661f3392f0d311654eccbffee040a4aa80032e687", func := "florilegium/florlaw1.TextEdits", spec := "textEdits", apart := false }
def TextEditsSaid : Prop := textEditsRow.holds Try.pinned (OpenSpec.ofChange textEditsSpec)

/-- ITS FALSE NEIGHBOUR: 'it returns false'. Refute it at one input. -/
def textEditsWrong : ChangeSpec := { name := "textEdits", fn := fun _ => fun
  | [d1, d2, d3] => { results := [.lit (.bool false)], args := [d1, d2, d3] }
  | _ => none }
def TextEditsWrongFalsely : Prop := textEditsRow.holds Try.pinned (OpenSpec.ofChange textEditsWrong)

/- THE SECOND FORM. 'bulk': how many values and letters a reading holds, each counted each time it is reached (what is shared counts as often as it is met; a slice's spare places count too). A statement '..UptoSaid' is the law's where the arguments, and the package variables that the reading takes, are together of bulk at most 1048576: NARROWER than '..Said'. Prove '..Said' where nothing that the law and all that it calls make is longer than what came in: it says more and counts as full. Else prove '..UptoSaid'. A law counts once. -/
mutual
def uptoBulk {H : Type} : DataW H → Nat
  | .lit (.string bytes) => bytes.length + 1
  | .lit _ => 1
  | .nil => 1
  | .ptr d => uptoBulk d + 1
  | .slice elems spare => uptoBulkAll elems + uptoBulkAll spare + 1
  | .agg parts => uptoBulkAll parts + 1
  | .iface _ d => uptoBulk d + 1
  | .map entries => uptoBulkEntries entries + 1
  | .held _ => 1
def uptoBulkAll {H : Type} : List (DataW H) → Nat
  | [] => 0
  | d :: r => uptoBulk d + uptoBulkAll r
def uptoBulkEntries {H : Type} : List (Lit × DataW H) → Nat
  | [] => 0
  | x :: r => uptoBulkEntry x + uptoBulkEntries r
def uptoBulkEntry {H : Type} : Lit × DataW H → Nat
  | (.string bytes, d) => bytes.length + uptoBulk d + 1
  | (_, d) => uptoBulk d + 1
 end
def uptoSmall : (H : Type) → List (DataW H) → Bool := fun _ ds => decide (uptoBulkAll ds ≤ 1048576)
def OpenSpec.upto (s : _root_.Go.ChangeSpec) : _root_.Go.OpenSpec := { _root_.Go.OpenSpec.ofChange s with cond := some uptoSmall }

/-- 'florlaw1.TextMarks', WHERE WHAT IT READS IS OF BULK AT MOST 1048576: true; the input reads as it did. -/
def textMarksUptoRow : OpenClaim := { program := "ytnkmmlancippmaa", sum := "dfaf854a0e9c828a7d329e4661f3392f0d311654eccbffee040a4aa80032e687", func := "florilegium/florlaw1.TextMarks", spec := "textMarks", apart := false, narrowed := true }
def TextMarksUptoSaid : Prop := textMarksUptoRow.holds Try.pinned (OpenSpec.upto textMarksSpec)

/-- 'florlaw1.TextEdits', WHERE WHAT IT READS IS OF BULK AT MOST 1048576: true; the input reads as it did. -/
def textEditsUptoRow : OpenClaim := { program := "ytnkmmlancippmaa", sum := "dfaf854a0e9c828a7d329e4661f3392f0d311654eccbffee040a4aa80032e687", func := "florilegium/florlaw1.TextEdits", spec := "textEdits", apart := false, narrowed := true }
def TextEditsUptoSaid : Prop := textEditsUptoRow.holds Try.pinned (OpenSpec.upto textEditsSpec)

end Rows
end Go.Proofs.Ytnkmmlancippmaa
