/-
  DERIVED. GIVEN WITH THE SEED: THE CARDS: each row of YtbannbgokddfaaaDoorRows.lean that lists a variable, with what it lists TIED to the program's text (the seventh form; the later family's looks); each row that meets fmt, with fmt's text TOLD by the authors' own Lean function (tested against real Go, not proved from fmt's source: count such statements apart). THE CARD IS WHAT COUNTS. Prove the row's statement (the work); the ties are given (YtbannbgokddfaaaDoorTie.lean); close each card by the builder's one call (the guide's Derived/Test/ToyasCard.lean, 'card_holds'). Laid BY PROGRAM, IN A SANDBOX (cutbox-door.mjs). By AI agents, Wed Nov 11 2026. No macro, syntax, notation, axiom, sorry.
-/
import Derived.Test.YtbannbgokddfaaaDoorRows
import GoSem.ClaimSeven
namespace Go.Proofs.YtbannbgokddfaaaDoor
namespace Rows

/-- THE TIED CARD OF 'florlaw1.TreeOutlineReads'. -/
def treeOutlineReadsCard : Claim7 := { stood := { row := treeOutlineReadsRow, standIns := [], harness := (true, "b1f15f627d046b283a228e1f8b3fa54626d5041f46e13ebd14876b512470faf6"), looks := false }, kinds := [], alts := [], laidByText := true, laidKinds := [.data, .pinned], laidTests := true, laidLooks := .later }
def TreeOutlineReadsCardSaid : Prop := Claim7.holds Tryd.pinned (.plain (OpenSpec.ofChange treeOutlineReadsSpec)) treeOutlineReadsCard

/-- THE SECOND FORM's CARD OF 'florlaw1.TreeOutlineReads'. -/
def treeOutlineReadsUptoCard : Claim7 := { stood := { row := treeOutlineReadsUptoRow, standIns := [], harness := (true, "b1f15f627d046b283a228e1f8b3fa54626d5041f46e13ebd14876b512470faf6"), looks := false }, kinds := [], alts := [], laidByText := true, laidKinds := [.data, .pinned], laidTests := true, laidLooks := .later }
def TreeOutlineReadsUptoCardSaid : Prop := Claim7.holds Tryd.pinned (.plain (OpenSpec.upto treeOutlineReadsSpec)) treeOutlineReadsUptoCard
end Rows
end Go.Proofs.YtbannbgokddfaaaDoor
