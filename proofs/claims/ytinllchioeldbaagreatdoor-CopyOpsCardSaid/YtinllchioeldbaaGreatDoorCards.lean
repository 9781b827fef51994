/-
  DERIVED. GIVEN WITH THE SEED: THE CARDS: each row of YtinllchioeldbaaGreatDoorRows.lean that lists a variable, with what it lists TIED to the program's text (the seventh form; the later family's looks); each row that meets fmt, with fmt's text TOLD by the authors' own Lean function (tested against real Go, not proved from fmt's source: count such statements apart). THE CARD IS WHAT COUNTS. Prove the row's statement (the work); the ties are given (YtinllchioeldbaaGreatDoorTie.lean); close each card by the builder's one call (the guide's Derived/Test/ToyasCard.lean, 'card_holds'). Laid BY PROGRAM, IN A SANDBOX (cutbox-door.mjs). By AI agents, Wed Nov 11 2026. No macro, syntax, notation, axiom, sorry.
-/
import Derived.Test.YtinllchioeldbaaGreatDoorRows
import GoSem.ClaimSeven
namespace Go.Proofs.YtinllchioeldbaaGreatDoor
namespace Rows

/-- THE TIED CARD OF 'florlaw1.CopyOps'. -/
def copyOpsCard : Claim7 := { stood := { row := copyOpsRow, standIns := [], harness := (true, "081f9a5a59fc318d2474789b2653826e5c0f5a5206c18f3596ce1a55bbde400c"), looks := true }, kinds := [], alts := [], laidByText := true, laidKinds := [.data, .data, .data, .data], laidTests := true, laidLooks := .later }
def CopyOpsCardSaid : Prop := Claim7.holds Tryz.pinned (.plain (OpenSpec.ofChange copyOpsSpec)) copyOpsCard

/-- THE SECOND FORM's CARD OF 'florlaw1.CopyOps'. -/
def copyOpsUptoCard : Claim7 := { stood := { row := copyOpsUptoRow, standIns := [], harness := (true, "081f9a5a59fc318d2474789b2653826e5c0f5a5206c18f3596ce1a55bbde400c"), looks := true }, kinds := [], alts := [], laidByText := true, laidKinds := [.data, .data, .data, .data], laidTests := true, laidLooks := .later }
def CopyOpsUptoCardSaid : Prop := Claim7.holds Tryz.pinned (.plain (OpenSpec.upto copyOpsSpec)) copyOpsUptoCard
end Rows
end Go.Proofs.YtinllchioeldbaaGreatDoor
