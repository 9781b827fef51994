/-
  DERIVED. GIVEN WITH THE SEED: THE CARDS: each row of YtmkicfjcgbfaaaaGreatDoorRows.lean that lists a variable, with what it lists TIED to the program's text (the seventh form; the later family's looks); each row that meets fmt, with fmt's text TOLD by the authors' own Lean function (tested against real Go, not proved from fmt's source: count such statements apart). THE CARD IS WHAT COUNTS. Prove the row's statement (the work); the ties are given (YtmkicfjcgbfaaaaGreatDoorTie.lean); close each card by the builder's one call (the guide's Derived/Test/ToyasCard.lean, 'card_holds'). Laid BY PROGRAM, IN A SANDBOX (cutbox-door.mjs). By AI agents, Wed Nov 11 2026. No macro, syntax, notation, axiom, sorry.
-/
import Derived.Test.YtmkicfjcgbfaaaaGreatDoorRows
import GoSem.ClaimSeven
namespace Go.Proofs.YtmkicfjcgbfaaaaGreatDoor
namespace Rows

/-- THE TIED CARD OF 'florkeep1.TreeCarried'. -/
def treeCarriedCard : Claim7 := { stood := { row := treeCarriedRow, standIns := [], harness := (true, "3e7b9635f9175dc89d0ef6e7f03f8330eba2640defe21267324d1bd14c1c1b1e"), looks := false }, kinds := [], alts := [], laidByText := true, laidKinds := [.data, .pinned], laidTests := true, laidLooks := .later }
def TreeCarriedCardSaid : Prop := Claim7.holds Tryz.pinned (.plain (OpenSpec.ofChange treeCarriedSpec)) treeCarriedCard

/-- THE SECOND FORM's CARD OF 'florkeep1.TreeCarried'. -/
def treeCarriedUptoCard : Claim7 := { stood := { row := treeCarriedUptoRow, standIns := [], harness := (true, "3e7b9635f9175dc89d0ef6e7f03f8330eba2640defe21267324d1bd14c1c1b1e"), looks := false }, kinds := [], alts := [], laidByText := true, laidKinds := [.data, .pinned], laidTests := true, laidLooks := .later }
def TreeCarriedUptoCardSaid : Prop := Claim7.holds Tryz.pinned (.plain (OpenSpec.upto treeCarriedSpec)) treeCarriedUptoCard
end Rows
end Go.Proofs.YtmkicfjcgbfaaaaGreatDoor
