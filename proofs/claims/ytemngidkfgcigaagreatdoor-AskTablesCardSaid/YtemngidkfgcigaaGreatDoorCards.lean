/-
  DERIVED. GIVEN WITH THE SEED: THE CARDS: each row of YtemngidkfgcigaaGreatDoorRows.lean that lists a variable, with what it lists TIED to the program's text (the seventh form; the later family's looks); each row that meets fmt, with fmt's text TOLD by the authors' own Lean function (tested against real Go, not proved from fmt's source: count such statements apart). THE CARD IS WHAT COUNTS. Prove the row's statement (the work); the ties are given (YtemngidkfgcigaaGreatDoorTie.lean); close each card by the builder's one call (the guide's Derived/Test/ToyasCard.lean, 'card_holds'). Laid BY PROGRAM, IN A SANDBOX (cutbox-door.mjs). By AI agents, Wed Nov 11 2026. No macro, syntax, notation, axiom, sorry.
-/
import Derived.Test.YtemngidkfgcigaaGreatDoorRows
import GoSem.ClaimSeven
namespace Go.Proofs.YtemngidkfgcigaaGreatDoor
namespace Rows

/-- THE TIED CARD OF 'florlaw1.AskTables'. -/
def askTablesCard : Claim7 := { stood := { row := askTablesRow, standIns := [], harness := (true, "f0d3244b655f7485f0a659276feabe9c3e590a0671c8fa4fcd6b7cd60dba3f81"), looks := true }, kinds := [], alts := [], laidByText := true, laidKinds := [.data, .data, .data, .sentinel, .sentinel], laidTests := true, laidLooks := .later }
def AskTablesCardSaid : Prop := Claim7.holds Tryz.pinned (.plain (OpenSpec.ofChange askTablesSpec)) askTablesCard

/-- THE SECOND FORM's CARD OF 'florlaw1.AskTables'. -/
def askTablesUptoCard : Claim7 := { stood := { row := askTablesUptoRow, standIns := [], harness := (true, "f0d3244b655f7485f0a659276feabe9c3e590a0671c8fa4fcd6b7cd60dba3f81"), looks := true }, kinds := [], alts := [], laidByText := true, laidKinds := [.data, .data, .data, .sentinel, .sentinel], laidTests := true, laidLooks := .later }
def AskTablesUptoCardSaid : Prop := Claim7.holds Tryz.pinned (.plain (OpenSpec.upto askTablesSpec)) askTablesUptoCard
end Rows
end Go.Proofs.YtemngidkfgcigaaGreatDoor
