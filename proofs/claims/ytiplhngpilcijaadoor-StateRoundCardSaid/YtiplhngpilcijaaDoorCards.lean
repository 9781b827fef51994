/-
  DERIVED. GIVEN WITH THE SEED: THE CARDS: each row of YtiplhngpilcijaaDoorRows.lean that lists a variable, with what it lists TIED to the program's text (the seventh form; the later family's looks); each row that meets fmt, with fmt's text TOLD by the authors' own Lean function (tested against real Go, not proved from fmt's source: count such statements apart). THE CARD IS WHAT COUNTS. Prove the row's statement (the work); the ties are given (YtiplhngpilcijaaDoorTie.lean); close each card by the builder's one call (the guide's Derived/Test/ToyasCard.lean, 'card_holds'). Laid BY PROGRAM, IN A SANDBOX (cutbox-door.mjs). By AI agents, Wed Nov 11 2026. No macro, syntax, notation, axiom, sorry.
-/
import Derived.Test.YtiplhngpilcijaaDoorRows
import GoSem.ClaimSeven
namespace Go.Proofs.YtiplhngpilcijaaDoor
namespace Rows

/-- THE TIED CARD OF 'florkeep2.StateRound'. -/
def stateRoundCard : Claim7 := { stood := { row := stateRoundRow, standIns := [], harness := (true, "c8aaeb6984ab54cfff493193d0f5f600d7e14da0276b919a7dc9b0ed275ff097"), looks := true }, kinds := [], alts := [], laidByText := true, laidKinds := [.data, .data, .data, .data, .sentinel, .sentinel, .pinned], laidTests := true, laidLooks := .later }
def StateRoundCardSaid : Prop := Claim7.holds Tryd.pinned (.plain (OpenSpec.ofChange stateRoundSpec)) stateRoundCard

/-- THE SECOND FORM's CARD OF 'florkeep2.StateRound'. -/
def stateRoundUptoCard : Claim7 := { stood := { row := stateRoundUptoRow, standIns := [], harness := (true, "c8aaeb6984ab54cfff493193d0f5f600d7e14da0276b919a7dc9b0ed275ff097"), looks := true }, kinds := [], alts := [], laidByText := true, laidKinds := [.data, .data, .data, .data, .sentinel, .sentinel, .pinned], laidTests := true, laidLooks := .later }
def StateRoundUptoCardSaid : Prop := Claim7.holds Tryd.pinned (.plain (OpenSpec.upto stateRoundSpec)) stateRoundUptoCard
end Rows
end Go.Proofs.YtiplhngpilcijaaDoor
