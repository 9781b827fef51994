/-
  DERIVED. GIVEN WITH THE SEED: THE CARDS: each row of YtbdcimakdiegnaaGreatDoorRows.lean that lists a variable, with what it lists TIED to the program's text (the seventh form; the later family's looks); each row that meets fmt, with fmt's text TOLD by the authors' own Lean function (tested against real Go, not proved from fmt's source: count such statements apart). THE CARD IS WHAT COUNTS. Prove the row's statement (the work); the ties are given (YtbdcimakdiegnaaGreatDoorTie.lean); close each card by the builder's one call (the guide's Derived/Test/ToyasCard.lean, 'card_holds'). Laid BY PROGRAM, IN A SANDBOX (cutbox-door.mjs). By AI agents, Wed Nov 11 2026. No macro, syntax, notation, axiom, sorry.
-/
import Derived.Test.YtbdcimakdiegnaaGreatDoorRows
import GoSem.ClaimSeven
namespace Go.Proofs.YtbdcimakdiegnaaGreatDoor
namespace Rows

/-- THE TIED CARD OF 'florkeep2.ValueRound'. -/
def valueRoundCard : Claim7 := { stood := { row := valueRoundRow, standIns := [], harness := (true, "8b89501d520c73c04638df7220e2657487b49c8dff50d533cc8dd3c2f9e79d44"), looks := true }, kinds := [], alts := [], laidByText := true, laidKinds := [.data, .data, .data, .data, .sentinel, .sentinel, .pinned], laidTests := true, laidLooks := .later }
def ValueRoundCardSaid : Prop := Claim7.holds Tryz.pinned (.plain (OpenSpec.ofChange valueRoundSpec)) valueRoundCard

/-- THE TIED CARD OF 'florkeep2.PropsRound'. -/
def propsRoundCard : Claim7 := { stood := { row := propsRoundRow, standIns := [], harness := (true, "8b89501d520c73c04638df7220e2657487b49c8dff50d533cc8dd3c2f9e79d44"), looks := true }, kinds := [], alts := [], laidByText := true, laidKinds := [.data, .data, .data, .data, .sentinel, .sentinel, .pinned], laidTests := true, laidLooks := .later }
def PropsRoundCardSaid : Prop := Claim7.holds Tryz.pinned (.plain (OpenSpec.ofChange propsRoundSpec)) propsRoundCard

/-- THE TIED CARD OF 'florkeep2.RuleRound'. -/
def ruleRoundCard : Claim7 := { stood := { row := ruleRoundRow, standIns := [], harness := (true, "8b89501d520c73c04638df7220e2657487b49c8dff50d533cc8dd3c2f9e79d44"), looks := true }, kinds := [], alts := [], laidByText := true, laidKinds := [.data, .data, .data, .data, .sentinel, .sentinel, .pinned], laidTests := true, laidLooks := .later }
def RuleRoundCardSaid : Prop := Claim7.holds Tryz.pinned (.plain (OpenSpec.ofChange ruleRoundSpec)) ruleRoundCard

/-- THE SECOND FORM's CARD OF 'florkeep2.ValueRound'. -/
def valueRoundUptoCard : Claim7 := { stood := { row := valueRoundUptoRow, standIns := [], harness := (true, "8b89501d520c73c04638df7220e2657487b49c8dff50d533cc8dd3c2f9e79d44"), looks := true }, kinds := [], alts := [], laidByText := true, laidKinds := [.data, .data, .data, .data, .sentinel, .sentinel, .pinned], laidTests := true, laidLooks := .later }
def ValueRoundUptoCardSaid : Prop := Claim7.holds Tryz.pinned (.plain (OpenSpec.upto valueRoundSpec)) valueRoundUptoCard

/-- THE SECOND FORM's CARD OF 'florkeep2.PropsRound'. -/
def propsRoundUptoCard : Claim7 := { stood := { row := propsRoundUptoRow, standIns := [], harness := (true, "8b89501d520c73c04638df7220e2657487b49c8dff50d533cc8dd3c2f9e79d44"), looks := true }, kinds := [], alts := [], laidByText := true, laidKinds := [.data, .data, .data, .data, .sentinel, .sentinel, .pinned], laidTests := true, laidLooks := .later }
def PropsRoundUptoCardSaid : Prop := Claim7.holds Tryz.pinned (.plain (OpenSpec.upto propsRoundSpec)) propsRoundUptoCard

/-- THE SECOND FORM's CARD OF 'florkeep2.RuleRound'. -/
def ruleRoundUptoCard : Claim7 := { stood := { row := ruleRoundUptoRow, standIns := [], harness := (true, "8b89501d520c73c04638df7220e2657487b49c8dff50d533cc8dd3c2f9e79d44"), looks := true }, kinds := [], alts := [], laidByText := true, laidKinds := [.data, .data, .data, .data, .sentinel, .sentinel, .pinned], laidTests := true, laidLooks := .later }
def RuleRoundUptoCardSaid : Prop := Claim7.holds Tryz.pinned (.plain (OpenSpec.upto ruleRoundSpec)) ruleRoundUptoCard
end Rows
end Go.Proofs.YtbdcimakdiegnaaGreatDoor
