/-
  DERIVED. GIVEN WITH THE SEED: THE CARDS: each row of YtdabgfjglkoadaaGreatDoorRows.lean that lists a variable, with what it lists TIED to the program's text (the seventh form; the later family's looks); each row that meets fmt, with fmt's text TOLD by the authors' own Lean function (tested against real Go, not proved from fmt's source: count such statements apart). THE CARD IS WHAT COUNTS. Prove the row's statement (the work); the ties are given (YtdabgfjglkoadaaGreatDoorTie.lean); close each card by the builder's one call (the guide's Derived/Test/ToyasCard.lean, 'card_holds'). Laid BY PROGRAM, IN A SANDBOX (cutbox-door.mjs). By AI agents, Wed Nov 11 2026. No macro, syntax, notation, axiom, sorry.
-/
import Derived.Test.YtdabgfjglkoadaaGreatDoorRows
import GoSem.ClaimSeven
namespace Go.Proofs.YtdabgfjglkoadaaGreatDoor
namespace Rows

/-- THE TIED CARD OF 'florlaw1.AskConds'. -/
def askCondsCard : Claim7 := { stood := { row := askCondsRow, standIns := [], harness := (true, "3dab758ab31a1295886a22d6863005aae3944f010d9feb0439a7263064a1832c"), looks := true }, kinds := [], alts := [], laidByText := true, laidKinds := [.data, .data, .data, .sentinel, .sentinel], laidTests := true, laidLooks := .later }
def AskCondsCardSaid : Prop := Claim7.holds Tryz.pinned (.plain (OpenSpec.ofChange askCondsSpec)) askCondsCard

/-- THE TIED CARD OF 'florlaw1.AskQuestions'. -/
def askQuestionsCard : Claim7 := { stood := { row := askQuestionsRow, standIns := [], harness := (true, "3dab758ab31a1295886a22d6863005aae3944f010d9feb0439a7263064a1832c"), looks := true }, kinds := [], alts := [], laidByText := true, laidKinds := [.data, .data, .data, .sentinel, .sentinel], laidTests := true, laidLooks := .later }
def AskQuestionsCardSaid : Prop := Claim7.holds Tryz.pinned (.plain (OpenSpec.ofChange askQuestionsSpec)) askQuestionsCard

/-- THE SECOND FORM's CARD OF 'florlaw1.AskConds'. -/
def askCondsUptoCard : Claim7 := { stood := { row := askCondsUptoRow, standIns := [], harness := (true, "3dab758ab31a1295886a22d6863005aae3944f010d9feb0439a7263064a1832c"), looks := true }, kinds := [], alts := [], laidByText := true, laidKinds := [.data, .data, .data, .sentinel, .sentinel], laidTests := true, laidLooks := .later }
def AskCondsUptoCardSaid : Prop := Claim7.holds Tryz.pinned (.plain (OpenSpec.upto askCondsSpec)) askCondsUptoCard

/-- THE SECOND FORM's CARD OF 'florlaw1.AskQuestions'. -/
def askQuestionsUptoCard : Claim7 := { stood := { row := askQuestionsUptoRow, standIns := [], harness := (true, "3dab758ab31a1295886a22d6863005aae3944f010d9feb0439a7263064a1832c"), looks := true }, kinds := [], alts := [], laidByText := true, laidKinds := [.data, .data, .data, .sentinel, .sentinel], laidTests := true, laidLooks := .later }
def AskQuestionsUptoCardSaid : Prop := Claim7.holds Tryz.pinned (.plain (OpenSpec.upto askQuestionsSpec)) askQuestionsUptoCard
end Rows
end Go.Proofs.YtdabgfjglkoadaaGreatDoor
