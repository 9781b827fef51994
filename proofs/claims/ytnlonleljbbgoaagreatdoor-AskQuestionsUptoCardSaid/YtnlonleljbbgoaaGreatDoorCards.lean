/-
  DERIVED. GIVEN WITH THE SEED: THE CARDS: each row of YtnlonleljbbgoaaGreatDoorRows.lean that lists a variable, with what it lists TIED to the program's text (the seventh form; the later family's looks); each row that meets fmt, with fmt's text TOLD by the authors' own Lean function (tested against real Go, not proved from fmt's source: count such statements apart). THE CARD IS WHAT COUNTS. Prove the row's statement (the work); the ties are given (YtnlonleljbbgoaaGreatDoorTie.lean); close each card by the builder's one call (the guide's Derived/Test/ToyasCard.lean, 'card_holds'). Laid BY PROGRAM, IN A SANDBOX (cutbox-door.mjs). By AI agents, Wed Nov 11 2026. No macro, syntax, notation, axiom, sorry.
-/
import Derived.Test.YtnlonleljbbgoaaGreatDoorRows
import GoSem.ClaimSeven
namespace Go.Proofs.YtnlonleljbbgoaaGreatDoor
namespace Rows

/-- THE TIED CARD OF 'florlaw1.AskQuestions'. -/
def askQuestionsCard : Claim7 := { stood := { row := askQuestionsRow, standIns := [], harness := (true, "9752774afca3e9aba96d0a2bf2dc228465a0d7f22fafb64e9881a572c8d371dc"), looks := true }, kinds := [], alts := [], laidByText := true, laidKinds := [.data, .data, .data, .sentinel, .sentinel], laidTests := true, laidLooks := .later }
def AskQuestionsCardSaid : Prop := Claim7.holds Tryz.pinned (.plain (OpenSpec.ofChange askQuestionsSpec)) askQuestionsCard

/-- THE TIED CARD OF 'florlaw1.AskReads'. -/
def askReadsCard : Claim7 := { stood := { row := askReadsRow, standIns := [], harness := (true, "9752774afca3e9aba96d0a2bf2dc228465a0d7f22fafb64e9881a572c8d371dc"), looks := true }, kinds := [], alts := [], laidByText := true, laidKinds := [.data, .data, .data, .data, .sentinel, .sentinel, .pinned], laidTests := true, laidLooks := .later }
def AskReadsCardSaid : Prop := Claim7.holds Tryz.pinned (.plain (OpenSpec.ofChange askReadsSpec)) askReadsCard

/-- THE TIED CARD OF 'florlaw1.AskHolds'. -/
def askHoldsCard : Claim7 := { stood := { row := askHoldsRow, standIns := [], harness := (true, "9752774afca3e9aba96d0a2bf2dc228465a0d7f22fafb64e9881a572c8d371dc"), looks := true }, kinds := [], alts := [], laidByText := true, laidKinds := [.data, .data, .data, .data, .sentinel, .sentinel, .pinned], laidTests := true, laidLooks := .later }
def AskHoldsCardSaid : Prop := Claim7.holds Tryz.pinned (.plain (OpenSpec.ofChange askHoldsSpec)) askHoldsCard

/-- THE SECOND FORM's CARD OF 'florlaw1.AskQuestions'. -/
def askQuestionsUptoCard : Claim7 := { stood := { row := askQuestionsUptoRow, standIns := [], harness := (true, "9752774afca3e9aba96d0a2bf2dc228465a0d7f22fafb64e9881a572c8d371dc"), looks := true }, kinds := [], alts := [], laidByText := true, laidKinds := [.data, .data, .data, .sentinel, .sentinel], laidTests := true, laidLooks := .later }
def AskQuestionsUptoCardSaid : Prop := Claim7.holds Tryz.pinned (.plain (OpenSpec.upto askQuestionsSpec)) askQuestionsUptoCard

/-- THE SECOND FORM's CARD OF 'florlaw1.AskReads'. -/
def askReadsUptoCard : Claim7 := { stood := { row := askReadsUptoRow, standIns := [], harness := (true, "9752774afca3e9aba96d0a2bf2dc228465a0d7f22fafb64e9881a572c8d371dc"), looks := true }, kinds := [], alts := [], laidByText := true, laidKinds := [.data, .data, .data, .data, .sentinel, .sentinel, .pinned], laidTests := true, laidLooks := .later }
def AskReadsUptoCardSaid : Prop := Claim7.holds Tryz.pinned (.plain (OpenSpec.upto askReadsSpec)) askReadsUptoCard

/-- THE SECOND FORM's CARD OF 'florlaw1.AskHolds'. -/
def askHoldsUptoCard : Claim7 := { stood := { row := askHoldsUptoRow, standIns := [], harness := (true, "9752774afca3e9aba96d0a2bf2dc228465a0d7f22fafb64e9881a572c8d371dc"), looks := true }, kinds := [], alts := [], laidByText := true, laidKinds := [.data, .data, .data, .data, .sentinel, .sentinel, .pinned], laidTests := true, laidLooks := .later }
def AskHoldsUptoCardSaid : Prop := Claim7.holds Tryz.pinned (.plain (OpenSpec.upto askHoldsSpec)) askHoldsUptoCard
end Rows
end Go.Proofs.YtnlonleljbbgoaaGreatDoor
