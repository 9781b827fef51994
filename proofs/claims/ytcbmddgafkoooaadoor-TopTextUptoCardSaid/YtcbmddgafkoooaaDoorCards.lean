/-
  DERIVED. GIVEN WITH THE SEED: THE CARDS: each row of YtcbmddgafkoooaaDoorRows.lean that lists a variable, with what it lists TIED to the program's text (the seventh form; the later family's looks); each row that meets fmt, with fmt's text TOLD by the authors' own Lean function (tested against real Go, not proved from fmt's source: count such statements apart). THE CARD IS WHAT COUNTS. Prove the row's statement (the work); the ties are given (YtcbmddgafkoooaaDoorTie.lean); close each card by the builder's one call (the guide's Derived/Test/ToyasCard.lean, 'card_holds'). Laid BY PROGRAM, IN A SANDBOX (cutbox-door.mjs). By AI agents, Wed Nov 11 2026. No macro, syntax, notation, axiom, sorry.
-/
import Derived.Test.YtcbmddgafkoooaaDoorRows
import GoSem.ClaimSeven
namespace Go.Proofs.YtcbmddgafkoooaaDoor
namespace Rows

/-- THE TIED CARD OF 'florkeep1.TextLed'. -/
def textLedCard : Claim7 := { stood := { row := textLedRow, standIns := [], harness := (true, "4162b85485af04adf2fe4554a7b147221b73a5bc93d63841c64bf2e5e1b0592f"), looks := true }, kinds := [], alts := [], laidByText := true, laidKinds := [.data, .data, .data, .sentinel, .sentinel], laidTests := true, laidLooks := .later }
def TextLedCardSaid : Prop := Claim7.holds Tryd.pinned (.plain (OpenSpec.ofChange textLedSpec)) textLedCard

/-- THE TIED CARD OF 'florkeep1.TextBack'. -/
def textBackCard : Claim7 := { stood := { row := textBackRow, standIns := [], harness := (true, "4162b85485af04adf2fe4554a7b147221b73a5bc93d63841c64bf2e5e1b0592f"), looks := true }, kinds := [], alts := [], laidByText := true, laidKinds := [.data, .data, .data, .sentinel, .sentinel], laidTests := true, laidLooks := .later }
def TextBackCardSaid : Prop := Claim7.holds Tryd.pinned (.plain (OpenSpec.ofChange textBackSpec)) textBackCard

/-- THE TIED CARD OF 'florlaw1.TextSources'. -/
def textSourcesCard : Claim7 := { stood := { row := textSourcesRow, standIns := [], harness := (true, "4162b85485af04adf2fe4554a7b147221b73a5bc93d63841c64bf2e5e1b0592f"), looks := true }, kinds := [], alts := [], laidByText := true, laidKinds := [.data, .data, .data, .sentinel, .sentinel], laidTests := true, laidLooks := .later }
def TextSourcesCardSaid : Prop := Claim7.holds Tryd.pinned (.plain (OpenSpec.ofChange textSourcesSpec)) textSourcesCard

/-- THE TIED CARD OF 'florkeep1.TopText'. -/
def topTextCard : Claim7 := { stood := { row := topTextRow, standIns := [], harness := (true, "4162b85485af04adf2fe4554a7b147221b73a5bc93d63841c64bf2e5e1b0592f"), looks := true }, kinds := [], alts := [], laidByText := true, laidKinds := [.data, .data, .data, .sentinel, .sentinel], laidTests := true, laidLooks := .later }
def TopTextCardSaid : Prop := Claim7.holds Tryd.pinned (.plain (OpenSpec.ofChange topTextSpec)) topTextCard

/-- THE TIED CARD OF 'florlaw1.TextTargets'. -/
def textTargetsCard : Claim7 := { stood := { row := textTargetsRow, standIns := [], harness := (true, "4162b85485af04adf2fe4554a7b147221b73a5bc93d63841c64bf2e5e1b0592f"), looks := true }, kinds := [], alts := [], laidByText := true, laidKinds := [.data, .data, .data, .sentinel, .sentinel], laidTests := true, laidLooks := .later }
def TextTargetsCardSaid : Prop := Claim7.holds Tryd.pinned (.plain (OpenSpec.ofChange textTargetsSpec)) textTargetsCard

/-- THE SECOND FORM's CARD OF 'florkeep1.TextLed'. -/
def textLedUptoCard : Claim7 := { stood := { row := textLedUptoRow, standIns := [], harness := (true, "4162b85485af04adf2fe4554a7b147221b73a5bc93d63841c64bf2e5e1b0592f"), looks := true }, kinds := [], alts := [], laidByText := true, laidKinds := [.data, .data, .data, .sentinel, .sentinel], laidTests := true, laidLooks := .later }
def TextLedUptoCardSaid : Prop := Claim7.holds Tryd.pinned (.plain (OpenSpec.upto textLedSpec)) textLedUptoCard

/-- THE SECOND FORM's CARD OF 'florkeep1.TextBack'. -/
def textBackUptoCard : Claim7 := { stood := { row := textBackUptoRow, standIns := [], harness := (true, "4162b85485af04adf2fe4554a7b147221b73a5bc93d63841c64bf2e5e1b0592f"), looks := true }, kinds := [], alts := [], laidByText := true, laidKinds := [.data, .data, .data, .sentinel, .sentinel], laidTests := true, laidLooks := .later }
def TextBackUptoCardSaid : Prop := Claim7.holds Tryd.pinned (.plain (OpenSpec.upto textBackSpec)) textBackUptoCard

/-- THE SECOND FORM's CARD OF 'florlaw1.TextSources'. -/
def textSourcesUptoCard : Claim7 := { stood := { row := textSourcesUptoRow, standIns := [], harness := (true, "4162b85485af04adf2fe4554a7b147221b73a5bc93d63841c64bf2e5e1b0592f"), looks := true }, kinds := [], alts := [], laidByText := true, laidKinds := [.data, .data, .data, .sentinel, .sentinel], laidTests := true, laidLooks := .later }
def TextSourcesUptoCardSaid : Prop := Claim7.holds Tryd.pinned (.plain (OpenSpec.upto textSourcesSpec)) textSourcesUptoCard

/-- THE SECOND FORM's CARD OF 'florkeep1.TopText'. -/
def topTextUptoCard : Claim7 := { stood := { row := topTextUptoRow, standIns := [], harness := (true, "4162b85485af04adf2fe4554a7b147221b73a5bc93d63841c64bf2e5e1b0592f"), looks := true }, kinds := [], alts := [], laidByText := true, laidKinds := [.data, .data, .data, .sentinel, .sentinel], laidTests := true, laidLooks := .later }
def TopTextUptoCardSaid : Prop := Claim7.holds Tryd.pinned (.plain (OpenSpec.upto topTextSpec)) topTextUptoCard

/-- THE SECOND FORM's CARD OF 'florlaw1.TextTargets'. -/
def textTargetsUptoCard : Claim7 := { stood := { row := textTargetsUptoRow, standIns := [], harness := (true, "4162b85485af04adf2fe4554a7b147221b73a5bc93d63841c64bf2e5e1b0592f"), looks := true }, kinds := [], alts := [], laidByText := true, laidKinds := [.data, .data, .data, .sentinel, .sentinel], laidTests := true, laidLooks := .later }
def TextTargetsUptoCardSaid : Prop := Claim7.holds Tryd.pinned (.plain (OpenSpec.upto textTargetsSpec)) textTargetsUptoCard
end Rows
end Go.Proofs.YtcbmddgafkoooaaDoor
