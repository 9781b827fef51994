/-
  DERIVED. GIVEN WITH THE SEED: THE CARDS: each row of YtcbmddgafkoooaaGreatDoorRows.lean that lists a variable, with what it lists TIED to the program's text (the seventh form; the later family's looks); each row that meets fmt, with fmt's text TOLD by the authors' own Lean function (tested against real Go, not proved from fmt's source: count such statements apart). THE CARD IS WHAT COUNTS. Prove the row's statement (the work); the ties are given (YtcbmddgafkoooaaGreatDoorTie.lean); close each card by the builder's one call (the guide's Derived/Test/ToyasCard.lean, 'card_holds'). Laid BY PROGRAM, IN A SANDBOX (cutbox-door.mjs). By AI agents, Wed Nov 11 2026. No macro, syntax, notation, axiom, sorry.
-/
import Derived.Test.YtcbmddgafkoooaaGreatDoorRows
import GoSem.ClaimSeven
namespace Go.Proofs.YtcbmddgafkoooaaGreatDoor
namespace Rows

/-- THE TIED CARD OF 'florlaw1.TextSpans'. -/
def textSpansCard : Claim7 := { stood := { row := textSpansRow, standIns := [], harness := (true, "73ea3804c45115b3c4d432ad7baf53e9b175162a4eb45849b5dfeddc1f75058c"), looks := true }, kinds := [], alts := [], laidByText := true, laidKinds := [.data, .data, .data, .sentinel, .sentinel], laidTests := true, laidLooks := .later }
def TextSpansCardSaid : Prop := Claim7.holds Tryz.pinned (.plain (OpenSpec.ofChange textSpansSpec)) textSpansCard

/-- THE TIED CARD OF 'florlaw1.TextExcerpts'. -/
def textExcerptsCard : Claim7 := { stood := { row := textExcerptsRow, standIns := [], harness := (true, "73ea3804c45115b3c4d432ad7baf53e9b175162a4eb45849b5dfeddc1f75058c"), looks := true }, kinds := [], alts := [], laidByText := true, laidKinds := [.data, .data, .data, .data, .sentinel, .sentinel, .pinned], laidTests := true, laidLooks := .later }
def TextExcerptsCardSaid : Prop := Claim7.holds Tryz.pinned (.plain (OpenSpec.ofChange textExcerptsSpec)) textExcerptsCard

/-- THE SECOND FORM's CARD OF 'florlaw1.TextSpans'. -/
def textSpansUptoCard : Claim7 := { stood := { row := textSpansUptoRow, standIns := [], harness := (true, "73ea3804c45115b3c4d432ad7baf53e9b175162a4eb45849b5dfeddc1f75058c"), looks := true }, kinds := [], alts := [], laidByText := true, laidKinds := [.data, .data, .data, .sentinel, .sentinel], laidTests := true, laidLooks := .later }
def TextSpansUptoCardSaid : Prop := Claim7.holds Tryz.pinned (.plain (OpenSpec.upto textSpansSpec)) textSpansUptoCard

/-- THE SECOND FORM's CARD OF 'florlaw1.TextExcerpts'. -/
def textExcerptsUptoCard : Claim7 := { stood := { row := textExcerptsUptoRow, standIns := [], harness := (true, "73ea3804c45115b3c4d432ad7baf53e9b175162a4eb45849b5dfeddc1f75058c"), looks := true }, kinds := [], alts := [], laidByText := true, laidKinds := [.data, .data, .data, .data, .sentinel, .sentinel, .pinned], laidTests := true, laidLooks := .later }
def TextExcerptsUptoCardSaid : Prop := Claim7.holds Tryz.pinned (.plain (OpenSpec.upto textExcerptsSpec)) textExcerptsUptoCard
end Rows
end Go.Proofs.YtcbmddgafkoooaaGreatDoor
