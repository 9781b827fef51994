/-
  DERIVED. GIVEN WITH THE SEED: THE CARDS: each row of YtghadhdmbcigpaaDoorRows.lean that lists a variable, with what it lists TIED to the program's text (the seventh form; the later family's looks); each row that meets fmt, with fmt's text TOLD by the authors' own Lean function (tested against real Go, not proved from fmt's source: count such statements apart). THE CARD IS WHAT COUNTS. Prove the row's statement (the work); the ties are given (YtghadhdmbcigpaaDoorTie.lean); close each card by the builder's one call (the guide's Derived/Test/ToyasCard.lean, 'card_holds'). Laid BY PROGRAM, IN A SANDBOX (cutbox-door.mjs). By AI agents, Wed Nov 11 2026. No macro, syntax, notation, axiom, sorry.
-/
import Derived.Test.YtghadhdmbcigpaaDoorRows
import GoSem.ClaimSeven
namespace Go.Proofs.YtghadhdmbcigpaaDoor
namespace Rows

/-- THE TIED CARD OF 'florkeep2.TemplatePlain'. -/
def templatePlainCard : Claim7 := { stood := { row := templatePlainRow, standIns := [], harness := (true, "14b4e34167b64e9b895addccc19419d5230d9b13885c1627ae6c1c7d6946b76f"), looks := false }, kinds := [], alts := [], laidByText := true, laidKinds := [.data, .data, .data], laidTests := true, laidLooks := .later }
def TemplatePlainCardSaid : Prop := Claim7.holds Tryd.pinned (.plain (OpenSpec.ofChange templatePlainSpec)) templatePlainCard

/-- THE TIED CARD OF 'flortop.TopFilled'. -/
def topFilledCard : Claim7 := { stood := { row := topFilledRow, standIns := [], harness := (true, "14b4e34167b64e9b895addccc19419d5230d9b13885c1627ae6c1c7d6946b76f"), looks := false }, kinds := [], alts := [], laidByText := true, laidKinds := [.data, .data, .data], laidTests := true, laidLooks := .later }
def TopFilledCardSaid : Prop := Claim7.holds Tryd.pinned (.plain (OpenSpec.ofChange topFilledSpec)) topFilledCard

/-- THE SECOND FORM's CARD OF 'florkeep2.TemplatePlain'. -/
def templatePlainUptoCard : Claim7 := { stood := { row := templatePlainUptoRow, standIns := [], harness := (true, "14b4e34167b64e9b895addccc19419d5230d9b13885c1627ae6c1c7d6946b76f"), looks := false }, kinds := [], alts := [], laidByText := true, laidKinds := [.data, .data, .data], laidTests := true, laidLooks := .later }
def TemplatePlainUptoCardSaid : Prop := Claim7.holds Tryd.pinned (.plain (OpenSpec.upto templatePlainSpec)) templatePlainUptoCard

/-- THE SECOND FORM's CARD OF 'flortop.TopFilled'. -/
def topFilledUptoCard : Claim7 := { stood := { row := topFilledUptoRow, standIns := [], harness := (true, "14b4e34167b64e9b895addccc19419d5230d9b13885c1627ae6c1c7d6946b76f"), looks := false }, kinds := [], alts := [], laidByText := true, laidKinds := [.data, .data, .data], laidTests := true, laidLooks := .later }
def TopFilledUptoCardSaid : Prop := Claim7.holds Tryd.pinned (.plain (OpenSpec.upto topFilledSpec)) topFilledUptoCard
end Rows
end Go.Proofs.YtghadhdmbcigpaaDoor
