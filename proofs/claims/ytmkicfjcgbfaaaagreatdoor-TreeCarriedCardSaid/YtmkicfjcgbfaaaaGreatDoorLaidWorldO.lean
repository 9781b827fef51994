/-
  DERIVED. A start for the witnesses: the two listed variables (TreeOutlineReads) hold what their initialisers lay. Conditions: none. By an AI agent.
-/
import Derived.Test.YtmkicfjcgbfaaaaGreatDoorRows
import Derived.Test.YtmkicfjcgbfaaaaGreatDoorCards
import Derived.Test.YtmkicfjcgbfaaaaGreatDoorTie
import Derived.Deep.DeepHandedRow
import Derived.Deep.DeepWitnessRowRef
import Derived.Lib.LaidTab
import Derived.ProofKit
namespace Go.Proofs.YtmkicfjcgbfaaaaGreatDoor
open Go.RowKit

/-- the witness: the settled world, the two variables holding what their initialisers lay -/
noncomputable def laidWorldO (os : Os) : World :=
  let w0 := World.holding Tryz.prog os ⟨#[], #[], []⟩
  let put (h : Array Obj) (g : Nat) (cs : Array Value) : Array Obj := h.modify g fun
    | .cells _ t frozen => .cells cs t frozen
    | o => o
  let h6 := put w0.heap 2 ((([128, 191, 160, 191, 128, 159, 144, 191, 128, 143, 0, 0, 0, 0, 0, 0, 0, 0, 0, 0, 0, 0, 0, 0, 0, 0, 0, 0, 0, 0, 0, 0] : List Int)).map (Value.int .u8)).toArray
  let h7 := put h6 1 ((Go.Pinned.utf8FirstZ.map fun k => Value.int .u8 ((k : Nat) : Int))).toArray
  { w0 with heap := h7 }
end Go.Proofs.YtmkicfjcgbfaaaaGreatDoor
