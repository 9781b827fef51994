/-
  DERIVED. A start for the witnesses: the two listed variables (TreeOutlineReads) hold what their initialisers lay. Conditions: none. By an AI agent.
-/
import Derived.Test.YtghadhdmbcigpaaDoorRows
import Derived.Test.YtghadhdmbcigpaaDoorCards
import Derived.Test.YtghadhdmbcigpaaDoorTie
import Derived.Deep.DeepHandedRow
import Derived.Deep.DeepWitnessRowRef
import Derived.Lib.LaidTab
import Derived.ProofKit
namespace Go.Proofs.YtghadhdmbcigpaaDoor
open Go.RowKit

/-- the witness: the settled world, the three listed variables holding what their initialisers lay -/
noncomputable def laidWorldT (os : Os) : World :=
  let w0 := World.holding Tryd.prog os ⟨#[], #[], []⟩
  let put (h : Array Obj) (g : Nat) (cs : Array Value) : Array Obj := h.modify g fun
    | .cells _ t frozen => .cells cs t frozen
    | o => o
  let h1 := put w0.heap 2 ((([0, 1, 28, 2, 29, 14, 24, 3, 30, 22, 20, 15, 25, 17, 4, 8, 31, 27, 13, 23, 21, 19, 16, 7, 26, 12, 18, 6, 11, 5, 10, 9] : List Int)).map (Value.int .u8)).toArray
  let h2 := put h1 3 ((([0, 1, 56, 2, 57, 49, 28, 3, 61, 58, 42, 50, 38, 29, 17, 4, 62, 47, 59, 36, 45, 43, 51, 22, 53, 39, 33, 30, 24, 18, 12, 5, 63, 55, 48, 27, 60, 41, 37, 16, 46, 35, 44, 21, 52, 32, 23, 11, 54, 26, 40, 15, 34, 20, 31, 10, 25, 14, 19, 9, 13, 8, 7, 6] : List Int)).map (Value.int .u8)).toArray
  let h3 := put h2 1 (((List.range 20).map fun k => Value.int .u64 ((10 ^ k : Nat) : Int))).toArray
  { w0 with heap := h3 }
end Go.Proofs.YtghadhdmbcigpaaDoor
