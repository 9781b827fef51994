/-
  DERIVED. A start for the witnesses: the four listed variables (CopyOps) hold what their initialisers lay. Conditions: none. By an AI agent.
-/
import Derived.Test.YtinllchioeldbaaGreatDoorRows
import Derived.Test.YtinllchioeldbaaGreatDoorCards
import Derived.Test.YtinllchioeldbaaGreatDoorTie
import Derived.Deep.DeepHandedRow
import Derived.Deep.DeepWitnessRowRef
import Derived.Lib.LaidTab
import Derived.ProofKit
namespace Go.Proofs.YtinllchioeldbaaGreatDoor
open Go.RowKit

/-- the witness: the settled world with a block more (the words of the kinds), the four variables holding what their initialisers lay -/
noncomputable def laidWorldC (os : Os) : World :=
  let N := (World.settled Tryz.prog os).heap.size
  let w0 := World.holding Tryz.prog os ⟨#[.cells #[.string ⟨#[]⟩, .string ⟨#[105, 110, 115, 101, 114, 116]⟩, .string ⟨#[109, 111, 118, 101]⟩, .string ⟨#[114, 101, 109, 111, 118, 101]⟩, .string ⟨#[116, 121, 112, 101]⟩, .string ⟨#[101, 114, 97, 115, 101]⟩, .string ⟨#[115, 101, 116]⟩] 9], #[], []⟩
  let put (h : Array Obj) (g : Nat) (cs : Array Value) : Array Obj := h.modify g fun
    | .cells _ t frozen => .cells cs t frozen
    | o => o
  let h1 := put w0.heap 3 ((([0, 1, 28, 2, 29, 14, 24, 3, 30, 22, 20, 15, 25, 17, 4, 8, 31, 27, 13, 23, 21, 19, 16, 7, 26, 12, 18, 6, 11, 5, 10, 9] : List Int)).map (Value.int .u8)).toArray
  let h2 := put h1 4 ((([0, 1, 56, 2, 57, 49, 28, 3, 61, 58, 42, 50, 38, 29, 17, 4, 62, 47, 59, 36, 45, 43, 51, 22, 53, 39, 33, 30, 24, 18, 12, 5, 63, 55, 48, 27, 60, 41, 37, 16, 46, 35, 44, 21, 52, 32, 23, 11, 54, 26, 40, 15, 34, 20, 31, 10, 25, 14, 19, 9, 13, 8, 7, 6] : List Int)).map (Value.int .u8)).toArray
  let h3 := put h2 2 (((List.range 20).map fun k => Value.int .u64 ((10 ^ k : Nat) : Int))).toArray
  let h4 := put h3 0 #[.slice (some ⟨N, 0, none⟩) 7 7]
  { w0 with heap := h4 }
end Go.Proofs.YtinllchioeldbaaGreatDoor
