/-
  DERIVED. A start for the witnesses: the seven listed variables (TextExcerpts) hold what their initialisers lay. Conditions: none. By an AI agent.
-/
import Derived.Test.YtiplhngpilcijaaDoorRows
import Derived.Test.YtiplhngpilcijaaDoorCards
import Derived.Test.YtiplhngpilcijaaDoorTie
import Derived.Deep.DeepHandedRow
import Derived.Deep.DeepWitnessRowRef
import Derived.Lib.LaidTab
import Derived.ProofKit
namespace Go.Proofs.YtiplhngpilcijaaDoor
open Go.RowKit

/-- the witness: the settled world with two blocks more (the two errors), the seven variables holding what their initialisers lay -/
noncomputable def laidWorldU (os : Os) : World :=
  let N := (World.settled Tryd.prog os).heap.size
  let w0 := World.holding Tryd.prog os ⟨#[.cells #[.string "value out of range".toUTF8] 116, .cells #[.string "invalid syntax".toUTF8] 116], #[], []⟩
  let put (h : Array Obj) (g : Nat) (cs : Array Value) : Array Obj := h.modify g fun
    | .cells _ t frozen => .cells cs t frozen
    | o => o
  let h1 := put w0.heap 6 ((([0, 1, 28, 2, 29, 14, 24, 3, 30, 22, 20, 15, 25, 17, 4, 8, 31, 27, 13, 23, 21, 19, 16, 7, 26, 12, 18, 6, 11, 5, 10, 9] : List Int)).map (Value.int .u8)).toArray
  let h2 := put h1 7 ((([0, 1, 56, 2, 57, 49, 28, 3, 61, 58, 42, 50, 38, 29, 17, 4, 62, 47, 59, 36, 45, 43, 51, 22, 53, 39, 33, 30, 24, 18, 12, 5, 63, 55, 48, 27, 60, 41, 37, 16, 46, 35, 44, 21, 52, 32, 23, 11, 54, 26, 40, 15, 34, 20, 31, 10, 25, 14, 19, 9, 13, 8, 7, 6] : List Int)).map (Value.int .u8)).toArray
  let h3 := put h2 0 (((List.range 20).map fun k => Value.int .u64 ((10 ^ k : Nat) : Int))).toArray
  let h4 := put h3 3 #[.iface 114 (.pointer (some ⟨N, 0, none⟩))]
  let h5 := put h4 2 #[.iface 114 (.pointer (some ⟨N + 1, 0, none⟩))]
  let h6 := put h5 5 ((([128, 191, 160, 191, 128, 159, 144, 191, 128, 143, 0, 0, 0, 0, 0, 0, 0, 0, 0, 0, 0, 0, 0, 0, 0, 0, 0, 0, 0, 0, 0, 0] : List Int)).map (Value.int .u8)).toArray
  let h7 := put h6 4 ((Go.Pinned.utf8FirstZ.map fun k => Value.int .u8 ((k : Nat) : Int))).toArray
  { w0 with heap := h7 }
end Go.Proofs.YtiplhngpilcijaaDoor
