/-
  DERIVED. Plain law: the sorts of bytes. Conditions: none. By an AI agent.
-/
import Derived.WalkKit
namespace Go.Proofs.YtcbmddgafkoooaaDoor
open Go.RowKit

theorem ret_boolS {a b : Bool} (h : a = b) : Ending.returned (.bool a) = .returned (.bool b) := by rw [h]
def letB (n : Int) : Bool := decide (97 ≤ n ∧ n ≤ 122 ∨ 65 ≤ n ∧ n ≤ 90 ∨ 128 ≤ n)
def digB (n : Int) : Bool := decide (48 ≤ n ∧ n ≤ 57)
def punB (n : Int) : Bool := decide (33 ≤ n ∧ n ≤ 47 ∨ 58 ≤ n ∧ n ≤ 64 ∨ 91 ≤ n ∧ n ≤ 96 ∨ 123 ≤ n ∧ n ≤ 126)
def tgtB (n : Int) : Bool := decide (32 ≤ n ∧ n ≠ 91 ∧ n ≠ 93 ∧ n ≠ 124 ∧ n ≠ 96)
def tagB (n : Int) : Bool := decide ((97 ≤ n ∧ n ≤ 122 ∨ 65 ≤ n ∧ n ≤ 90 ∨ 128 ≤ n) ∨ (48 ≤ n ∧ n ≤ 57) ∨ n = 95 ∨ n = 45 ∨ n = 47)
end Go.Proofs.YtcbmddgafkoooaaDoor
