/-
  DERIVED. Plain law: where a mark is after an edit; the list of marks after so many rounds. Conditions: none. By an AI agent.
-/
import Derived.WalkKit
namespace Go.Proofs.YtcbmddgafkoooaaDoor
open Go.RowKit

theorem ret_int {k : IntKind} {a b : Int} (h : a = b) : Ending.returned (.int k a) = .returned (.int k b) := by rw [h]
theorem ret_bool {a b : Bool} (h : a = b) : Ending.returned (.bool a) = .returned (.bool b) := by rw [h]

/-- where a mark is after an edit -/
def shf (m f t n : Int) (b : Bool) : Int :=
  if 0 ≤ m ∧ m ≤ 2000 ∧ 0 ≤ f ∧ f ≤ t then (if m < f then m else if t < m then m + n - (t - f) else if b then f + n else f) else m

theorem shf_out {m f t n : Int} {b : Bool} (h : ¬ (0 ≤ m ∧ m ≤ 2000 ∧ 0 ≤ f ∧ f ≤ t)) : shf m f t n b = m := by unfold shf; rw [if_neg h]
theorem shf_before {m f t n : Int} {b : Bool} (h : m < f) : shf m f t n b = m := by unfold shf; split <;> simp_all
theorem shf_behind {m f t n : Int} {b : Bool} (h0 : 0 ≤ m) (h1 : m ≤ 2000) (h2 : 0 ≤ f) (h3 : f ≤ t) (h : t < m) : shf m f t n b = m + n - (t - f) := by
  unfold shf; rw [if_pos ⟨h0, h1, h2, h3⟩, if_neg (by omega), if_pos h]
theorem shf_in {m f t n : Int} {b : Bool} (h0 : 0 ≤ m) (h1 : m ≤ 2000) (h2 : 0 ≤ f) (h3 : f ≤ t) (h : ¬ m < f) (h' : ¬ t < m) : shf m f t n b = if b then f + n else f := by
  unfold shf; rw [if_pos ⟨h0, h1, h2, h3⟩, if_neg (by omega), if_neg h']

end Go.Proofs.YtcbmddgafkoooaaDoor
