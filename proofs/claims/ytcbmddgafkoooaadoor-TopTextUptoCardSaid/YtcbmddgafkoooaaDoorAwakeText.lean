/-
  DERIVED. florkeep1.awakeText. Conditions: none. By an AI agent.
-/
import Derived.Test.YtcbmddgafkoooaaDoorPlainOf
namespace Go.Proofs.YtcbmddgafkoooaaDoor
open Go.RowKit

theorem plain_a : plain ⟨#[97]⟩ = ⟨#[97]⟩ := by decide +kernel

set_option maxHeartbeats 400000 in
theorem awakeText_any (w : World) : Calls Tryd.prog 8 #[] w fun e w' => e = .returned (.bool true) ∧ Below w.heap.size w w' := by
  go_enter Tryd.func8, Tryd.ntmps8
  go_wp2_with fail
  refine (plainOf_any ⟨#[97]⟩ _ (by decide)).mono ?_
  rintro e w1 ⟨rfl, hb⟩
  rw [plain_a]
  have HB := Lib.hid hb
  clear hb
  go_wp2
  go_ret
  exact ⟨rfl, HB.out⟩
end Go.Proofs.YtcbmddgafkoooaaDoor
