/-
  DERIVED. The walk of prop.outside. Conditions: none. By an AI agent.
-/
import Derived.Test.YteichcpbfdjjkaaBsMem
import Derived.Test.YteichcpbfdjjkaaCtlPl
import Derived.Test.YteichcpbfdjjkaaChecked
namespace Go.Proofs.Yteichcpbfdjjkaa
open Go.RowKit

/-- the error of a text -/
def txErr (s : ByteArray) : Int := if 2000 < s.size then 4 else if ctl s = true then 9 else 0

set_option maxHeartbeats 400000 in
theorem outsideP_any (n a b : Int) (w : World) :
    Calls Try.prog 21 #[.int .i64 n, .int .i64 a, .int .i64 b] w fun e w' => e = .returned (.bool (decide (n < a ∨ b < n))) ∧ w' = w := by
  by_cases h1 : n < a
  · rw [decide_eq_true (.inl h1)]
    go_enter Try.func21, Try.ntmps21
    go_wp2
    go_ret
    exact ⟨rfl, rfl⟩
  · by_cases h2 : b < n
    · rw [decide_eq_true (.inr h2)]
      go_enter Try.func21, Try.ntmps21
      go_wp2
      go_ret
      exact ⟨rfl, rfl⟩
    · rw [decide_eq_false (by omega)]
      go_enter Try.func21, Try.ntmps21
      go_wp2
      go_ret
      exact ⟨rfl, rfl⟩
end Go.Proofs.Yteichcpbfdjjkaa
