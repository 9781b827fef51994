/-
  DERIVED. The walk of florkeep2.awakeProp. Conditions: none. By an AI agent.
-/
import Derived.Test.YteichcpbfdjjkaaBsSmallP
namespace Go.Proofs.Yteichcpbfdjjkaa
open Go.RowKit

set_option maxHeartbeats 400000 in
theorem dayOf_zero (w : World) :
    Calls Try.prog 8 #[.int .i64 0, .int .i64 0, .int .i64 0] w fun e w' => e = .returned (.tuple #[.int .i64 0, .int .i64 2]) ∧ w' = w := by
  go_enter Try.func8, Try.ntmps8
  go_wp2_with fail
  refine (outsideP_any 0 2001 9999 w).mono ?_
  rintro e w1 ⟨rfl, hw1⟩
  rw [hw1, show decide ((0 : Int) < 2001 ∨ (9999 : Int) < 0) = true from by decide]
  clear hw1
  go_wp2_with fail
  exact bodyPost_ret (v := .tuple #[.int .i64 0, .int .i64 2]) (by simp [results, Try.results8, go_sem]) rfl ⟨rfl, rfl⟩
set_option maxHeartbeats 400000 in
theorem awakeProp_any (w : World) :
    Calls Try.prog 4 #[] w fun e w' => e = .returned (.bool true) ∧ w' = w := by
  go_enter Try.func4, Try.ntmps4
  go_wp2_with fail
  refine (dayOf_zero w).mono ?_
  rintro e w1 ⟨rfl, hw1⟩
  rw [hw1]
  clear hw1
  go_wp2_with fail
  go_ret
  exact ⟨rfl, rfl⟩
end Go.Proofs.Yteichcpbfdjjkaa
