/-
  DERIVED. The walks of the functions that sort bytes. Conditions: a byte. By an AI agent.
-/
import Derived.Test.YtcbmddgafkoooaaDoorBase
import Derived.Test.YtcbmddgafkoooaaDoorSorts
import Derived.Test.YtcbmddgafkoooaaDoorChecked
namespace Go.Proofs.YtcbmddgafkoooaaDoor
open Go.RowKit

set_option maxHeartbeats 400000 in
theorem isLetter_any (n : Int) (w : World) (_h0 : 0 ≤ n) (_h1 : n ≤ 255) : Calls Tryd.prog 90 #[.int .u8 n] w fun e w' => e = .returned (.bool (letB n)) ∧ w = w' := by
  go_enter Tryd.func90, Tryd.ntmps90
  go_wp2
  all_goals go_ret
  all_goals exact ⟨ret_boolS (by rw [Bool.eq_iff_iff]; simp [letB] <;> omega), rfl⟩

set_option maxHeartbeats 400000 in
theorem isDigit_any (n : Int) (w : World) (_h0 : 0 ≤ n) (_h1 : n ≤ 255) : Calls Tryd.prog 88 #[.int .u8 n] w fun e w' => e = .returned (.bool (digB n)) ∧ w = w' := by
  go_enter Tryd.func88, Tryd.ntmps88
  go_wp2
  all_goals go_ret
  all_goals exact ⟨ret_boolS (by rw [Bool.eq_iff_iff]; simp [digB] <;> omega), rfl⟩

set_option maxHeartbeats 400000 in
theorem isPunct_any (n : Int) (w : World) (_h0 : 0 ≤ n) (_h1 : n ≤ 255) : Calls Tryd.prog 87 #[.int .u8 n] w fun e w' => e = .returned (.bool (punB n)) ∧ w = w' := by
  go_enter Tryd.func87, Tryd.ntmps87
  go_wp2
  all_goals go_ret
  all_goals exact ⟨ret_boolS (by rw [Bool.eq_iff_iff]; simp [punB] <;> omega), rfl⟩

set_option maxHeartbeats 400000 in
theorem inTarget_any (n : Int) (w : World) (_h0 : 0 ≤ n) (_h1 : n ≤ 255) : Calls Tryd.prog 60 #[.int .u8 n] w fun e w' => e = .returned (.bool (tgtB n)) ∧ w = w' := by
  go_enter Tryd.func60, Tryd.ntmps60
  go_wp2
  all_goals go_ret
  all_goals exact ⟨ret_boolS (by rw [Bool.eq_iff_iff]; simp [tgtB] <;> omega), rfl⟩

set_option maxHeartbeats 400000 in
theorem rLetter_any (n : Int) (w : World) (_h0 : 0 ≤ n) (_h1 : n ≤ 255) : Calls Tryd.prog 79 #[.int .u8 n] w fun e w' => e = .returned (.bool (letB n)) ∧ w = w' := by
  go_enter Tryd.func79, Tryd.ntmps79
  go_wp2
  all_goals go_ret
  all_goals exact ⟨ret_boolS (by rw [Bool.eq_iff_iff]; simp [letB] <;> omega), rfl⟩

set_option maxHeartbeats 400000 in
theorem rDigit_any (n : Int) (w : World) (_h0 : 0 ≤ n) (_h1 : n ≤ 255) : Calls Tryd.prog 78 #[.int .u8 n] w fun e w' => e = .returned (.bool (digB n)) ∧ w = w' := by
  go_enter Tryd.func78, Tryd.ntmps78
  go_wp2
  all_goals go_ret
  all_goals exact ⟨ret_boolS (by rw [Bool.eq_iff_iff]; simp [digB] <;> omega), rfl⟩

set_option maxHeartbeats 400000 in
theorem rPunct_any (n : Int) (w : World) (_h0 : 0 ≤ n) (_h1 : n ≤ 255) : Calls Tryd.prog 75 #[.int .u8 n] w fun e w' => e = .returned (.bool (punB n)) ∧ w = w' := by
  go_enter Tryd.func75, Tryd.ntmps75
  go_wp2
  all_goals go_ret
  all_goals exact ⟨ret_boolS (by rw [Bool.eq_iff_iff]; simp [punB] <;> omega), rfl⟩

end Go.Proofs.YtcbmddgafkoooaaDoor
