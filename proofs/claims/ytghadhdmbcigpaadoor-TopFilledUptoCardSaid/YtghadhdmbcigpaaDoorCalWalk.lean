/-
  DERIVED. The walks of prop.outside, prop.before, prop.leap, prop.lengths. Conditions: years from 2001 to 2700. By an AI agent.
-/
import Derived.Test.YtghadhdmbcigpaaDoorBase
import Derived.Test.YtghadhdmbcigpaaDoorCal
import Derived.Test.YtghadhdmbcigpaaDoorChecked
namespace Go.Proofs.YtghadhdmbcigpaaDoor
open Go.RowKit cal

set_option maxHeartbeats 400000 in
theorem outside_no (n a b : Int) (w : World) (h : a ≤ n) (h' : n ≤ b) :
    Calls Tryd.prog 52 #[.int .i64 n, .int .i64 a, .int .i64 b] w fun e w' => e = .returned (.bool false) ∧ w = w' := by
  have h1 : decide (n < a) = false := by simp; omega
  have h2 : decide (b < n) = false := by simp; omega
  go_enter Tryd.func52, Tryd.ntmps52
  go_wp2
  go_ret
  exact ⟨rfl, rfl⟩
set_option maxHeartbeats 400000 in
theorem outside_yes (n a b : Int) (w : World) (h : n < a ∨ b < n) :
    Calls Tryd.prog 52 #[.int .i64 n, .int .i64 a, .int .i64 b] w fun e w' => e = .returned (.bool true) ∧ w = w' := by
  by_cases h1 : n < a
  · clear h
    go_enter Tryd.func52, Tryd.ntmps52
    go_wp2
    go_ret
    exact ⟨rfl, rfl⟩
  · have h2 : b < n := by omega
    have h3 : a ≤ n := by omega
    clear h h1
    go_enter Tryd.func52, Tryd.ntmps52
    go_wp2
    go_ret
    exact ⟨rfl, rfl⟩

set_option maxHeartbeats 400000 in
theorem before_any (y : Int) (w : World) (h : 2001 ≤ y) (h' : y ≤ 2700) :
    Calls Tryd.prog 59 #[.int .i64 y] w fun e w' => e = .returned (.int .i64 (bef y)) ∧ w = w' := by
  go_enter Tryd.func59, Tryd.ntmps59
  go_wp2
  go_ret
  refine ⟨?_, rfl⟩
  show Ending.returned (.int .i64 _) = _
  rw [show bef y = 365 * (y - 1 - 2000) + (y - 1) / 4 - 500 - (y - 1) / 100 + 20 + (y - 1) / 400 - 5 by unfold bef; omega]

/-- is it a leap year -/
def lpB (y : Int) : Bool := lp y == 1
set_option maxHeartbeats 400000 in
theorem leap_any (y : Int) (w : World) (h : 2001 ≤ y) (h' : y ≤ 2700) :
    Calls Tryd.prog 67 #[.int .i64 y] w fun e w' => e = .returned (.bool (lpB y)) ∧ w = w' := by
  have hc : ∃ v, lpB y = v ∧ (y % 4 ≠ 0 ∧ v = false ∨ y % 4 = 0 ∧ y % 100 ≠ 0 ∧ v = true ∨ y % 4 = 0 ∧ y % 100 = 0 ∧ y % 400 = 0 ∧ v = true ∨ y % 4 = 0 ∧ y % 100 = 0 ∧ y % 400 ≠ 0 ∧ v = false) := by
    refine ⟨_, rfl, ?_⟩
    unfold lpB lp
    by_cases h1 : y % 4 = 0 <;> by_cases h2 : y % 100 = 0 <;> by_cases h3 : y % 400 = 0 <;> simp [h1, h2, h3]
  obtain ⟨v, hv, hc⟩ := hc
  rw [hv]
  clear hv
  rcases hc with ⟨h1, rfl⟩ | ⟨h1, h2, rfl⟩ | ⟨h1, h2, h3, rfl⟩ | ⟨h1, h2, h3, rfl⟩
  · have g1 : (y % 4 == 0) = false := by simpa using h1
    clear h1
    go_enter Tryd.func67, Tryd.ntmps67
    go_wp2
    go_ret
    exact ⟨rfl, rfl⟩
  · have g1 : (y % 4 == 0) = true := by simpa using h1
    have g2 : (y % 100 != 0) = true := by simpa using h2
    clear h1 h2
    go_enter Tryd.func67, Tryd.ntmps67
    go_wp2
    go_ret
    exact ⟨rfl, rfl⟩
  · have g1 : (y % 4 == 0) = true := by simpa using h1
    have g2 : (y % 100 != 0) = false := by simpa using h2
    have g3 : (y % 400 == 0) = true := by simpa using h3
    clear h1 h2 h3
    go_enter Tryd.func67, Tryd.ntmps67
    go_wp2
    go_ret
    exact ⟨rfl, rfl⟩
  · have g1 : (y % 4 == 0) = true := by simpa using h1
    have g2 : (y % 100 != 0) = false := by simpa using h2
    have g3 : (y % 400 == 0) = false := by simpa using h3
    clear h1 h2 h3
    go_enter Tryd.func67, Tryd.ntmps67
    go_wp2
    go_ret
    exact ⟨rfl, rfl⟩

def lenL (y : Int) : List Value := [.int .i64 31, .int .i64 (28 + lp y), .int .i64 31, .int .i64 30, .int .i64 31, .int .i64 30, .int .i64 31, .int .i64 31, .int .i64 30, .int .i64 31, .int .i64 30, .int .i64 31]

set_option maxHeartbeats 1000000 in
theorem lengths_any (y : Int) (w : World) (h : 2001 ≤ y) (h' : y ≤ 2700) :
    Calls Tryd.prog 60 #[.int .i64 y] w fun e w' => e = .returned (.agg (lenL y).toArray) ∧ Below w.heap.size w w' := by
  rcases lp_01 y with hl | hl
  · have hb : lpB y = false := by unfold lpB; rw [hl]; rfl
    have HL := Lib.hid hl
    clear hl
    go_enter Tryd.func60, Tryd.ntmps60
    go_wp2_with (go_at_call 67; refine (leap_any y _ h h').mono ?_; rintro e w1 ⟨rfl, rfl⟩)
    refine bodyPost_ret (v := .agg #[.int .i64 31, .int .i64 28, .int .i64 31, .int .i64 30, .int .i64 31, .int .i64 30, .int .i64 31, .int .i64 31, .int .i64 30, .int .i64 31, .int .i64 30, .int .i64 31]) (by simp [results, Tryd.results60, go_sem]) rfl ⟨?_, ?_⟩
    · unfold lenL
      rw [HL.out]
      rfl
    · exact ((Below.refl _ _).alloc (Nat.le_refl _) _).alloc (by simp) _
  · have hb : lpB y = true := by unfold lpB; rw [hl]; rfl
    have HL := Lib.hid hl
    clear hl
    go_enter Tryd.func60, Tryd.ntmps60
    go_wp2_with (go_at_call 67; refine (leap_any y _ h h').mono ?_; rintro e w1 ⟨rfl, rfl⟩)
    refine bodyPost_ret (v := .agg #[.int .i64 31, .int .i64 29, .int .i64 31, .int .i64 30, .int .i64 31, .int .i64 30, .int .i64 31, .int .i64 31, .int .i64 30, .int .i64 31, .int .i64 30, .int .i64 31]) (by simp [results, Tryd.results60, go_sem]) rfl ⟨?_, ?_⟩
    · unfold lenL
      rw [HL.out]
      rfl
    · exact ((Below.refl _ _).alloc (Nat.le_refl _) _).alloc (by simp) _
end Go.Proofs.YtghadhdmbcigpaaDoor
