/-
  DERIVED. The walks of small functions of a base's check: inRange, prop.outside, the reference's TextError. Conditions: sizes. By an AI agent.
-/
import Derived.Test.YtbkhnfdfdgdfkaaCheckText
import Derived.Test.YtbkhnfdfdgdfkaaCtlRef
import Derived.Test.YtbkhnfdfdgdfkaaBsMem
namespace Go.Proofs.Ytbkhnfdfdgdfkaa
open Go.RowKit

/-- the error of a text -/
def txErr (s : ByteArray) : Int := if 2000 < s.size then 4 else if ctl s = true then 9 else 0

set_option maxHeartbeats 400000 in
theorem inRange_any (n a b : Int) (w : World) :
    Calls Try.prog 24 #[.int .i64 n, .int .i64 a, .int .i64 b] w fun e w' => e = .returned (.bool (decide (a ≤ n ∧ n ≤ b))) ∧ w' = w := by
  by_cases h1 : a ≤ n
  · by_cases h2 : n ≤ b
    · rw [decide_eq_true ⟨h1, h2⟩]
      go_enter Try.func24, Try.ntmps24
      go_wp2
      go_ret
      exact ⟨rfl, rfl⟩
    · rw [decide_eq_false (fun h => h2 h.2)]
      go_enter Try.func24, Try.ntmps24
      go_wp2
      go_ret
      exact ⟨rfl, rfl⟩
  · rw [decide_eq_false (fun h => h1 h.1)]
    go_enter Try.func24, Try.ntmps24
    go_wp2
    go_ret
    exact ⟨rfl, rfl⟩
set_option maxHeartbeats 400000 in
theorem outsideP_any (n a b : Int) (w : World) :
    Calls Try.prog 56 #[.int .i64 n, .int .i64 a, .int .i64 b] w fun e w' => e = .returned (.bool (decide (n < a ∨ b < n))) ∧ w' = w := by
  by_cases h1 : n < a
  · rw [decide_eq_true (.inl h1)]
    go_enter Try.func56, Try.ntmps56
    go_wp2
    go_ret
    exact ⟨rfl, rfl⟩
  · by_cases h2 : b < n
    · rw [decide_eq_true (.inr h2)]
      go_enter Try.func56, Try.ntmps56
      go_wp2
      go_ret
      exact ⟨rfl, rfl⟩
    · rw [decide_eq_false (by omega)]
      go_enter Try.func56, Try.ntmps56
      go_wp2
      go_ret
      exact ⟨rfl, rfl⟩
set_option maxHeartbeats 400000 in
theorem textError_any (s : ByteArray) (w : World) :
    Calls Try.prog 25 #[.string s] w fun e w' => e = .returned (.int .i64 (txErr s)) ∧ w' = w := by
  by_cases h1 : 2000 < s.size
  · have hv : txErr s = 4 := if_pos h1
    rw [hv]
    have h1' : (2000 : Int) < (s.size : Int) := by omega
    clear hv
    go_enter Try.func25, Try.ntmps25
    go_wp2_with fail
    go_ret
    exact ⟨rfl, rfl⟩
  · have h1' : ¬ (2000 : Int) < (s.size : Int) := by omega
    have hv : txErr s = if ctl s = true then 9 else 0 := if_neg h1
    rw [hv]
    have HB := Lib.hid (below_any s w (by omega))
    obtain ⟨q, hq⟩ : ∃ q, q = ctl s := ⟨_, rfl⟩
    rw [← hq] at HB ⊢
    clear hv hq
    go_enter Try.func25, Try.ntmps25
    go_wp2_with fail
    refine HB.out.mono ?_
    rintro e w1 ⟨rfl, rfl⟩
    cases q
    · go_wp2_with fail
      go_ret
      exact ⟨rfl, rfl⟩
    · go_wp2_with fail
      go_ret
      exact ⟨rfl, rfl⟩
/-- text.Check, whatever the length -/
theorem checkT_any (s : ByteArray) (w : World) :
    Calls Try.prog 51 #[.string s] w fun e w' => e = .returned (.int .i64 (txErr s)) ∧ w' = w := by
  by_cases h : s.size ≤ 140737488351232
  · exact (check_any s w h).mono fun e w' ⟨h1, h2⟩ => ⟨h1, h2.symm⟩
  · have hv : txErr s = 4 := if_pos (by omega)
    rw [hv]
    have h' : (2000 : Int) < (s.size : Int) := by omega
    clear h hv
    go_enter Try.func51, Try.ntmps51
    go_wp2
    go_ret
    exact ⟨rfl, rfl⟩
end Go.Proofs.Ytbkhnfdfdgdfkaa
