/-
  DERIVED. The walk of text.Check. Conditions: a length in reach. By an AI agent.
-/
import Derived.Test.YtbkhnfdfdgdfkaaCtl
namespace Go.Proofs.Ytbkhnfdfdgdfkaa
open Go.RowKit

def chkE (s : ByteArray) : Int := if 2000 < s.size then 4 else if ctl s = true then 9 else 0
set_option maxHeartbeats 400000 in
theorem check_any (s : ByteArray) (w : World) (hs : s.size ≤ 140737488351232) :
    Calls Try.prog 51 #[.string s] w fun e w' => e = .returned (.int .i64 (chkE s)) ∧ w = w' := by
  by_cases h : 2000 < s.size
  · have HV : Hid (chkE s = 4) := by show _ = _; unfold chkE; rw [if_pos h]
    have h' : (2000 : Int) < (s.size : Int) := by omega
    clear h
    go_enter Try.func51, Try.ntmps51
    go_wp2
    go_ret
    exact ⟨by rw [HV.out]; rfl, rfl⟩
  · have h' : ¬ (2000 : Int) < (s.size : Int) := by omega
    cases hc : ctl s
    · have HV : Hid (chkE s = 0) := by show _ = _; unfold chkE; rw [if_neg h, if_neg (by rw [hc]; decide)]
      clear h
      go_enter Try.func51, Try.ntmps51
      go_wp2_with fail
      refine (hasControl_any s _ hs).mono ?_
      rintro e w1 ⟨rfl, hw⟩
      rw [hc, ← hw]
      clear hw
      go_wp2
      go_ret
      exact ⟨by rw [HV.out]; rfl, rfl⟩
    · have HV : Hid (chkE s = 9) := by show _ = _; unfold chkE; rw [if_neg h, if_pos hc]
      clear h
      go_enter Try.func51, Try.ntmps51
      go_wp2_with fail
      refine (hasControl_any s _ hs).mono ?_
      rintro e w1 ⟨rfl, hw⟩
      rw [hc, ← hw]
      clear hw
      go_wp2
      go_ret
      exact ⟨by rw [HV.out]; rfl, rfl⟩
end Go.Proofs.Ytbkhnfdfdgdfkaa
