/-
  DERIVED. Bytes that no text has: the plain law. Conditions: none. By an AI agent.
-/
import Derived.Test.YteichcpbfdjjkaaBase
namespace Go.Proofs.Yteichcpbfdjjkaa
open Go.RowKit

theorem ret_bool' {a b : Bool} (h : a = b) : Ending.returned (.bool a) = .returned (.bool b) := by rw [h]
/-- a byte that no text has -/
def ctlB (c : UInt8) : Bool := c.toNat < 32 || c.toNat == 127
def ctl (s : ByteArray) : Bool := s.data.toList.any ctlB
theorem ctl_yes (s : ByteArray) (k : Nat) (h : k < s.size) (hc : ctlB s[k] = true) : ctl s = true := by
  unfold ctl
  exact List.any_eq_true.2 ⟨s[k], by show s.data[k] ∈ _; simp, hc⟩
def ctlTo (s : ByteArray) (k : Nat) : Prop := ∀ j (h : j < s.size), j < k → ctlB s[j] = false
theorem ctl_no (s : ByteArray) (h : ctlTo s s.size) : ctl s = false := by
  unfold ctl
  rw [List.any_eq_false]
  intro c hc
  obtain ⟨j, hj, rfl⟩ := List.mem_iff_getElem.1 hc
  have hj' : j < s.size := by simpa using hj
  have := h j hj' hj'
  have e : s.data.toList[j] = s[j] := by simp; rfl
  rw [e, this]
  decide
theorem ctlTo_succ (s : ByteArray) (k : Nat) (hk : k < s.size) (h : ctlTo s k) (hc : ctlB s[k] = false) : ctlTo s (k + 1) := fun j hj hjk => by
  rcases Nat.lt_succ_iff_lt_or_eq.1 hjk with h1 | rfl
  · exact h j hj h1
  · exact hc
end Go.Proofs.Yteichcpbfdjjkaa
