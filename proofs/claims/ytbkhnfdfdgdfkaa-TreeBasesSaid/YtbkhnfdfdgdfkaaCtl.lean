/-
  DERIVED. The walks of text.hasControl and florref1.below: is there a byte below 32, or 127. Conditions: the length is within the form's reach. By an AI agent.
-/
import Derived.Test.YtbkhnfdfdgdfkaaBase
import Derived.Test.YtbkhnfdfdgdfkaaChecked
namespace Go.Proofs.Ytbkhnfdfdgdfkaa
open Go.RowKit

theorem ret_bool' {a b : Bool} (h : a = b) : Ending.returned (.bool a) = .returned (.bool b) := by rw [h]
/-- a byte that no text has -/
def ctlB (c : UInt8) : Bool := c.toNat < 32 || c.toNat == 127
def ctl (s : ByteArray) : Bool := s.data.toList.any ctlB
theorem ctl_yes (s : ByteArray) (k : Nat) (h : k < s.size) (hc : ctlB s[k] = true) : ctl s = true := by
  unfold ctl
  exact List.any_eq_true.2 ⟨s[k], by show s.data[k] ∈ _; simp, hc⟩
def ctlTo (s : ByteArray) (k : Nat) : Prop := ∀ j (h : j < s.size), j < k → ctlB s[j] = false
theorem ctl_no (s : ByteArray) (h : ctlTo s s.size) : ctl s = false := by
  unfold ctl
  rw [List.any_eq_false]
  intro c hc
  obtain ⟨j, hj, rfl⟩ := List.mem_iff_getElem.1 hc
  have hj' : j < s.size := by simpa using hj
  have := h j hj' hj'
  have e : s.data.toList[j] = s[j] := by simp; rfl
  rw [e, this]
  decide
theorem ctlTo_succ (s : ByteArray) (k : Nat) (hk : k < s.size) (h : ctlTo s k) (hc : ctlB s[k] = false) : ctlTo s (k + 1) := fun j hj hjk => by
  rcases Nat.lt_succ_iff_lt_or_eq.1 hjk with h1 | rfl
  · exact h j hj h1
  · exact hc

theorem ctlB_low {c : UInt8} (h : (c.toNat : Int) < 32) : ctlB c = true := by unfold ctlB; simp; omega
theorem ctlB_del {c : UInt8} (h : ((c.toNat : Int) == 127) = true) : ctlB c = true := by unfold ctlB; simp at h ⊢; omega
theorem ctlB_not {c : UInt8} (h : (32 : Int) ≤ c.toNat) (h' : ((c.toNat : Int) == 127) = false) : ctlB c = false := by unfold ctlB; simp at h' ⊢; omega
theorem ctlB_ways (c : UInt8) : (c.toNat : Int) < 32 ∨ ((32 : Int) ≤ c.toNat ∧ ((c.toNat : Int) == 127) = true) ∨ ((32 : Int) ≤ c.toNat ∧ ((c.toNat : Int) == 127) = false) := by
  cases h : ((c.toNat : Int) == 127) <;> simp <;> omega

set_option maxHeartbeats 400000 in
theorem hasControl_any (s : ByteArray) (w : World) (hs : s.size ≤ 140737488351232) :
    Calls Try.prog 60 #[.string s] w fun e w' => e = .returned (.bool (ctl s)) ∧ w = w' := by
  go_enter Try.func60, Try.ntmps60
  go_wp2
  go_loop [6] (fun i => ∃ k : Nat, k ≤ s.size ∧ i = .int .i64 k ∧ ctlTo s k) (fun i => s.size - (intOf i).toNat)
  case atStart => exact ⟨0, Nat.zero_le _, rfl, fun j _ h => absurd h (by omega)⟩
  case round =>
    obtain ⟨k, hk, rfl, ht⟩ := hrel
    by_cases hlt : k < s.size
    · have H1 := Lib.hid (ctl_yes s k hlt)
      have H2 := Lib.hid (ctlTo_succ s k hlt ht)
      clear ht
      rcases ctlB_ways s[k] with g | ⟨g, g'⟩ | ⟨g, g'⟩
      · go_wp2
        go_ret
        exact ⟨ret_bool' (H1.out (ctlB_low g)).symm, rfl⟩
      · go_wp2
        go_ret
        exact ⟨ret_bool' (H1.out (ctlB_del g')).symm, rfl⟩
      · go_wp2
        go_round
        case rel => exact ⟨k + 1, by omega, by go_num, H2.out (ctlB_not g g')⟩
        case measure => simp [intOf]; omega
    · obtain rfl : k = s.size := by omega
      have H := Lib.hid (ctl_no s ht)
      clear ht
      go_wp2
      go_ret
      exact ⟨ret_bool' H.out.symm, rfl⟩

end Go.Proofs.Ytbkhnfdfdgdfkaa
