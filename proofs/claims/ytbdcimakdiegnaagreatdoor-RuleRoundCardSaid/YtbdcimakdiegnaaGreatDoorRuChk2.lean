/-
  DERIVED. The walks of day.checkParts and CheckRule. Conditions: none. By an AI agent.
-/
import Derived.Test.YtbdcimakdiegnaaGreatDoorRuChk
namespace Go.Proofs.YtbdcimakdiegnaaGreatDoor
open Go.RowKit

/-- a rule as a value -/
def RuV (r : Rl) (a b c : Value) : Value := .agg #[.int .i64 r.unit, .int .i64 r.every, .int .i64 r.from_, .int .i64 r.until_, .int .i64 r.count, a, b, .int .i64 r.nth, c]
/-- its cells -/
def RuC (r : Rl) (a b c : Value) : Array Value := #[.int .i64 r.unit, .int .i64 r.every, .int .i64 r.from_, .int .i64 r.until_, .int .i64 r.count, a, b, .int .i64 r.nth, c]

set_option maxHeartbeats 4000000 in
theorem checkParts_any (r : Rl) (Aw Ad As : Option Addr) (nw cw nd cd ns cs : Nat) (w : World) (hw : nw = r.wk.length) (hd : nd = r.ds.length) :
    Calls Tryz.prog 62 #[RuV r (.slice Aw nw cw) (.slice Ad nd cd) (.slice As ns cs)] w fun e w' => e = .returned (.int .i64 (paErr r)) ∧ Below w.heap.size w w' := by
  obtain ⟨u, ev, fr, un, ct, wk, ds, nth, sk⟩ := r
  unfold RuV paErr
  dsimp only at hw hd ⊢
  obtain ⟨q0, h0⟩ : ∃ q, decide ((0 : Int) < (nw : Int)) = q := ⟨_, rfl⟩
  obtain ⟨q1, h1⟩ : ∃ q, decide ((0 : Int) < (nd : Int)) = q := ⟨_, rfl⟩
  have e0 : decide (0 < wk.length) = q0 := by rw [← h0, ← hw]; simp
  have e1 : decide (0 < ds.length) = q1 := by rw [← h1, ← hd]; simp
  obtain ⟨q2, h2⟩ : ∃ q, (u != 2) = q := ⟨_, rfl⟩
  obtain ⟨q3, h3⟩ : ∃ q, (u == 3) = q := ⟨_, rfl⟩
  have h3' : (u != 3) = !q3 := by rw [bne, h3]
  obtain ⟨q4, h4⟩ : ∃ q, (nth != 0) = q := ⟨_, rfl⟩
  rw [e0, e1, h2, h3, h3', h4]
  clear hw hd e0 e1
  cases q0 <;> cases q1 <;> cases q2 <;> cases q3 <;> cases q4
  all_goals
    simp only [decide_eq_true_eq, decide_eq_false_iff_not] at h0 h1
    go_enter Tryz.func62, Tryz.ntmps62
    go_wp2_with fail
    go_ret
    exact ⟨rfl, (Below.refl _ _).alloc (Nat.le_refl _) _⟩
end Go.Proofs.YtbdcimakdiegnaaGreatDoor
