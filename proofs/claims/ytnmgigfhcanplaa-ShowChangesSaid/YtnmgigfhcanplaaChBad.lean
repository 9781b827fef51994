/-
  DERIVED. The walk of show.Changes where the lists are too long or not in order. Conditions: none. By an AI agent.
-/
import Derived.Test.YtnmgigfhcanplaaChErr
namespace Go.Proofs.Ytnmgigfhcanplaa
open Go.RowKit

theorem filesErr_large {L1 L2 : List F} (h : 500 < L1.length ∨ 500 < L2.length) : filesErr L1 L2 = 4 := if_pos h
theorem filesErr_order {L1 L2 : List F} (h1 : L1.length ≤ 500) (h2 : L2.length ≤ 500) (h : ¬ (okF L1 ∧ okF L2)) : filesErr L1 L2 = 5 := by
  unfold filesErr
  rw [if_neg (by omega), if_neg h]
theorem filesErr_ok {L1 L2 : List F} (h1 : L1.length ≤ 500) (h2 : L2.length ≤ 500) (h : okF L1 ∧ okF L2) : filesErr L1 L2 = 0 := by
  unfold filesErr
  rw [if_neg (by omega), if_pos h]

set_option maxHeartbeats 1000000 in
set_option maxRecDepth 100000 in
theorem changes_large (A1 A2 : Option Addr) (c1 c2 n1 n2 : Nat) (w : World) (h : 500 < n1 ∨ 500 < n2) :
    Calls Try.prog 4 #[.slice A1 n1 c1, .slice A2 n2 c2] w fun e w' => e = .returned (.tuple #[.slice none 0 0, .int .i64 4]) ∧ Below w.heap.size w w' := by
  by_cases g1 : 500 < n1
  · have i1 : (500 : Int) < (n1 : Int) := by omega
    clear h
    go_enter Try.func4, Try.ntmps4
    go_wp2_with fail
    go_ret2
    exact ⟨rfl, Below.refl _ _⟩
  · have g2 : 500 < n2 := h.resolve_left g1
    have i1 : ¬ (500 : Int) < (n1 : Int) := by omega
    have i2 : (500 : Int) < (n2 : Int) := by omega
    clear h
    go_enter Try.func4, Try.ntmps4
    go_wp2_with fail
    go_ret2
    exact ⟨rfl, Below.refl _ _⟩

set_option maxHeartbeats 2000000 in
set_option maxRecDepth 100000 in
theorem changes_order (A1 A2 : Option Addr) (c1 c2 : Nat) (L1 L2 : List F) (w : World) (hr1 : Reads w w.heap.size 2 A1 L1.length (rowsF L1)) (hr2 : Reads w w.heap.size 2 A2 L2.length (rowsF L2))
    (hl1 : L1.length ≤ 500) (hl2 : L2.length ≤ 500) (h : ¬ (okF L1 ∧ okF L2)) :
    Calls Try.prog 4 #[.slice A1 L1.length c1, .slice A2 L2.length c2] w fun e w' => e = .returned (.tuple #[.slice none 0 0, .int .i64 5]) ∧ Below w.heap.size w w' := by
  have K1 := Lib.hid (checkFiles_any A1 c1 L1 w w.heap.size hr1 (Nat.le_refl _) hl1)
  have K2 : Hid (∀ w', Below w.heap.size w w' → Calls Try.prog 8 #[.slice A2 L2.length c2] w' fun e w'' => e = .returned (.int .i64 (okC L2)) ∧ Below w'.heap.size w' w'') :=
    fun w' hb => checkFiles_any A2 c2 L2 w' w.heap.size (hr2.below hb) hb.size hl2
  obtain ⟨n1, hn1⟩ : ∃ n, n = L1.length := ⟨_, rfl⟩
  obtain ⟨n2, hn2⟩ : ∃ n, n = L2.length := ⟨_, rfl⟩
  rw [← hn1] at hl1 K1 ⊢
  rw [← hn2] at hl2 K2 ⊢
  have i1 : ¬ (500 : Int) < (n1 : Int) := by omega
  have i2 : ¬ (500 : Int) < (n2 : Int) := by omega
  clear hr1 hr2 hn1 hn2
  by_cases h1 : okF L1
  · have h2 : ¬ okF L2 := fun h2 => h ⟨h1, h2⟩
    rw [okC_yes h1] at K1
    rw [okC_no h2] at K2
    clear h h1 h2
    go_enter Try.func4, Try.ntmps4
    go_wp2_with fail
    refine K1.out.mono ?_
    rintro e w1 ⟨rfl, hb1⟩
    have R1 := Lib.hid hb1
    clear hb1
    go_wp2_with fail
    refine (K2.out _ R1.out).mono ?_
    rintro e w2 ⟨rfl, hb2⟩
    have R2 := Lib.hid (R1.out.trans (hb2.mono R1.out.size))
    clear hb2
    go_wp2_with fail
    go_ret2
    exact ⟨rfl, R2.out⟩
  · rw [okC_no h1] at K1
    clear h h1
    go_enter Try.func4, Try.ntmps4
    go_wp2_with fail
    refine K1.out.mono ?_
    rintro e w1 ⟨rfl, hb1⟩
    have R1 := Lib.hid hb1
    clear hb1
    go_wp2_with fail
    go_ret2
    exact ⟨rfl, R1.out⟩
end Go.Proofs.Ytnmgigfhcanplaa
