/-
  DERIVED. The walk of florkeep2.DayWalk: it returns true. Conditions: none. By an AI agent.
-/
import Derived.Test.YtnkmmlancippmabDayOf
namespace Go.Proofs.Ytnkmmlancippmab
open Go.RowKit cal

theorem wk_bd {d y : Int} (h : bef y ≤ thu d) (h' : thu d < bef (y + 1)) : 1 ≤ wk (thu d) y ∧ wk (thu d) y ≤ 54 := by
  have := bef_succ y
  have := lp_01 y
  unfold wk
  omega

set_option maxHeartbeats 400000 in
set_option maxRecDepth 100000 in
theorem dayWalk_low (d : Int) (w : World) (h : d < 0) : Calls Try.prog 3 #[.int .i64 d] w fun e w' => e = .returned (.bool true) ∧ Below w.heap.size w w' := by
  go_enter Try.func3, Try.ntmps3
  go_wp2_with fail
  refine (awakeProp_any _).mono ?_
  rintro e w1 ⟨rfl, rfl⟩
  go_wp2
  go_ret
  exact ⟨rfl, Below.refl _ _⟩
set_option maxHeartbeats 400000 in
set_option maxRecDepth 100000 in
theorem dayWalk_high (d : Int) (w : World) (h : 100000 ≤ d) : Calls Try.prog 3 #[.int .i64 d] w fun e w' => e = .returned (.bool true) ∧ Below w.heap.size w w' := by
  have h0 : 0 ≤ d := by omega
  go_enter Try.func3, Try.ntmps3
  go_wp2_with fail
  refine (awakeProp_any _).mono ?_
  rintro e w1 ⟨rfl, rfl⟩
  go_wp2
  go_ret
  exact ⟨rfl, Below.refl _ _⟩

set_option maxHeartbeats 4000000 in
set_option maxRecDepth 100000 in
theorem dayWalk_mid (d : Int) (w : World) (h0 : 0 ≤ d) (h1 : d < 100000) : Calls Try.prog 3 #[.int .i64 d] w fun e w' => e = .returned (.bool true) ∧ Below w.heap.size w w' := by
  go_enter Try.func3, Try.ntmps3
  go_wp2_with fail
  refine (awakeProp_any _).mono ?_
  rintro e w1 ⟨rfl, rfl⟩
  go_wp2_with fail
  refine (dateOf_any d _ h0 (by omega)).mono ?_
  rintro e w1 ⟨y1, m1, k1, rfl, hd1, hb1⟩
  go_wp2_with fail
  refine (dateOf_any (d + 1) _ (by omega) (by omega)).mono ?_
  rintro e w2 ⟨y2, m2, k2, rfl, hd2, hb2⟩
  have z1 := hb1.size
  have hc2 := hb1.trans (hb2.mono z1)
  have hyh := bef_hi hd1.b0 (by omega)
  have hyl := hd1.y0
  have hml := hd1.m0
  have hmh := hd1.m1
  have hkl := hd1.k0
  have hkh := Int.le_trans hd1.k1 (ml_hi y1 m1)
  have hnext := next_date hd1 hd2
  have HD := Lib.hid hd1
  have e1 : (m1 == m1 + 1) = false := beq_eq_false_iff_ne.2 (by omega)
  have e2 : (y1 == y1 + 1) = false := beq_eq_false_iff_ne.2 (by omega)
  clear hd1 hd2 hb1 hb2
  rcases hnext with ⟨rfl, rfl, rfl⟩ | ⟨h28, rfl, ⟨rfl, rfl⟩ | ⟨rfl, rfl, rfl⟩⟩
  all_goals
    go_wp2_with fail
    refine (week_any d _ h0 (by omega)).mono ?_
    rintro e w3 ⟨y3, rfl, ha0, ha1, ha2, ha3, hb3⟩
    go_wp2_with fail
    refine (week_any (d + 1) _ (by omega) (by omega)).mono ?_
    rintro e w4 ⟨y4, rfl, hc0, hc1, hc2', hc3, hb4⟩
    have z3 := hb3.size
    have z2 := hc2.size
    have hbb := (hc2.trans (hb3.mono z2)).trans (hb4.mono (by omega))
    clear hb3 hb4
    have hw := week_next ha2 ha3 hc2' hc3
    have hwb := wk_bd ha2 ha3
    obtain ⟨X, hX⟩ : ∃ X, X = wk (thu d) y3 := ⟨_, rfl⟩
    obtain ⟨Y, hY⟩ : ∃ Y, Y = wk (thu (d + 1)) y4 := ⟨_, rfl⟩
    rw [← hX] at hw hwb ⊢
    rw [← hY] at hw ⊢
    clear hX hY ha2 ha3 hc2' hc3
    obtain ⟨hx0, hx1⟩ := hwb
    have e3 : (y3 == y3 + 1) = false := beq_eq_false_iff_ne.2 (by omega)
    have e4 : (X == X + 1) = false := beq_eq_false_iff_ne.2 (by omega)
    rcases hw with ⟨hm, rfl, rfl⟩ | ⟨hm, rfl, rfl⟩ | ⟨hm, rfl, rfl, hx2⟩
    all_goals
      go_wp2_with fail
      refine (dayOf_any _ HD.out h0 (by omega)).mono ?_
      rintro e w5 ⟨rfl, hb5⟩
      have hbe := hbb.trans (hb5.mono hbb.size)
      first
        | (have hm1 : (d % 7 != 6) = true := by simpa using hm)
        | (have hm1 : (d % 7 != 6) = false := by simpa using hm)
      clear hm
      go_wp2
      go_ret
      exact ⟨rfl, hbe⟩
end Go.Proofs.Ytnkmmlancippmab
