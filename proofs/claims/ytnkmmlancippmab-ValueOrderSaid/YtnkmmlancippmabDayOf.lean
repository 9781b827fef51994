/-
  DERIVED. The walks of prop.DateOf, prop.Week, prop.dayAt, prop.DayOf. Conditions: days in range; dates that are. By an AI agent.
-/
import Derived.Test.YtnkmmlancippmabDateAt
namespace Go.Proofs.Ytnkmmlancippmab
open Go.RowKit cal

set_option maxHeartbeats 1000000 in
theorem dateOf_any (d : Int) (w : World) (h0 : 0 ≤ d) (h1 : d ≤ 100000) :
    Calls Try.prog 6 #[.int .i64 d] w fun e w' => ∃ y m k, e = .returned (.tuple #[.int .i64 y, .int .i64 m, .int .i64 k, .int .i64 0]) ∧ IsDate d y m k ∧ Below w.heap.size w w' := by
  go_enter Try.func6, Try.ntmps6
  go_wp2_with fail
  refine (outside_no d 0 100000 _ h0 h1).mono ?_
  rintro e w1 ⟨rfl, rfl⟩
  go_wp2_with fail
  refine (dateAt_any d _ h0 (by omega)).mono ?_
  rintro e w1 ⟨y, m, k, rfl, hd, hb⟩
  go_wp2
  exact bodyPost_ret (v := .tuple #[.int .i64 y, .int .i64 m, .int .i64 k, .int .i64 0]) (by simp [results, Try.results6, go_sem]) rfl ⟨y, m, k, rfl, hd, hb⟩

set_option maxHeartbeats 1000000 in
theorem week_any (d : Int) (w : World) (h0 : 0 ≤ d) (h1 : d ≤ 100000) :
    Calls Try.prog 7 #[.int .i64 d] w fun e w' => ∃ y, e = .returned (.tuple #[.int .i64 y, .int .i64 (wk (thu d) y), .int .i64 0]) ∧ 2001 ≤ y ∧ y ≤ 2600 ∧ bef y ≤ thu d ∧ thu d < bef (y + 1) ∧ Below w.heap.size w w' := by
  have ht : 0 ≤ d - d % 7 + 3 ∧ d - d % 7 + 3 ≤ 200000 := by omega
  obtain ⟨ht0, ht1⟩ := ht
  go_enter Try.func7, Try.ntmps7
  go_wp2_with fail
  refine (outside_no d 0 100000 _ h0 h1).mono ?_
  rintro e w1 ⟨rfl, rfl⟩
  go_wp2_with fail
  refine (dateAt_any (d - d % 7 + 3) _ ht0 ht1).mono ?_
  rintro e w1 ⟨y, m, k, rfl, hd, hb⟩
  have hy := bef_hi hd.b0 ht1
  have hy0 := hd.y0
  have hlo := bef_lo hy0
  have hle := hd.b0
  have hlt := hd.b1
  go_wp2_with fail
  refine (before_any y _ hy0 (by omega)).mono ?_
  rintro e w2 ⟨rfl, rfl⟩
  go_wp2
  go_ret3
  exact ⟨y, rfl, hy0, hy, hle, hlt, hb⟩

theorem len_at (y : Int) (j : Nat) (hj : j < 12) : (lenL y).toArray[j]? = some (.int .i64 (ml y (j + 1))) := by
  have h : j = 0 ∨ j = 1 ∨ j = 2 ∨ j = 3 ∨ j = 4 ∨ j = 5 ∨ j = 6 ∨ j = 7 ∨ j = 8 ∨ j = 9 ∨ j = 10 ∨ j = 11 := by omega
  rcases h with rfl | rfl | rfl | rfl | rfl | rfl | rfl | rfl | rfl | rfl | rfl | rfl <;> rfl

theorem lit_at (y : Int) (j : Nat) (hj : j < 12) : ∀ h, ([.int .i64 31, .int .i64 (28 + lp y), .int .i64 31, .int .i64 30, .int .i64 31, .int .i64 30, .int .i64 31, .int .i64 31, .int .i64 30, .int .i64 31, .int .i64 30, .int .i64 31] : List Value)[j]'h = .int .i64 (ml y ((j : Int) + 1)) := by
  intro h
  have := len_at y j hj
  unfold lenL at this
  rw [List.getElem?_toArray, List.getElem?_eq_getElem h] at this
  exact Option.some.inj this

set_option maxHeartbeats 2000000 in
theorem dayAt_any (y : Int) (j : Nat) (k : Int) (w : World) (hj : j < 12) (hy : 2001 ≤ y) (hy' : y ≤ 2600) (hk : 1 ≤ k) (hk' : k ≤ ml y ((j : Int) + 1)) :
    Calls Try.prog 13 #[.int .i64 y, .int .i64 ((j : Int) + 1), .int .i64 k] w fun e w' => e = .returned (.tuple #[.int .i64 (bef y + cum y ((j : Int) + 1) + k - 1), .bool true]) ∧ Below w.heap.size w w' := by
  have hlo := bef_lo hy
  have hhi : bef y ≤ 365 * 700 := by unfold bef; omega
  have hl1 := ml_hi y ((j : Int) + 1)
  go_enter Try.func13, Try.ntmps13
  go_wp2_with fail
  refine (outside_no ((j : Int) + 1) 1 12 _ (by omega) (by omega)).mono ?_
  rintro e w1 ⟨rfl, rfl⟩
  go_wp2_with fail
  refine (lengths_any y _ hy (by omega)).mono ?_
  rintro e w1 ⟨rfl, hb1⟩
  rw [show (lenL y).toArray = #[.int .i64 31, .int .i64 (28 + lp y), .int .i64 31, .int .i64 30, .int .i64 31, .int .i64 30, .int .i64 31, .int .i64 31, .int .i64 30, .int .i64 31, .int .i64 30, .int .i64 31] from rfl]
  have hle := lit_at y j hj
  go_wp2_with fail
  refine (outside_no k 1 (ml y ((j : Int) + 1)) _ hk hk').mono ?_
  rintro e w2 ⟨rfl, hw2⟩
  rw [← hw2]
  clear hw2
  go_wp2_with fail
  refine (before_any y _ hy (by omega)).mono ?_
  rintro e w2 ⟨rfl, hw2⟩
  rw [← hw2]
  clear hw2
  go_wp2
  go_loop [9, 28] (fun n i => ∃ (a : Nat) (c : Int), a ≤ j ∧ i = .int .i64 a ∧ c = cum y ((a : Int) + 1) ∧ n = .int .i64 (bef y + k - 1 + c)) (fun _ i => j - (intOf i).toNat)
  case atStart => exact ⟨0, 0, by omega, rfl, rfl, by simp⟩
  case round =>
    obtain ⟨a, c, ha, rfl, hc, rfl⟩ := hrel
    have hb0 := cum_bd y (m := (a : Int) + 1) (by omega) (by omega)
    have hs0 := cum_succ y (m := (a : Int) + 1) (by omega) (by omega)
    have hl0 := ml_lo y ((a : Int) + 1)
    have hl3 := ml_hi y ((a : Int) + 1)
    have hbc : 0 ≤ c ∧ c ≤ 366 := by rw [hc]; exact hb0
    have HC := Lib.hid hc
    have HS := Lib.hid hs0
    obtain ⟨hbc0, hbc1⟩ := hbc
    clear hc hs0 hb0
    by_cases hlt : a < j
    · have ha12 : a < 12 := by omega
      have hla := lit_at y a ha12
      go_wp2
      go_round
      case rel => exact ⟨a + 1, c + ml y ((a : Int) + 1), by omega, by go_num, by have := HS.out; rw [← HC.out] at this; rw [← this]; congr 1, by go_num⟩
      case measure => simp [intOf]; omega
    · obtain rfl : a = j := by omega
      go_wp2
      go_ret2
      refine ⟨?_, hb1.trans ((Below.refl _ _).alloc (by exact hb1.size) _)⟩
      rw [← HC.out]
      congr 3
      simp
      omega

set_option maxHeartbeats 1000000 in
theorem dayOf_any {d y m k : Int} (w : World) (h : IsDate d y m k) (h0 : 0 ≤ d) (h1 : d ≤ 100000) :
    Calls Try.prog 8 #[.int .i64 y, .int .i64 m, .int .i64 k] w fun e w' => e = .returned (.tuple #[.int .i64 d, .int .i64 0]) ∧ Below w.heap.size w w' := by
  obtain ⟨a0, a1, a2, a3, a4, a5, a6, a7⟩ := h
  have hy := bef_hi a1 (by omega)
  obtain ⟨j, rfl⟩ : ∃ j : Nat, m = (j : Int) + 1 := ⟨(m - 1).toNat, by omega⟩
  have H7 := Lib.hid a7
  clear a7
  go_enter Try.func8, Try.ntmps8
  go_wp2_with fail
  refine (outside_no y 2001 9999 _ a0 (by omega)).mono ?_
  rintro e w1 ⟨rfl, rfl⟩
  go_wp2_with fail
  refine (dayAt_any y j k _ (by omega) a0 hy a5 a6).mono ?_
  rintro e w1 ⟨rfl, hb⟩
  rw [← H7.out]
  go_wp2_with fail
  refine (outside_no d 0 100000 _ h0 h1).mono ?_
  rintro e w2 ⟨rfl, rfl⟩
  go_wp2
  go_ret2
  exact ⟨rfl, hb⟩

set_option maxHeartbeats 400000 in
theorem dayOf_none (w : World) :
    Calls Try.prog 8 #[.int .i64 0, .int .i64 0, .int .i64 0] w fun e w' => e = .returned (.tuple #[.int .i64 0, .int .i64 2]) ∧ w = w' := by
  go_enter Try.func8, Try.ntmps8
  go_wp2_with fail
  refine (outside_yes 0 2001 9999 _ (by omega)).mono ?_
  rintro e w1 ⟨rfl, rfl⟩
  go_wp2
  go_ret2
  exact ⟨rfl, rfl⟩

set_option maxHeartbeats 400000 in
theorem awakeProp_any (w : World) :
    Calls Try.prog 5 #[] w fun e w' => e = .returned (.bool true) ∧ w = w' := by
  go_enter Try.func5, Try.ntmps5
  go_wp2_with fail
  refine (dayOf_none _).mono ?_
  rintro e w1 ⟨rfl, rfl⟩
  go_wp2
  go_ret
  exact ⟨rfl, rfl⟩
end Go.Proofs.Ytnkmmlancippmab
