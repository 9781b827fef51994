/-
  DERIVED. The walk of prop.dateAt. Conditions: days from 0 to 200000. By an AI agent.
-/
import Derived.Test.YtghadhdmbcigpaaDoorCalWalk
import Derived.Deep.LoopGhost
namespace Go.Proofs.YtghadhdmbcigpaaDoor
open Go.RowKit cal

def arrT : Nat := 95
theorem index_len (y : Int) (j : Nat) (hj : j < 12) (w : World) : (Instr.index 95 (.agg (lenL y).toArray) (.int .i64 (j : Int))).run Tryd.prog w = .ok (.int .i64 (ml y (j + 1))) w := by
  have h : j = 0 ∨ j = 1 ∨ j = 2 ∨ j = 3 ∨ j = 4 ∨ j = 5 ∨ j = 6 ∨ j = 7 ∨ j = 8 ∨ j = 9 ∨ j = 10 ∨ j = 11 := by omega
  rcases h with rfl | rfl | rfl | rfl | rfl | rfl | rfl | rfl | rfl | rfl | rfl | rfl
  all_goals exact (show _ = Result.ok _ w from by kernel_rfl)

set_option maxHeartbeats 2000000 in
theorem dateAt_any (d : Int) (w : World) (h0 : 0 ≤ d) (h1 : d ≤ 200000) :
    Calls Tryd.prog 53 #[.int .i64 d] w fun e w' => ∃ y m k, e = .returned (.tuple #[.int .i64 y, .int .i64 m, .int .i64 k]) ∧ IsDate d y m k ∧ Below w.heap.size w w' := by
  have hg := bef_guess h0 h1
  go_enter Tryd.func53, Tryd.ntmps53
  go_wp2
  go_loop [2] (fun v => ∃ y : Int, v = .int .i64 y ∧ 2001 ≤ y ∧ y ≤ 2600 ∧ bef y ≤ d) (fun v => (2600 - intOf v).toNat)
  case atStart => exact ⟨_, rfl, by omega, bef_hi hg h1, hg⟩
  case round =>
    clear hg
    obtain ⟨y, rfl, hy0, hy1, hb⟩ := hrel
    by_cases hn : bef (y + 1) ≤ d
    · have hy2 := bef_hi hn h1
      go_wp2_with (go_at_call 59; refine (before_any (y + 1) _ (by omega) (by omega)).mono ?_; rintro e w1 ⟨rfl, rfl⟩)
      go_round
      case rel => exact ⟨y + 1, rfl, by omega, by omega, hn⟩
      case measure => simp [intOf]; omega
    · have hn' : d < bef (y + 1) := by omega
      clear hn
      go_wp2_with fail
      refine (before_any (y + 1) _ (by omega) (by omega)).mono ?_
      rintro e w1 ⟨rfl, rfl⟩
      go_wp2_with fail
      refine (before_any y _ (by omega) (by omega)).mono ?_
      rintro e w1 ⟨rfl, rfl⟩
      have hlo := bef_lo hy0
      go_wp2_with fail
      refine (lengths_any y _ (by omega) (by omega)).mono ?_
      rintro e w1 ⟨rfl, hb1⟩
      go_wp2
      obtain ⟨R, hR⟩ : ∃ R, R = d - bef y := ⟨_, rfl⟩
      have hR0 : 0 ≤ R := by omega
      have hR1 : R < 365 + lp y := by have := bef_succ y; omega
      have hlp := lp_01 y
      rw [← hR]
      have HR := Lib.hid hR
      clear hR
      go_loop [3, 5, 24] (fun m r i => ∃ (j : Nat) (c : Int), j < 12 ∧ i = .int .i64 j ∧ m = .int .i64 (j + 1) ∧ c = cum y (j + 1) ∧ r = .int .i64 (R - c) ∧ c ≤ R) (fun _ _ i => 12 - (intOf i).toNat)
      case atStart => exact ⟨0, 0, by omega, rfl, rfl, rfl, by simp, hR0⟩
      case round =>
        obtain ⟨j, c, hj, rfl, rfl, hc, rfl, hcR⟩ := hrel
        have hix := fun W => index_len y j hj W
        have hb0 := cum_bd y (m := (j : Int) + 1) (by omega) (by omega)
        have hs0 := cum_succ y (m := (j : Int) + 1) (by omega) (by omega)
        have hl0 := ml_lo y ((j : Int) + 1)
        have hl1 := ml_hi y ((j : Int) + 1)
        have hbc : 0 ≤ c ∧ c ≤ 366 := by rw [hc]; exact hb0
        have HC := Lib.hid hc
        have HS := Lib.hid hs0
        have HL0 := Lib.hid hl0
        obtain ⟨hbc0, hbc1⟩ := hbc
        clear hc hs0 hb0
        by_cases hlt : R - c < ml y ((j : Int) + 1)
        · go_wp2
          go_ret3
          refine ⟨y, (j : Int) + 1, R - c + 1, rfl, ⟨hy0, hb, hn', by omega, by omega, by omega, by omega, ?_⟩, hb1⟩
          rw [← HC.out]
          have := HR.out
          omega
        · have hj' : j + 1 < 12 := by
            rcases Nat.lt_or_ge (j + 1) 12 with h | h
            · exact h
            · exfalso
              obtain rfl : j = 11 := by omega
              have h1 := HC.out
              have h2 := HS.out
              rw [← h1] at h2
              have h3 : cum y (((11 : Nat) : Int) + 1 + 1) = 365 + lp y := cum_13 y
              omega
          go_wp2
          go_round
          case rel => exact ⟨j + 1, c + ml y ((j : Int) + 1), hj', by go_num, by go_num, by have := HS.out; rw [← HC.out] at this; rw [← this]; congr 1, by go_num, by omega⟩
          case measure => simp [intOf]; omega
end Go.Proofs.YtghadhdmbcigpaaDoor
