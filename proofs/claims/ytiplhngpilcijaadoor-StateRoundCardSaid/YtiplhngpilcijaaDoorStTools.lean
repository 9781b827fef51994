/-
  DERIVED. The walks of card.outside, CheckState, fresh, New and florkeep2.awakeCard. Conditions: none. By an AI agent.
-/
import Derived.Test.YtiplhngpilcijaaDoorBase
import Derived.Test.YtiplhngpilcijaaDoorChecked
import Derived.Laws.StructEq
namespace Go.Proofs.YtiplhngpilcijaaDoor
open Go.RowKit

/-- beyond its bounds? -/
def outB (n lo hi : Int) : Bool := decide (n < lo) || decide (hi < n)
theorem outB_no {n lo hi : Int} (h : outB n lo hi = false) : lo ≤ n ∧ n ≤ hi := by
  unfold outB at h
  simp at h; exact h
set_option maxHeartbeats 400000 in
theorem outside_any (n lo hi : Int) (w : World) :
    Calls Tryd.prog 14 #[.int .i64 n, .int .i64 lo, .int .i64 hi] w fun e w' => e = .returned (.bool (outB n lo hi)) ∧ w = w' := by
  by_cases h1 : n < lo
  · have HV : Hid (outB n lo hi = true) := by show _ = _; unfold outB; simp [h1]
    go_enter Tryd.func14, Tryd.ntmps14
    go_wp2
    go_ret
    exact ⟨by rw [HV.out]; rfl, rfl⟩
  · have h1' : decide (n < lo) = false := by simpa using h1
    by_cases h2 : hi < n
    · have HV : Hid (outB n lo hi = true) := by show _ = _; unfold outB; simp [h2]
      go_enter Tryd.func14, Tryd.ntmps14
      go_wp2
      go_ret
      exact ⟨by rw [HV.out]; rfl, rfl⟩
    · have h2' : decide (hi < n) = false := by simpa using h2
      have HV : Hid (outB n lo hi = false) := by show _ = _; unfold outB; rw [h1', h2']; rfl
      go_enter Tryd.func14, Tryd.ntmps14
      go_wp2
      go_ret
      exact ⟨by rw [HV.out]; rfl, rfl⟩

/-- the error of a state -/
def csE (x0 x1 x2 x3 x4 x5 x6 x7 x8 : Int) : Int :=
  if outB x0 1 1000000 = true then 2 else if outB x1 1 20 = true then 2 else if outB x2 0 3650 = true then 2 else if outB x3 130 400 = true then 2 else if outB x4 (-1) 100000 = true then 2 else if outB x5 (-1) 100000 = true then 2
  else if outB x8 (-1) 100000 = true then 2 else if outB x6 0 20000 = true then 2 else if outB x7 0 20000 = true then 2
  else if ((x4 == -1) != (x5 == -1)) = true then 1 else if ((x6 == 0) != (x4 == -1)) = true then 1 else if (x6 == 0 && decide (0 < x2)) = true then 1 else if decide (x4 < x5) = true then 1 else if decide (x6 < x7) = true then 1 else 0
def stV (x0 x1 x2 x3 x4 x5 x6 x7 x8 : Int) : Value := .agg #[.int .i64 x0, .int .i64 x1, .int .i64 x2, .int .i64 x3, .int .i64 x4, .int .i64 x5, .int .i64 x6, .int .i64 x7, .int .i64 x8]
theorem csE_bd {x0 x1 x2 x3 x4 x5 x6 x7 x8 : Int} (h : csE x0 x1 x2 x3 x4 x5 x6 x7 x8 = 0) : ∀ n ∈ [x0, x1, x2, x3, x4, x5, x6, x7, x8], -1 ≤ n ∧ n ≤ 1000000 := by
  unfold csE at h
  have go : ∀ {c : Bool} {r : Int}, (if c = true then (2 : Int) else r) = 0 → c = false ∧ r = 0 := by
    intro c r h
    cases c
    · exact ⟨rfl, by simpa using h⟩
    · simp at h
  obtain ⟨h0, h⟩ := go h
  obtain ⟨h1, h⟩ := go h
  obtain ⟨h2, h⟩ := go h
  obtain ⟨h3, h⟩ := go h
  obtain ⟨h4, h⟩ := go h
  obtain ⟨h5, h⟩ := go h
  obtain ⟨h8, h⟩ := go h
  obtain ⟨h6, h⟩ := go h
  obtain ⟨h7, h⟩ := go h
  have := outB_no h0; have := outB_no h1; have := outB_no h2; have := outB_no h3; have := outB_no h4; have := outB_no h5; have := outB_no h6; have := outB_no h7; have := outB_no h8
  intro n hn
  simp only [List.mem_cons, List.not_mem_nil, or_false] at hn
  rcases hn with rfl | rfl | rfl | rfl | rfl | rfl | rfl | rfl | rfl <;> omega

set_option maxHeartbeats 8000000 in
set_option maxRecDepth 100000 in
theorem checkState_any (x0 x1 x2 x3 x4 x5 x6 x7 x8 : Int) (w : World) :
    Calls Tryd.prog 8 #[stV x0 x1 x2 x3 x4 x5 x6 x7 x8] w fun e w' => e = .returned (.int .i64 (csE x0 x1 x2 x3 x4 x5 x6 x7 x8)) ∧ Below w.heap.size w w' := by
  rw [show stV x0 x1 x2 x3 x4 x5 x6 x7 x8 = .agg #[.int .i64 x0, .int .i64 x1, .int .i64 x2, .int .i64 x3, .int .i64 x4, .int .i64 x5, .int .i64 x6, .int .i64 x7, .int .i64 x8] from rfl]
  have OUT := Lib.hid (fun n lo hi w => outside_any n lo hi w)
  obtain ⟨E, hE⟩ : ∃ E, E = csE x0 x1 x2 x3 x4 x5 x6 x7 x8 := ⟨_, rfl⟩
  rw [← hE]
  unfold csE at hE

  cases b0 : outB x0 1 1000000
  case true =>
    rw [b0] at hE
    rw [if_pos rfl] at hE
    have HE := Lib.hid hE
    clear hE
    go_enter Tryd.func8, Tryd.ntmps8
    go_wp2_with fail
    refine (OUT.out _ _ _ _).mono ?_
    rintro e wz ⟨rfl, hwz⟩
    rw [b0, ← hwz]
    clear hwz
    go_wp2_with fail
    go_ret
    exact ⟨by rw [HE.out]; rfl, (Below.refl _ _).alloc (Nat.le_refl _) _⟩
  rw [b0, if_neg (by decide)] at hE
  cases b1 : outB x1 1 20
  case true =>
    rw [b1] at hE
    rw [if_pos rfl] at hE
    have HE := Lib.hid hE
    clear hE
    go_enter Tryd.func8, Tryd.ntmps8
    go_wp2_with fail
    refine (OUT.out _ _ _ _).mono ?_
    rintro e wz ⟨rfl, hwz⟩
    rw [b0, ← hwz]
    clear hwz
    go_wp2_with fail
    refine (OUT.out _ _ _ _).mono ?_
    rintro e wz ⟨rfl, hwz⟩
    rw [b1, ← hwz]
    clear hwz
    go_wp2_with fail
    go_ret
    exact ⟨by rw [HE.out]; rfl, (Below.refl _ _).alloc (Nat.le_refl _) _⟩
  rw [b1, if_neg (by decide)] at hE
  cases b2 : outB x2 0 3650
  case true =>
    rw [b2] at hE
    rw [if_pos rfl] at hE
    have HE := Lib.hid hE
    clear hE
    go_enter Tryd.func8, Tryd.ntmps8
    go_wp2_with fail
    refine (OUT.out _ _ _ _).mono ?_
    rintro e wz ⟨rfl, hwz⟩
    rw [b0, ← hwz]
    clear hwz
    go_wp2_with fail
    refine (OUT.out _ _ _ _).mono ?_
    rintro e wz ⟨rfl, hwz⟩
    rw [b1, ← hwz]
    clear hwz
    go_wp2_with fail
    refine (OUT.out _ _ _ _).mono ?_
    rintro e wz ⟨rfl, hwz⟩
    rw [b2, ← hwz]
    clear hwz
    go_wp2_with fail
    go_ret
    exact ⟨by rw [HE.out]; rfl, (Below.refl _ _).alloc (Nat.le_refl _) _⟩
  rw [b2, if_neg (by decide)] at hE
  cases b3 : outB x3 130 400
  case true =>
    rw [b3] at hE
    rw [if_pos rfl] at hE
    have HE := Lib.hid hE
    clear hE
    go_enter Tryd.func8, Tryd.ntmps8
    go_wp2_with fail
    refine (OUT.out _ _ _ _).mono ?_
    rintro e wz ⟨rfl, hwz⟩
    rw [b0, ← hwz]
    clear hwz
    go_wp2_with fail
    refine (OUT.out _ _ _ _).mono ?_
    rintro e wz ⟨rfl, hwz⟩
    rw [b1, ← hwz]
    clear hwz
    go_wp2_with fail
    refine (OUT.out _ _ _ _).mono ?_
    rintro e wz ⟨rfl, hwz⟩
    rw [b2, ← hwz]
    clear hwz
    go_wp2_with fail
    refine (OUT.out _ _ _ _).mono ?_
    rintro e wz ⟨rfl, hwz⟩
    rw [b3, ← hwz]
    clear hwz
    go_wp2_with fail
    go_ret
    exact ⟨by rw [HE.out]; rfl, (Below.refl _ _).alloc (Nat.le_refl _) _⟩
  rw [b3, if_neg (by decide)] at hE
  cases b4 : outB x4 (-1) 100000
  case true =>
    rw [b4] at hE
    rw [if_pos rfl] at hE
    have HE := Lib.hid hE
    clear hE
    go_enter Tryd.func8, Tryd.ntmps8
    go_wp2_with fail
    refine (OUT.out _ _ _ _).mono ?_
    rintro e wz ⟨rfl, hwz⟩
    rw [b0, ← hwz]
    clear hwz
    go_wp2_with fail
    refine (OUT.out _ _ _ _).mono ?_
    rintro e wz ⟨rfl, hwz⟩
    rw [b1, ← hwz]
    clear hwz
    go_wp2_with fail
    refine (OUT.out _ _ _ _).mono ?_
    rintro e wz ⟨rfl, hwz⟩
    rw [b2, ← hwz]
    clear hwz
    go_wp2_with fail
    refine (OUT.out _ _ _ _).mono ?_
    rintro e wz ⟨rfl, hwz⟩
    rw [b3, ← hwz]
    clear hwz
    go_wp2_with fail
    refine (OUT.out _ _ _ _).mono ?_
    rintro e wz ⟨rfl, hwz⟩
    rw [b4, ← hwz]
    clear hwz
    go_wp2_with fail
    go_ret
    exact ⟨by rw [HE.out]; rfl, (Below.refl _ _).alloc (Nat.le_refl _) _⟩
  rw [b4, if_neg (by decide)] at hE
  cases b5 : outB x5 (-1) 100000
  case true =>
    rw [b5] at hE
    rw [if_pos rfl] at hE
    have HE := Lib.hid hE
    clear hE
    go_enter Tryd.func8, Tryd.ntmps8
    go_wp2_with fail
    refine (OUT.out _ _ _ _).mono ?_
    rintro e wz ⟨rfl, hwz⟩
    rw [b0, ← hwz]
    clear hwz
    go_wp2_with fail
    refine (OUT.out _ _ _ _).mono ?_
    rintro e wz ⟨rfl, hwz⟩
    rw [b1, ← hwz]
    clear hwz
    go_wp2_with fail
    refine (OUT.out _ _ _ _).mono ?_
    rintro e wz ⟨rfl, hwz⟩
    rw [b2, ← hwz]
    clear hwz
    go_wp2_with fail
    refine (OUT.out _ _ _ _).mono ?_
    rintro e wz ⟨rfl, hwz⟩
    rw [b3, ← hwz]
    clear hwz
    go_wp2_with fail
    refine (OUT.out _ _ _ _).mono ?_
    rintro e wz ⟨rfl, hwz⟩
    rw [b4, ← hwz]
    clear hwz
    go_wp2_with fail
    refine (OUT.out _ _ _ _).mono ?_
    rintro e wz ⟨rfl, hwz⟩
    rw [b5, ← hwz]
    clear hwz
    go_wp2_with fail
    go_ret
    exact ⟨by rw [HE.out]; rfl, (Below.refl _ _).alloc (Nat.le_refl _) _⟩
  rw [b5, if_neg (by decide)] at hE
  cases b6 : outB x8 (-1) 100000
  case true =>
    rw [b6] at hE
    rw [if_pos rfl] at hE
    have HE := Lib.hid hE
    clear hE
    go_enter Tryd.func8, Tryd.ntmps8
    go_wp2_with fail
    refine (OUT.out _ _ _ _).mono ?_
    rintro e wz ⟨rfl, hwz⟩
    rw [b0, ← hwz]
    clear hwz
    go_wp2_with fail
    refine (OUT.out _ _ _ _).mono ?_
    rintro e wz ⟨rfl, hwz⟩
    rw [b1, ← hwz]
    clear hwz
    go_wp2_with fail
    refine (OUT.out _ _ _ _).mono ?_
    rintro e wz ⟨rfl, hwz⟩
    rw [b2, ← hwz]
    clear hwz
    go_wp2_with fail
    refine (OUT.out _ _ _ _).mono ?_
    rintro e wz ⟨rfl, hwz⟩
    rw [b3, ← hwz]
    clear hwz
    go_wp2_with fail
    refine (OUT.out _ _ _ _).mono ?_
    rintro e wz ⟨rfl, hwz⟩
    rw [b4, ← hwz]
    clear hwz
    go_wp2_with fail
    refine (OUT.out _ _ _ _).mono ?_
    rintro e wz ⟨rfl, hwz⟩
    rw [b5, ← hwz]
    clear hwz
    go_wp2_with fail
    refine (OUT.out _ _ _ _).mono ?_
    rintro e wz ⟨rfl, hwz⟩
    rw [b6, ← hwz]
    clear hwz
    go_wp2_with fail
    go_ret
    exact ⟨by rw [HE.out]; rfl, (Below.refl _ _).alloc (Nat.le_refl _) _⟩
  rw [b6, if_neg (by decide)] at hE
  cases b7 : outB x6 0 20000
  case true =>
    rw [b7] at hE
    rw [if_pos rfl] at hE
    have HE := Lib.hid hE
    clear hE
    go_enter Tryd.func8, Tryd.ntmps8
    go_wp2_with fail
    refine (OUT.out _ _ _ _).mono ?_
    rintro e wz ⟨rfl, hwz⟩
    rw [b0, ← hwz]
    clear hwz
    go_wp2_with fail
    refine (OUT.out _ _ _ _).mono ?_
    rintro e wz ⟨rfl, hwz⟩
    rw [b1, ← hwz]
    clear hwz
    go_wp2_with fail
    refine (OUT.out _ _ _ _).mono ?_
    rintro e wz ⟨rfl, hwz⟩
    rw [b2, ← hwz]
    clear hwz
    go_wp2_with fail
    refine (OUT.out _ _ _ _).mono ?_
    rintro e wz ⟨rfl, hwz⟩
    rw [b3, ← hwz]
    clear hwz
    go_wp2_with fail
    refine (OUT.out _ _ _ _).mono ?_
    rintro e wz ⟨rfl, hwz⟩
    rw [b4, ← hwz]
    clear hwz
    go_wp2_with fail
    refine (OUT.out _ _ _ _).mono ?_
    rintro e wz ⟨rfl, hwz⟩
    rw [b5, ← hwz]
    clear hwz
    go_wp2_with fail
    refine (OUT.out _ _ _ _).mono ?_
    rintro e wz ⟨rfl, hwz⟩
    rw [b6, ← hwz]
    clear hwz
    go_wp2_with fail
    refine (OUT.out _ _ _ _).mono ?_
    rintro e wz ⟨rfl, hwz⟩
    rw [b7, ← hwz]
    clear hwz
    go_wp2_with fail
    go_ret
    exact ⟨by rw [HE.out]; rfl, (Below.refl _ _).alloc (Nat.le_refl _) _⟩
  rw [b7, if_neg (by decide)] at hE
  cases b8 : outB x7 0 20000
  case true =>
    rw [b8] at hE
    rw [if_pos rfl] at hE
    have HE := Lib.hid hE
    clear hE
    go_enter Tryd.func8, Tryd.ntmps8
    go_wp2_with fail
    refine (OUT.out _ _ _ _).mono ?_
    rintro e wz ⟨rfl, hwz⟩
    rw [b0, ← hwz]
    clear hwz
    go_wp2_with fail
    refine (OUT.out _ _ _ _).mono ?_
    rintro e wz ⟨rfl, hwz⟩
    rw [b1, ← hwz]
    clear hwz
    go_wp2_with fail
    refine (OUT.out _ _ _ _).mono ?_
    rintro e wz ⟨rfl, hwz⟩
    rw [b2, ← hwz]
    clear hwz
    go_wp2_with fail
    refine (OUT.out _ _ _ _).mono ?_
    rintro e wz ⟨rfl, hwz⟩
    rw [b3, ← hwz]
    clear hwz
    go_wp2_with fail
    refine (OUT.out _ _ _ _).mono ?_
    rintro e wz ⟨rfl, hwz⟩
    rw [b4, ← hwz]
    clear hwz
    go_wp2_with fail
    refine (OUT.out _ _ _ _).mono ?_
    rintro e wz ⟨rfl, hwz⟩
    rw [b5, ← hwz]
    clear hwz
    go_wp2_with fail
    refine (OUT.out _ _ _ _).mono ?_
    rintro e wz ⟨rfl, hwz⟩
    rw [b6, ← hwz]
    clear hwz
    go_wp2_with fail
    refine (OUT.out _ _ _ _).mono ?_
    rintro e wz ⟨rfl, hwz⟩
    rw [b7, ← hwz]
    clear hwz
    go_wp2_with fail
    refine (OUT.out _ _ _ _).mono ?_
    rintro e wz ⟨rfl, hwz⟩
    rw [b8, ← hwz]
    clear hwz
    go_wp2_with fail
    go_ret
    exact ⟨by rw [HE.out]; rfl, (Below.refl _ _).alloc (Nat.le_refl _) _⟩
  rw [b8, if_neg (by decide)] at hE
  cases q4 : (x4 == -1)
  case false =>
    cases q5 : (x5 == -1)
    case false =>
      rw [q4, q5] at hE
      rw [if_neg (by decide)] at hE
      cases q6 : (x6 == 0)
      case false =>
        rw [q6] at hE
        rw [if_neg (by decide)] at hE
        rw [Bool.false_and, if_neg (by decide)] at hE
        cases qa : decide (x4 < x5)
        case true =>
          rw [qa, if_pos rfl] at hE
          have HE := Lib.hid hE
          clear hE
          go_enter Tryd.func8, Tryd.ntmps8
          go_wp2_with fail
          refine (OUT.out _ _ _ _).mono ?_
          rintro e wz ⟨rfl, hwz⟩
          rw [b0, ← hwz]
          clear hwz
          go_wp2_with fail
          refine (OUT.out _ _ _ _).mono ?_
          rintro e wz ⟨rfl, hwz⟩
          rw [b1, ← hwz]
          clear hwz
          go_wp2_with fail
          refine (OUT.out _ _ _ _).mono ?_
          rintro e wz ⟨rfl, hwz⟩
          rw [b2, ← hwz]
          clear hwz
          go_wp2_with fail
          refine (OUT.out _ _ _ _).mono ?_
          rintro e wz ⟨rfl, hwz⟩
          rw [b3, ← hwz]
          clear hwz
          go_wp2_with fail
          refine (OUT.out _ _ _ _).mono ?_
          rintro e wz ⟨rfl, hwz⟩
          rw [b4, ← hwz]
          clear hwz
          go_wp2_with fail
          refine (OUT.out _ _ _ _).mono ?_
          rintro e wz ⟨rfl, hwz⟩
          rw [b5, ← hwz]
          clear hwz
          go_wp2_with fail
          refine (OUT.out _ _ _ _).mono ?_
          rintro e wz ⟨rfl, hwz⟩
          rw [b6, ← hwz]
          clear hwz
          go_wp2_with fail
          refine (OUT.out _ _ _ _).mono ?_
          rintro e wz ⟨rfl, hwz⟩
          rw [b7, ← hwz]
          clear hwz
          go_wp2_with fail
          refine (OUT.out _ _ _ _).mono ?_
          rintro e wz ⟨rfl, hwz⟩
          rw [b8, ← hwz]
          clear hwz
          go_wp2_with fail
          go_ret
          exact ⟨by rw [HE.out]; rfl, (Below.refl _ _).alloc (Nat.le_refl _) _⟩
        case false =>
          rw [qa, if_neg (by decide)] at hE
          cases qb : decide (x6 < x7)
          case true =>
            rw [qb, if_pos rfl] at hE
            have HE := Lib.hid hE
            clear hE
            go_enter Tryd.func8, Tryd.ntmps8
            go_wp2_with fail
            refine (OUT.out _ _ _ _).mono ?_
            rintro e wz ⟨rfl, hwz⟩
            rw [b0, ← hwz]
            clear hwz
            go_wp2_with fail
            refine (OUT.out _ _ _ _).mono ?_
            rintro e wz ⟨rfl, hwz⟩
            rw [b1, ← hwz]
            clear hwz
            go_wp2_with fail
            refine (OUT.out _ _ _ _).mono ?_
            rintro e wz ⟨rfl, hwz⟩
            rw [b2, ← hwz]
            clear hwz
            go_wp2_with fail
            refine (OUT.out _ _ _ _).mono ?_
            rintro e wz ⟨rfl, hwz⟩
            rw [b3, ← hwz]
            clear hwz
            go_wp2_with fail
            refine (OUT.out _ _ _ _).mono ?_
            rintro e wz ⟨rfl, hwz⟩
            rw [b4, ← hwz]
            clear hwz
            go_wp2_with fail
            refine (OUT.out _ _ _ _).mono ?_
            rintro e wz ⟨rfl, hwz⟩
            rw [b5, ← hwz]
            clear hwz
            go_wp2_with fail
            refine (OUT.out _ _ _ _).mono ?_
            rintro e wz ⟨rfl, hwz⟩
            rw [b6, ← hwz]
            clear hwz
            go_wp2_with fail
            refine (OUT.out _ _ _ _).mono ?_
            rintro e wz ⟨rfl, hwz⟩
            rw [b7, ← hwz]
            clear hwz
            go_wp2_with fail
            refine (OUT.out _ _ _ _).mono ?_
            rintro e wz ⟨rfl, hwz⟩
            rw [b8, ← hwz]
            clear hwz
            go_wp2_with fail
            go_ret
            exact ⟨by rw [HE.out]; rfl, (Below.refl _ _).alloc (Nat.le_refl _) _⟩
          case false =>
            rw [qb, if_neg (by decide)] at hE
            have HE := Lib.hid hE
            clear hE
            go_enter Tryd.func8, Tryd.ntmps8
            go_wp2_with fail
            refine (OUT.out _ _ _ _).mono ?_
            rintro e wz ⟨rfl, hwz⟩
            rw [b0, ← hwz]
            clear hwz
            go_wp2_with fail
            refine (OUT.out _ _ _ _).mono ?_
            rintro e wz ⟨rfl, hwz⟩
            rw [b1, ← hwz]
            clear hwz
            go_wp2_with fail
            refine (OUT.out _ _ _ _).mono ?_
            rintro e wz ⟨rfl, hwz⟩
            rw [b2, ← hwz]
            clear hwz
            go_wp2_with fail
            refine (OUT.out _ _ _ _).mono ?_
            rintro e wz ⟨rfl, hwz⟩
            rw [b3, ← hwz]
            clear hwz
            go_wp2_with fail
            refine (OUT.out _ _ _ _).mono ?_
            rintro e wz ⟨rfl, hwz⟩
            rw [b4, ← hwz]
            clear hwz
            go_wp2_with fail
            refine (OUT.out _ _ _ _).mono ?_
            rintro e wz ⟨rfl, hwz⟩
            rw [b5, ← hwz]
            clear hwz
            go_wp2_with fail
            refine (OUT.out _ _ _ _).mono ?_
            rintro e wz ⟨rfl, hwz⟩
            rw [b6, ← hwz]
            clear hwz
            go_wp2_with fail
            refine (OUT.out _ _ _ _).mono ?_
            rintro e wz ⟨rfl, hwz⟩
            rw [b7, ← hwz]
            clear hwz
            go_wp2_with fail
            refine (OUT.out _ _ _ _).mono ?_
            rintro e wz ⟨rfl, hwz⟩
            rw [b8, ← hwz]
            clear hwz
            go_wp2_with fail
            go_ret
            exact ⟨by rw [HE.out]; rfl, (Below.refl _ _).alloc (Nat.le_refl _) _⟩
      case true =>
        rw [q6] at hE
        rw [if_pos (by decide)] at hE
        have HE := Lib.hid hE
        clear hE
        go_enter Tryd.func8, Tryd.ntmps8
        go_wp2_with fail
        refine (OUT.out _ _ _ _).mono ?_
        rintro e wz ⟨rfl, hwz⟩
        rw [b0, ← hwz]
        clear hwz
        go_wp2_with fail
        refine (OUT.out _ _ _ _).mono ?_
        rintro e wz ⟨rfl, hwz⟩
        rw [b1, ← hwz]
        clear hwz
        go_wp2_with fail
        refine (OUT.out _ _ _ _).mono ?_
        rintro e wz ⟨rfl, hwz⟩
        rw [b2, ← hwz]
        clear hwz
        go_wp2_with fail
        refine (OUT.out _ _ _ _).mono ?_
        rintro e wz ⟨rfl, hwz⟩
        rw [b3, ← hwz]
        clear hwz
        go_wp2_with fail
        refine (OUT.out _ _ _ _).mono ?_
        rintro e wz ⟨rfl, hwz⟩
        rw [b4, ← hwz]
        clear hwz
        go_wp2_with fail
        refine (OUT.out _ _ _ _).mono ?_
        rintro e wz ⟨rfl, hwz⟩
        rw [b5, ← hwz]
        clear hwz
        go_wp2_with fail
        refine (OUT.out _ _ _ _).mono ?_
        rintro e wz ⟨rfl, hwz⟩
        rw [b6, ← hwz]
        clear hwz
        go_wp2_with fail
        refine (OUT.out _ _ _ _).mono ?_
        rintro e wz ⟨rfl, hwz⟩
        rw [b7, ← hwz]
        clear hwz
        go_wp2_with fail
        refine (OUT.out _ _ _ _).mono ?_
        rintro e wz ⟨rfl, hwz⟩
        rw [b8, ← hwz]
        clear hwz
        go_wp2_with fail
        go_ret
        exact ⟨by rw [HE.out]; rfl, (Below.refl _ _).alloc (Nat.le_refl _) _⟩
    case true =>
      rw [q4, q5] at hE
      rw [if_pos (by decide)] at hE
      have HE := Lib.hid hE
      clear hE
      go_enter Tryd.func8, Tryd.ntmps8
      go_wp2_with fail
      refine (OUT.out _ _ _ _).mono ?_
      rintro e wz ⟨rfl, hwz⟩
      rw [b0, ← hwz]
      clear hwz
      go_wp2_with fail
      refine (OUT.out _ _ _ _).mono ?_
      rintro e wz ⟨rfl, hwz⟩
      rw [b1, ← hwz]
      clear hwz
      go_wp2_with fail
      refine (OUT.out _ _ _ _).mono ?_
      rintro e wz ⟨rfl, hwz⟩
      rw [b2, ← hwz]
      clear hwz
      go_wp2_with fail
      refine (OUT.out _ _ _ _).mono ?_
      rintro e wz ⟨rfl, hwz⟩
      rw [b3, ← hwz]
      clear hwz
      go_wp2_with fail
      refine (OUT.out _ _ _ _).mono ?_
      rintro e wz ⟨rfl, hwz⟩
      rw [b4, ← hwz]
      clear hwz
      go_wp2_with fail
      refine (OUT.out _ _ _ _).mono ?_
      rintro e wz ⟨rfl, hwz⟩
      rw [b5, ← hwz]
      clear hwz
      go_wp2_with fail
      refine (OUT.out _ _ _ _).mono ?_
      rintro e wz ⟨rfl, hwz⟩
      rw [b6, ← hwz]
      clear hwz
      go_wp2_with fail
      refine (OUT.out _ _ _ _).mono ?_
      rintro e wz ⟨rfl, hwz⟩
      rw [b7, ← hwz]
      clear hwz
      go_wp2_with fail
      refine (OUT.out _ _ _ _).mono ?_
      rintro e wz ⟨rfl, hwz⟩
      rw [b8, ← hwz]
      clear hwz
      go_wp2_with fail
      go_ret
      exact ⟨by rw [HE.out]; rfl, (Below.refl _ _).alloc (Nat.le_refl _) _⟩
  case true =>
    cases q5 : (x5 == -1)
    case false =>
      rw [q4, q5] at hE
      rw [if_pos (by decide)] at hE
      have HE := Lib.hid hE
      clear hE
      go_enter Tryd.func8, Tryd.ntmps8
      go_wp2_with fail
      refine (OUT.out _ _ _ _).mono ?_
      rintro e wz ⟨rfl, hwz⟩
      rw [b0, ← hwz]
      clear hwz
      go_wp2_with fail
      refine (OUT.out _ _ _ _).mono ?_
      rintro e wz ⟨rfl, hwz⟩
      rw [b1, ← hwz]
      clear hwz
      go_wp2_with fail
      refine (OUT.out _ _ _ _).mono ?_
      rintro e wz ⟨rfl, hwz⟩
      rw [b2, ← hwz]
      clear hwz
      go_wp2_with fail
      refine (OUT.out _ _ _ _).mono ?_
      rintro e wz ⟨rfl, hwz⟩
      rw [b3, ← hwz]
      clear hwz
      go_wp2_with fail
      refine (OUT.out _ _ _ _).mono ?_
      rintro e wz ⟨rfl, hwz⟩
      rw [b4, ← hwz]
      clear hwz
      go_wp2_with fail
      refine (OUT.out _ _ _ _).mono ?_
      rintro e wz ⟨rfl, hwz⟩
      rw [b5, ← hwz]
      clear hwz
      go_wp2_with fail
      refine (OUT.out _ _ _ _).mono ?_
      rintro e wz ⟨rfl, hwz⟩
      rw [b6, ← hwz]
      clear hwz
      go_wp2_with fail
      refine (OUT.out _ _ _ _).mono ?_
      rintro e wz ⟨rfl, hwz⟩
      rw [b7, ← hwz]
      clear hwz
      go_wp2_with fail
      refine (OUT.out _ _ _ _).mono ?_
      rintro e wz ⟨rfl, hwz⟩
      rw [b8, ← hwz]
      clear hwz
      go_wp2_with fail
      go_ret
      exact ⟨by rw [HE.out]; rfl, (Below.refl _ _).alloc (Nat.le_refl _) _⟩
    case true =>
      rw [q4, q5] at hE
      rw [if_neg (by decide)] at hE
      cases q6 : (x6 == 0)
      case false =>
        rw [q6] at hE
        rw [if_pos (by decide)] at hE
        have HE := Lib.hid hE
        clear hE
        go_enter Tryd.func8, Tryd.ntmps8
        go_wp2_with fail
        refine (OUT.out _ _ _ _).mono ?_
        rintro e wz ⟨rfl, hwz⟩
        rw [b0, ← hwz]
        clear hwz
        go_wp2_with fail
        refine (OUT.out _ _ _ _).mono ?_
        rintro e wz ⟨rfl, hwz⟩
        rw [b1, ← hwz]
        clear hwz
        go_wp2_with fail
        refine (OUT.out _ _ _ _).mono ?_
        rintro e wz ⟨rfl, hwz⟩
        rw [b2, ← hwz]
        clear hwz
        go_wp2_with fail
        refine (OUT.out _ _ _ _).mono ?_
        rintro e wz ⟨rfl, hwz⟩
        rw [b3, ← hwz]
        clear hwz
        go_wp2_with fail
        refine (OUT.out _ _ _ _).mono ?_
        rintro e wz ⟨rfl, hwz⟩
        rw [b4, ← hwz]
        clear hwz
        go_wp2_with fail
        refine (OUT.out _ _ _ _).mono ?_
        rintro e wz ⟨rfl, hwz⟩
        rw [b5, ← hwz]
        clear hwz
        go_wp2_with fail
        refine (OUT.out _ _ _ _).mono ?_
        rintro e wz ⟨rfl, hwz⟩
        rw [b6, ← hwz]
        clear hwz
        go_wp2_with fail
        refine (OUT.out _ _ _ _).mono ?_
        rintro e wz ⟨rfl, hwz⟩
        rw [b7, ← hwz]
        clear hwz
        go_wp2_with fail
        refine (OUT.out _ _ _ _).mono ?_
        rintro e wz ⟨rfl, hwz⟩
        rw [b8, ← hwz]
        clear hwz
        go_wp2_with fail
        go_ret
        exact ⟨by rw [HE.out]; rfl, (Below.refl _ _).alloc (Nat.le_refl _) _⟩
      case true =>
        rw [q6] at hE
        rw [if_neg (by decide)] at hE
        rw [Bool.true_and] at hE
        cases q2 : decide (0 < x2)
        case true =>
          rw [q2, if_pos rfl] at hE
          have HE := Lib.hid hE
          clear hE
          go_enter Tryd.func8, Tryd.ntmps8
          go_wp2_with fail
          refine (OUT.out _ _ _ _).mono ?_
          rintro e wz ⟨rfl, hwz⟩
          rw [b0, ← hwz]
          clear hwz
          go_wp2_with fail
          refine (OUT.out _ _ _ _).mono ?_
          rintro e wz ⟨rfl, hwz⟩
          rw [b1, ← hwz]
          clear hwz
          go_wp2_with fail
          refine (OUT.out _ _ _ _).mono ?_
          rintro e wz ⟨rfl, hwz⟩
          rw [b2, ← hwz]
          clear hwz
          go_wp2_with fail
          refine (OUT.out _ _ _ _).mono ?_
          rintro e wz ⟨rfl, hwz⟩
          rw [b3, ← hwz]
          clear hwz
          go_wp2_with fail
          refine (OUT.out _ _ _ _).mono ?_
          rintro e wz ⟨rfl, hwz⟩
          rw [b4, ← hwz]
          clear hwz
          go_wp2_with fail
          refine (OUT.out _ _ _ _).mono ?_
          rintro e wz ⟨rfl, hwz⟩
          rw [b5, ← hwz]
          clear hwz
          go_wp2_with fail
          refine (OUT.out _ _ _ _).mono ?_
          rintro e wz ⟨rfl, hwz⟩
          rw [b6, ← hwz]
          clear hwz
          go_wp2_with fail
          refine (OUT.out _ _ _ _).mono ?_
          rintro e wz ⟨rfl, hwz⟩
          rw [b7, ← hwz]
          clear hwz
          go_wp2_with fail
          refine (OUT.out _ _ _ _).mono ?_
          rintro e wz ⟨rfl, hwz⟩
          rw [b8, ← hwz]
          clear hwz
          go_wp2_with fail
          go_ret
          exact ⟨by rw [HE.out]; rfl, (Below.refl _ _).alloc (Nat.le_refl _) _⟩
        case false =>
          rw [q2, if_neg (by decide)] at hE
          cases qa : decide (x4 < x5)
          case true =>
            rw [qa, if_pos rfl] at hE
            have HE := Lib.hid hE
            clear hE
            go_enter Tryd.func8, Tryd.ntmps8
            go_wp2_with fail
            refine (OUT.out _ _ _ _).mono ?_
            rintro e wz ⟨rfl, hwz⟩
            rw [b0, ← hwz]
            clear hwz
            go_wp2_with fail
            refine (OUT.out _ _ _ _).mono ?_
            rintro e wz ⟨rfl, hwz⟩
            rw [b1, ← hwz]
            clear hwz
            go_wp2_with fail
            refine (OUT.out _ _ _ _).mono ?_
            rintro e wz ⟨rfl, hwz⟩
            rw [b2, ← hwz]
            clear hwz
            go_wp2_with fail
            refine (OUT.out _ _ _ _).mono ?_
            rintro e wz ⟨rfl, hwz⟩
            rw [b3, ← hwz]
            clear hwz
            go_wp2_with fail
            refine (OUT.out _ _ _ _).mono ?_
            rintro e wz ⟨rfl, hwz⟩
            rw [b4, ← hwz]
            clear hwz
            go_wp2_with fail
            refine (OUT.out _ _ _ _).mono ?_
            rintro e wz ⟨rfl, hwz⟩
            rw [b5, ← hwz]
            clear hwz
            go_wp2_with fail
            refine (OUT.out _ _ _ _).mono ?_
            rintro e wz ⟨rfl, hwz⟩
            rw [b6, ← hwz]
            clear hwz
            go_wp2_with fail
            refine (OUT.out _ _ _ _).mono ?_
            rintro e wz ⟨rfl, hwz⟩
            rw [b7, ← hwz]
            clear hwz
            go_wp2_with fail
            refine (OUT.out _ _ _ _).mono ?_
            rintro e wz ⟨rfl, hwz⟩
            rw [b8, ← hwz]
            clear hwz
            go_wp2_with fail
            go_ret
            exact ⟨by rw [HE.out]; rfl, (Below.refl _ _).alloc (Nat.le_refl _) _⟩
          case false =>
            rw [qa, if_neg (by decide)] at hE
            cases qb : decide (x6 < x7)
            case true =>
              rw [qb, if_pos rfl] at hE
              have HE := Lib.hid hE
              clear hE
              go_enter Tryd.func8, Tryd.ntmps8
              go_wp2_with fail
              refine (OUT.out _ _ _ _).mono ?_
              rintro e wz ⟨rfl, hwz⟩
              rw [b0, ← hwz]
              clear hwz
              go_wp2_with fail
              refine (OUT.out _ _ _ _).mono ?_
              rintro e wz ⟨rfl, hwz⟩
              rw [b1, ← hwz]
              clear hwz
              go_wp2_with fail
              refine (OUT.out _ _ _ _).mono ?_
              rintro e wz ⟨rfl, hwz⟩
              rw [b2, ← hwz]
              clear hwz
              go_wp2_with fail
              refine (OUT.out _ _ _ _).mono ?_
              rintro e wz ⟨rfl, hwz⟩
              rw [b3, ← hwz]
              clear hwz
              go_wp2_with fail
              refine (OUT.out _ _ _ _).mono ?_
              rintro e wz ⟨rfl, hwz⟩
              rw [b4, ← hwz]
              clear hwz
              go_wp2_with fail
              refine (OUT.out _ _ _ _).mono ?_
              rintro e wz ⟨rfl, hwz⟩
              rw [b5, ← hwz]
              clear hwz
              go_wp2_with fail
              refine (OUT.out _ _ _ _).mono ?_
              rintro e wz ⟨rfl, hwz⟩
              rw [b6, ← hwz]
              clear hwz
              go_wp2_with fail
              refine (OUT.out _ _ _ _).mono ?_
              rintro e wz ⟨rfl, hwz⟩
              rw [b7, ← hwz]
              clear hwz
              go_wp2_with fail
              refine (OUT.out _ _ _ _).mono ?_
              rintro e wz ⟨rfl, hwz⟩
              rw [b8, ← hwz]
              clear hwz
              go_wp2_with fail
              go_ret
              exact ⟨by rw [HE.out]; rfl, (Below.refl _ _).alloc (Nat.le_refl _) _⟩
            case false =>
              rw [qb, if_neg (by decide)] at hE
              have HE := Lib.hid hE
              clear hE
              go_enter Tryd.func8, Tryd.ntmps8
              go_wp2_with fail
              refine (OUT.out _ _ _ _).mono ?_
              rintro e wz ⟨rfl, hwz⟩
              rw [b0, ← hwz]
              clear hwz
              go_wp2_with fail
              refine (OUT.out _ _ _ _).mono ?_
              rintro e wz ⟨rfl, hwz⟩
              rw [b1, ← hwz]
              clear hwz
              go_wp2_with fail
              refine (OUT.out _ _ _ _).mono ?_
              rintro e wz ⟨rfl, hwz⟩
              rw [b2, ← hwz]
              clear hwz
              go_wp2_with fail
              refine (OUT.out _ _ _ _).mono ?_
              rintro e wz ⟨rfl, hwz⟩
              rw [b3, ← hwz]
              clear hwz
              go_wp2_with fail
              refine (OUT.out _ _ _ _).mono ?_
              rintro e wz ⟨rfl, hwz⟩
              rw [b4, ← hwz]
              clear hwz
              go_wp2_with fail
              refine (OUT.out _ _ _ _).mono ?_
              rintro e wz ⟨rfl, hwz⟩
              rw [b5, ← hwz]
              clear hwz
              go_wp2_with fail
              refine (OUT.out _ _ _ _).mono ?_
              rintro e wz ⟨rfl, hwz⟩
              rw [b6, ← hwz]
              clear hwz
              go_wp2_with fail
              refine (OUT.out _ _ _ _).mono ?_
              rintro e wz ⟨rfl, hwz⟩
              rw [b7, ← hwz]
              clear hwz
              go_wp2_with fail
              refine (OUT.out _ _ _ _).mono ?_
              rintro e wz ⟨rfl, hwz⟩
              rw [b8, ← hwz]
              clear hwz
              go_wp2_with fail
              go_ret
              exact ⟨by rw [HE.out]; rfl, (Below.refl _ _).alloc (Nat.le_refl _) _⟩
end Go.Proofs.YtiplhngpilcijaaDoor
