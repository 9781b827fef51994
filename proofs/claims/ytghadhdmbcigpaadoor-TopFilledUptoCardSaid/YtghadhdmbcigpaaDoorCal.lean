/-
  DERIVED. Plain law: the calendar: the days before a year, the days before a month, dates one after the other, weeks. Conditions: none. By an AI agent.
-/
import Derived.WalkKit
namespace Go.Proofs.YtghadhdmbcigpaaDoor.cal

def bef (y : Int) : Int := 365 * (y - 2001) + (y - 1) / 4 - 500 - (y - 1) / 100 + 20 + (y - 1) / 400 - 5
def lp (y : Int) : Int := if y % 4 = 0 ∧ (y % 100 ≠ 0 ∨ y % 400 = 0) then 1 else 0
theorem lp_01 (y : Int) : lp y = 0 ∨ lp y = 1 := by unfold lp; split <;> simp
theorem bef_succ (y : Int) : bef (y + 1) = bef y + 365 + lp y := by unfold bef lp; split <;> omega
theorem bef_mono {a b : Int} (h : a ≤ b) : bef a ≤ bef b := by unfold bef; omega
theorem bef_lo {y : Int} (h : 2001 ≤ y) : 0 ≤ bef y := by unfold bef; omega
theorem bef_hi {y d : Int} (h : bef y ≤ d) (hd : d ≤ 200000) : y ≤ 2600 := by unfold bef at h; omega
theorem bef_guess {d : Int} (h : 0 ≤ d) (hd : d ≤ 200000) : bef (2001 + d / 366) ≤ d := by unfold bef; omega
theorem bef_uniq {y y' d : Int} (h : bef y ≤ d) (h1 : d < bef (y + 1)) (h' : bef y' ≤ d) (h1' : d < bef (y' + 1)) : y = y' := by
  rcases Int.lt_trichotomy y y' with h2 | h2 | h2
  · have := bef_mono (show y + 1 ≤ y' by omega); omega
  · exact h2
  · have := bef_mono (show y' + 1 ≤ y by omega); omega

def ml (y m : Int) : Int := if m = 2 then 28 + lp y else if m = 4 ∨ m = 6 ∨ m = 9 ∨ m = 11 then 30 else 31
def cum (y m : Int) : Int :=
  if m = 1 then 0 else if m = 2 then 31 else if m = 3 then 59 + lp y else if m = 4 then 90 + lp y else if m = 5 then 120 + lp y else if m = 6 then 151 + lp y else if m = 7 then 181 + lp y
  else if m = 8 then 212 + lp y else if m = 9 then 243 + lp y else if m = 10 then 273 + lp y else if m = 11 then 304 + lp y else if m = 12 then 334 + lp y else 365 + lp y

theorem month_cases {m : Int} (h : 1 ≤ m) (h' : m ≤ 12) : m = 1 ∨ m = 2 ∨ m = 3 ∨ m = 4 ∨ m = 5 ∨ m = 6 ∨ m = 7 ∨ m = 8 ∨ m = 9 ∨ m = 10 ∨ m = 11 ∨ m = 12 := by omega
theorem cum_succ (y : Int) {m : Int} (h : 1 ≤ m) (h' : m ≤ 12) : cum y (m + 1) = cum y m + ml y m := by
  rcases month_cases h h' with rfl | rfl | rfl | rfl | rfl | rfl | rfl | rfl | rfl | rfl | rfl | rfl <;> simp [cum, ml] <;> omega
theorem cum_13 (y : Int) : cum y 13 = 365 + lp y := by simp [cum]
theorem ml_lo (y m : Int) : 28 ≤ ml y m := by have := lp_01 y; unfold ml; repeat' split
                                              all_goals omega
theorem ml_hi (y m : Int) : ml y m ≤ 31 := by have := lp_01 y; unfold ml; repeat' split
                                              all_goals omega
theorem cum_bd (y : Int) {m : Int} (h : 1 ≤ m) (h' : m ≤ 13) : 0 ≤ cum y m ∧ cum y m ≤ 366 := by
  have := lp_01 y
  have hm : m = 1 ∨ m = 2 ∨ m = 3 ∨ m = 4 ∨ m = 5 ∨ m = 6 ∨ m = 7 ∨ m = 8 ∨ m = 9 ∨ m = 10 ∨ m = 11 ∨ m = 12 ∨ m = 13 := by omega
  rcases hm with rfl | rfl | rfl | rfl | rfl | rfl | rfl | rfl | rfl | rfl | rfl | rfl | rfl <;> simp [cum] <;> omega
/-- the days before a month go up -/
theorem cum_mono (y : Int) {m m' : Int} (h : 1 ≤ m) (h' : m' ≤ 13) (hm : m < m') : cum y m + ml y m ≤ cum y m' := by
  have key : ∀ n : Nat, ∀ m' : Int, m' = m + 1 + n → m' ≤ 13 → cum y m + ml y m ≤ cum y m' := by
    intro n
    induction n with
    | zero => intro m' e hm'; rw [show m' = m + 1 by omega, cum_succ y h (by omega)]; exact Int.le_refl _
    | succ n ih =>
      intro m' e hm'
      have := ih (m' - 1) (by omega) (by omega)
      have h2 := cum_succ y (m := m' - 1) (by omega) (by omega)
      have := ml_lo y (m' - 1)
      rw [show m' - 1 + 1 = m' by omega] at h2
      omega
  exact key (m' - m - 1).toNat m' (by omega) h'

structure IsDate (d y m k : Int) : Prop where
  y0 : 2001 ≤ y
  b0 : bef y ≤ d
  b1 : d < bef (y + 1)
  m0 : 1 ≤ m
  m1 : m ≤ 12
  k0 : 1 ≤ k
  k1 : k ≤ ml y m
  eq : d = bef y + cum y m + k - 1

theorem next_date {d y1 m1 k1 y2 m2 k2 : Int} (h : IsDate d y1 m1 k1) (h' : IsDate (d + 1) y2 m2 k2) :
    (y2 = y1 ∧ m2 = m1 ∧ k2 = k1 + 1) ∨ (28 ≤ k1 ∧ k2 = 1 ∧ ((y2 = y1 ∧ m2 = m1 + 1) ∨ (y2 = y1 + 1 ∧ m1 = 12 ∧ m2 = 1))) := by
  obtain ⟨a0, a1, a2, a3, a4, a5, a6, a7⟩ := h
  obtain ⟨c0, c1, c2, c3, c4, c5, c6, c7⟩ := h'
  have l1 := ml_lo y1 m1
  by_cases hy : d + 1 < bef (y1 + 1)
  · obtain rfl : y1 = y2 := bef_uniq (d := d + 1) (by omega) hy c1 c2
    rcases Int.lt_trichotomy m1 m2 with h2 | h2 | h2
    · have h3 := cum_mono y1 a3 (by omega) h2
      have : m2 = m1 + 1 := by
        by_cases h4 : m1 + 1 < m2
        · have := cum_mono y1 (m := m1 + 1) (by omega) (by omega) h4
          have := cum_succ y1 a3 a4
          have := ml_lo y1 (m1 + 1)
          omega
        · omega
      subst this
      have := cum_succ y1 a3 a4
      exact .inr ⟨by omega, by omega, .inl ⟨rfl, rfl⟩⟩
    · subst h2; exact .inl ⟨rfl, rfl, by omega⟩
    · have h3 := cum_mono y1 c3 (by omega) h2
      omega
  · have hb : bef (y1 + 1) = d + 1 := by omega
    obtain rfl : y1 + 1 = y2 := bef_uniq (d := d + 1) (by omega) (by have := bef_succ (y1 + 1); have := lp_01 (y1 + 1); omega) c1 c2
    have e := bef_succ y1
    have hm2 : m2 = 1 := by
      by_cases h4 : 1 < m2
      · have := cum_mono (y1 + 1) (m := 1) (by omega) (by omega) h4
        have := ml_lo (y1 + 1) 1
        have : cum (y1 + 1) 1 = 0 := rfl
        omega
      · omega
    subst hm2
    have e1 : cum (y1 + 1) 1 = 0 := rfl
    have hm1 : m1 = 12 := by
      by_cases h4 : m1 < 12
      · have := cum_mono y1 a3 (by omega) h4
        have h5 := cum_succ y1 (m := 12) (by omega) (by omega)
        have := cum_13 y1
        have : ml y1 12 = 31 := rfl
        rw [show (12 : Int) + 1 = 13 from rfl] at h5
        omega
      · omega
    subst hm1
    have h5 := cum_succ y1 (m := 12) (by omega) (by omega)
    have := cum_13 y1
    have h6 : ml y1 12 = 31 := rfl
    rw [show (12 : Int) + 1 = 13 from rfl] at h5
    exact .inr ⟨by omega, by omega, .inr ⟨rfl, rfl, rfl⟩⟩

def thu (d : Int) : Int := d - d % 7 + 3
/-- the week of a Thursday in its year -/
def wk (t y : Int) : Int := (t - bef y) / 7 + 1
theorem week_next {d y1 y2 : Int} (h1 : bef y1 ≤ thu d) (h1' : thu d < bef (y1 + 1)) (h2 : bef y2 ≤ thu (d + 1)) (h2' : thu (d + 1) < bef (y2 + 1)) :
    (d % 7 ≠ 6 ∧ y2 = y1 ∧ wk (thu (d + 1)) y2 = wk (thu d) y1) ∨ (d % 7 = 6 ∧ y2 = y1 ∧ wk (thu (d + 1)) y2 = wk (thu d) y1 + 1) ∨ (d % 7 = 6 ∧ y2 = y1 + 1 ∧ wk (thu (d + 1)) y2 = 1 ∧ 52 ≤ wk (thu d) y1) := by
  by_cases h : d % 7 = 6
  · have ht : thu (d + 1) = thu d + 7 := by unfold thu; omega
    rw [ht] at h2 h2' ⊢
    by_cases hy : thu d + 7 < bef (y1 + 1)
    · obtain rfl : y1 = y2 := bef_uniq (d := thu d + 7) (by omega) hy h2 h2'
      exact .inr (.inl ⟨h, rfl, by unfold wk; omega⟩)
    · have e := bef_succ y1
      have e' := bef_succ (y1 + 1)
      have l := lp_01 y1
      have l' := lp_01 (y1 + 1)
      obtain rfl : y1 + 1 = y2 := bef_uniq (d := thu d + 7) (by omega) (by omega) h2 h2'
      exact .inr (.inr ⟨h, rfl, by unfold wk; omega, by unfold wk; omega⟩)
  · have ht : thu (d + 1) = thu d := by unfold thu; omega
    rw [ht] at h2 h2' ⊢
    obtain rfl : y1 = y2 := bef_uniq h1 h1' h2 h2'
    exact .inl ⟨h, rfl, rfl⟩
end Go.Proofs.YtghadhdmbcigpaaDoor.cal
