/-
  DERIVED. Plain law: digits and their number; how far digits go. Conditions: none.
  By an AI agent.
-/
import Derived.Test.YtbdcimakdiegnaaGreatDoorVa14
namespace Go.Proofs.YtbdcimakdiegnaaGreatDoor

theorem dec_some : ∀ (l : List UInt8) (acc : Nat), l.all isDg = true → ∃ n, Lib.decFrom acc l = some n ∧ n < (acc + 1) * 10 ^ l.length
  | [], acc, _ => ⟨acc, rfl, by simp⟩
  | b :: l, acc, h => by
    rw [List.all_cons, Bool.and_eq_true] at h
    have hb := (isDg_iff b).1 h.1
    have hv : Lib.digitVal b = some (b.toNat - 48) := by
      unfold Lib.digitVal
      rw [if_pos (by omega)]
    obtain ⟨n, hn, hl⟩ := dec_some l (acc * 10 + (b.toNat - 48)) h.2
    refine ⟨n, ?_, ?_⟩
    · simp only [Lib.decFrom]
      rw [hv]
      first | exact hn | (rw [Nat.mul_comm] at hn; exact hn)
    · rw [List.length_cons, Nat.pow_succ]
      have : (acc * 10 + (b.toNat - 48) + 1) * 10 ^ l.length ≤ ((acc + 1) * 10) * 10 ^ l.length := Nat.mul_le_mul_right _ (by omega)
      have e : (acc + 1) * (10 ^ l.length * 10) = ((acc + 1) * 10) * 10 ^ l.length := by
        rw [Nat.mul_assoc, Nat.mul_comm 10]
      omega
theorem nat_some {l : List UInt8} (h : l.all isDg = true) (h0 : l ≠ []) : ∃ n, Lib.decNat l = some n ∧ n < 10 ^ l.length := by
  obtain ⟨n, h1, h2⟩ := dec_some l 0 h
  refine ⟨n, ?_, by simpa using h2⟩
  unfold Lib.decNat
  rw [if_neg (by simpa using h0), h1]
theorem dg_sign {b : UInt8} (h : isDg b = true) : (b == 45) = false ∧ (b == 43) = false := by
  have := (isDg_iff b).1 h
  constructor
  · cases e : b == 45
    · rfl
    · rw [beq_iff_eq] at e; subst e; exact absurd this.1 (by decide)
  · cases e : b == 43
    · rfl
    · rw [beq_iff_eq] at e; subst e; exact absurd this.1 (by decide)
theorem atoi_dg {l : List UInt8} (h : l.all isDg = true) (h0 : l ≠ []) : Lib.atoi l = some (dNum l) ∧ 0 ≤ dNum l ∧ dNum l < 10 ^ l.length := by
  obtain ⟨n, h1, h2⟩ := nat_some h h0
  unfold dNum
  rw [h1]
  refine ⟨?_, by simp, by simp only [Option.getD_some]; exact_mod_cast h2⟩
  match l, h0 with
  | b :: r, _ =>
    rw [List.all_cons, Bool.and_eq_true] at h
    obtain ⟨n1, n2⟩ := dg_sign h.1
    simp only [Lib.atoi]
    rw [n1, n2, h1]
    simp
/-- a number's text, signed or not, of at most ten digits -/
theorem atoi_pl {x : List UInt8} (h : (Lib.trimPrefix x [45]).all isDg = true) (h0 : Lib.trimPrefix x [45] ≠ []) (hz : (Lib.trimPrefix x [45]).length ≤ 10) : ∃ n : Int, Lib.atoi x = some n ∧ n.natAbs < 10 ^ 10 ∧ x.length ≤ 11 := by
  have hp : ∀ l : List UInt8, l.length ≤ 10 → 10 ^ l.length ≤ 10 ^ 10 := fun l hl => Nat.pow_le_pow_right (by omega) hl
  unfold Lib.trimPrefix Lib.hasPrefix at h h0 hz
  by_cases hx : ([45] : List UInt8).isPrefixOf x = true
  · rw [if_pos hx] at h h0 hz
    obtain ⟨r, rfl⟩ : ∃ r, x = 45 :: r := by
      rw [List.isPrefixOf_iff_prefix] at hx
      obtain ⟨r, hr⟩ := hx
      exact ⟨r, hr.symm⟩
    simp only [List.length_cons, List.length_nil, List.drop_succ_cons, List.drop_zero] at h h0 hz
    obtain ⟨n, h1, h2⟩ := nat_some h h0
    have := hp r hz
    refine ⟨-(n : Int), ?_, by omega, by simp; omega⟩
    simp only [Lib.atoi]
    rw [if_pos (by decide), h1]
    rfl
  · rw [if_neg hx] at h h0 hz
    obtain ⟨h1, h2, h3⟩ := atoi_dg h h0
    have := hp x hz
    have h4 : dNum x < 10 ^ 10 := Int.lt_of_lt_of_le h3 (by exact_mod_cast this)
    exact ⟨_, h1, by omega, by omega⟩
theorem tw_at {p : UInt8 → Bool} : ∀ {l : List UInt8} {k : Nat}, k ≤ (l.takeWhile p).length → (k < (l.takeWhile p).length ↔ ∃ c r, l.drop k = c :: r ∧ p c = true)
  | [], k, _ => by simp
  | b :: l, k, h => by
    rw [List.takeWhile_cons] at h ⊢
    cases hb : p b
    · rw [hb] at h
      simp only [Bool.false_eq_true, if_false, List.length_nil, Nat.le_zero] at h ⊢
      subst h
      simp [hb]
    · rw [hb] at h
      simp only [if_true, List.length_cons] at h ⊢
      match k with
      | 0 => simp [hb]
      | k + 1 =>
        rw [List.drop_succ_cons, ← tw_at (p := p) (l := l) (k := k) (by omega)]
        omega
theorem tw_le {p : UInt8 → Bool} (l : List UInt8) : (l.takeWhile p).length ≤ l.length := by
  induction l with
  | nil => simp
  | cons b l ih =>
    rw [List.takeWhile_cons]
    split
    · simp; omega
    · simp
end Go.Proofs.YtbdcimakdiegnaaGreatDoor
