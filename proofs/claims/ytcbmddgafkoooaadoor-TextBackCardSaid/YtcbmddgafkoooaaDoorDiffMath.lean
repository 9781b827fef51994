/-
  DERIVED. Plain law: how many bytes two strings have in common at the front, and behind that at the end. Conditions: none. By an AI agent.
-/
import Derived.Test.YtcbmddgafkoooaaDoorBase
namespace Go.Proofs.YtcbmddgafkoooaaDoor
open Go.RowKit

/-- the bytes are the same there -/
def eqAt (a b : ByteArray) (i j : Nat) : Bool := if h : i < a.size ∧ j < b.size then (a[i]'h.1).toNat == (b[j]'h.2).toNat else false
theorem eqAt_yes {a b : ByteArray} {i j : Nat} (hi : i < a.size) (hj : j < b.size) (h : (((a[i]).toNat : Int) == ((b[j]).toNat : Int)) = true) : eqAt a b i j = true := by
  unfold eqAt; rw [dif_pos ⟨hi, hj⟩]; simp at h ⊢; omega
theorem eqAt_no {a b : ByteArray} {i j : Nat} (hi : i < a.size) (hj : j < b.size) (h : (((a[i]).toNat : Int) == ((b[j]).toNat : Int)) = false) : eqAt a b i j = false := by
  unfold eqAt; rw [dif_pos ⟨hi, hj⟩]; simp at h ⊢; omega

def cpN (a b : ByteArray) : Nat → Nat → Nat
  | 0, k => k
  | n + 1, k => if eqAt a b k k = true then cpN a b n (k + 1) else k
def cp (a b : ByteArray) : Nat := cpN a b a.size 0

theorem cpN_yes {a b : ByteArray} {k : Nat} (hk : k < a.size) (h : eqAt a b k k = true) : cpN a b (a.size - (k + 1)) (k + 1) = cpN a b (a.size - k) k := by
  obtain ⟨n, hn⟩ : ∃ n, a.size - k = n + 1 := ⟨a.size - k - 1, by omega⟩
  rw [hn, show a.size - (k + 1) = n by omega]
  simp [cpN, h]
theorem cpN_no {a b : ByteArray} {n k : Nat} (h : eqAt a b k k = false) : cpN a b n k = k := by
  cases n <;> simp [cpN, h]
theorem eqAt_out {a b : ByteArray} {i j : Nat} (h : a.size ≤ i ∨ b.size ≤ j) : eqAt a b i j = false := by
  unfold eqAt; rw [dif_neg (by omega)]

theorem cpN_le (a b : ByteArray) : ∀ n k, k ≤ a.size → k ≤ b.size → cpN a b n k ≤ a.size ∧ cpN a b n k ≤ b.size
  | 0, k, h, h' => ⟨h, h'⟩
  | n + 1, k, h, h' => by
    unfold cpN
    split
    · rename_i he
      have : k < a.size ∧ k < b.size := by
        unfold eqAt at he
        split at he
        · assumption
        · cases he
      exact cpN_le a b n (k + 1) (by omega) (by omega)
    · exact ⟨h, h'⟩
theorem cp_le (a b : ByteArray) : cp a b ≤ a.size ∧ cp a b ≤ b.size := cpN_le a b _ _ (Nat.zero_le _) (Nat.zero_le _)

def sfN (a b : ByteArray) (k : Nat) : Nat → Nat → Nat
  | 0, n => n
  | m + 1, n => if n < a.size - k ∧ n < b.size - k ∧ eqAt a b (a.size - 1 - n) (b.size - 1 - n) = true then sfN a b k m (n + 1) else n
def sf (a b : ByteArray) : Nat := sfN a b (cp a b) a.size 0

theorem sfN_yes {a b : ByteArray} {k n : Nat} (hk : n < a.size) (h : n < a.size - k ∧ n < b.size - k ∧ eqAt a b (a.size - 1 - n) (b.size - 1 - n) = true) : sfN a b k (a.size - (n + 1)) (n + 1) = sfN a b k (a.size - n) n := by
  obtain ⟨m, hm⟩ : ∃ m, a.size - n = m + 1 := ⟨a.size - n - 1, by omega⟩
  rw [hm, show a.size - (n + 1) = m by omega]
  simp only [sfN, if_pos h]
theorem sfN_no {a b : ByteArray} {k m n : Nat} (h : ¬ (n < a.size - k ∧ n < b.size - k ∧ eqAt a b (a.size - 1 - n) (b.size - 1 - n) = true)) : sfN a b k m n = n := by
  cases m
  · rfl
  · simp only [sfN, if_neg h]
theorem sfN_le (a b : ByteArray) (k : Nat) : ∀ m n, n ≤ a.size - k → n ≤ b.size - k → sfN a b k m n ≤ a.size - k ∧ sfN a b k m n ≤ b.size - k
  | 0, n, h, h' => ⟨h, h'⟩
  | m + 1, n, h, h' => by
    unfold sfN
    split
    · rename_i he
      exact sfN_le a b k m (n + 1) (by omega) (by omega)
    · exact ⟨h, h'⟩
theorem sf_le (a b : ByteArray) : sf a b ≤ a.size - cp a b ∧ sf a b ≤ b.size - cp a b := sfN_le a b _ _ _ (Nat.zero_le _) (Nat.zero_le _)

/-- the shortest edit that makes b of a, as a value -/
def diffV (a b : ByteArray) : Value := .agg #[.int .i64 (cp a b : Nat), .int .i64 ((a.size - sf a b : Nat) : Int), .string (b.extract (cp a b) (b.size - sf a b))]

end Go.Proofs.YtcbmddgafkoooaaDoor
