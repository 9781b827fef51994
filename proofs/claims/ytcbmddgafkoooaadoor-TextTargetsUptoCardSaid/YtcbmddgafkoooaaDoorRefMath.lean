/-
  DERIVED. Plain law: digits, and what Atoi makes of them. Conditions: none. By an AI agent.
-/
import Derived.Test.YtcbmddgafkoooaaDoorTokMath
import Derived.Lib.Atoi
namespace Go.Proofs.YtcbmddgafkoooaaDoor
open Go.RowKit

def digU (b : UInt8) : Bool := digB (b.toNat : Int)
theorem digitVal_of {b : UInt8} (h : digU b = true) : Lib.digitVal b = some (b.toNat - 48) := by
  unfold digU digB at h
  simp at h
  unfold Lib.digitVal
  rw [if_pos (by omega)]
theorem decFrom_all : ∀ (l : List UInt8) (n : Nat), l.all digU = true → Lib.decFrom n l = some (l.foldl (fun n c => 10 * n + (c.toNat - 48)) n)
  | [], n, _ => rfl
  | b :: l, n, h => by
    simp only [List.all_cons, Bool.and_eq_true] at h
    simp only [Lib.decFrom, digitVal_of h.1, List.foldl_cons]
    rw [decFrom_all l _ h.2]
    rw [Nat.mul_comm n 10]
theorem atoi_digits {l : List UInt8} (h : l.all digU = true) (hne : l ≠ []) : Lib.atoi l = some (digVal l : Int) := by
  cases l with
  | nil => exact absurd rfl hne
  | cons b l =>
    have hb : digU b = true := by simp only [List.all_cons, Bool.and_eq_true] at h; exact h.1
    have h45 : (b == 45) = false := by
      simp; intro e; subst e; simp [digU, digB] at hb
    have h43 : (b == 43) = false := by
      simp; intro e; subst e; simp [digU, digB] at hb
    have := decFrom_all (b :: l) 0 h
    simp only [Lib.atoi, Lib.decNat, h45, h43, Bool.false_eq_true, if_false, List.isEmpty_cons, this, digVal, Option.map_some]

/-- the bytes of a cut -/
theorem ext_get (s : ByteArray) (a e j : Nat) (_he : e ≤ s.size) (h : j < e - a) : (s.extract a e).data.toList[j]? = s.data.toList[a + j]? := by
  rw [ByteArray.data_extract, Array.toList_extract]
  simp only [List.extract]
  rw [List.getElem?_take_of_lt (by omega), List.getElem?_drop]
theorem bt_ext (s : ByteArray) (a e j : Nat) (he : e ≤ s.size) (h : j < e - a) : bt (s.extract a e) j = bt s (a + j) := by
  have h1 : j < (s.extract a e).size := by rw [ByteArray.size_extract]; omega
  have h2 : a + j < s.size := by omega
  rw [bt_at h1, bt_at h2]
  have := ext_get s a e j he h
  rw [List.getElem?_eq_getElem (by rw [Array.length_toList]; exact h1), List.getElem?_eq_getElem (by rw [Array.length_toList]; exact h2)] at this
  have e1 : (s.extract a e)[j] = s[a + j] := Option.some.inj this
  rw [e1]
theorem all_ext {s : ByteArray} {a e : Nat} (he : e ≤ s.size) (p : Int → Bool) (h : ∀ j, a ≤ j → j < e → p (bt s j) = true) : (s.extract a e).data.toList.all (fun b => p (b.toNat : Int)) = true := by
  rw [List.all_eq_true]
  intro b hb
  obtain ⟨j, hj, rfl⟩ := List.mem_iff_getElem.1 hb
  have hj' : j < (s.extract a e).size := by rw [Array.length_toList] at hj; exact hj
  have hj2 : j < e - a := by rw [ByteArray.size_extract] at hj'; omega
  have := bt_ext s a e j he hj2
  rw [bt_at hj'] at this
  have h2 := h (a + j) (by omega) (by omega)
  rw [← this] at h2
  exact h2
end Go.Proofs.YtcbmddgafkoooaaDoor
