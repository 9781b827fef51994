/-
  DERIVED. Bytes of a text at places, the library's searches in them. Conditions: none. By an AI agent.
-/
import Derived.WalkKit
import Derived.Lib.IndexAny
import Derived.Lib.Strings
import Derived.Lib.Bytealg
namespace Go.Proofs.Yteichcpbfdjjkaa
open Go.RowKit

/-- the byte at a place; -1 behind the end -/
def bt (s : ByteArray) (i : Nat) : Int := if h : i < s.size then ((s[i]'h).toNat : Int) else -1
theorem bt_at {s : ByteArray} {i : Nat} (h : i < s.size) : bt s i = (s[i].toNat : Int) := by unfold bt; rw [dif_pos h]
theorem bt_out {s : ByteArray} {i : Nat} (h : s.size ≤ i) : bt s i = -1 := by unfold bt; rw [dif_neg (by omega)]
theorem bt_lo (s : ByteArray) (i : Nat) : -1 ≤ bt s i := by unfold bt; split <;> omega
theorem bt_in {s : ByteArray} {i : Nat} (h : 0 ≤ bt s i) : i < s.size := by
  rcases Nat.lt_or_ge i s.size with h' | h'
  · exact h'
  · rw [bt_out h'] at h; omega
theorem bt_hi (s : ByteArray) (i : Nat) : bt s i ≤ 255 := by
  unfold bt; split
  · have := (s[i]).toNat_lt; omega
  · omega

def uptoN (stop : Int → Bool) (s : ByteArray) : Nat → Nat → Nat
  | 0, i => i
  | n + 1, i => if stop (bt s i) = true then i else uptoN stop s n (i + 1)
/-- the first place from i on at which the byte stops -/
def upto (stop : Int → Bool) (s : ByteArray) (i : Nat) : Nat := uptoN stop s (s.size - i) i

theorem upto_out {stop : Int → Bool} {s : ByteArray} {i : Nat} (h : s.size ≤ i) : upto stop s i = i := by unfold upto; rw [show s.size - i = 0 by omega]; rfl
theorem upto_go {stop : Int → Bool} {s : ByteArray} {i : Nat} (hi : i < s.size) (h : stop (bt s i) = false) : upto stop s i = upto stop s (i + 1) := by
  unfold upto
  obtain ⟨n, hn⟩ : ∃ n, s.size - i = n + 1 := ⟨s.size - i - 1, by omega⟩
  rw [hn, show s.size - (i + 1) = n by omega]
  simp [uptoN, h]
theorem upto_stop {stop : Int → Bool} {s : ByteArray} {i : Nat} (h : stop (bt s i) = true) : upto stop s i = i := by
  unfold upto
  cases s.size - i <;> simp [uptoN, h]

theorem upto_spec (stop : Int → Bool) (s : ByteArray) : ∀ n i, s.size - i = n → i ≤ upto stop s i ∧ (i ≤ s.size → upto stop s i ≤ s.size) ∧ (∀ j, i ≤ j → j < upto stop s i → stop (bt s j) = false) ∧ (upto stop s i < s.size → stop (bt s (upto stop s i)) = true)
  | 0, i, hn => by
    rw [upto_out (by omega)]
    exact ⟨Nat.le_refl _, fun h => h, fun j h1 h2 => by omega, fun h => by omega⟩
  | n + 1, i, hn => by
    cases h : stop (bt s i)
    · rw [upto_go (by omega) h]
      obtain ⟨h1, h2, h3, h4⟩ := upto_spec stop s n (i + 1) (by omega)
      refine ⟨by omega, fun _ => h2 (by omega), fun j hj hj' => ?_, h4⟩
      rcases Nat.lt_or_ge i j with g | g
      · exact h3 j g hj'
      · rw [show j = i by omega]; exact h
    · rw [upto_stop h]
      exact ⟨Nat.le_refl _, fun h => h, fun j h1 h2 => by omega, fun _ => h⟩
theorem upto_ge (stop : Int → Bool) (s : ByteArray) (i : Nat) : i ≤ upto stop s i := (upto_spec stop s _ i rfl).1
theorem upto_le {stop : Int → Bool} {s : ByteArray} {i : Nat} (h : i ≤ s.size) : upto stop s i ≤ s.size := (upto_spec stop s _ i rfl).2.1 h
theorem upto_mid {stop : Int → Bool} {s : ByteArray} {i j : Nat} (h : i ≤ j) (h' : j < upto stop s i) : stop (bt s j) = false := (upto_spec stop s _ i rfl).2.2.1 j h h'
theorem upto_at {stop : Int → Bool} {s : ByteArray} {i : Nat} (h : upto stop s i < s.size) : stop (bt s (upto stop s i)) = true := (upto_spec stop s _ i rfl).2.2.2 h
theorem upto_eq {stop : Int → Bool} {s : ByteArray} {i k : Nat} (hk : i ≤ k) (hs : k ≤ s.size) (hm : ∀ j, i ≤ j → j < k → stop (bt s j) = false) (he : k = s.size ∨ stop (bt s k) = true) : upto stop s i = k := by
  rcases Nat.lt_trichotomy (upto stop s i) k with h | h | h
  · have h1 := hm _ (upto_ge stop s i) h
    have h2 : stop (bt s (upto stop s i)) = true := upto_at (by omega)
    rw [h2] at h1
    cases h1
  · exact h
  · rcases he with rfl | he
    · have := upto_le (stop := stop) (s := s) (i := i) (by omega)
      omega
    · rw [upto_mid hk h] at he; cases he

/-! ### the library's words -/
theorem ext_list (s : ByteArray) (a : Nat) : (s.extract a s.size).data.toList = s.data.toList.drop a := by
  rw [ByteArray.data_extract, Array.toList_extract]
  simp [List.extract]
  rw [List.take_of_length_le (by simp)]

theorem drop_bt {s : ByteArray} {a : Nat} (h : a < s.size) : s.data.toList.drop a = s[a] :: s.data.toList.drop (a + 1) := by
  rw [List.drop_eq_getElem_cons (by simpa using h)]
  rfl
theorem drop_out {s : ByteArray} {a : Nat} (h : s.size ≤ a) : s.data.toList.drop a = [] := List.drop_eq_nil_of_le (by simpa using h)

def isC (c : Int) : Int → Bool := fun n => n == c
theorem indexByte_upto (s : ByteArray) (c : UInt8) : ∀ n a, s.size - a = n → Lib.indexByte (s.data.toList.drop a) c = if upto (isC c.toNat) s a < s.size then (upto (isC c.toNat) s a : Int) - a else -1
  | 0, a, hn => by rw [drop_out (by omega), upto_out (by omega), if_neg (by omega)]; rfl
  | n + 1, a, hn => by
    have ha : a < s.size := by omega
    rw [drop_bt ha]
    simp only [Lib.indexByte]
    by_cases h : s[a] = c
    · have : isC c.toNat (bt s a) = true := by rw [bt_at ha, h]; simp [isC]
      rw [upto_stop this, if_pos (by simp [h]), if_pos ha]
      omega
    · have : isC c.toNat (bt s a) = false := by
        rw [bt_at ha]; simp [isC]
        intro e; exact h (UInt8.toNat_inj.1 (by omega))
      rw [upto_go ha this, indexByte_upto s c n (a + 1) (by omega), if_neg (by simpa using h)]
      have := upto_ge (isC c.toNat) s (a + 1)
      split
      · rw [if_neg (by simp; omega)]; omega
      · rfl

/-- the first of some bytes -/
def isAny (l : List UInt8) : Int → Bool := fun n => l.any fun c => n == c.toNat
theorem isAny_byte (l : List UInt8) (b : UInt8) : isAny l (b.toNat : Int) = l.contains b := by
  unfold isAny
  induction l with
  | nil => rfl
  | cons c l ih =>
    simp only [List.any_cons, List.contains_cons, ih]
    congr 1
    rw [Bool.eq_iff_iff]
    simp
    constructor
    · intro h; exact UInt8.toNat_inj.1 (by omega)
    · intro h; rw [h]
theorem indexAny_upto (s : ByteArray) (l : List UInt8) : ∀ n a, s.size - a = n → Lib.indexAny (s.data.toList.drop a) l = if upto (isAny l) s a < s.size then (upto (isAny l) s a : Int) - a else -1
  | 0, a, hn => by rw [drop_out (by omega), upto_out (by omega), if_neg (by omega)]; rfl
  | n + 1, a, hn => by
    have ha : a < s.size := by omega
    rw [drop_bt ha]
    simp only [Lib.indexAny]
    have hb := isAny_byte l s[a]
    rw [← bt_at ha] at hb
    cases h : l.contains s[a]
    · rw [h] at hb
      rw [upto_go ha hb, indexAny_upto s l n (a + 1) (by omega), if_neg (by simp)]
      have := upto_ge (isAny l) s (a + 1)
      split
      · rw [if_neg (by simp; omega)]; omega
      · rfl
    · rw [h] at hb
      rw [upto_stop hb, if_pos rfl, if_pos ha]
      omega

theorem hasPrefix_two (s : ByteArray) (a : Nat) (c d : UInt8) : Lib.hasPrefix (s.extract a s.size).data.toList [c, d] = (bt s a == c.toNat && bt s (a + 1) == d.toNat) := by
  rw [ext_list]
  unfold Lib.hasPrefix
  have key : ∀ (x y : UInt8), (x == y) = ((y.toNat : Int) == (x.toNat : Int)) := fun x y => by
    rw [Bool.eq_iff_iff]; simp
    constructor
    · intro h; rw [h]
    · intro h; exact UInt8.toNat_inj.1 (by omega)
  by_cases h : a < s.size
  · rw [drop_bt h, bt_at h]
    by_cases h' : a + 1 < s.size
    · rw [drop_bt h', bt_at h']
      simp only [List.isPrefixOf, Bool.and_true, key]
    · rw [drop_out (by omega), bt_out (by omega)]
      simp [List.isPrefixOf]
  · rw [drop_out (by omega), bt_out (by omega)]
    simp [List.isPrefixOf]
theorem hasPrefix_one (s : ByteArray) (a : Nat) (c : UInt8) : Lib.hasPrefix (s.extract a s.size).data.toList [c] = (bt s a == c.toNat) := by
  rw [ext_list]
  unfold Lib.hasPrefix
  have key : ∀ (x y : UInt8), (x == y) = ((y.toNat : Int) == (x.toNat : Int)) := fun x y => by
    rw [Bool.eq_iff_iff]; simp
    constructor
    · intro h; rw [h]
    · intro h; exact UInt8.toNat_inj.1 (by omega)
  by_cases h : a < s.size
  · rw [drop_bt h, bt_at h]
    simp only [List.isPrefixOf, Bool.and_true, key]
  · rw [drop_out (by omega), bt_out (by omega)]
    simp [List.isPrefixOf]
theorem hasPrefix_three (s : ByteArray) (a : Nat) (c d e : UInt8) : Lib.hasPrefix (s.extract a s.size).data.toList [c, d, e] = (bt s a == c.toNat && bt s (a + 1) == d.toNat && bt s (a + 2) == e.toNat) := by
  rw [ext_list]
  unfold Lib.hasPrefix
  have key : ∀ (x y : UInt8), (x == y) = ((y.toNat : Int) == (x.toNat : Int)) := fun x y => by
    rw [Bool.eq_iff_iff]; simp
    constructor
    · intro h; rw [h]
    · intro h; exact UInt8.toNat_inj.1 (by omega)
  by_cases h : a < s.size
  · rw [drop_bt h, bt_at h]
    by_cases h' : a + 1 < s.size
    · rw [drop_bt h', bt_at h']
      by_cases h2 : a + 2 < s.size
      · rw [drop_bt h2, bt_at h2]
        simp only [List.isPrefixOf, Bool.and_true, key, Bool.and_assoc]
      · rw [drop_out (by omega), bt_out (by omega)]
        simp [List.isPrefixOf]
    · rw [drop_out (by omega), bt_out (by omega)]
      simp [List.isPrefixOf]
  · rw [drop_out (by omega), bt_out (by omega)]
    simp [List.isPrefixOf]
theorem bt_app (a b : ByteArray) (i : Nat) : bt (a ++ b) i = if i < a.size then bt a i else bt b (i - a.size) := by
  by_cases h : i < a.size
  · rw [if_pos h, bt_at h, bt_at (by rw [ByteArray.size_append]; omega)]
    congr 2
    exact ByteArray.getElem_append_left h
  · rw [if_neg h]
    by_cases h2 : i - a.size < b.size
    · rw [bt_at h2, bt_at (by rw [ByteArray.size_append]; omega)]
      congr 2
      exact ByteArray.getElem_append_right (by omega)
    · rw [bt_out (s := a ++ b) (by rw [ByteArray.size_append]; omega), bt_out (s := b) (by omega)]
end Go.Proofs.Yteichcpbfdjjkaa
