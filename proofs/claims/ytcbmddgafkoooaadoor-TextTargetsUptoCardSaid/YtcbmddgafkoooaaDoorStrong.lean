/-
  DERIVED. Plain law: which spans are strong. Conditions: none. By an AI agent.
-/
import Derived.Test.YtcbmddgafkoooaaDoorTokens
namespace Go.Proofs.YtcbmddgafkoooaaDoor
open Go.RowKit

/-- is span j a bold mark? -/
def bold (l : List Sp) (j : Nat) : Bool := match l[j]? with | some x => x.kind == 7 | none => false
/-- the bold marks ahead of place j -/
def cnt (l : List Sp) : Nat → Nat
  | 0 => 0
  | j + 1 => cnt l j + (if bold l j = true then 1 else 0)
theorem cnt_yes {l : List Sp} {j : Nat} (h : bold l j = true) : cnt l (j + 1) = cnt l j + 1 := by simp [cnt, h]
theorem cnt_no {l : List Sp} {j : Nat} (h : bold l j = false) : cnt l (j + 1) = cnt l j := by simp [cnt, h]
theorem cnt_mono (l : List Sp) : ∀ {i j : Nat}, i ≤ j → cnt l i ≤ cnt l j := by
  intro i j h
  induction h with
  | refl => exact Nat.le_refl _
  | step _ ih => exact Nat.le_trans ih (by simp [cnt])
/-- strong, where the first P marks make pairs -/
def strF (l : List Sp) (P j : Nat) : Bool := decide (cnt l (j + 1) ≤ P) && (bold l j || cnt l (j + 1) % 2 == 1)
def withS (l : List Sp) (f : Nat → Bool) : List Sp := l.mapIdx fun j x => { x with strong := f j }
theorem withS_len (l : List Sp) (f : Nat → Bool) : (withS l f).length = l.length := by simp [withS]
theorem withS_at {l : List Sp} {f : Nat → Bool} {j : Nat} {x : Sp} (h : l[j]? = some x) : (withS l f)[j]? = some { x with strong := f j } := by simp [withS, h]
theorem withS_ext {l : List Sp} {f g : Nat → Bool} (h : ∀ j, j < l.length → f j = g j) : withS l f = withS l g := by
  apply List.ext_getElem? 
  intro j
  by_cases hj : j < l.length
  · have e := List.getElem?_eq_getElem hj
    rw [withS_at e, withS_at e, h j hj]
  · rw [List.getElem?_eq_none (by rw [withS_len]; omega), List.getElem?_eq_none (by rw [withS_len]; omega)]
theorem withS_same {l : List Sp} (h : ∀ x ∈ l, x.strong = false) : withS l (fun _ => false) = l := by
  apply List.ext_getElem?
  intro j
  cases e : l[j]? with
  | none => rw [List.getElem?_eq_none_iff] at e; rw [List.getElem?_eq_none (by rw [withS_len]; omega)]
  | some x =>
    rw [withS_at e]
    have := h x (List.mem_of_getElem? e)
    cases x; simp at this; subst this; rfl
theorem withS_set {l : List Sp} {f : Nat → Bool} {k : Nat} {x : Sp} (h : l[k]? = some x) (b : Bool) : (withS l f).set k { x with strong := b } = withS l (fun j => if j = k then b else f j) := by
  apply List.ext_getElem?
  intro j
  rw [List.getElem?_set, withS_len]
  have hk : k < l.length := (List.getElem?_eq_some_iff.1 h).1
  by_cases e : k = j
  · subst e
    rw [if_pos rfl, if_pos hk, withS_at h]
    simp
  · rw [if_neg e]
    cases ej : l[j]? with
    | none => rw [List.getElem?_eq_none_iff] at ej; rw [List.getElem?_eq_none (by rw [withS_len]; omega), List.getElem?_eq_none (by rw [withS_len]; omega)]
    | some y => rw [withS_at ej, withS_at ej]; simp [show ¬ j = k from fun g => e g.symm]

/-- what strengthen makes of tokens -/
def strK (l : List Sp) (P j : Nat) (k : Int) : Int := if bold l j && decide (P < cnt l (j + 1)) then 1 else k
def strong (l : List Sp) : List Sp := l.mapIdx fun j x => { x with kind := strK l (cnt l l.length / 2 * 2) j x.kind, strong := strF l (cnt l l.length / 2 * 2) j }
theorem strong_len (l : List Sp) : (strong l).length = l.length := by simp [strong]
theorem strong_at {l : List Sp} {j : Nat} {x : Sp} (h : l[j]? = some x) : (strong l)[j]? = some { x with kind := strK l (cnt l l.length / 2 * 2) j x.kind, strong := strF l (cnt l l.length / 2 * 2) j } := by simp [strong, h]

theorem bold_at {l : List Sp} {j : Nat} {x : Sp} (h : l[j]? = some x) : bold l j = (x.kind == 7) := by unfold bold; rw [h]
/-- the pair (o, i) is made -/
theorem strF_pair {l : List Sp} {o i j : Nat} (ho : bold l o = true) (hi : bold l i = true) (hoi : o < i) (hodd : cnt l i % 2 = 1) (hc : cnt l (o + 1) = cnt l i) :
    strF l (cnt l i + 1) j = (if o ≤ j ∧ j ≤ i then true else strF l (cnt l i - 1) j) := by
  have e1 := cnt_yes ho
  have e2 := cnt_yes hi
  unfold strF
  by_cases h1 : o ≤ j
  · by_cases h2 : j ≤ i
    · rw [if_pos ⟨h1, h2⟩]
      rcases Nat.lt_or_ge j i with h3 | h3
      · have a1 := cnt_mono l (show o + 1 ≤ j + 1 by omega)
        have a2 := cnt_mono l (show j + 1 ≤ i by omega)
        have a3 : cnt l (j + 1) = cnt l i := by omega
        rw [a3]
        simp [hodd]
      · obtain rfl : j = i := by omega
        rw [e2, hi]; simp
    · rw [if_neg (by omega)]
      have a1 := cnt_mono l (show i + 1 ≤ j by omega)
      have a2 := cnt_mono l (show j ≤ j + 1 by omega)
      have n2 : decide (cnt l (j + 1) ≤ cnt l i - 1) = false := by simp; omega
      rw [n2]
      by_cases h3 : cnt l (j + 1) ≤ cnt l i + 1
      · have a3 : cnt l (j + 1) = cnt l i + 1 := by omega
        have hb : bold l j = false := by
          cases hb : bold l j
          · rfl
          · have := cnt_yes hb; omega
        rw [a3, hb]
        have : (cnt l i + 1) % 2 = 0 := by omega
        simp [this]
      · have n1 : decide (cnt l (j + 1) ≤ cnt l i + 1) = false := by simp; omega
        rw [n1]
  · rw [if_neg (by omega)]
    have a1 := cnt_mono l (show j + 1 ≤ o by omega)
    have n1 : decide (cnt l (j + 1) ≤ cnt l i + 1) = true := by simp; omega
    have n2 : decide (cnt l (j + 1) ≤ cnt l i - 1) = true := by simp; omega
    rw [n1, n2]
theorem strF_zero (l : List Sp) (j : Nat) : strF l 0 j = false := by
  unfold strF
  cases hb : bold l j
  · by_cases h : cnt l (j + 1) = 0
    · simp [h]
    · simp; omega
  · have := cnt_yes hb
    simp [this]
theorem strong_even {l : List Sp} (h : cnt l l.length % 2 = 0) : strong l = withS l (strF l (cnt l l.length)) := by
  have e : cnt l l.length / 2 * 2 = cnt l l.length := by omega
  apply List.ext_getElem?
  intro j
  cases ej : l[j]? with
  | none => rw [List.getElem?_eq_none_iff] at ej; rw [List.getElem?_eq_none (by rw [strong_len]; omega), List.getElem?_eq_none (by rw [withS_len]; omega)]
  | some x =>
    rw [strong_at ej, withS_at ej, e]
    have hj : j < l.length := (List.getElem?_eq_some_iff.1 ej).1
    have := cnt_mono l (show j + 1 ≤ l.length by omega)
    unfold strK
    rw [show decide (cnt l l.length < cnt l (j + 1)) = false by simp; omega]
    simp
theorem strong_odd {l : List Sp} {o : Nat} {x : Sp} (h : cnt l l.length % 2 = 1) (ho : l[o]? = some x) (hb : bold l o = true) (hc : cnt l (o + 1) = cnt l l.length) :
    strong l = (withS l (strF l (cnt l l.length - 1))).set o { x with kind := 1, strong := strF l (cnt l l.length - 1) o } := by
  have e : cnt l l.length / 2 * 2 = cnt l l.length - 1 := by omega
  apply List.ext_getElem?
  intro j
  rw [List.getElem?_set, withS_len]
  have hol : o < l.length := (List.getElem?_eq_some_iff.1 ho).1
  by_cases eo : o = j
  · subst eo
    rw [if_pos rfl, if_pos hol, strong_at ho, e]
    unfold strK
    rw [hb, show decide (cnt l l.length - 1 < cnt l (o + 1)) = true by simp; omega]
    rfl
  · rw [if_neg eo]
    cases ej : l[j]? with
    | none => rw [List.getElem?_eq_none_iff] at ej; rw [List.getElem?_eq_none (by rw [strong_len]; omega), List.getElem?_eq_none (by rw [withS_len]; omega)]
    | some y =>
      rw [strong_at ej, withS_at ej, e]
      have hj : j < l.length := (List.getElem?_eq_some_iff.1 ej).1
      have a1 := cnt_mono l (show j + 1 ≤ l.length by omega)
      have : (bold l j && decide (cnt l l.length - 1 < cnt l (j + 1))) = false := by
        cases hbj : bold l j
        · rfl
        · have b1 := cnt_yes hbj
          have b2 := cnt_yes hb
          simp
          rcases Nat.lt_or_ge j o with g | g
          · have := cnt_mono l (show j + 1 ≤ o by omega); omega
          · have := cnt_mono l (show o + 1 ≤ j by omega); omega
      unfold strK
      rw [this]
      simp

/-! the cells -/
theorem flatC_at {l : List Sp} {k i : Nat} {x : Sp} (h : l[k]? = some x) (hi : i < 7) : (flatC l)[k * 7 + i]? = (spCells x)[i]? := by
  unfold flatC
  induction l generalizing k with
  | nil => simp at h
  | cons y l ih =>
    rw [List.flatMap_cons]
    have hl : (spCells y).length = 7 := rfl
    cases k with
    | zero =>
      simp at h
      subst h
      rw [List.getElem?_append_left (by omega)]
      simp
    | succ k =>
      rw [List.getElem?_append_right (by omega), hl, show (k + 1) * 7 + i - 7 = k * 7 + i by omega]
      exact ih (by simpa using h)
theorem flatC_set {l : List Sp} {k i : Nat} {x y : Sp} {u : Value} (h : l[k]? = some x) (hi : i < 7) (hu : (spCells x).set i u = spCells y) : (flatC l).set (k * 7 + i) u = flatC (l.set k y) := by
  unfold flatC
  induction l generalizing k with
  | nil => simp at h
  | cons z l ih =>
    have hl : (spCells z).length = 7 := rfl
    cases k with
    | zero =>
      simp at h
      subst h
      rw [List.flatMap_cons, List.set_append_left _ _ (by omega)]
      simp [hu]
    | succ k =>
      rw [List.flatMap_cons, List.set_append_right _ _ (by omega), hl, show (k + 1) * 7 + i - 7 = k * 7 + i by omega, ih (by simpa using h)]
      rfl
end Go.Proofs.YtcbmddgafkoooaaDoor
