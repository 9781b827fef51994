/-
  DERIVED. Plain law: where the lines, names and values of properties as a text lie. Conditions: none. By an AI agent.
-/
import Derived.Test.YtbdcimakdiegnaaGreatDoorPrPl
namespace Go.Proofs.YtbdcimakdiegnaaGreatDoor
open Go.RowKit

theorem index_free (c : UInt8) (t r : List UInt8) : ∀ x : List UInt8, (∀ b ∈ x, b ≠ c) → Lib.index (x ++ c :: (t ++ r)) (c :: t) = x.length
  | [], _ => by
    rw [List.nil_append]
    unfold Lib.index
    rw [if_pos (by simp [List.isPrefixOf])]
    rfl
  | b :: x, h => by
    have ih := index_free c t r x (fun c hc => h c (by simp [hc]))
    rw [List.cons_append]
    unfold Lib.index
    rw [if_neg, ih, if_neg]
    · rw [List.length_cons]; omega
    · simp
    · have : (c == b) = false := by
        have := h b (by simp)
        cases e : c == b
        · rfl
        · rw [beq_iff_eq] at e
          exact absurd e.symm this
      simp [List.isPrefixOf, this]
theorem index_not (c : UInt8) (t : List UInt8) : ∀ x : List UInt8, (∀ b ∈ x, b ≠ c) → Lib.index x (c :: t) = -1
  | [], _ => rfl
  | b :: x, h => by
    have ih := index_not c t x (fun c hc => h c (by simp [hc]))
    unfold Lib.index
    rw [if_neg, ih, if_pos (by decide)]
    have : (c == b) = false := by
      have := h b (by simp)
      cases e : c == b
      · rfl
      · rw [beq_iff_eq] at e
        exact absurd e.symm this
    simp [List.isPrefixOf, this]
theorem cut_free (c : UInt8) (t r x : List UInt8) (h : ∀ b ∈ x, b ≠ c) : Lib.cut (x ++ c :: (t ++ r)) (c :: t) = (x, r, true) := by
  unfold Lib.cut
  rw [index_free c t r x h, if_pos (by omega), show ((x.length : Int)).toNat = x.length from by omega]
  rw [List.take_left]
  congr 2
  rw [List.length_cons, ← List.drop_drop, List.drop_left, ← List.cons_append, show t.length + 1 = (c :: t).length from rfl, List.drop_left]
theorem nm_all' {s : ByteArray} (h : nmErr s = 0) : (s.size ≠ 0) ∧ ∀ b ∈ s.data.toList, b ≠ 10 ∧ b ≠ 32 ∧ b ≠ 58 := by
  unfold nmErr at h
  by_cases e : nmOk s = true
  · unfold nmOk at e
    simp only [Bool.and_eq_true, decide_eq_true_eq] at e
    refine ⟨by omega, fun b hb => ?_⟩
    have := List.all_eq_true.1 e.2 b hb
    refine ⟨?_, ?_, ?_⟩ <;> (rintro rfl; revert this; decide)
  · rw [if_neg e] at h; exact absurd h (by decide)
/-- a property's line without its end -/
noncomputable def liS (p : Pr) : ByteArray := p.name ++ ⟨#[58, 58, 32]⟩ ++ wrV p.val
/-- what stands behind a property's name -/
noncomputable def vaS (p : Pr) : ByteArray := ⟨#[32]⟩ ++ wrV p.val
theorem arr_eq (x : ByteArray) : (⟨x.data.toList.toArray⟩ : ByteArray) = x := rfl
theorem line_cut {p : Pr} {l : List Pr} (h : vErr p.val = 0 ∧ nmErr p.name = 0) : Lib.cut (ptS (p :: l)).data.toList [10] = ((liS p).data.toList, (ptS l).data.toList, true) := by
  have e : (ptS (p :: l)).data.toList = (liS p).data.toList ++ 10 :: ([] ++ (ptS l).data.toList) := by
    rw [ptS]
    unfold lnS liS
    simp only [ByteArray.data_append, Array.toList_append, List.append_assoc, List.nil_append]
    rfl
  rw [e]
  refine cut_free 10 [] _ _ fun b hb => ?_
  unfold liS at hb
  simp only [ByteArray.data_append, Array.toList_append, List.mem_append] at hb
  rcases hb with (hb | hb) | hb
  · exact ((nm_all' h.2).2 b hb).1
  · have hb : b = 58 ∨ b = 58 ∨ b = 32 := by simpa using hb
    rcases hb with rfl | rfl | rfl <;> decide
  · exact tx_nl h.1 b hb
theorem name_cut {p : Pr} (h : nmErr p.name = 0) : Lib.cut (liS p).data.toList [58, 58] = (p.name.data.toList, (vaS p).data.toList, true) := by
  have e : (liS p).data.toList = p.name.data.toList ++ 58 :: ([58] ++ (vaS p).data.toList) := by
    unfold vaS liS
    simp only [ByteArray.data_append, Array.toList_append, List.append_assoc]
    rfl
  rw [e]
  exact cut_free 58 [58] _ _ fun b hb => ((nm_all' h).2 b hb).2.2
theorem name_cont {s : ByteArray} (h : nmErr s = 0) : Lib.contains s.data.toList [32] = false := by
  unfold Lib.contains
  rw [index_not 32 [] _ fun b hb => ((nm_all' h).2 b hb).2.1]
  decide
theorem va_pre (p : Pr) : Lib.hasPrefix (vaS p).data.toList [32] = true := by
  have e : (vaS p).data.toList = [32] ++ (wrV p.val).data.toList := by
    unfold vaS
    simp only [ByteArray.data_append, Array.toList_append]
  rw [e]
  exact pre_app _ _
theorem va_rest (p : Pr) : (vaS p).extract 1 (vaS p).size = wrV p.val := by
  apply ByteArray.ext
  apply Array.ext'
  have := rs_ext (vaS p) 1 (by unfold vaS; rw [ByteArray.size_append]; show 1 ≤ 1 + _; omega)
  rw [this]
  unfold rs vaS
  simp only [ByteArray.data_append, Array.toList_append]
  rfl
theorem va_size (p : Pr) : 1 ≤ (vaS p).size := by unfold vaS; rw [ByteArray.size_append]; show 1 ≤ 1 + _; omega
theorem ptS_size (l : List Pr) (k : Nat) : (ptS (l.drop k)).size ≤ (ptS l).size := by
  induction k generalizing l with
  | zero => exact Nat.le_refl _
  | succ k ih =>
    cases l with
    | nil => exact Nat.le_refl _
    | cons p l =>
      rw [List.drop_succ_cons]
      refine Nat.le_trans (ih l) ?_
      rw [ptS, ByteArray.size_append]
      omega
theorem ptS_cons_size (p : Pr) (l : List Pr) : 0 < (ptS (p :: l)).size ∧ (wrV p.val).size ≤ (ptS (p :: l)).size ∧ (liS p).size ≤ (ptS (p :: l)).size ∧ p.name.size ≤ (ptS (p :: l)).size ∧ (vaS p).size ≤ (ptS (p :: l)).size := by
  rw [ptS]
  unfold lnS liS vaS
  simp only [ByteArray.size_append]
  have h3 : (⟨#[58, 58, 32]⟩ : ByteArray).size = 3 := rfl
  have h1 : (⟨#[10]⟩ : ByteArray).size = 1 := rfl
  have h0 : (⟨#[32]⟩ : ByteArray).size = 1 := rfl
  omega
end Go.Proofs.YtbdcimakdiegnaaGreatDoor
