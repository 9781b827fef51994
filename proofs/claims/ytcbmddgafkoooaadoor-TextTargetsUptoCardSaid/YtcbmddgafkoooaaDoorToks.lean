/-
  DERIVED. Plain law: the tokens of a whole text, one after the other; each is no shorter than a byte and lies in the text. Conditions: none. By an AI agent.
-/
import Derived.Test.YtcbmddgafkoooaaDoorToken
namespace Go.Proofs.YtcbmddgafkoooaaDoor
open Go.RowKit

theorem tokE_to {s : ByteArray} {a : Nat} {x : Sp} (h : tokE s a = some x) : x.frm = a ∧ a < x.to_ ∧ x.to_ ≤ s.size := by
  unfold tokE at h
  split at h
  · rename_i g
    injection h with h; subst h
    have : 0 ≤ bt s (a + 1) := by have := g.2; simp [punB] at this; omega
    have := bt_in this
    exact ⟨rfl, by show a < a + 2; omega, by show a + 2 ≤ _; omega⟩
  · cases h
theorem tokC_to {s : ByteArray} {a : Nat} {x : Sp} (h : tokC s a = some x) : x.frm = a ∧ a < x.to_ ∧ x.to_ ≤ s.size := by
  unfold tokC at h
  dsimp only at h
  split at h
  · rename_i g
    injection h with h; subst h
    exact ⟨rfl, by show a < _ + 1; omega, by show _ + 1 ≤ _; omega⟩
  · cases h
theorem tokL_to {s : ByteArray} {a : Nat} {x : Sp} (h : tokL s a = some x) : x.frm = a ∧ a < x.to_ ∧ x.to_ ≤ s.size := by
  unfold tokL at h
  dsimp only at h
  have h1 := upto_ge (notB tgtB) s (a + 2)
  have h2 := upto_ge (isAny [91, 93]) s (upto (notB tgtB) s (a + 2) + 1)
  split at h
  · split at h
    · rename_i g
      injection h with h; subst h
      have := bt_in (s := s) (i := upto (notB tgtB) s (a + 2) + 1) (by omega)
      exact ⟨rfl, by show a < _ + 2; omega, by show _ + 2 ≤ _; omega⟩
    · split at h
      · rename_i g
        injection h with h; subst h
        have := bt_in (s := s) (i := upto (isAny [91, 93]) s (upto (notB tgtB) s (a + 2) + 1) + 1) (by omega)
        exact ⟨rfl, by show a < _ + 2; omega, by show _ + 2 ≤ _; omega⟩
      · cases h
  · cases h
theorem tokR_to {s : ByteArray} {a : Nat} {x : Sp} (h : tokR s a = some x) : x.frm = a ∧ a < x.to_ ∧ x.to_ ≤ s.size := by
  unfold tokR at h
  dsimp only at h
  split at h
  · rename_i g
    injection h with h; subst h
    have := bt_in (s := s) (i := upto (notB digB) s (a + 2) + 1) (by omega)
    exact ⟨rfl, by show a < _ + 2; omega, by show _ + 2 ≤ _; omega⟩
  · cases h
theorem tokT_to {s : ByteArray} {a : Nat} {x : Sp} (h : tokT s a = some x) : x.frm = a ∧ a < x.to_ ∧ x.to_ ≤ s.size := by
  unfold tokT at h
  dsimp only at h
  split at h
  · rename_i g
    injection h with h; subst h
    have h0 := bt_in (s := s) (i := a) (by omega)
    have h1 := upto_ge (notB tagB) s (a + 1)
    have h2 := upto_le (stop := notB tagB) (s := s) (i := a + 1) (by omega)
    exact ⟨rfl, by show a < upto _ _ _; omega, by show upto _ _ _ ≤ _; omega⟩
  · cases h
theorem tokB_to {s : ByteArray} {a : Nat} {x : Sp} (h : tokB s a = some x) : x.frm = a ∧ a < x.to_ ∧ x.to_ ≤ s.size := by
  unfold tokB at h
  split at h
  · rename_i g
    injection h with h; subst h
    have := bt_in (s := s) (i := a + 1) (by omega)
    exact ⟨rfl, by show a < a + 2; omega, by show a + 2 ≤ _; omega⟩
  · cases h
theorem tokK_to {k : Nat} {s : ByteArray} {a : Nat} {x : Sp} (h : tokK k s a = some x) : x.frm = a ∧ a < x.to_ ∧ x.to_ ≤ s.size := by
  unfold tokK at h
  split at h
  · exact tokE_to h
  · exact tokC_to h
  · exact tokL_to h
  · exact tokR_to h
  · exact tokT_to h
  · exact tokB_to h

theorem tokA_some {k : Nat} {s : ByteArray} {a : Nat} {x : Sp} (hk : k < 6) (h0 : ∀ j, j < k → tokK j s a = none) (h : tokK k s a = some x) : tokA s a = x := by
  unfold tokA
  match k, hk with
  | 0, _ => rw [show tokE s a = some x from h]; rfl
  | 1, _ => rw [show tokE s a = none from h0 0 (by omega), show tokC s a = some x from h]; rfl
  | 2, _ => rw [show tokE s a = none from h0 0 (by omega), show tokC s a = none from h0 1 (by omega), show tokL s a = some x from h]; rfl
  | 3, _ => rw [show tokE s a = none from h0 0 (by omega), show tokC s a = none from h0 1 (by omega), show tokL s a = none from h0 2 (by omega), show tokR s a = some x from h]; rfl
  | 4, _ => rw [show tokE s a = none from h0 0 (by omega), show tokC s a = none from h0 1 (by omega), show tokL s a = none from h0 2 (by omega), show tokR s a = none from h0 3 (by omega), show tokT s a = some x from h]; rfl
  | 5, _ => rw [show tokE s a = none from h0 0 (by omega), show tokC s a = none from h0 1 (by omega), show tokL s a = none from h0 2 (by omega), show tokR s a = none from h0 3 (by omega), show tokT s a = none from h0 4 (by omega), show tokB s a = some x from h]; rfl
theorem tokA_none {s : ByteArray} {a : Nat} (h0 : ∀ j, j < 6 → tokK j s a = none) : tokA s a = plainAt a := by
  unfold tokA
  rw [show tokE s a = none from h0 0 (by omega), show tokC s a = none from h0 1 (by omega), show tokL s a = none from h0 2 (by omega), show tokR s a = none from h0 3 (by omega), show tokT s a = none from h0 4 (by omega), show tokB s a = none from h0 5 (by omega)]; rfl

theorem tokA_to {s : ByteArray} {a : Nat} (ha : a < s.size) : (tokA s a).frm = a ∧ a < (tokA s a).to_ ∧ (tokA s a).to_ ≤ s.size := by
  rcases (Classical.em (∃ k, k < 6 ∧ ∃ x, tokK k s a = some x ∧ ∀ j, j < k → tokK j s a = none)) with ⟨k, hk, x, h, h0⟩ | hn
  · rw [tokA_some hk h0 h]; exact tokK_to h
  · have : ∀ n, n ≤ 6 → ∀ j, j < n → tokK j s a = none := by
      intro n
      induction n with
      | zero => intro _ j hj; omega
      | succ n ih =>
        intro hn' j hj
        rcases Nat.lt_or_ge j n with g | g
        · exact ih (by omega) j g
        · obtain rfl : j = n := by omega
          cases e : tokK j s a with
          | none => rfl
          | some x => exact absurd ⟨j, by omega, x, e, ih (by omega)⟩ hn
    rw [tokA_none (this 6 (Nat.le_refl _))]
    exact ⟨rfl, by show a < a + 1; omega, ha⟩

def toksN (s : ByteArray) : Nat → Nat → List Sp
  | 0, _ => []
  | n + 1, a => if a < s.size then tokA s a :: toksN s n (tokA s a).to_ else []
/-- the tokens from a place on -/
def toks (s : ByteArray) (a : Nat) : List Sp := toksN s (s.size - a) a
theorem toksN_enough (s : ByteArray) : ∀ n m a, s.size - a ≤ n → s.size - a ≤ m → toksN s n a = toksN s m a
  | 0, m, a, h, _ => by
    cases m with
    | zero => rfl
    | succ m => simp only [toksN]; rw [if_neg (by omega)]
  | n + 1, 0, a, _, h => by simp only [toksN]; rw [if_neg (by omega)]
  | n + 1, m + 1, a, h1, h2 => by
    simp only [toksN]
    by_cases ha : a < s.size
    · rw [if_pos ha, if_pos ha]
      have := tokA_to ha
      rw [toksN_enough s n m _ (by omega) (by omega)]
    · rw [if_neg ha, if_neg ha]
theorem toks_end {s : ByteArray} {a : Nat} (h : s.size ≤ a) : toks s a = [] := by unfold toks; rw [show s.size - a = 0 by omega]; rfl
theorem toks_step {s : ByteArray} {a : Nat} (h : a < s.size) : toks s a = tokA s a :: toks s (tokA s a).to_ := by
  unfold toks
  obtain ⟨n, hn⟩ : ∃ n, s.size - a = n + 1 := ⟨s.size - a - 1, by omega⟩
  rw [hn]
  simp only [toksN]
  rw [if_pos h]
  have := tokA_to h
  rw [toksN_enough s n (s.size - (tokA s a).to_) _ (by omega) (by omega)]

/-- the cells of spans -/
def flatC (l : List Sp) : List Value := l.flatMap spCells
theorem flatC_len (l : List Sp) : (flatC l).length = l.length * 7 := by
  unfold flatC
  induction l with
  | nil => rfl
  | cons x l ih => rw [List.flatMap_cons, List.length_append, ih, List.length_cons]; simp [spCells]; omega
theorem flatC_snoc (l : List Sp) (x : Sp) : flatC (l ++ [x]) = flatC l ++ spCells x := by unfold flatC; rw [List.flatMap_append]; simp
end Go.Proofs.YtcbmddgafkoooaaDoor
