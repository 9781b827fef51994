/-
  DERIVED. All lines of an outline grafted into the empty base, in plain Lean. Conditions: at most 2000 lines whose depths step down by one at most.
  By an AI agent.
-/
import Derived.Test.YtmkicfjcgbfaaaaGreatDoorTc38
import Derived.Test.YtmkicfjcgbfaaaaGreatDoorTc36
namespace Go.Proofs.YtmkicfjcgbfaaaaGreatDoor
open Go.RowKit

/-- lines that can be grafted -/
structure Lines (ls : List (Int × ByteArray)) : Prop where
  few : ls.length ≤ 2000
  steps : LnTo ls ls.length
  txt : ∀ x ∈ ls, txErr x.2 = 0
section
variable {ls : List (Int × ByteArray)}
theorem Lines.size (h : Lines ls) : ∀ x ∈ ls, x.2.size ≤ 1048576 := fun x hx => Nat.le_trans (txt_size (h.txt x hx)) (by decide)
theorem Lines.len1 (h : Lines ls) {k : Nat} (hk : k ≤ ls.length) : ((crW ls k).length : Int) = lastD ls k + 2 ∧ (crO ls k).length = k := by
  have hf := h.few
  have G := grOk (i0 := 0) (pr := 0) (pl := 0) (by omega) (by omega) (by omega) (by omega) h.size k hk fun j x hj hx => h.steps j x (by omega) hx
  exact ⟨G.l1, G.l3⟩
theorem Lines.pre (h : Lines ls) : ∀ (d k : Nat), k + d ≤ ls.length → (crO ls (k + d)).take k = crO ls k
  | 0, k, hk => by
    rw [Nat.add_zero, List.take_of_length_le (by rw [(h.len1 (k := k) (by omega)).2]; exact Nat.le_refl _)]
  | d + 1, k, hk => by
    have ih := h.pre d k (by omega)
    have hx : ls[k + d]? = some ls[k + d] := List.getElem?_eq_getElem (by omega)
    obtain ⟨D, hD⟩ : ∃ D : Nat, (ls[k + d]).1 = (D : Int) := ⟨(ls[k + d]).1.toNat, by have := (h.steps (k + d) _ (by omega) hx).1; omega⟩
    have e : crO ls (k + d + 1) = crO ls (k + d) ++ [_] := congrArg (fun s => s.2.2) (grS_step (i0 := 0) (pr := 0) (pl := 0) hx hD)
    rw [← Nat.add_assoc, e, List.take_append_of_le_length (by rw [(h.len1 (k := k + d) (by omega)).2]; omega), ih]
theorem Lines.ok (h : Lines ls) : ∀ k, k ≤ ls.length → OkAll [zB] (crO ls k) → ∃ g, CrI ls k (applL [zB] (crO ls k)) g
  | 0, _, _ => ⟨_, crI_zero ls⟩
  | k + 1, hk, hok => by
    have hf := h.few
    have e0 := h.pre 1 k hk
    have hok0 : OkAll [zB] (crO ls k) := by rw [← e0]; exact hok.pre k
    obtain ⟨g, I⟩ := h.ok k (by omega) hok0
    have hx : ls[k]? = some ls[k] := List.getElem?_eq_getElem (by omega)
    obtain ⟨f0, hf0, G0⟩ := empty_good
    obtain ⟨f, G⟩ := hok0.good G0 _ (Nat.le_refl _)
    rw [List.take_length] at G
    obtain ⟨o, e1, _, e2⟩ := I.step G hx (h.steps k _ (by omega) hx) (h.len1 (k := k) (by omega)).1 (by omega) (h.txt _ (List.getElem_mem _))
    have hl := (h.len1 (k := k) (by omega)).2
    obtain ⟨f', G', he⟩ := hok k o (by rw [e1, List.getElem?_append_right (by rw [hl]; exact Nat.le_refl _), hl, Nat.sub_self]; rfl)
    rw [e0] at G' he
    rw [G'.uniq G] at he
    obtain ⟨g', I'⟩ := e2 he
    rw [e1, applL_app]
    exact ⟨g', I'⟩
/-- where grafting fails the base is full, or too deep -/
theorem Lines.err (h : Lines ls) {er : Int} (ht : TryP [zB] (crO ls ls.length) er) : er = 0 ∨ er = 13 ∨ er = 14 := by
  rcases ht with ⟨_, rfl⟩ | ⟨_, k, hok, hb⟩
  · exact .inl rfl
  · obtain ⟨o, f, h1, h2, h3, _⟩ := hb
    have hf := h.few
    have hk : k < ls.length := by
      have := (List.getElem?_eq_some_iff.1 h1).1
      rwa [(h.len1 (Nat.le_refl _)).2] at this
    have e0 := h.pre (ls.length - k) k (by omega)
    rw [show k + (ls.length - k) = ls.length by omega] at e0
    rw [e0] at hok h2 h3
    obtain ⟨g, I⟩ := h.ok k (by omega) hok
    have hx : ls[k]? = some ls[k] := List.getElem?_eq_getElem hk
    obtain ⟨o', e1, e2, _⟩ := I.step h2 hx (h.steps k _ hk hx) (h.len1 (k := k) (by omega)).1 (by omega) (h.txt _ (List.getElem_mem _))
    have hl := (h.len1 (k := k) (by omega)).2
    have e3 := h.pre (ls.length - (k + 1)) (k + 1) (by omega)
    rw [show k + 1 + (ls.length - (k + 1)) = ls.length by omega, e1] at e3
    have : (crO ls ls.length)[k]? = some o' := by
      have h4 : ((crO ls ls.length).take (k + 1))[k]? = some o' := by
        rw [e3, List.getElem?_append_right (by rw [hl]; exact Nat.le_refl _), hl, Nat.sub_self]; rfl
      rwa [List.getElem?_take_of_lt (by omega)] at h4
    rw [h1] at this
    obtain rfl := Option.some.inj this
    rw [h3] at e2
    exact e2
end
end Go.Proofs.YtmkicfjcgbfaaaaGreatDoor
