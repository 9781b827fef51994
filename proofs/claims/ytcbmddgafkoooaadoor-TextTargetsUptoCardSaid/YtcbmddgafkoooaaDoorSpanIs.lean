/-
  DERIVED. Plain law: what a span of a text is, kind by kind. Conditions: none. By an AI agent.
-/
import Derived.Test.YtcbmddgafkoooaaDoorRetokLink
namespace Go.Proofs.YtcbmddgafkoooaaDoor
open Go.RowKit

/-- what holds of each token, and does not hang on Strong, holds of each span -/
theorem spans_all {P : Sp → Prop} (s : ByteArray) (h1 : ∀ a, a < s.size → P (tokA s a)) (h2 : ∀ x b, P x → P { x with strong := b }) (h3 : ∀ x, x.kind = 1 → P x) : ∀ x ∈ spans s, P x := by
  have k1 : ∀ n a, ∀ x ∈ toksN s n a, P x := by
    intro n
    induction n with
    | zero => intro a x hx; cases hx
    | succ n ih =>
      intro a x hx
      simp only [toksN] at hx
      split at hx
      · rename_i ha
        rcases List.mem_cons.1 hx with rfl | hx
        · exact h1 a ha
        · exact ih _ _ hx
      · cases hx
  have k2 : ∀ x ∈ strong (toks s 0), P x := by
    intro x hx
    obtain ⟨j, hj, rfl⟩ := List.mem_mapIdx.1 hx
    have g := k1 _ 0 _ (List.getElem_mem (l := toks s 0) hj)
    unfold strK
    split
    · exact h3 _ rfl
    · exact h2 _ _ g
  have k3 : ∀ (l acc : List Sp), (∀ x ∈ l, P x) → (∀ x ∈ acc, P x) → ∀ x ∈ merge acc l, P x := by
    intro l
    induction l with
    | nil => intro acc _ h; exact h
    | cons z l ih =>
      intro acc g1 g2
      refine ih (mstep acc z) (fun y hy => g1 y (List.mem_cons_of_mem _ hy)) (fun y hy => ?_)
      unfold mstep at hy
      cases e : acc.getLast? with
      | none => rw [e] at hy; simp at hy; subst hy; exact g1 _ (List.mem_cons_self ..)
      | some q =>
        rw [e] at hy
        dsimp only at hy
        split at hy
        · rename_i c
          simp only [Bool.and_eq_true, beq_iff_eq] at c
          rcases List.mem_append.1 hy with hy | hy
          · exact g2 y ((List.dropLast_sublist acc).subset hy)
          · simp at hy; subst hy; exact h3 _ c.1.2
        · rcases List.mem_append.1 hy with hy | hy
          · exact g2 y hy
          · simp at hy; subst hy; exact g1 _ (List.mem_cons_self ..)
  intro x hx
  obtain ⟨y, hy, rfl⟩ := List.mem_map.1 hx
  have h := k3 _ [] k2 (fun _ h => by cases h) y hy
  unfold fillT
  split
  · rename_i k; exact h3 _ k
  · exact h

/-- which token stands at a place -/
theorem tokA_cases (s : ByteArray) (a : Nat) : tokE s a = some (tokA s a) ∨ tokC s a = some (tokA s a) ∨ tokL s a = some (tokA s a) ∨ tokR s a = some (tokA s a) ∨ tokT s a = some (tokA s a) ∨ tokB s a = some (tokA s a) ∨ tokA s a = plainAt a := by
  unfold tokA
  cases e1 : tokE s a with
  | some x => exact .inl rfl
  | none =>
    cases e2 : tokC s a with
    | some x => exact .inr (.inl rfl)
    | none =>
      cases e3 : tokL s a with
      | some x => exact .inr (.inr (.inl rfl))
      | none =>
        cases e4 : tokR s a with
        | some x => exact .inr (.inr (.inr (.inl rfl)))
        | none =>
          cases e5 : tokT s a with
          | some x => exact .inr (.inr (.inr (.inr (.inl rfl))))
          | none =>
            cases e6 : tokB s a with
            | some x => exact .inr (.inr (.inr (.inr (.inr (.inl rfl)))))
            | none => exact .inr (.inr (.inr (.inr (.inr (.inr rfl)))))

/-- what a span is -/
structure SpIs (s : ByteArray) (x : Sp) : Prop where
  e2 : x.kind = 2 → x.to_ = x.frm + 2 ∧ x.text = s.extract (x.frm + 1) (x.frm + 2) ∧ x.show_ = noB ∧ x.id = 0
  e3 : x.kind = 3 → x.frm + 2 < x.to_ ∧ x.text = s.extract (x.frm + 1) (x.to_ - 1) ∧ x.show_ = noB ∧ x.id = 0
  e4 : x.kind = 4 → ∃ e, x.frm + 2 < e ∧ e ≤ x.frm + 102 ∧ x.text = s.extract (x.frm + 2) e ∧ bt s x.frm = 91 ∧ bt s (x.frm + 1) = 91 ∧ x.to_ ≤ s.size ∧ x.id = 0 ∧ ((x.to_ = e + 2 ∧ x.show_ = noB) ∨ (e + 1 < x.to_ - 2 ∧ 2 ≤ x.to_ ∧ x.show_ = s.extract (e + 1) (x.to_ - 2)))
  e5 : x.kind = 5 → x.frm + 4 < x.to_ ∧ x.text = s.extract (x.frm + 2) (x.to_ - 2) ∧ x.show_ = noB ∧ bt s x.frm = 40 ∧ bt s (x.frm + 1) = 40 ∧ bt s (x.to_ - 2) = 41 ∧ bt s (x.to_ - 1) = 41
  e6 : x.kind = 6 → x.frm + 1 < x.to_ ∧ x.text = s.extract (x.frm + 1) x.to_ ∧ x.show_ = noB ∧ x.id = 0 ∧ bt s x.frm = 35
  e7 : x.kind = 7 → x.to_ = x.frm + 2 ∧ x.show_ = noB ∧ x.id = 0
  k : 1 ≤ x.kind ∧ x.kind ≤ 7
theorem tokA_is (s : ByteArray) (a : Nat) : SpIs s (tokA s a) := by
  rcases tokA_cases s a with h | h | h | h | h | h | h
  · generalize tokA s a = x at h
    unfold tokE at h; split at h
    · injection h with h; subst h
      refine ⟨fun _ => ⟨rfl, rfl, rfl, rfl⟩, fun h => ?_, fun h => ?_, fun h => ?_, fun h => ?_, fun h => ?_, by show (1 : Int) ≤ 2; decide, by show (2 : Int) ≤ 7; decide⟩
      all_goals (replace h : (2 : Int) = _ := h; omega)
    · cases h
  · generalize tokA s a = x at h
    unfold tokC at h; dsimp only at h; split at h
    · rename_i c
      injection h with h; subst h
      refine ⟨fun h => ?_, fun _ => ⟨by show a + 2 < _ + 1; omega, rfl, rfl, rfl⟩, fun h => ?_, fun h => ?_, fun h => ?_, fun h => ?_, by show (1 : Int) ≤ 3; decide, by show (3 : Int) ≤ 7; decide⟩
      all_goals (replace h : (3 : Int) = _ := h; omega)
    · cases h
  · have LI := tokL_inv h
    have hto := tokL_to h
    generalize tokA s a = x at h LI hto
    obtain ⟨g1, g2, g3, g4⟩ := LI.es
    have hk := LI.kd
    have hsz := isTgt_facts LI.tg
    rw [← LI.tx, g4] at hsz
    refine ⟨fun h => by omega, fun h => by omega, fun _ => ⟨upto (notB tgtB) s (a + 2), by rw [LI.fr]; omega, by rw [LI.fr]; omega, by rw [LI.fr]; exact LI.tx, by rw [LI.fr]; exact LI.b0, by rw [LI.fr]; exact LI.b1, hto.2.2, LI.id0, ?_⟩, fun h => by omega, fun h => by omega, fun h => by omega, by omega, by omega⟩
    rcases LI.en with ⟨c1, c2, c3, c4⟩ | ⟨c1, c2, c3, c4, c5, c6, c7⟩
    · exact .inl ⟨c3, c4⟩
    · refine .inr ⟨by omega, by omega, ?_⟩
      rw [c7, c6]; rfl
  · generalize tokA s a = x at h
    unfold tokR at h; dsimp only at h; split at h
    · rename_i c
      injection h with h; subst h
      refine ⟨fun h => ?_, fun h => ?_, fun h => ?_, fun _ => ⟨by show a + 4 < _ + 2; omega, rfl, rfl, c.1, c.2.1, c.2.2.2.2.2.1, c.2.2.2.2.2.2.1⟩, fun h => ?_, fun h => ?_, by show (1 : Int) ≤ 5; decide, by show (5 : Int) ≤ 7; decide⟩
      all_goals (replace h : (5 : Int) = _ := h; omega)
    · cases h
  · generalize tokA s a = x at h
    unfold tokT at h; dsimp only at h; split at h
    · rename_i c
      injection h with h; subst h
      have := upto_ge letB s (a + 1)
      refine ⟨fun h => ?_, fun h => ?_, fun h => ?_, fun h => ?_, fun _ => ⟨by show a + 1 < upto _ _ _; omega, rfl, rfl, rfl, c.1⟩, fun h => ?_, by show (1 : Int) ≤ 6; decide, by show (6 : Int) ≤ 7; decide⟩
      all_goals (replace h : (6 : Int) = _ := h; omega)
    · cases h
  · generalize tokA s a = x at h
    unfold tokB at h; split at h
    · injection h with h; subst h
      refine ⟨fun h => ?_, fun h => ?_, fun h => ?_, fun h => ?_, fun h => ?_, fun _ => ⟨rfl, rfl, rfl⟩, by show (1 : Int) ≤ 7; decide, by show (7 : Int) ≤ 7; decide⟩
      all_goals (replace h : (7 : Int) = _ := h; omega)
    · cases h
  · rw [h]
    refine ⟨fun h => ?_, fun h => ?_, fun h => ?_, fun h => ?_, fun h => ?_, fun h => ?_, by show (1 : Int) ≤ 1; decide, by show (1 : Int) ≤ 7; decide⟩
    all_goals (replace h : (1 : Int) = _ := h; omega)
theorem spans_is (s : ByteArray) : ∀ x ∈ spans s, SpIs s x :=
  spans_all s (fun a _ => tokA_is s a) (fun _ _ h => ⟨h.e2, h.e3, h.e4, h.e5, h.e6, h.e7, h.k⟩) (fun x h => ⟨fun g => by omega, fun g => by omega, fun g => by omega, fun g => by omega, fun g => by omega, fun g => by omega, by omega⟩)
end Go.Proofs.YtcbmddgafkoooaaDoor
