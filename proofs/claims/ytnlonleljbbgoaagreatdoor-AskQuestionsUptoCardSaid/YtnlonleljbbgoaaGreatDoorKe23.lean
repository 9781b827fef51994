/-
  DERIVED. Plain law: the tokens of a text in which a link has been given another target. Conditions: none.
  Plain law: the tokens ahead of a link whose target turns are as they were. Conditions: none.
  Plain law: the spans of a text in which a link has been given another target. Conditions: none.
  Plain law: what a span of a text is, kind by kind. Conditions: none.
  Plain law: the spans of a text in which a link has been given another target: that link's text turns, of the others the position alone. Conditions: none.
  By an AI agent.
-/
import Derived.Test.YtnlonleljbbgoaaGreatDoorKe21
namespace Go.Proofs.YtnlonleljbbgoaaGreatDoor
open Go.RowKit

theorem bt_list (s : ByteArray) (i : Nat) : bt s i = (match s.data.toList[i]? with | some c => (c.toNat : Int) | none => -1) := by
  by_cases h : i < s.size
  · rw [bt_at h, List.getElem?_eq_getElem (by simpa using h)]; rfl
  · rw [bt_out (by omega), List.getElem?_eq_none (by simp; exact Nat.le_of_not_lt h)]
theorem bt_eq_list {s o : ByteArray} {i j : Nat} (h : s.data.toList[i]? = o.data.toList[j]?) : bt s i = bt o j := by rw [bt_list, bt_list, h]
theorem ba_ext {s o : ByteArray} (h : s.data.toList = o.data.toList) : s = o := by
  cases s with | mk a => cases o with | mk b => cases a; cases b; simp at h; rw [h]
theorem ext_list2 (s : ByteArray) (a b : Nat) : (s.extract a b).data.toList = (s.data.toList.drop a).take (b - a) := by
  rw [ByteArray.data_extract, Array.toList_extract]

/-- two texts are alike from these places on -/
structure Same (s o : ByteArray) (a b : Nat) : Prop where
  la : a ≤ s.size
  lb : b ≤ o.size
  dr : s.data.toList.drop a = o.data.toList.drop b
theorem Same.sz {s o : ByteArray} {a b : Nat} (h : Same s o a b) : s.size + b = o.size + a := by
  have := congrArg List.length h.dr
  simp only [List.length_drop, Array.length_toList] at this
  have h1 := h.la
  have h2 := h.lb
  have e1 : s.data.size = s.size := rfl
  have e2 : o.data.size = o.size := rfl
  omega
theorem Same.at_ {s o : ByteArray} {a b : Nat} (h : Same s o a b) (i : Nat) : bt s (a + i) = bt o (b + i) := by
  apply bt_eq_list
  have := congrArg (fun l => l[i]?) h.dr
  simpa [List.getElem?_drop] using this
theorem Same.at' {s o : ByteArray} {a b i j : Nat} (h : Same s o a b) (hi : a ≤ i) (hj : i + b = j + a) : bt s i = bt o j := by
  have := h.at_ (i - a)
  rwa [show a + (i - a) = i by omega, show b + (i - a) = j by omega] at this
theorem Same.more {s o : ByteArray} {a b i j : Nat} (h : Same s o a b) (hi : a ≤ i) (hs : i ≤ s.size) (hj : i + b = j + a) : Same s o i j := by
  refine ⟨hs, by have := h.sz; omega, ?_⟩
  have := congrArg (fun l => l.drop (i - a)) h.dr
  simp only [List.drop_drop] at this
  rwa [show a + (i - a) = i by omega, show b + (i - a) = j by omega] at this
theorem Same.ext {s o : ByteArray} {a b i j i' j' : Nat} (h : Same s o a b) (hi : a ≤ i) (hij : i ≤ j) (h1 : i + b = i' + a) (h2 : j + b = j' + a) : o.extract i' j' = s.extract i j := by
  apply ba_ext
  rw [ext_list2, ext_list2]
  have := congrArg (fun l => (l.drop (i - a)).take (j - i)) h.dr
  simp only [List.drop_drop] at this
  rw [show a + (i - a) = i by omega, show b + (i - a) = i' by omega] at this
  rw [show j' - i' = j - i by omega]
  exact this.symm
theorem Same.upto {s o : ByteArray} {a b i j : Nat} (h : Same s o a b) (stop : Int → Bool) (hi : a ≤ i) (hj : i + b = j + a) : upto stop s i + b = upto stop o j + a := by
  have key : ∀ n i j, a ≤ i → i + b = j + a → uptoN stop s n i + b = uptoN stop o n j + a := by
    intro n
    induction n with
    | zero => intro i j _ h2; exact h2
    | succ n ih =>
      intro i j h1 h2
      simp only [uptoN]
      rw [h.at' h1 h2]
      split
      · exact h2
      · exact ih (i + 1) (j + 1) (by omega) (by omega)
  have hsz := h.sz
  unfold Go.Proofs.YtnlonleljbbgoaaGreatDoor.upto
  rw [show o.size - j = s.size - i by omega]
  exact key _ i j hi hj

end Go.Proofs.YtnlonleljbbgoaaGreatDoor
namespace Go.Proofs.YtnlonleljbbgoaaGreatDoor
open Go.RowKit

/-- two texts are alike up to place N; at p two brackets -/
structure Pre (s o : ByteArray) (p : Nat) : Prop where
  ps : p + 2 ≤ s.size
  po : p + 2 ≤ o.size
  tk : s.data.toList.take (p + 2) = o.data.toList.take (p + 2)
  b0 : bt s p = 91
  b1 : bt s (p + 1) = 91
  nc : ∀ i, p + 2 ≤ i → bt o i = 96 → ∃ i', p + 2 ≤ i' ∧ bt s i' = 96
theorem Pre.at_ {s o : ByteArray} {p : Nat} (h : Pre s o p) {i : Nat} (hi : i < p + 2) : bt o i = bt s i := by
  apply bt_eq_list
  have := congrArg (fun l => l[i]?) h.tk
  simp only [List.getElem?_take, if_pos hi] at this
  exact this.symm
theorem Pre.ext {s o : ByteArray} {p : Nat} (h : Pre s o p) {i j : Nat} (hj : j ≤ p + 2) : o.extract i j = s.extract i j := by
  apply ba_ext
  rw [ext_list2, ext_list2]
  have := congrArg (fun l => (l.drop i).take (j - i)) h.tk
  simp only [List.drop_take, List.take_take] at this
  rw [show min (j - i) (p + 2 - i) = j - i by omega] at this
  exact this.symm
theorem Pre.upto {s o : ByteArray} {p : Nat} (h : Pre s o p) {stop : Int → Bool} {k : Nat} (hk : k ≤ p) (hs : stop 91 = true) : Go.Proofs.YtnlonleljbbgoaaGreatDoor.upto stop o k = Go.Proofs.YtnlonleljbbgoaaGreatDoor.upto stop s k ∧ Go.Proofs.YtnlonleljbbgoaaGreatDoor.upto stop s k ≤ p := by
  have hps := h.ps
  have hpo := h.po
  have hle : Go.Proofs.YtnlonleljbbgoaaGreatDoor.upto stop s k ≤ p := by
    rcases Nat.lt_or_ge p (Go.Proofs.YtnlonleljbbgoaaGreatDoor.upto stop s k) with g | g
    · have := upto_mid hk g
      rw [h.b0, hs] at this; cases this
    · exact g
  refine ⟨upto_eq (upto_ge _ _ _) (by omega) (fun j hj hj' => ?_) (.inr ?_), hle⟩
  · rw [h.at_ (by omega)]; exact upto_mid hj hj'
  · rw [h.at_ (by omega)]; exact upto_at (by omega)
end Go.Proofs.YtnlonleljbbgoaaGreatDoor
namespace Go.Proofs.YtnlonleljbbgoaaGreatDoor
open Go.RowKit

/-- what a link is -/
structure LinkIs (s : ByteArray) (a e : Nat) (x : Sp) : Prop where
  ee : upto (notB tgtB) s (a + 2) = e
  b0 : bt s a = 91
  b1 : bt s (a + 1) = 91
  tg : isTgt (s.extract (a + 2) e) = true
  kd : x.kind = 4
  fr : x.frm = a
  tx : x.text = s.extract (a + 2) e
  id0 : x.id = 0
  st : x.strong = false
  en : (bt s e = 93 ∧ bt s (e + 1) = 93 ∧ x.to_ = e + 2 ∧ x.show_ = noB) ∨
    (bt s e = 124 ∧ upto (isAny [91, 93]) s (e + 1) < s.size ∧ e + 1 < upto (isAny [91, 93]) s (e + 1) ∧ bt s (upto (isAny [91, 93]) s (e + 1)) = 93 ∧ bt s (upto (isAny [91, 93]) s (e + 1) + 1) = 93 ∧
      x.to_ = upto (isAny [91, 93]) s (e + 1) + 2 ∧ x.show_ = s.extract (e + 1) (upto (isAny [91, 93]) s (e + 1)))
theorem tokL_inv {s : ByteArray} {a : Nat} {x : Sp} (h : tokL s a = some x) : LinkIs s a (upto (notB tgtB) s (a + 2)) x := by
  unfold tokL at h
  dsimp only at h
  split at h
  · rename_i c
    split at h
    · rename_i d
      injection h with h; subst h
      exact ⟨rfl, c.1, c.2.1, c.2.2, rfl, rfl, rfl, rfl, rfl, .inl ⟨d.1, d.2, rfl, rfl⟩⟩
    · split at h
      · rename_i d
        injection h with h; subst h
        exact ⟨rfl, c.1, c.2.1, c.2.2, rfl, rfl, rfl, rfl, rfl, .inr ⟨d.1, d.2.1, d.2.2.1, d.2.2.2.1, d.2.2.2.2, rfl, rfl⟩⟩
      · cases h
  · cases h
theorem LinkIs.es {s : ByteArray} {a e : Nat} {x : Sp} (h : LinkIs s a e x) : e < s.size ∧ a + 2 ≤ e ∧ e + 2 ≤ x.to_ ∧ x.text.size = e - (a + 2) := by
  have h0 := upto_ge (notB tgtB) s (a + 2)
  rw [h.ee] at h0
  have h1 : e < s.size := by
    rcases h.en with c | c
    · exact bt_in (by omega)
    · exact bt_in (by omega)
  refine ⟨h1, h0, ?_, ?_⟩
  · rcases h.en with c | c <;> omega
  · rw [h.tx, ByteArray.size_extract]; omega

theorem isTgt_facts {U : ByteArray} (h : isTgt U = true) : 0 < U.size ∧ U.size ≤ 100 ∧ ∀ i, i < U.size → tgtB (bt U i) = true := by
  unfold isTgt at h
  simp only [Bool.and_eq_true, decide_eq_true_eq] at h
  refine ⟨h.1.1.1.1, h.1.1.1.2, fun i hi => ?_⟩
  have := upto_mid (stop := notB tgtB) (s := U) (i := 0) (j := i) (Nat.zero_le _) (by rw [h.2]; exact hi)
  unfold notB at this
  simpa using this

end Go.Proofs.YtnlonleljbbgoaaGreatDoor
namespace Go.Proofs.YtnlonleljbbgoaaGreatDoor
open Go.RowKit

/-- what holds of each token, and does not hang on Strong, holds of each span -/
theorem spans_all {P : Sp → Prop} (s : ByteArray) (h1 : ∀ a, a < s.size → P (tokA s a)) (h2 : ∀ x b, P x → P { x with strong := b }) (h3 : ∀ x, x.kind = 1 → P x) : ∀ x ∈ spans s, P x := by
  have k1 : ∀ n a, ∀ x ∈ toksN s n a, P x := by
    intro n
    induction n with
    | zero => intro a x hx; cases hx
    | succ n ih =>
      intro a x hx
      simp only [toksN] at hx
      split at hx
      · rename_i ha
        rcases List.mem_cons.1 hx with rfl | hx
        · exact h1 a ha
        · exact ih _ _ hx
      · cases hx
  have k2 : ∀ x ∈ strong (toks s 0), P x := by
    intro x hx
    obtain ⟨j, hj, rfl⟩ := List.mem_mapIdx.1 hx
    have g := k1 _ 0 _ (List.getElem_mem (l := toks s 0) hj)
    unfold strK
    split
    · exact h3 _ rfl
    · exact h2 _ _ g
  have k3 : ∀ (l acc : List Sp), (∀ x ∈ l, P x) → (∀ x ∈ acc, P x) → ∀ x ∈ merge acc l, P x := by
    intro l
    induction l with
    | nil => intro acc _ h; exact h
    | cons z l ih =>
      intro acc g1 g2
      refine ih (mstep acc z) (fun y hy => g1 y (List.mem_cons_of_mem _ hy)) (fun y hy => ?_)
      unfold mstep at hy
      cases e : acc.getLast? with
      | none => rw [e] at hy; simp at hy; subst hy; exact g1 _ (List.mem_cons_self ..)
      | some q =>
        rw [e] at hy
        dsimp only at hy
        split at hy
        · rename_i c
          simp only [Bool.and_eq_true, beq_iff_eq] at c
          rcases List.mem_append.1 hy with hy | hy
          · exact g2 y ((List.dropLast_sublist acc).subset hy)
          · simp at hy; subst hy; exact h3 _ c.1.2
        · rcases List.mem_append.1 hy with hy | hy
          · exact g2 y hy
          · simp at hy; subst hy; exact g1 _ (List.mem_cons_self ..)
  intro x hx
  obtain ⟨y, hy, rfl⟩ := List.mem_map.1 hx
  have h := k3 _ [] k2 (fun _ h => by cases h) y hy
  unfold fillT
  split
  · rename_i k; exact h3 _ k
  · exact h

/-- which token stands at a place -/
theorem tokA_cases (s : ByteArray) (a : Nat) : tokE s a = some (tokA s a) ∨ tokC s a = some (tokA s a) ∨ tokL s a = some (tokA s a) ∨ tokR s a = some (tokA s a) ∨ tokT s a = some (tokA s a) ∨ tokB s a = some (tokA s a) ∨ tokA s a = plainAt a := by
  unfold tokA
  cases e1 : tokE s a with
  | some x => exact .inl rfl
  | none =>
    cases e2 : tokC s a with
    | some x => exact .inr (.inl rfl)
    | none =>
      cases e3 : tokL s a with
      | some x => exact .inr (.inr (.inl rfl))
      | none =>
        cases e4 : tokR s a with
        | some x => exact .inr (.inr (.inr (.inl rfl)))
        | none =>
          cases e5 : tokT s a with
          | some x => exact .inr (.inr (.inr (.inr (.inl rfl))))
          | none =>
            cases e6 : tokB s a with
            | some x => exact .inr (.inr (.inr (.inr (.inr (.inl rfl)))))
            | none => exact .inr (.inr (.inr (.inr (.inr (.inr rfl)))))

/-- what a span is -/
structure SpIs (s : ByteArray) (x : Sp) : Prop where
  e2 : x.kind = 2 → x.to_ = x.frm + 2 ∧ x.text = s.extract (x.frm + 1) (x.frm + 2) ∧ x.show_ = noB ∧ x.id = 0
  e3 : x.kind = 3 → x.frm + 2 < x.to_ ∧ x.text = s.extract (x.frm + 1) (x.to_ - 1) ∧ x.show_ = noB ∧ x.id = 0
  e4 : x.kind = 4 → ∃ e, x.frm + 2 < e ∧ e ≤ x.frm + 102 ∧ x.text = s.extract (x.frm + 2) e ∧ bt s x.frm = 91 ∧ bt s (x.frm + 1) = 91 ∧ x.to_ ≤ s.size ∧ x.id = 0 ∧ ((x.to_ = e + 2 ∧ x.show_ = noB) ∨ (e + 1 < x.to_ - 2 ∧ 2 ≤ x.to_ ∧ x.show_ = s.extract (e + 1) (x.to_ - 2)))
  e5 : x.kind = 5 → x.frm + 4 < x.to_ ∧ x.text = s.extract (x.frm + 2) (x.to_ - 2) ∧ x.show_ = noB ∧ bt s x.frm = 40 ∧ bt s (x.frm + 1) = 40 ∧ bt s (x.to_ - 2) = 41 ∧ bt s (x.to_ - 1) = 41
  e6 : x.kind = 6 → x.frm + 1 < x.to_ ∧ x.text = s.extract (x.frm + 1) x.to_ ∧ x.show_ = noB ∧ x.id = 0 ∧ bt s x.frm = 35
  e7 : x.kind = 7 → x.to_ = x.frm + 2 ∧ x.show_ = noB ∧ x.id = 0
  k : 1 ≤ x.kind ∧ x.kind ≤ 7
theorem tokA_is (s : ByteArray) (a : Nat) : SpIs s (tokA s a) := by
  rcases tokA_cases s a with h | h | h | h | h | h | h
  · generalize tokA s a = x at h
    unfold tokE at h; split at h
    · injection h with h; subst h
      refine ⟨fun _ => ⟨rfl, rfl, rfl, rfl⟩, fun h => ?_, fun h => ?_, fun h => ?_, fun h => ?_, fun h => ?_, by show (1 : Int) ≤ 2; decide, by show (2 : Int) ≤ 7; decide⟩
      all_goals (replace h : (2 : Int) = _ := h; omega)
    · cases h
  · generalize tokA s a = x at h
    unfold tokC at h; dsimp only at h; split at h
    · rename_i c
      injection h with h; subst h
      refine ⟨fun h => ?_, fun _ => ⟨by show a + 2 < _ + 1; omega, rfl, rfl, rfl⟩, fun h => ?_, fun h => ?_, fun h => ?_, fun h => ?_, by show (1 : Int) ≤ 3; decide, by show (3 : Int) ≤ 7; decide⟩
      all_goals (replace h : (3 : Int) = _ := h; omega)
    · cases h
  · have LI := tokL_inv h
    have hto := tokL_to h
    generalize tokA s a = x at h LI hto
    obtain ⟨g1, g2, g3, g4⟩ := LI.es
    have hk := LI.kd
    have hsz := isTgt_facts LI.tg
    rw [← LI.tx, g4] at hsz
    refine ⟨fun h => by omega, fun h => by omega, fun _ => ⟨upto (notB tgtB) s (a + 2), by rw [LI.fr]; omega, by rw [LI.fr]; omega, by rw [LI.fr]; exact LI.tx, by rw [LI.fr]; exact LI.b0, by rw [LI.fr]; exact LI.b1, hto.2.2, LI.id0, ?_⟩, fun h => by omega, fun h => by omega, fun h => by omega, by omega, by omega⟩
    rcases LI.en with ⟨c1, c2, c3, c4⟩ | ⟨c1, c2, c3, c4, c5, c6, c7⟩
    · exact .inl ⟨c3, c4⟩
    · refine .inr ⟨by omega, by omega, ?_⟩
      rw [c7, c6]; rfl
  · generalize tokA s a = x at h
    unfold tokR at h; dsimp only at h; split at h
    · rename_i c
      injection h with h; subst h
      refine ⟨fun h => ?_, fun h => ?_, fun h => ?_, fun _ => ⟨by show a + 4 < _ + 2; omega, rfl, rfl, c.1, c.2.1, c.2.2.2.2.2.1, c.2.2.2.2.2.2.1⟩, fun h => ?_, fun h => ?_, by show (1 : Int) ≤ 5; decide, by show (5 : Int) ≤ 7; decide⟩
      all_goals (replace h : (5 : Int) = _ := h; omega)
    · cases h
  · generalize tokA s a = x at h
    unfold tokT at h; dsimp only at h; split at h
    · rename_i c
      injection h with h; subst h
      have := upto_ge letB s (a + 1)
      refine ⟨fun h => ?_, fun h => ?_, fun h => ?_, fun h => ?_, fun _ => ⟨by show a + 1 < upto _ _ _; omega, rfl, rfl, rfl, c.1⟩, fun h => ?_, by show (1 : Int) ≤ 6; decide, by show (6 : Int) ≤ 7; decide⟩
      all_goals (replace h : (6 : Int) = _ := h; omega)
    · cases h
  · generalize tokA s a = x at h
    unfold tokB at h; split at h
    · injection h with h; subst h
      refine ⟨fun h => ?_, fun h => ?_, fun h => ?_, fun h => ?_, fun h => ?_, fun _ => ⟨rfl, rfl, rfl⟩, by show (1 : Int) ≤ 7; decide, by show (7 : Int) ≤ 7; decide⟩
      all_goals (replace h : (7 : Int) = _ := h; omega)
    · cases h
  · rw [h]
    refine ⟨fun h => ?_, fun h => ?_, fun h => ?_, fun h => ?_, fun h => ?_, fun h => ?_, by show (1 : Int) ≤ 1; decide, by show (1 : Int) ≤ 7; decide⟩
    all_goals (replace h : (1 : Int) = _ := h; omega)
end Go.Proofs.YtnlonleljbbgoaaGreatDoor
namespace Go.Proofs.YtnlonleljbbgoaaGreatDoor
open Go.RowKit

end Go.Proofs.YtnlonleljbbgoaaGreatDoor
