/-
  DERIVED. Plain law: the spans of a text in which a link has been given another target. Conditions: none. By an AI agent.
-/
import Derived.Test.YtcbmddgafkoooaaDoorRetokPre
namespace Go.Proofs.YtcbmddgafkoooaaDoor
open Go.RowKit

theorem toks_split {s : ByteArray} : ∀ {L1 r : List Sp} {a p : Nat}, toks s a = L1 ++ r → Cont a L1 p → p ≤ s.size → toks s p = r
  | [], r, a, p, e, c, _ => by
    have : a = p := c
    subst this
    exact e
  | x :: L1, r, a, p, e, c, hp => by
    have hlt := cont_le c
    simp only [List.length_cons] at hlt
    rw [toks_step (show a < s.size by omega)] at e
    injection e with e1 e2
    exact toks_split (L1 := L1) (a := x.to_) (by rw [← e1]; exact e2) c.2.2 hp

theorem tokE_kind {s : ByteArray} {a : Nat} {x : Sp} (h : tokE s a = some x) : x.kind = 2 := by
  unfold tokE at h; split at h
  · injection h with h; subst h; rfl
  · cases h
theorem tokC_kind {s : ByteArray} {a : Nat} {x : Sp} (h : tokC s a = some x) : x.kind = 3 := by
  unfold tokC at h; dsimp only at h; split at h
  · injection h with h; subst h; rfl
  · cases h
theorem tokR_kind {s : ByteArray} {a : Nat} {x : Sp} (h : tokR s a = some x) : x.kind = 5 := by
  unfold tokR at h; dsimp only at h; split at h
  · injection h with h; subst h; rfl
  · cases h
theorem tokT_kind {s : ByteArray} {a : Nat} {x : Sp} (h : tokT s a = some x) : x.kind = 6 := by
  unfold tokT at h; dsimp only at h; split at h
  · injection h with h; subst h; rfl
  · cases h
theorem tokB_kind {s : ByteArray} {a : Nat} {x : Sp} (h : tokB s a = some x) : x.kind = 7 := by
  unfold tokB at h; split at h
  · injection h with h; subst h; rfl
  · cases h
theorem tokA_link {s : ByteArray} {a : Nat} (h : (tokA s a).kind = 4) : tokL s a = some (tokA s a) := by
  unfold tokA at h ⊢
  cases e1 : tokE s a with
  | some x => rw [e1] at h; have := tokE_kind e1; have h' : x.kind = 4 := h; omega
  | none =>
    cases e2 : tokC s a with
    | some x => rw [e1, e2] at h; have := tokC_kind e2; have h' : x.kind = 4 := h; omega
    | none =>
      cases e3 : tokL s a with
      | some x => rfl
      | none =>
        cases e4 : tokR s a with
        | some x => rw [e1, e2, e3, e4] at h; have := tokR_kind e4; have h' : x.kind = 4 := h; omega
        | none =>
          cases e5 : tokT s a with
          | some x => rw [e1, e2, e3, e4, e5] at h; have := tokT_kind e5; have h' : x.kind = 4 := h; omega
          | none =>
            cases e6 : tokB s a with
            | some x => rw [e1, e2, e3, e4, e5, e6] at h; have := tokB_kind e6; have h' : x.kind = 4 := h; omega
            | none => rw [e1, e2, e3, e4, e5, e6] at h; exact absurd (show (1 : Int) = 4 from h) (by decide)

/-- what a link is -/
structure LinkIs (s : ByteArray) (a e : Nat) (x : Sp) : Prop where
  ee : upto (notB tgtB) s (a + 2) = e
  b0 : bt s a = 91
  b1 : bt s (a + 1) = 91
  tg : isTgt (s.extract (a + 2) e) = true
  kd : x.kind = 4
  fr : x.frm = a
  tx : x.text = s.extract (a + 2) e
  id0 : x.id = 0
  st : x.strong = false
  en : (bt s e = 93 ∧ bt s (e + 1) = 93 ∧ x.to_ = e + 2 ∧ x.show_ = noB) ∨
    (bt s e = 124 ∧ upto (isAny [91, 93]) s (e + 1) < s.size ∧ e + 1 < upto (isAny [91, 93]) s (e + 1) ∧ bt s (upto (isAny [91, 93]) s (e + 1)) = 93 ∧ bt s (upto (isAny [91, 93]) s (e + 1) + 1) = 93 ∧
      x.to_ = upto (isAny [91, 93]) s (e + 1) + 2 ∧ x.show_ = s.extract (e + 1) (upto (isAny [91, 93]) s (e + 1)))
theorem tokL_inv {s : ByteArray} {a : Nat} {x : Sp} (h : tokL s a = some x) : LinkIs s a (upto (notB tgtB) s (a + 2)) x := by
  unfold tokL at h
  dsimp only at h
  split at h
  · rename_i c
    split at h
    · rename_i d
      injection h with h; subst h
      exact ⟨rfl, c.1, c.2.1, c.2.2, rfl, rfl, rfl, rfl, rfl, .inl ⟨d.1, d.2, rfl, rfl⟩⟩
    · split at h
      · rename_i d
        injection h with h; subst h
        exact ⟨rfl, c.1, c.2.1, c.2.2, rfl, rfl, rfl, rfl, rfl, .inr ⟨d.1, d.2.1, d.2.2.1, d.2.2.2.1, d.2.2.2.2, rfl, rfl⟩⟩
      · cases h
  · cases h
theorem LinkIs.es {s : ByteArray} {a e : Nat} {x : Sp} (h : LinkIs s a e x) : e < s.size ∧ a + 2 ≤ e ∧ e + 2 ≤ x.to_ ∧ x.text.size = e - (a + 2) := by
  have h0 := upto_ge (notB tgtB) s (a + 2)
  rw [h.ee] at h0
  have h1 : e < s.size := by
    rcases h.en with c | c
    · exact bt_in (by omega)
    · exact bt_in (by omega)
  refine ⟨h1, h0, ?_, ?_⟩
  · rcases h.en with c | c <;> omega
  · rw [h.tx, ByteArray.size_extract]; omega

theorem isTgt_facts {U : ByteArray} (h : isTgt U = true) : 0 < U.size ∧ U.size ≤ 100 ∧ ∀ i, i < U.size → tgtB (bt U i) = true := by
  unfold isTgt at h
  simp only [Bool.and_eq_true, decide_eq_true_eq] at h
  refine ⟨h.1.1.1.1, h.1.1.1.2, fun i hi => ?_⟩
  have := upto_mid (stop := notB tgtB) (s := U) (i := 0) (j := i) (Nat.zero_le _) (by rw [h.2]; exact hi)
  unfold notB at this
  simpa using this

/-- the text with another target -/
def retS (s U : ByteArray) (a e : Nat) : ByteArray := s.extract 0 (a + 2) ++ U ++ s.extract e s.size
theorem retS_list (s U : ByteArray) (a e : Nat) : (retS s U a e).data.toList = s.data.toList.take (a + 2) ++ (U.data.toList ++ s.data.toList.drop e) := by
  unfold retS
  rw [ByteArray.data_append, ByteArray.data_append, Array.toList_append, Array.toList_append, ext_list2, ext_list, List.append_assoc]
  simp
theorem retS_size {s U : ByteArray} {a e : Nat} (h : a + 2 ≤ e) (he : e ≤ s.size) : (retS s U a e).size + e = s.size + (a + 2 + U.size) := by
  have := congrArg List.length (retS_list s U a e)
  have e1 : ∀ t : ByteArray, t.data.toList.length = t.size := fun t => rfl
  simp only [List.length_append, List.length_take, List.length_drop, e1] at this
  omega
theorem retS_same {s U : ByteArray} {a e : Nat} (h : a + 2 ≤ e) (he : e ≤ s.size) : Same s (retS s U a e) e (a + 2 + U.size) := by
  have e1 : ∀ t : ByteArray, t.data.toList.length = t.size := fun t => rfl
  refine ⟨he, by have := retS_size (U := U) h he; omega, ?_⟩
  have e2 : (s.data.toList.take (a + 2)).drop (a + 2 + U.size) = [] := List.drop_eq_nil_of_le (by rw [List.length_take, e1]; omega)
  have e3 : U.data.toList.drop U.size = [] := List.drop_eq_nil_of_le (by rw [e1]; exact Nat.le_refl _)
  rw [retS_list, List.drop_append, e2, List.nil_append, List.length_take, e1, show a + 2 + U.size - min (a + 2) s.size = U.size by omega, List.drop_append, e3, e1, Nat.sub_self]
  simp
theorem retS_mid {s U : ByteArray} {a e i : Nat} (h : a + 2 ≤ e) (he : e ≤ s.size) (hi : i < U.size) : bt (retS s U a e) (a + 2 + i) = bt U i := by
  have e1 : ∀ t : ByteArray, t.data.toList.length = t.size := fun t => rfl
  apply bt_eq_list
  rw [retS_list, List.getElem?_append_right (by rw [List.length_take, e1]; omega), List.length_take, e1, show a + 2 + i - min (a + 2) s.size = i by omega, List.getElem?_append_left (by rw [e1]; exact hi)]
theorem retS_ext {s U : ByteArray} {a e : Nat} (h : a + 2 ≤ e) (he : e ≤ s.size) : (retS s U a e).extract (a + 2) (a + 2 + U.size) = U := by
  have e1 : ∀ t : ByteArray, t.data.toList.length = t.size := fun t => rfl
  apply ba_ext
  have e2 : (s.data.toList.take (a + 2)).drop (a + 2) = [] := List.drop_eq_nil_of_le (by rw [List.length_take, e1]; omega)
  rw [ext_list2, retS_list, List.drop_append, e2, List.nil_append, List.length_take, e1, show a + 2 - min (a + 2) s.size = 0 by omega, List.drop_zero, Nat.add_sub_cancel_left, List.take_append]
  rw [e1, Nat.sub_self, List.take_of_length_le (by rw [e1]; exact Nat.le_refl _)]
  simp
theorem retS_pre {s U : ByteArray} {a e : Nat} {x : Sp} (h : LinkIs s a e x) (hU : isTgt U = true) : Pre s (retS s U a e) a := by
  obtain ⟨h1, h2, h3, _⟩ := h.es
  obtain ⟨u1, u2, u3⟩ := isTgt_facts hU
  have hz := retS_size (U := U) h2 (Nat.le_of_lt h1)
  refine ⟨by omega, by omega, ?_, h.b0, h.b1, fun i hi h96 => ?_⟩
  · have e1 : ∀ t : ByteArray, t.data.toList.length = t.size := fun t => rfl
    rw [retS_list, List.take_append, List.take_take, Nat.min_self, List.length_take, e1, show a + 2 - min (a + 2) s.size = 0 by omega]
    simp
  · rcases Nat.lt_or_ge i (a + 2 + U.size) with g | g
    · have e2 := retS_mid (U := U) h2 (Nat.le_of_lt h1) (i := i - (a + 2)) (by omega)
      rw [show a + 2 + (i - (a + 2)) = i by omega, h96] at e2
      have := u3 (i - (a + 2)) (by omega)
      rw [← e2] at this
      exact absurd this (by decide)
    · exact ⟨i + e - (a + 2 + U.size), by omega, by rw [(retS_same (U := U) h2 (Nat.le_of_lt h1)).at' (i := i + e - (a + 2 + U.size)) (j := i) (by omega) (by omega)]; exact h96⟩
theorem retS_tok {s U : ByteArray} {a e : Nat} {x : Sp} (h : LinkIs s a e x) (hU : isTgt U = true) : tokL (retS s U a e) a = some { x with text := U, to_ := shF e (a + 2 + U.size) x.to_ } := by
  obtain ⟨h1, h2, h3, _⟩ := h.es
  obtain ⟨u1, u2, u3⟩ := isTgt_facts hU
  have hz := retS_size (U := U) h2 (Nat.le_of_lt h1)
  have hs := retS_same (U := U) h2 (Nat.le_of_lt h1)
  have hp := retS_pre h hU
  have he : upto (notB tgtB) (retS s U a e) (a + 2) = a + 2 + U.size := by
    refine upto_eq (by omega) (by omega) (fun j hj hj' => ?_) (.inr ?_)
    · have := retS_mid (U := U) h2 (Nat.le_of_lt h1) (i := j - (a + 2)) (by omega)
      rw [show a + 2 + (j - (a + 2)) = j by omega] at this
      unfold notB
      rw [this, u3 _ (by omega)]; rfl
    · rw [← hs.at' (i := e) (Nat.le_refl _) (by omega)]
      rcases h.en with c | c
      · rw [c.1]; decide
      · rw [c.1]; decide
  unfold tokL
  dsimp only
  rw [he, hp.at_ (by omega), hp.at_ (by omega), h.b0, h.b1, retS_ext h2 (Nat.le_of_lt h1), hU, if_pos ⟨rfl, rfl, rfl⟩]
  rw [← hs.at' (i := e) (Nat.le_refl _) (by omega), ← hs.at' (i := e + 1) (j := a + 2 + U.size + 1) (by omega) (by omega)]
  rcases h.en with ⟨c1, c2, c3, c4⟩ | ⟨c1, c2, c3, c4, c5, c6, c7⟩
  · rw [if_pos ⟨c1, c2⟩]
    cases x
    simp at c3 c4 ⊢
    have k1 := h.kd
    have k2 := h.fr
    have k3 := h.id0
    have k4 := h.st
    simp at k1 k2 k3 k4
    subst k1 k2 k3 k4 c3 c4
    unfold shF
    dsimp only at h3 ⊢
    exact ⟨rfl, rfl, by omega, rfl, rfl, rfl⟩
  · have hj := hs.upto (isAny [91, 93]) (i := e + 1) (j := a + 2 + U.size + 1) (by omega) (by omega)
    obtain ⟨j, ej⟩ : ∃ j, j = upto (isAny [91, 93]) s (e + 1) := ⟨_, rfl⟩
    obtain ⟨j', ej'⟩ : ∃ j', j' = upto (isAny [91, 93]) (retS s U a e) (a + 2 + U.size + 1) := ⟨_, rfl⟩
    rw [← ej] at hj c2 c3 c4 c5 c6 c7
    rw [← ej'] at hj
    rw [← ej', if_neg (by rw [c1]; omega), ← hs.at' (i := j) (j := j') (by omega) (by omega), ← hs.at' (i := j + 1) (j := j' + 1) (by omega) (by omega), if_pos ⟨c1, by omega, by omega, c4, c5⟩,
      hs.ext (i := e + 1) (j := j) (by omega) (by omega) (by omega) (by omega)]
    cases x
    simp at c6 c7 ⊢
    have k1 := h.kd
    have k2 := h.fr
    have k3 := h.id0
    have k4 := h.st
    simp at k1 k2 k3 k4
    subst k1 k2 k3 k4 c6 c7
    unfold shF
    dsimp only at h3 ⊢
    exact ⟨rfl, rfl, by omega, rfl, rfl, rfl⟩

theorem toks_ret {s U : ByteArray} {L1 L2 : List Sp} {x : Sp} {a : Nat} (hL : toks s 0 = L1 ++ x :: L2) (hc : Cont 0 L1 a) (hk : x.kind = 4) (hU : isTgt U = true) :
    ∃ e, LinkIs s a e x ∧ toks (retS s U a e) 0 = L1 ++ { x with text := U, to_ := shF e (a + 2 + U.size) x.to_ } :: L2.map (mv (shF e (a + 2 + U.size))) ∧ toks s x.to_ = L2 := by
  have hall := toks_cont s _ 0 rfl (Nat.zero_le _)
  rw [hL] at hall
  obtain ⟨b, hb1, hb2⟩ := cont_split hall
  have hle := (cont_le hb2).1
  have : b = a := by
    have : ∀ {l : List Sp} {a b c : Nat}, Cont a l b → Cont a l c → b = c := by
      intro l
      induction l with
      | nil => intro a b c h1 h2; exact h1.symm.trans h2
      | cons y l ih => intro a b c h1 h2; exact ih h1.2.2 h2.2.2
    exact this hb1 hc
  subst this
  have hlt := (cont_le hb2).2
  simp only [List.length_cons] at hlt
  have hs := toks_split hL hc (by omega)
  rw [toks_step (by omega)] at hs
  injection hs with hs1 hs2
  have hx := tokA_link (s := s) (a := b) (by rw [hs1]; exact hk)
  rw [hs1] at hx
  have LI := tokL_inv hx
  obtain ⟨e, he⟩ : ∃ e, e = upto (notB tgtB) s (b + 2) := ⟨_, rfl⟩
  rw [← he] at LI
  obtain ⟨h1, h2, h3, _⟩ := LI.es
  have hz := retS_size (U := U) h2 (Nat.le_of_lt h1)
  have hsm := retS_same (U := U) h2 (Nat.le_of_lt h1)
  have hpre := retS_pre LI hU
  refine ⟨e, LI, ?_, by rw [← hs1]; exact hs2⟩
  rw [(toks_pre hpre hL hc).1, toks_step (show b < (retS s U b e).size by omega)]
  have hA : tokA (retS s U b e) b = { x with text := U, to_ := shF e (b + 2 + U.size) x.to_ } := by
    unfold tokA
    have n1 : tokE (retS s U b e) b = none := by
      cases q : tokE (retS s U b e) b with
      | none => rfl
      | some y => have := tokE_byte q; rw [hpre.at_ (by omega), LI.b0] at this; omega
    have n2 : tokC (retS s U b e) b = none := by
      cases q : tokC (retS s U b e) b with
      | none => rfl
      | some y => have := tokC_byte q; rw [hpre.at_ (by omega), LI.b0] at this; omega
    rw [n1, n2, retS_tok LI hU]; rfl
  rw [hA]
  congr 2
  have hxto : x.to_ ≤ s.size := by rw [← hs1]; exact (tokA_to (by omega)).2.2
  rw [toks_same (hsm.more (i := x.to_) (j := shF e (b + 2 + U.size) x.to_) (by omega) hxto (by unfold shF; omega)) (by omega) (by unfold shF; omega) (hsm.at' (by omega) (by unfold shF; omega)), ← hs2, hs1]
  apply List.map_congr_left
  intro y hy
  rw [← hs1, hs2] at *
  apply mv_congr
  · have hy2 := cont_mem (hb2.2.2) y hy
    unfold shF; omega
  · have hy2 := cont_mem (hb2.2.2) y hy
    unfold shF; omega
end Go.Proofs.YtcbmddgafkoooaaDoor
