/-
  DERIVED. Plain law: the tokens ahead of a link whose target turns are as they were. Conditions: none. By an AI agent.
-/
import Derived.Test.YtcbmddgafkoooaaDoorRetok
namespace Go.Proofs.YtcbmddgafkoooaaDoor
open Go.RowKit

/-- two texts are alike up to place N; at p two brackets -/
structure Pre (s o : ByteArray) (p : Nat) : Prop where
  ps : p + 2 ≤ s.size
  po : p + 2 ≤ o.size
  tk : s.data.toList.take (p + 2) = o.data.toList.take (p + 2)
  b0 : bt s p = 91
  b1 : bt s (p + 1) = 91
  nc : ∀ i, p + 2 ≤ i → bt o i = 96 → ∃ i', p + 2 ≤ i' ∧ bt s i' = 96
theorem Pre.at_ {s o : ByteArray} {p : Nat} (h : Pre s o p) {i : Nat} (hi : i < p + 2) : bt o i = bt s i := by
  apply bt_eq_list
  have := congrArg (fun l => l[i]?) h.tk
  simp only [List.getElem?_take, if_pos hi] at this
  exact this.symm
theorem Pre.ext {s o : ByteArray} {p : Nat} (h : Pre s o p) {i j : Nat} (hj : j ≤ p + 2) : o.extract i j = s.extract i j := by
  apply ba_ext
  rw [ext_list2, ext_list2]
  have := congrArg (fun l => (l.drop i).take (j - i)) h.tk
  simp only [List.drop_take, List.take_take] at this
  rw [show min (j - i) (p + 2 - i) = j - i by omega] at this
  exact this.symm
theorem Pre.upto {s o : ByteArray} {p : Nat} (h : Pre s o p) {stop : Int → Bool} {k : Nat} (hk : k ≤ p) (hs : stop 91 = true) : Go.Proofs.YtcbmddgafkoooaaDoor.upto stop o k = Go.Proofs.YtcbmddgafkoooaaDoor.upto stop s k ∧ Go.Proofs.YtcbmddgafkoooaaDoor.upto stop s k ≤ p := by
  have hps := h.ps
  have hpo := h.po
  have hle : Go.Proofs.YtcbmddgafkoooaaDoor.upto stop s k ≤ p := by
    rcases Nat.lt_or_ge p (Go.Proofs.YtcbmddgafkoooaaDoor.upto stop s k) with g | g
    · have := upto_mid hk g
      rw [h.b0, hs] at this; cases this
    · exact g
  refine ⟨upto_eq (upto_ge _ _ _) (by omega) (fun j hj hj' => ?_) (.inr ?_), hle⟩
  · rw [h.at_ (by omega)]; exact upto_mid hj hj'
  · rw [h.at_ (by omega)]; exact upto_at (by omega)
theorem Pre.uptoLt {s o : ByteArray} {p : Nat} (h : Pre s o p) {stop : Int → Bool} {k e : Nat} (he : e ≤ p + 2) : (Go.Proofs.YtcbmddgafkoooaaDoor.upto stop o k < e ↔ Go.Proofs.YtcbmddgafkoooaaDoor.upto stop s k < e) := by
  have hps := h.ps
  have hpo := h.po
  constructor
  · intro g
    have g0 := upto_ge stop o k
    rw [upto_eq (s := s) (k := Go.Proofs.YtcbmddgafkoooaaDoor.upto stop o k) g0 (by omega) (fun j hj hj' => by rw [← h.at_ (by omega)]; exact upto_mid hj hj') (.inr (by rw [← h.at_ (by omega)]; exact upto_at (by omega)))]
    exact g
  · intro g
    have g0 := upto_ge stop s k
    rw [upto_eq (s := o) (k := Go.Proofs.YtcbmddgafkoooaaDoor.upto stop s k) g0 (by omega) (fun j hj hj' => by rw [h.at_ (by omega)]; exact upto_mid hj hj') (.inr (by rw [h.at_ (by omega)]; exact upto_at (by omega)))]
    exact g

theorem tokE_pre {s o : ByteArray} {p a : Nat} (h : Pre s o p) (ha : a < p) : tokE o a = tokE s a := by
  unfold tokE
  rw [h.at_ (by omega), h.at_ (by omega), h.ext (by omega)]
theorem tokC_pre {s o : ByteArray} {p a : Nat} (h : Pre s o p) (ha : a < p) (ht : ∀ x, tokC s a = some x → x.to_ ≤ p) : tokC o a = tokC s a := by
  have hps := h.ps
  have hpo := h.po
  cases e : tokC s a with
  | some x =>
    have ht := ht x e
    unfold tokC at e ⊢
    dsimp only at e ⊢
    split at e
    · rename_i c
      have g := upto_ge (isC 96) s (a + 1)
      injection e with e
      subst e
      have ht : Go.Proofs.YtcbmddgafkoooaaDoor.upto (isC 96) s (a + 1) + 1 ≤ p := ht
      have e2 : Go.Proofs.YtcbmddgafkoooaaDoor.upto (isC 96) o (a + 1) = Go.Proofs.YtcbmddgafkoooaaDoor.upto (isC 96) s (a + 1) :=
        upto_eq g (by omega) (fun j hj hj' => by rw [h.at_ (by omega)]; exact upto_mid hj hj') (.inr (by rw [h.at_ (by omega)]; exact upto_at (by omega)))
      rw [e2, h.at_ (by omega), if_pos ⟨c.1, by omega, c.2.2⟩, h.ext (by omega)]
    · cases e
  | none =>
    clear ht
    unfold tokC at e ⊢
    dsimp only at e ⊢
    split at e
    · cases e
    · rename_i c
      rw [if_neg]
      rintro ⟨c1, c2, c3⟩
      rw [h.at_ (by omega)] at c1
      apply c
      have hat := upto_at c2
      have hmid : ∀ j, a + 1 ≤ j → j < Go.Proofs.YtcbmddgafkoooaaDoor.upto (isC 96) o (a + 1) → isC 96 (bt o j) = false := fun j hj hj' => upto_mid hj hj'
      have hlt : Go.Proofs.YtcbmddgafkoooaaDoor.upto (isC 96) s (a + 1) < s.size := by
        rcases Nat.lt_or_ge (Go.Proofs.YtcbmddgafkoooaaDoor.upto (isC 96) s (a + 1)) s.size with g | g
        · exact g
        · have hno : ∀ i, a + 1 ≤ i → bt s i ≠ 96 := fun i hi hi2 => by
            have hin := bt_in (s := s) (i := i) (by omega)
            have := upto_mid (stop := isC 96) hi (show i < Go.Proofs.YtcbmddgafkoooaaDoor.upto (isC 96) s (a + 1) by omega)
            rw [hi2] at this; cases this
          have h96 : bt o (Go.Proofs.YtcbmddgafkoooaaDoor.upto (isC 96) o (a + 1)) = 96 := by simpa [isC] using hat
          rcases Nat.lt_or_ge (Go.Proofs.YtcbmddgafkoooaaDoor.upto (isC 96) o (a + 1)) (p + 2) with g2 | g2
          · rw [h.at_ g2] at h96
            exact absurd h96 (hno _ (by omega))
          · obtain ⟨i', hi', hb⟩ := h.nc _ g2 h96
            exact absurd hb (hno _ (by omega))
      refine ⟨c1, hlt, ?_⟩
      have g := upto_ge (isC 96) s (a + 1)
      rcases Nat.lt_or_ge (a + 1) (Go.Proofs.YtcbmddgafkoooaaDoor.upto (isC 96) s (a + 1)) with g2 | g2
      · exact g2
      · have e3 : Go.Proofs.YtcbmddgafkoooaaDoor.upto (isC 96) s (a + 1) = a + 1 := by omega
        have := upto_at hlt
        rw [e3, ← h.at_ (by omega), hmid _ (Nat.le_refl _) c3] at this
        cases this
theorem tokL_pre {s o : ByteArray} {p a : Nat} (h : Pre s o p) (ha : a < p) : tokL o a = tokL s a := by
  have hps := h.ps
  have hpo := h.po
  unfold tokL
  dsimp only
  by_cases h2 : a + 2 ≤ p
  · obtain ⟨e1, e2⟩ := h.upto (stop := notB tgtB) h2 (by decide)
    have eg := upto_ge (notB tgtB) s (a + 2)
    rw [e1]
    obtain ⟨e, ee⟩ : ∃ e, e = Go.Proofs.YtcbmddgafkoooaaDoor.upto (notB tgtB) s (a + 2) := ⟨_, rfl⟩
    rw [← ee] at e1 e2 eg ⊢
    rw [h.at_ (i := a) (by omega), h.at_ (i := a + 1) (by omega), h.at_ (i := e) (by omega), h.ext (i := a + 2) (j := e) (by omega)]
    rcases Nat.lt_or_ge e p with g | g
    · obtain ⟨j1, j2⟩ := h.upto (stop := isAny [91, 93]) (k := e + 1) (by omega) (by decide)
      rw [j1, h.at_ (i := e + 1) (by omega), h.at_ (i := Go.Proofs.YtcbmddgafkoooaaDoor.upto (isAny [91, 93]) s (e + 1)) (by omega), h.at_ (i := Go.Proofs.YtcbmddgafkoooaaDoor.upto (isAny [91, 93]) s (e + 1) + 1) (by omega), h.ext (i := e + 1) (by omega)]
      have hh : (Go.Proofs.YtcbmddgafkoooaaDoor.upto (isAny [91, 93]) s (e + 1) < o.size) = (Go.Proofs.YtcbmddgafkoooaaDoor.upto (isAny [91, 93]) s (e + 1) < s.size) := propext ⟨fun _ => by omega, fun _ => by omega⟩
      simp only [hh]
    · have e3 : e = p := by omega
      have e4 : bt s e = 91 := by rw [e3]; exact h.b0
      simp only [e4]
      simp
  · have e3 : a + 1 = p := by omega
    have e4 : bt s (a + 2) = 91 := by rw [show a + 2 = p + 1 by omega]; exact h.b1
    have e5 : Go.Proofs.YtcbmddgafkoooaaDoor.upto (notB tgtB) s (a + 2) = a + 2 := upto_stop (by rw [e4]; decide)
    have e6 : Go.Proofs.YtcbmddgafkoooaaDoor.upto (notB tgtB) o (a + 2) = a + 2 := upto_stop (by rw [h.at_ (by omega), e4]; decide)
    rw [e5, e6, h.at_ (i := a + 2) (by omega), e4]
    rw [show isTgt (o.extract (a + 2) (a + 2)) = false by simp [isTgt], show isTgt (s.extract (a + 2) (a + 2)) = false by simp [isTgt]]
    simp
theorem tokR_pre {s o : ByteArray} {p a : Nat} (h : Pre s o p) (ha : a < p) : tokR o a = tokR s a := by
  unfold tokR
  dsimp only
  by_cases h2 : a + 2 ≤ p
  · obtain ⟨e1, e2⟩ := h.upto (stop := notB digB) h2 (by decide)
    have eg := upto_ge (notB digB) s (a + 2)
    rw [e1, h.at_ (i := a) (by omega), h.at_ (i := a + 1) (by omega), h.at_ (i := a + 2) (by omega), h.at_ (i := Go.Proofs.YtcbmddgafkoooaaDoor.upto (notB digB) s (a + 2)) (by omega), h.at_ (i := Go.Proofs.YtcbmddgafkoooaaDoor.upto (notB digB) s (a + 2) + 1) (by omega), h.ext (i := a + 2) (by omega)]
  · have e3 : a + 1 = p := by omega
    have e4 : bt s (a + 1) = 91 := by rw [e3]; exact h.b0
    rw [h.at_ (i := a + 1) (by omega), e4]
    simp
theorem tokT_pr {s o : ByteArray} {p a : Nat} (h : Pre s o p) (ha : a < p) : tokT o a = tokT s a := by
  unfold tokT
  dsimp only
  obtain ⟨e1, e2⟩ := h.upto (stop := notB tagB) (k := a + 1) (by omega) (by decide)
  have eg := upto_ge (notB tagB) s (a + 1)
  rw [e1, h.at_ (i := a) (by omega), h.at_ (i := a - 1) (by omega), h.at_ (i := a + 1) (by omega), h.at_ (i := Go.Proofs.YtcbmddgafkoooaaDoor.upto (notB tagB) s (a + 1) - 1) (by omega), h.ext (i := a + 1) (by omega)]
  have := h.uptoLt (stop := letB) (k := a + 1) (e := Go.Proofs.YtcbmddgafkoooaaDoor.upto (notB tagB) s (a + 1)) (by omega)
  simp only [this]
theorem tokB_pre {s o : ByteArray} {p a : Nat} (h : Pre s o p) (ha : a < p) : tokB o a = tokB s a := by
  unfold tokB
  rw [h.at_ (i := a) (by omega), h.at_ (i := a + 1) (by omega)]
theorem tokC_byte {s : ByteArray} {a : Nat} {x : Sp} (h : tokC s a = some x) : bt s a = 96 := by
  unfold tokC at h; dsimp only at h; split at h
  · rename_i c; exact c.1
  · cases h
theorem tokE_byte {s : ByteArray} {a : Nat} {x : Sp} (h : tokE s a = some x) : bt s a = 92 := by
  unfold tokE at h; split at h
  · rename_i c; exact c.1
  · cases h
theorem tokA_pre {s o : ByteArray} {p a : Nat} (h : Pre s o p) (ha : a < p) (ht : (tokA s a).to_ ≤ p) : tokA o a = tokA s a := by
  have hC : ∀ x, tokC s a = some x → x.to_ ≤ p := fun x hx => by
    have : tokE s a = none := by
      cases e : tokE s a with
      | none => rfl
      | some y => have h1 := tokE_byte e; have h2 := tokC_byte hx; omega
    unfold tokA at ht
    rw [this, hx] at ht
    exact ht
  unfold tokA
  rw [tokE_pre h ha, tokC_pre h ha hC, tokL_pre h ha, tokR_pre h ha, tokT_pr h ha, tokB_pre h ha]
theorem toks_pre {s o : ByteArray} {p : Nat} (h : Pre s o p) : ∀ {L1 r : List Sp} {a : Nat}, toks s a = L1 ++ r → Cont a L1 p → toks o a = L1 ++ toks o p ∧ toks s p = r
  | [], r, a, e, c => by
    have : a = p := c
    subst this
    exact ⟨rfl, e⟩
  | x :: L1, r, a, e, c => by
    have hlt := cont_le c
    simp only [List.length_cons] at hlt
    have hps := h.ps
    have hpo := h.po
    have has : a < s.size := by omega
    rw [toks_step has] at e
    injection e with e1 e2
    have t := tokA_to has
    have c2 := c.2.2
    have hto := (cont_le c2).1
    have ea := tokA_pre (a := a) h (by omega) (by rw [e1]; exact hto)
    obtain ⟨k1, k2⟩ := toks_pre h (L1 := L1) (r := r) (a := x.to_) (by rw [← e1]; exact e2) c2
    refine ⟨?_, k2⟩
    rw [toks_step (show a < o.size by omega), ea, e1, List.cons_append, k1]
end Go.Proofs.YtcbmddgafkoooaaDoor
