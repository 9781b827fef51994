/-
  DERIVED. Plain law: the tokens of a text in which a link has been given another target. Conditions: none.
  Plain law: the tokens ahead of a link whose target turns are as they were. Conditions: none.
  Plain law: the spans of a text in which a link has been given another target. Conditions: none.
  Plain law: what a span of a text is, kind by kind. Conditions: none.
  By an AI agent.
-/
import Derived.Test.YtcbmddgafkoooaaGreatDoorMerge
namespace Go.Proofs.YtcbmddgafkoooaaGreatDoor
open Go.RowKit

theorem bt_list (s : ByteArray) (i : Nat) : bt s i = (match s.data.toList[i]? with | some c => (c.toNat : Int) | none => -1) := by
  by_cases h : i < s.size
  · rw [bt_at h, List.getElem?_eq_getElem (by simpa using h)]; rfl
  · rw [bt_out (by omega), List.getElem?_eq_none (by simp; exact Nat.le_of_not_lt h)]
theorem bt_eq_list {s o : ByteArray} {i j : Nat} (h : s.data.toList[i]? = o.data.toList[j]?) : bt s i = bt o j := by rw [bt_list, bt_list, h]
theorem ba_ext {s o : ByteArray} (h : s.data.toList = o.data.toList) : s = o := by
  cases s with | mk a => cases o with | mk b => cases a; cases b; simp at h; rw [h]
theorem ext_list2 (s : ByteArray) (a b : Nat) : (s.extract a b).data.toList = (s.data.toList.drop a).take (b - a) := by
  rw [ByteArray.data_extract, Array.toList_extract]

/-- two texts are alike from these places on -/
structure Same (s o : ByteArray) (a b : Nat) : Prop where
  la : a ≤ s.size
  lb : b ≤ o.size
  dr : s.data.toList.drop a = o.data.toList.drop b
theorem Same.sz {s o : ByteArray} {a b : Nat} (h : Same s o a b) : s.size + b = o.size + a := by
  have := congrArg List.length h.dr
  simp only [List.length_drop, Array.length_toList] at this
  have h1 := h.la
  have h2 := h.lb
  have e1 : s.data.size = s.size := rfl
  have e2 : o.data.size = o.size := rfl
  omega
theorem Same.at_ {s o : ByteArray} {a b : Nat} (h : Same s o a b) (i : Nat) : bt s (a + i) = bt o (b + i) := by
  apply bt_eq_list
  have := congrArg (fun l => l[i]?) h.dr
  simpa [List.getElem?_drop] using this
theorem Same.at' {s o : ByteArray} {a b i j : Nat} (h : Same s o a b) (hi : a ≤ i) (hj : i + b = j + a) : bt s i = bt o j := by
  have := h.at_ (i - a)
  rwa [show a + (i - a) = i by omega, show b + (i - a) = j by omega] at this
theorem Same.more {s o : ByteArray} {a b i j : Nat} (h : Same s o a b) (hi : a ≤ i) (hs : i ≤ s.size) (hj : i + b = j + a) : Same s o i j := by
  refine ⟨hs, by have := h.sz; omega, ?_⟩
  have := congrArg (fun l => l.drop (i - a)) h.dr
  simp only [List.drop_drop] at this
  rwa [show a + (i - a) = i by omega, show b + (i - a) = j by omega] at this
theorem Same.ext {s o : ByteArray} {a b i j i' j' : Nat} (h : Same s o a b) (hi : a ≤ i) (hij : i ≤ j) (h1 : i + b = i' + a) (h2 : j + b = j' + a) : o.extract i' j' = s.extract i j := by
  apply ba_ext
  rw [ext_list2, ext_list2]
  have := congrArg (fun l => (l.drop (i - a)).take (j - i)) h.dr
  simp only [List.drop_drop] at this
  rw [show a + (i - a) = i by omega, show b + (i - a) = i' by omega] at this
  rw [show j' - i' = j - i by omega]
  exact this.symm
theorem Same.upto {s o : ByteArray} {a b i j : Nat} (h : Same s o a b) (stop : Int → Bool) (hi : a ≤ i) (hj : i + b = j + a) : upto stop s i + b = upto stop o j + a := by
  have key : ∀ n i j, a ≤ i → i + b = j + a → uptoN stop s n i + b = uptoN stop o n j + a := by
    intro n
    induction n with
    | zero => intro i j _ h2; exact h2
    | succ n ih =>
      intro i j h1 h2
      simp only [uptoN]
      rw [h.at' h1 h2]
      split
      · exact h2
      · exact ih (i + 1) (j + 1) (by omega) (by omega)
  have hsz := h.sz
  unfold Go.Proofs.YtcbmddgafkoooaaGreatDoor.upto
  rw [show o.size - j = s.size - i by omega]
  exact key _ i j hi hj

/-- a token at another place -/
def mv (f : Nat → Nat) (x : Sp) : Sp := { x with frm := f x.frm, to_ := f x.to_ }
def shF (a b : Nat) (n : Nat) : Nat := n + b - a

theorem tokE_same {s o : ByteArray} {a b : Nat} (h : Same s o a b) : tokE o b = (tokE s a).map (mv (shF a b)) := by
  unfold tokE
  rw [h.at' (i := a) (j := b) (by omega) (by omega), h.at' (i := a + 1) (j := b + 1) (by omega) (by omega)]
  split
  · rw [h.ext (i := a + 1) (j := a + 2) (by omega) (by omega) (by omega) (by omega)]
    simp [mv, shF]; omega
  · rfl
theorem tokC_same {s o : ByteArray} {a b : Nat} (h : Same s o a b) : tokC o b = (tokC s a).map (mv (shF a b)) := by
  unfold tokC
  dsimp only
  have hj := h.upto (isC 96) (i := a + 1) (j := b + 1) (by omega) (by omega)
  have hg := upto_ge (isC 96) s (a + 1)
  obtain ⟨j, e⟩ : ∃ j, j = upto (isC 96) s (a + 1) := ⟨_, rfl⟩
  obtain ⟨j', e'⟩ : ∃ j', j' = upto (isC 96) o (b + 1) := ⟨_, rfl⟩
  rw [← e] at hj hg
  rw [← e'] at hj
  rw [← e, ← e', h.at' (i := a) (j := b) (by omega) (by omega)]
  have hs := h.sz
  by_cases c : bt o b = 96 ∧ j < s.size ∧ a + 1 < j
  · rw [if_pos c, if_pos ⟨c.1, by omega, by omega⟩, h.ext (i := a + 1) (j := j) (by omega) (by omega) (by omega) (by omega)]
    simp [mv, shF]; omega
  · rw [if_neg c, if_neg (fun c' => c ⟨c'.1, by omega, by omega⟩)]; rfl
theorem tokL_same {s o : ByteArray} {a b : Nat} (h : Same s o a b) : tokL o b = (tokL s a).map (mv (shF a b)) := by
  unfold tokL
  dsimp only
  have he := h.upto (notB tgtB) (i := a + 2) (j := b + 2) (by omega) (by omega)
  have hg := upto_ge (notB tgtB) s (a + 2)
  obtain ⟨e, ee⟩ : ∃ e, e = upto (notB tgtB) s (a + 2) := ⟨_, rfl⟩
  obtain ⟨e', ee'⟩ : ∃ e', e' = upto (notB tgtB) o (b + 2) := ⟨_, rfl⟩
  rw [← ee] at he hg
  rw [← ee'] at he
  rw [← ee, ← ee']
  have hj := h.upto (isAny [91, 93]) (i := e + 1) (j := e' + 1) (by omega) (by omega)
  have hg2 := upto_ge (isAny [91, 93]) s (e + 1)
  obtain ⟨j, ej⟩ : ∃ j, j = upto (isAny [91, 93]) s (e + 1) := ⟨_, rfl⟩
  obtain ⟨j', ej'⟩ : ∃ j', j' = upto (isAny [91, 93]) o (e' + 1) := ⟨_, rfl⟩
  rw [← ej] at hj hg2
  rw [← ej'] at hj
  rw [← ej, ← ej']
  rw [h.at' (i := a) (j := b) (by omega) (by omega), h.at' (i := a + 1) (j := b + 1) (by omega) (by omega), h.ext (i := a + 2) (j := e) (i' := b + 2) (j' := e') (by omega) (by omega) (by omega) (by omega),
    h.at' (i := e) (j := e') (by omega) (by omega), h.at' (i := e + 1) (j := e' + 1) (by omega) (by omega), h.at' (i := j) (j := j') (by omega) (by omega), h.at' (i := j + 1) (j := j' + 1) (by omega) (by omega),
    h.ext (i := e + 1) (j := j) (i' := e' + 1) (j' := j') (by omega) (by omega) (by omega) (by omega)]
  have hs := h.sz
  split
  · split
    · simp [mv, shF]; omega
    · by_cases c : bt o e' = 124 ∧ j < s.size ∧ e + 1 < j ∧ bt o j' = 93 ∧ bt o (j' + 1) = 93
      · rw [if_pos c, if_pos ⟨c.1, by omega, by omega, c.2.2.2⟩]
        simp [mv, shF]; omega
      · rw [if_neg c, if_neg (fun c' => c ⟨c'.1, by omega, by omega, c'.2.2.2⟩)]; rfl
  · rfl
theorem tokR_same {s o : ByteArray} {a b : Nat} (h : Same s o a b) : tokR o b = (tokR s a).map (mv (shF a b)) := by
  unfold tokR
  dsimp only
  have he := h.upto (notB digB) (i := a + 2) (j := b + 2) (by omega) (by omega)
  have hg := upto_ge (notB digB) s (a + 2)
  obtain ⟨e, ee⟩ : ∃ e, e = upto (notB digB) s (a + 2) := ⟨_, rfl⟩
  obtain ⟨e', ee'⟩ : ∃ e', e' = upto (notB digB) o (b + 2) := ⟨_, rfl⟩
  rw [← ee] at he hg
  rw [← ee'] at he
  rw [← ee, ← ee']
  rw [h.at' (i := a) (j := b) (by omega) (by omega), h.at' (i := a + 1) (j := b + 1) (by omega) (by omega), h.at' (i := a + 2) (j := b + 2) (by omega) (by omega), h.ext (i := a + 2) (j := e) (i' := b + 2) (j' := e') (by omega) (by omega) (by omega) (by omega),
    h.at' (i := e) (j := e') (by omega) (by omega), h.at' (i := e + 1) (j := e' + 1) (by omega) (by omega)]
  by_cases c : bt o b = 40 ∧ bt o (b + 1) = 40 ∧ a + 2 < e ∧ e ≤ a + 9 ∧ bt o (b + 2) ≠ 48 ∧ bt o e' = 41 ∧ bt o (e' + 1) = 41 ∧ digVal (s.extract (a + 2) e).data.toList ≤ 1000000
  · rw [if_pos c, if_pos ⟨c.1, c.2.1, by omega, by omega, c.2.2.2.2⟩]
    simp [mv, shF]; omega
  · rw [if_neg c, if_neg (fun c' => c ⟨c'.1, c'.2.1, by omega, by omega, c'.2.2.2.2⟩)]; rfl
theorem tokT_same {s o : ByteArray} {a b : Nat} (h : Same s o a b) (ha : 0 < a) (hb : 0 < b) (hp : bt s (a - 1) = bt o (b - 1)) : tokT o b = (tokT s a).map (mv (shF a b)) := by
  unfold tokT
  dsimp only
  have he := h.upto (notB tagB) (i := a + 1) (j := b + 1) (by omega) (by omega)
  have hl := h.upto letB (i := a + 1) (j := b + 1) (by omega) (by omega)
  have hg := upto_ge (notB tagB) s (a + 1)
  obtain ⟨e, ee⟩ : ∃ e, e = upto (notB tagB) s (a + 1) := ⟨_, rfl⟩
  obtain ⟨e', ee'⟩ : ∃ e', e' = upto (notB tagB) o (b + 1) := ⟨_, rfl⟩
  rw [← ee] at he hg
  rw [← ee'] at he
  rw [← ee, ← ee']
  rw [hp, h.at' (i := a) (j := b) (by omega) (by omega), h.at' (i := a + 1) (j := b + 1) (by omega) (by omega), h.ext (i := a + 1) (j := e) (i' := b + 1) (j' := e') (by omega) (by omega) (by omega) (by omega),
    h.at' (i := e - 1) (j := e' - 1) (by omega) (by omega)]
  by_cases c : bt o b = 35 ∧ (a = 0 ∨ preT (bt o (b - 1)) = true) ∧ upto letB s (a + 1) < e ∧ e ≤ a + 101 ∧ bt o (b + 1) ≠ 47 ∧ bt o (e' - 1) ≠ 47
  · rw [if_pos c, if_pos ⟨c.1, .inr (c.2.1.resolve_left (by omega)), by omega, by omega, c.2.2.2.2⟩]
    simp [mv, shF]; omega
  · rw [if_neg c, if_neg (fun c' => c ⟨c'.1, .inr (c'.2.1.resolve_left (by omega)), by omega, by omega, c'.2.2.2.2⟩)]; rfl
theorem tokB_same {s o : ByteArray} {a b : Nat} (h : Same s o a b) : tokB o b = (tokB s a).map (mv (shF a b)) := by
  unfold tokB
  rw [h.at' (i := a) (j := b) (by omega) (by omega), h.at' (i := a + 1) (j := b + 1) (by omega) (by omega)]
  split
  · simp [mv, shF]; omega
  · rfl
theorem map_or' {α β : Type} (f : α → β) (x y : Option α) : (x.map f).or (y.map f) = (x.or y).map f := by cases x <;> rfl
theorem tokA_same {s o : ByteArray} {a b : Nat} (h : Same s o a b) (ha : 0 < a) (hb : 0 < b) (hp : bt s (a - 1) = bt o (b - 1)) : tokA o b = mv (shF a b) (tokA s a) := by
  unfold tokA
  rw [tokE_same h, tokC_same h, tokL_same h, tokR_same h, tokT_same h ha hb hp, tokB_same h]
  simp only [map_or']
  cases ((tokE s a).or ((tokC s a).or ((tokL s a).or ((tokR s a).or ((tokT s a).or (tokB s a)))))) with
  | none => simp [plainAt, mv, shF]; omega
  | some x => rfl
theorem mv_congr {f g : Nat → Nat} {x : Sp} (h1 : f x.frm = g x.frm) (h2 : f x.to_ = g x.to_) : mv f x = mv g x := by unfold mv; rw [h1, h2]
theorem toks_same {s o : ByteArray} {a b : Nat} (h : Same s o a b) (ha : 0 < a) (hb : 0 < b) (hp : bt s (a - 1) = bt o (b - 1)) : toks o b = (toks s a).map (mv (shF a b)) := by
  have key : ∀ n i j, s.size - i = n → a ≤ i → i ≤ s.size → i + b = j + a → bt s (i - 1) = bt o (j - 1) → toks o j = (toks s i).map (mv (shF a b)) := by
    intro n
    induction n using Nat.strongRecOn with
    | _ n ih =>
      intro i j hn hi his hj hq
      have hs := h.sz
      by_cases hlt : i < s.size
      · rw [toks_step hlt, toks_step (show j < o.size by omega)]
        have t := tokA_to hlt
        have e := tokA_same (h.more hi his hj) (by omega) (by omega) hq
        have e2 : tokA o j = mv (shF a b) (tokA s i) := by
          rw [e]; apply mv_congr <;> unfold shF <;> omega
        rw [e2, List.map_cons]
        congr 1
        refine ih (s.size - (tokA s i).to_) (by omega) _ _ rfl (by omega) t.2.2 (by simp [mv, shF]; omega) ?_
        exact h.at' (by omega) (by simp [mv, shF]; omega)
      · rw [toks_end (by omega), toks_end (by omega)]; rfl
  exact key _ a b rfl (Nat.le_refl _) h.la (by omega) hp
end Go.Proofs.YtcbmddgafkoooaaGreatDoor
namespace Go.Proofs.YtcbmddgafkoooaaGreatDoor
open Go.RowKit

/-- two texts are alike up to place N; at p two brackets -/
structure Pre (s o : ByteArray) (p : Nat) : Prop where
  ps : p + 2 ≤ s.size
  po : p + 2 ≤ o.size
  tk : s.data.toList.take (p + 2) = o.data.toList.take (p + 2)
  b0 : bt s p = 91
  b1 : bt s (p + 1) = 91
  nc : ∀ i, p + 2 ≤ i → bt o i = 96 → ∃ i', p + 2 ≤ i' ∧ bt s i' = 96
theorem Pre.at_ {s o : ByteArray} {p : Nat} (h : Pre s o p) {i : Nat} (hi : i < p + 2) : bt o i = bt s i := by
  apply bt_eq_list
  have := congrArg (fun l => l[i]?) h.tk
  simp only [List.getElem?_take, if_pos hi] at this
  exact this.symm
theorem Pre.ext {s o : ByteArray} {p : Nat} (h : Pre s o p) {i j : Nat} (hj : j ≤ p + 2) : o.extract i j = s.extract i j := by
  apply ba_ext
  rw [ext_list2, ext_list2]
  have := congrArg (fun l => (l.drop i).take (j - i)) h.tk
  simp only [List.drop_take, List.take_take] at this
  rw [show min (j - i) (p + 2 - i) = j - i by omega] at this
  exact this.symm
theorem Pre.upto {s o : ByteArray} {p : Nat} (h : Pre s o p) {stop : Int → Bool} {k : Nat} (hk : k ≤ p) (hs : stop 91 = true) : Go.Proofs.YtcbmddgafkoooaaGreatDoor.upto stop o k = Go.Proofs.YtcbmddgafkoooaaGreatDoor.upto stop s k ∧ Go.Proofs.YtcbmddgafkoooaaGreatDoor.upto stop s k ≤ p := by
  have hps := h.ps
  have hpo := h.po
  have hle : Go.Proofs.YtcbmddgafkoooaaGreatDoor.upto stop s k ≤ p := by
    rcases Nat.lt_or_ge p (Go.Proofs.YtcbmddgafkoooaaGreatDoor.upto stop s k) with g | g
    · have := upto_mid hk g
      rw [h.b0, hs] at this; cases this
    · exact g
  refine ⟨upto_eq (upto_ge _ _ _) (by omega) (fun j hj hj' => ?_) (.inr ?_), hle⟩
  · rw [h.at_ (by omega)]; exact upto_mid hj hj'
  · rw [h.at_ (by omega)]; exact upto_at (by omega)
theorem Pre.uptoLt {s o : ByteArray} {p : Nat} (h : Pre s o p) {stop : Int → Bool} {k e : Nat} (he : e ≤ p + 2) : (Go.Proofs.YtcbmddgafkoooaaGreatDoor.upto stop o k < e ↔ Go.Proofs.YtcbmddgafkoooaaGreatDoor.upto stop s k < e) := by
  have hps := h.ps
  have hpo := h.po
  constructor
  · intro g
    have g0 := upto_ge stop o k
    rw [upto_eq (s := s) (k := Go.Proofs.YtcbmddgafkoooaaGreatDoor.upto stop o k) g0 (by omega) (fun j hj hj' => by rw [← h.at_ (by omega)]; exact upto_mid hj hj') (.inr (by rw [← h.at_ (by omega)]; exact upto_at (by omega)))]
    exact g
  · intro g
    have g0 := upto_ge stop s k
    rw [upto_eq (s := o) (k := Go.Proofs.YtcbmddgafkoooaaGreatDoor.upto stop s k) g0 (by omega) (fun j hj hj' => by rw [h.at_ (by omega)]; exact upto_mid hj hj') (.inr (by rw [h.at_ (by omega)]; exact upto_at (by omega)))]
    exact g

theorem tokE_pre {s o : ByteArray} {p a : Nat} (h : Pre s o p) (ha : a < p) : tokE o a = tokE s a := by
  unfold tokE
  rw [h.at_ (by omega), h.at_ (by omega), h.ext (by omega)]
theorem tokC_pre {s o : ByteArray} {p a : Nat} (h : Pre s o p) (ha : a < p) (ht : ∀ x, tokC s a = some x → x.to_ ≤ p) : tokC o a = tokC s a := by
  have hps := h.ps
  have hpo := h.po
  cases e : tokC s a with
  | some x =>
    have ht := ht x e
    unfold tokC at e ⊢
    dsimp only at e ⊢
    split at e
    · rename_i c
      have g := upto_ge (isC 96) s (a + 1)
      injection e with e
      subst e
      have ht : Go.Proofs.YtcbmddgafkoooaaGreatDoor.upto (isC 96) s (a + 1) + 1 ≤ p := ht
      have e2 : Go.Proofs.YtcbmddgafkoooaaGreatDoor.upto (isC 96) o (a + 1) = Go.Proofs.YtcbmddgafkoooaaGreatDoor.upto (isC 96) s (a + 1) :=
        upto_eq g (by omega) (fun j hj hj' => by rw [h.at_ (by omega)]; exact upto_mid hj hj') (.inr (by rw [h.at_ (by omega)]; exact upto_at (by omega)))
      rw [e2, h.at_ (by omega), if_pos ⟨c.1, by omega, c.2.2⟩, h.ext (by omega)]
    · cases e
  | none =>
    clear ht
    unfold tokC at e ⊢
    dsimp only at e ⊢
    split at e
    · cases e
    · rename_i c
      rw [if_neg]
      rintro ⟨c1, c2, c3⟩
      rw [h.at_ (by omega)] at c1
      apply c
      have hat := upto_at c2
      have hmid : ∀ j, a + 1 ≤ j → j < Go.Proofs.YtcbmddgafkoooaaGreatDoor.upto (isC 96) o (a + 1) → isC 96 (bt o j) = false := fun j hj hj' => upto_mid hj hj'
      have hlt : Go.Proofs.YtcbmddgafkoooaaGreatDoor.upto (isC 96) s (a + 1) < s.size := by
        rcases Nat.lt_or_ge (Go.Proofs.YtcbmddgafkoooaaGreatDoor.upto (isC 96) s (a + 1)) s.size with g | g
        · exact g
        · have hno : ∀ i, a + 1 ≤ i → bt s i ≠ 96 := fun i hi hi2 => by
            have hin := bt_in (s := s) (i := i) (by omega)
            have := upto_mid (stop := isC 96) hi (show i < Go.Proofs.YtcbmddgafkoooaaGreatDoor.upto (isC 96) s (a + 1) by omega)
            rw [hi2] at this; cases this
          have h96 : bt o (Go.Proofs.YtcbmddgafkoooaaGreatDoor.upto (isC 96) o (a + 1)) = 96 := by simpa [isC] using hat
          rcases Nat.lt_or_ge (Go.Proofs.YtcbmddgafkoooaaGreatDoor.upto (isC 96) o (a + 1)) (p + 2) with g2 | g2
          · rw [h.at_ g2] at h96
            exact absurd h96 (hno _ (by omega))
          · obtain ⟨i', hi', hb⟩ := h.nc _ g2 h96
            exact absurd hb (hno _ (by omega))
      refine ⟨c1, hlt, ?_⟩
      have g := upto_ge (isC 96) s (a + 1)
      rcases Nat.lt_or_ge (a + 1) (Go.Proofs.YtcbmddgafkoooaaGreatDoor.upto (isC 96) s (a + 1)) with g2 | g2
      · exact g2
      · have e3 : Go.Proofs.YtcbmddgafkoooaaGreatDoor.upto (isC 96) s (a + 1) = a + 1 := by omega
        have := upto_at hlt
        rw [e3, ← h.at_ (by omega), hmid _ (Nat.le_refl _) c3] at this
        cases this
theorem tokL_pre {s o : ByteArray} {p a : Nat} (h : Pre s o p) (ha : a < p) : tokL o a = tokL s a := by
  have hps := h.ps
  have hpo := h.po
  unfold tokL
  dsimp only
  by_cases h2 : a + 2 ≤ p
  · obtain ⟨e1, e2⟩ := h.upto (stop := notB tgtB) h2 (by decide)
    have eg := upto_ge (notB tgtB) s (a + 2)
    rw [e1]
    obtain ⟨e, ee⟩ : ∃ e, e = Go.Proofs.YtcbmddgafkoooaaGreatDoor.upto (notB tgtB) s (a + 2) := ⟨_, rfl⟩
    rw [← ee] at e1 e2 eg ⊢
    rw [h.at_ (i := a) (by omega), h.at_ (i := a + 1) (by omega), h.at_ (i := e) (by omega), h.ext (i := a + 2) (j := e) (by omega)]
    rcases Nat.lt_or_ge e p with g | g
    · obtain ⟨j1, j2⟩ := h.upto (stop := isAny [91, 93]) (k := e + 1) (by omega) (by decide)
      rw [j1, h.at_ (i := e + 1) (by omega), h.at_ (i := Go.Proofs.YtcbmddgafkoooaaGreatDoor.upto (isAny [91, 93]) s (e + 1)) (by omega), h.at_ (i := Go.Proofs.YtcbmddgafkoooaaGreatDoor.upto (isAny [91, 93]) s (e + 1) + 1) (by omega), h.ext (i := e + 1) (by omega)]
      have hh : (Go.Proofs.YtcbmddgafkoooaaGreatDoor.upto (isAny [91, 93]) s (e + 1) < o.size) = (Go.Proofs.YtcbmddgafkoooaaGreatDoor.upto (isAny [91, 93]) s (e + 1) < s.size) := propext ⟨fun _ => by omega, fun _ => by omega⟩
      simp only [hh]
    · have e3 : e = p := by omega
      have e4 : bt s e = 91 := by rw [e3]; exact h.b0
      simp only [e4]
      simp
  · have e3 : a + 1 = p := by omega
    have e4 : bt s (a + 2) = 91 := by rw [show a + 2 = p + 1 by omega]; exact h.b1
    have e5 : Go.Proofs.YtcbmddgafkoooaaGreatDoor.upto (notB tgtB) s (a + 2) = a + 2 := upto_stop (by rw [e4]; decide)
    have e6 : Go.Proofs.YtcbmddgafkoooaaGreatDoor.upto (notB tgtB) o (a + 2) = a + 2 := upto_stop (by rw [h.at_ (by omega), e4]; decide)
    rw [e5, e6, h.at_ (i := a + 2) (by omega), e4]
    rw [show isTgt (o.extract (a + 2) (a + 2)) = false by simp [isTgt], show isTgt (s.extract (a + 2) (a + 2)) = false by simp [isTgt]]
    simp
theorem tokR_pre {s o : ByteArray} {p a : Nat} (h : Pre s o p) (ha : a < p) : tokR o a = tokR s a := by
  unfold tokR
  dsimp only
  by_cases h2 : a + 2 ≤ p
  · obtain ⟨e1, e2⟩ := h.upto (stop := notB digB) h2 (by decide)
    have eg := upto_ge (notB digB) s (a + 2)
    rw [e1, h.at_ (i := a) (by omega), h.at_ (i := a + 1) (by omega), h.at_ (i := a + 2) (by omega), h.at_ (i := Go.Proofs.YtcbmddgafkoooaaGreatDoor.upto (notB digB) s (a + 2)) (by omega), h.at_ (i := Go.Proofs.YtcbmddgafkoooaaGreatDoor.upto (notB digB) s (a + 2) + 1) (by omega), h.ext (i := a + 2) (by omega)]
  · have e3 : a + 1 = p := by omega
    have e4 : bt s (a + 1) = 91 := by rw [e3]; exact h.b0
    rw [h.at_ (i := a + 1) (by omega), e4]
    simp
theorem tokT_pr {s o : ByteArray} {p a : Nat} (h : Pre s o p) (ha : a < p) : tokT o a = tokT s a := by
  unfold tokT
  dsimp only
  obtain ⟨e1, e2⟩ := h.upto (stop := notB tagB) (k := a + 1) (by omega) (by decide)
  have eg := upto_ge (notB tagB) s (a + 1)
  rw [e1, h.at_ (i := a) (by omega), h.at_ (i := a - 1) (by omega), h.at_ (i := a + 1) (by omega), h.at_ (i := Go.Proofs.YtcbmddgafkoooaaGreatDoor.upto (notB tagB) s (a + 1) - 1) (by omega), h.ext (i := a + 1) (by omega)]
  have := h.uptoLt (stop := letB) (k := a + 1) (e := Go.Proofs.YtcbmddgafkoooaaGreatDoor.upto (notB tagB) s (a + 1)) (by omega)
  simp only [this]
theorem tokB_pre {s o : ByteArray} {p a : Nat} (h : Pre s o p) (ha : a < p) : tokB o a = tokB s a := by
  unfold tokB
  rw [h.at_ (i := a) (by omega), h.at_ (i := a + 1) (by omega)]
theorem tokC_byte {s : ByteArray} {a : Nat} {x : Sp} (h : tokC s a = some x) : bt s a = 96 := by
  unfold tokC at h; dsimp only at h; split at h
  · rename_i c; exact c.1
  · cases h
theorem tokE_byte {s : ByteArray} {a : Nat} {x : Sp} (h : tokE s a = some x) : bt s a = 92 := by
  unfold tokE at h; split at h
  · rename_i c; exact c.1
  · cases h
theorem tokA_pre {s o : ByteArray} {p a : Nat} (h : Pre s o p) (ha : a < p) (ht : (tokA s a).to_ ≤ p) : tokA o a = tokA s a := by
  have hC : ∀ x, tokC s a = some x → x.to_ ≤ p := fun x hx => by
    have : tokE s a = none := by
      cases e : tokE s a with
      | none => rfl
      | some y => have h1 := tokE_byte e; have h2 := tokC_byte hx; omega
    unfold tokA at ht
    rw [this, hx] at ht
    exact ht
  unfold tokA
  rw [tokE_pre h ha, tokC_pre h ha hC, tokL_pre h ha, tokR_pre h ha, tokT_pr h ha, tokB_pre h ha]
theorem toks_pre {s o : ByteArray} {p : Nat} (h : Pre s o p) : ∀ {L1 r : List Sp} {a : Nat}, toks s a = L1 ++ r → Cont a L1 p → toks o a = L1 ++ toks o p ∧ toks s p = r
  | [], r, a, e, c => by
    have : a = p := c
    subst this
    exact ⟨rfl, e⟩
  | x :: L1, r, a, e, c => by
    have hlt := cont_le c
    simp only [List.length_cons] at hlt
    have hps := h.ps
    have hpo := h.po
    have has : a < s.size := by omega
    rw [toks_step has] at e
    injection e with e1 e2
    have t := tokA_to has
    have c2 := c.2.2
    have hto := (cont_le c2).1
    have ea := tokA_pre (a := a) h (by omega) (by rw [e1]; exact hto)
    obtain ⟨k1, k2⟩ := toks_pre h (L1 := L1) (r := r) (a := x.to_) (by rw [← e1]; exact e2) c2
    refine ⟨?_, k2⟩
    rw [toks_step (show a < o.size by omega), ea, e1, List.cons_append, k1]
end Go.Proofs.YtcbmddgafkoooaaGreatDoor
namespace Go.Proofs.YtcbmddgafkoooaaGreatDoor
open Go.RowKit

theorem toks_split {s : ByteArray} : ∀ {L1 r : List Sp} {a p : Nat}, toks s a = L1 ++ r → Cont a L1 p → p ≤ s.size → toks s p = r
  | [], r, a, p, e, c, _ => by
    have : a = p := c
    subst this
    exact e
  | x :: L1, r, a, p, e, c, hp => by
    have hlt := cont_le c
    simp only [List.length_cons] at hlt
    rw [toks_step (show a < s.size by omega)] at e
    injection e with e1 e2
    exact toks_split (L1 := L1) (a := x.to_) (by rw [← e1]; exact e2) c.2.2 hp

theorem tokE_kind {s : ByteArray} {a : Nat} {x : Sp} (h : tokE s a = some x) : x.kind = 2 := by
  unfold tokE at h; split at h
  · injection h with h; subst h; rfl
  · cases h
theorem tokC_kind {s : ByteArray} {a : Nat} {x : Sp} (h : tokC s a = some x) : x.kind = 3 := by
  unfold tokC at h; dsimp only at h; split at h
  · injection h with h; subst h; rfl
  · cases h
theorem tokR_kind {s : ByteArray} {a : Nat} {x : Sp} (h : tokR s a = some x) : x.kind = 5 := by
  unfold tokR at h; dsimp only at h; split at h
  · injection h with h; subst h; rfl
  · cases h
theorem tokT_kind {s : ByteArray} {a : Nat} {x : Sp} (h : tokT s a = some x) : x.kind = 6 := by
  unfold tokT at h; dsimp only at h; split at h
  · injection h with h; subst h; rfl
  · cases h
theorem tokB_kind {s : ByteArray} {a : Nat} {x : Sp} (h : tokB s a = some x) : x.kind = 7 := by
  unfold tokB at h; split at h
  · injection h with h; subst h; rfl
  · cases h
theorem tokA_link {s : ByteArray} {a : Nat} (h : (tokA s a).kind = 4) : tokL s a = some (tokA s a) := by
  unfold tokA at h ⊢
  cases e1 : tokE s a with
  | some x => rw [e1] at h; have := tokE_kind e1; have h' : x.kind = 4 := h; omega
  | none =>
    cases e2 : tokC s a with
    | some x => rw [e1, e2] at h; have := tokC_kind e2; have h' : x.kind = 4 := h; omega
    | none =>
      cases e3 : tokL s a with
      | some x => rfl
      | none =>
        cases e4 : tokR s a with
        | some x => rw [e1, e2, e3, e4] at h; have := tokR_kind e4; have h' : x.kind = 4 := h; omega
        | none =>
          cases e5 : tokT s a with
          | some x => rw [e1, e2, e3, e4, e5] at h; have := tokT_kind e5; have h' : x.kind = 4 := h; omega
          | none =>
            cases e6 : tokB s a with
            | some x => rw [e1, e2, e3, e4, e5, e6] at h; have := tokB_kind e6; have h' : x.kind = 4 := h; omega
            | none => rw [e1, e2, e3, e4, e5, e6] at h; exact absurd (show (1 : Int) = 4 from h) (by decide)

/-- what a link is -/
structure LinkIs (s : ByteArray) (a e : Nat) (x : Sp) : Prop where
  ee : upto (notB tgtB) s (a + 2) = e
  b0 : bt s a = 91
  b1 : bt s (a + 1) = 91
  tg : isTgt (s.extract (a + 2) e) = true
  kd : x.kind = 4
  fr : x.frm = a
  tx : x.text = s.extract (a + 2) e
  id0 : x.id = 0
  st : x.strong = false
  en : (bt s e = 93 ∧ bt s (e + 1) = 93 ∧ x.to_ = e + 2 ∧ x.show_ = noB) ∨
    (bt s e = 124 ∧ upto (isAny [91, 93]) s (e + 1) < s.size ∧ e + 1 < upto (isAny [91, 93]) s (e + 1) ∧ bt s (upto (isAny [91, 93]) s (e + 1)) = 93 ∧ bt s (upto (isAny [91, 93]) s (e + 1) + 1) = 93 ∧
      x.to_ = upto (isAny [91, 93]) s (e + 1) + 2 ∧ x.show_ = s.extract (e + 1) (upto (isAny [91, 93]) s (e + 1)))
theorem tokL_inv {s : ByteArray} {a : Nat} {x : Sp} (h : tokL s a = some x) : LinkIs s a (upto (notB tgtB) s (a + 2)) x := by
  unfold tokL at h
  dsimp only at h
  split at h
  · rename_i c
    split at h
    · rename_i d
      injection h with h; subst h
      exact ⟨rfl, c.1, c.2.1, c.2.2, rfl, rfl, rfl, rfl, rfl, .inl ⟨d.1, d.2, rfl, rfl⟩⟩
    · split at h
      · rename_i d
        injection h with h; subst h
        exact ⟨rfl, c.1, c.2.1, c.2.2, rfl, rfl, rfl, rfl, rfl, .inr ⟨d.1, d.2.1, d.2.2.1, d.2.2.2.1, d.2.2.2.2, rfl, rfl⟩⟩
      · cases h
  · cases h
theorem LinkIs.es {s : ByteArray} {a e : Nat} {x : Sp} (h : LinkIs s a e x) : e < s.size ∧ a + 2 ≤ e ∧ e + 2 ≤ x.to_ ∧ x.text.size = e - (a + 2) := by
  have h0 := upto_ge (notB tgtB) s (a + 2)
  rw [h.ee] at h0
  have h1 : e < s.size := by
    rcases h.en with c | c
    · exact bt_in (by omega)
    · exact bt_in (by omega)
  refine ⟨h1, h0, ?_, ?_⟩
  · rcases h.en with c | c <;> omega
  · rw [h.tx, ByteArray.size_extract]; omega

theorem isTgt_facts {U : ByteArray} (h : isTgt U = true) : 0 < U.size ∧ U.size ≤ 100 ∧ ∀ i, i < U.size → tgtB (bt U i) = true := by
  unfold isTgt at h
  simp only [Bool.and_eq_true, decide_eq_true_eq] at h
  refine ⟨h.1.1.1.1, h.1.1.1.2, fun i hi => ?_⟩
  have := upto_mid (stop := notB tgtB) (s := U) (i := 0) (j := i) (Nat.zero_le _) (by rw [h.2]; exact hi)
  unfold notB at this
  simpa using this

/-- the text with another target -/
def retS (s U : ByteArray) (a e : Nat) : ByteArray := s.extract 0 (a + 2) ++ U ++ s.extract e s.size
theorem retS_list (s U : ByteArray) (a e : Nat) : (retS s U a e).data.toList = s.data.toList.take (a + 2) ++ (U.data.toList ++ s.data.toList.drop e) := by
  unfold retS
  rw [ByteArray.data_append, ByteArray.data_append, Array.toList_append, Array.toList_append, ext_list2, ext_list, List.append_assoc]
  simp
theorem retS_size {s U : ByteArray} {a e : Nat} (h : a + 2 ≤ e) (he : e ≤ s.size) : (retS s U a e).size + e = s.size + (a + 2 + U.size) := by
  have := congrArg List.length (retS_list s U a e)
  have e1 : ∀ t : ByteArray, t.data.toList.length = t.size := fun t => rfl
  simp only [List.length_append, List.length_take, List.length_drop, e1] at this
  omega
theorem retS_same {s U : ByteArray} {a e : Nat} (h : a + 2 ≤ e) (he : e ≤ s.size) : Same s (retS s U a e) e (a + 2 + U.size) := by
  have e1 : ∀ t : ByteArray, t.data.toList.length = t.size := fun t => rfl
  refine ⟨he, by have := retS_size (U := U) h he; omega, ?_⟩
  have e2 : (s.data.toList.take (a + 2)).drop (a + 2 + U.size) = [] := List.drop_eq_nil_of_le (by rw [List.length_take, e1]; omega)
  have e3 : U.data.toList.drop U.size = [] := List.drop_eq_nil_of_le (by rw [e1]; exact Nat.le_refl _)
  rw [retS_list, List.drop_append, e2, List.nil_append, List.length_take, e1, show a + 2 + U.size - min (a + 2) s.size = U.size by omega, List.drop_append, e3, e1, Nat.sub_self]
  simp
theorem retS_mid {s U : ByteArray} {a e i : Nat} (h : a + 2 ≤ e) (he : e ≤ s.size) (hi : i < U.size) : bt (retS s U a e) (a + 2 + i) = bt U i := by
  have e1 : ∀ t : ByteArray, t.data.toList.length = t.size := fun t => rfl
  apply bt_eq_list
  rw [retS_list, List.getElem?_append_right (by rw [List.length_take, e1]; omega), List.length_take, e1, show a + 2 + i - min (a + 2) s.size = i by omega, List.getElem?_append_left (by rw [e1]; exact hi)]
theorem retS_ext {s U : ByteArray} {a e : Nat} (h : a + 2 ≤ e) (he : e ≤ s.size) : (retS s U a e).extract (a + 2) (a + 2 + U.size) = U := by
  have e1 : ∀ t : ByteArray, t.data.toList.length = t.size := fun t => rfl
  apply ba_ext
  have e2 : (s.data.toList.take (a + 2)).drop (a + 2) = [] := List.drop_eq_nil_of_le (by rw [List.length_take, e1]; omega)
  rw [ext_list2, retS_list, List.drop_append, e2, List.nil_append, List.length_take, e1, show a + 2 - min (a + 2) s.size = 0 by omega, List.drop_zero, Nat.add_sub_cancel_left, List.take_append]
  rw [e1, Nat.sub_self, List.take_of_length_le (by rw [e1]; exact Nat.le_refl _)]
  simp
theorem retS_pre {s U : ByteArray} {a e : Nat} {x : Sp} (h : LinkIs s a e x) (hU : isTgt U = true) : Pre s (retS s U a e) a := by
  obtain ⟨h1, h2, h3, _⟩ := h.es
  obtain ⟨u1, u2, u3⟩ := isTgt_facts hU
  have hz := retS_size (U := U) h2 (Nat.le_of_lt h1)
  refine ⟨by omega, by omega, ?_, h.b0, h.b1, fun i hi h96 => ?_⟩
  · have e1 : ∀ t : ByteArray, t.data.toList.length = t.size := fun t => rfl
    rw [retS_list, List.take_append, List.take_take, Nat.min_self, List.length_take, e1, show a + 2 - min (a + 2) s.size = 0 by omega]
    simp
  · rcases Nat.lt_or_ge i (a + 2 + U.size) with g | g
    · have e2 := retS_mid (U := U) h2 (Nat.le_of_lt h1) (i := i - (a + 2)) (by omega)
      rw [show a + 2 + (i - (a + 2)) = i by omega, h96] at e2
      have := u3 (i - (a + 2)) (by omega)
      rw [← e2] at this
      exact absurd this (by decide)
    · exact ⟨i + e - (a + 2 + U.size), by omega, by rw [(retS_same (U := U) h2 (Nat.le_of_lt h1)).at' (i := i + e - (a + 2 + U.size)) (j := i) (by omega) (by omega)]; exact h96⟩
theorem retS_tok {s U : ByteArray} {a e : Nat} {x : Sp} (h : LinkIs s a e x) (hU : isTgt U = true) : tokL (retS s U a e) a = some { x with text := U, to_ := shF e (a + 2 + U.size) x.to_ } := by
  obtain ⟨h1, h2, h3, _⟩ := h.es
  obtain ⟨u1, u2, u3⟩ := isTgt_facts hU
  have hz := retS_size (U := U) h2 (Nat.le_of_lt h1)
  have hs := retS_same (U := U) h2 (Nat.le_of_lt h1)
  have hp := retS_pre h hU
  have he : upto (notB tgtB) (retS s U a e) (a + 2) = a + 2 + U.size := by
    refine upto_eq (by omega) (by omega) (fun j hj hj' => ?_) (.inr ?_)
    · have := retS_mid (U := U) h2 (Nat.le_of_lt h1) (i := j - (a + 2)) (by omega)
      rw [show a + 2 + (j - (a + 2)) = j by omega] at this
      unfold notB
      rw [this, u3 _ (by omega)]; rfl
    · rw [← hs.at' (i := e) (Nat.le_refl _) (by omega)]
      rcases h.en with c | c
      · rw [c.1]; decide
      · rw [c.1]; decide
  unfold tokL
  dsimp only
  rw [he, hp.at_ (by omega), hp.at_ (by omega), h.b0, h.b1, retS_ext h2 (Nat.le_of_lt h1), hU, if_pos ⟨rfl, rfl, rfl⟩]
  rw [← hs.at' (i := e) (Nat.le_refl _) (by omega), ← hs.at' (i := e + 1) (j := a + 2 + U.size + 1) (by omega) (by omega)]
  rcases h.en with ⟨c1, c2, c3, c4⟩ | ⟨c1, c2, c3, c4, c5, c6, c7⟩
  · rw [if_pos ⟨c1, c2⟩]
    cases x
    simp at c3 c4 ⊢
    have k1 := h.kd
    have k2 := h.fr
    have k3 := h.id0
    have k4 := h.st
    simp at k1 k2 k3 k4
    subst k1 k2 k3 k4 c3 c4
    unfold shF
    dsimp only at h3 ⊢
    exact ⟨rfl, rfl, by omega, rfl, rfl, rfl⟩
  · have hj := hs.upto (isAny [91, 93]) (i := e + 1) (j := a + 2 + U.size + 1) (by omega) (by omega)
    obtain ⟨j, ej⟩ : ∃ j, j = upto (isAny [91, 93]) s (e + 1) := ⟨_, rfl⟩
    obtain ⟨j', ej'⟩ : ∃ j', j' = upto (isAny [91, 93]) (retS s U a e) (a + 2 + U.size + 1) := ⟨_, rfl⟩
    rw [← ej] at hj c2 c3 c4 c5 c6 c7
    rw [← ej'] at hj
    rw [← ej', if_neg (by rw [c1]; omega), ← hs.at' (i := j) (j := j') (by omega) (by omega), ← hs.at' (i := j + 1) (j := j' + 1) (by omega) (by omega), if_pos ⟨c1, by omega, by omega, c4, c5⟩,
      hs.ext (i := e + 1) (j := j) (by omega) (by omega) (by omega) (by omega)]
    cases x
    simp at c6 c7 ⊢
    have k1 := h.kd
    have k2 := h.fr
    have k3 := h.id0
    have k4 := h.st
    simp at k1 k2 k3 k4
    subst k1 k2 k3 k4 c6 c7
    unfold shF
    dsimp only at h3 ⊢
    exact ⟨rfl, rfl, by omega, rfl, rfl, rfl⟩

theorem toks_ret {s U : ByteArray} {L1 L2 : List Sp} {x : Sp} {a : Nat} (hL : toks s 0 = L1 ++ x :: L2) (hc : Cont 0 L1 a) (hk : x.kind = 4) (hU : isTgt U = true) :
    ∃ e, LinkIs s a e x ∧ toks (retS s U a e) 0 = L1 ++ { x with text := U, to_ := shF e (a + 2 + U.size) x.to_ } :: L2.map (mv (shF e (a + 2 + U.size))) ∧ toks s x.to_ = L2 := by
  have hall := toks_cont s _ 0 rfl (Nat.zero_le _)
  rw [hL] at hall
  obtain ⟨b, hb1, hb2⟩ := cont_split hall
  have hle := (cont_le hb2).1
  have : b = a := by
    have : ∀ {l : List Sp} {a b c : Nat}, Cont a l b → Cont a l c → b = c := by
      intro l
      induction l with
      | nil => intro a b c h1 h2; exact h1.symm.trans h2
      | cons y l ih => intro a b c h1 h2; exact ih h1.2.2 h2.2.2
    exact this hb1 hc
  subst this
  have hlt := (cont_le hb2).2
  simp only [List.length_cons] at hlt
  have hs := toks_split hL hc (by omega)
  rw [toks_step (by omega)] at hs
  injection hs with hs1 hs2
  have hx := tokA_link (s := s) (a := b) (by rw [hs1]; exact hk)
  rw [hs1] at hx
  have LI := tokL_inv hx
  obtain ⟨e, he⟩ : ∃ e, e = upto (notB tgtB) s (b + 2) := ⟨_, rfl⟩
  rw [← he] at LI
  obtain ⟨h1, h2, h3, _⟩ := LI.es
  have hz := retS_size (U := U) h2 (Nat.le_of_lt h1)
  have hsm := retS_same (U := U) h2 (Nat.le_of_lt h1)
  have hpre := retS_pre LI hU
  refine ⟨e, LI, ?_, by rw [← hs1]; exact hs2⟩
  rw [(toks_pre hpre hL hc).1, toks_step (show b < (retS s U b e).size by omega)]
  have hA : tokA (retS s U b e) b = { x with text := U, to_ := shF e (b + 2 + U.size) x.to_ } := by
    unfold tokA
    have n1 : tokE (retS s U b e) b = none := by
      cases q : tokE (retS s U b e) b with
      | none => rfl
      | some y => have := tokE_byte q; rw [hpre.at_ (by omega), LI.b0] at this; omega
    have n2 : tokC (retS s U b e) b = none := by
      cases q : tokC (retS s U b e) b with
      | none => rfl
      | some y => have := tokC_byte q; rw [hpre.at_ (by omega), LI.b0] at this; omega
    rw [n1, n2, retS_tok LI hU]; rfl
  rw [hA]
  congr 2
  have hxto : x.to_ ≤ s.size := by rw [← hs1]; exact (tokA_to (by omega)).2.2
  rw [toks_same (hsm.more (i := x.to_) (j := shF e (b + 2 + U.size) x.to_) (by omega) hxto (by unfold shF; omega)) (by omega) (by unfold shF; omega) (hsm.at' (by omega) (by unfold shF; omega)), ← hs2, hs1]
  apply List.map_congr_left
  intro y hy
  rw [← hs1, hs2] at *
  apply mv_congr
  · have hy2 := cont_mem (hb2.2.2) y hy
    unfold shF; omega
  · have hy2 := cont_mem (hb2.2.2) y hy
    unfold shF; omega
end Go.Proofs.YtcbmddgafkoooaaGreatDoor
namespace Go.Proofs.YtcbmddgafkoooaaGreatDoor
open Go.RowKit

/-- what holds of each token, and does not hang on Strong, holds of each span -/
theorem spans_all {P : Sp → Prop} (s : ByteArray) (h1 : ∀ a, a < s.size → P (tokA s a)) (h2 : ∀ x b, P x → P { x with strong := b }) (h3 : ∀ x, x.kind = 1 → P x) : ∀ x ∈ spans s, P x := by
  have k1 : ∀ n a, ∀ x ∈ toksN s n a, P x := by
    intro n
    induction n with
    | zero => intro a x hx; cases hx
    | succ n ih =>
      intro a x hx
      simp only [toksN] at hx
      split at hx
      · rename_i ha
        rcases List.mem_cons.1 hx with rfl | hx
        · exact h1 a ha
        · exact ih _ _ hx
      · cases hx
  have k2 : ∀ x ∈ strong (toks s 0), P x := by
    intro x hx
    obtain ⟨j, hj, rfl⟩ := List.mem_mapIdx.1 hx
    have g := k1 _ 0 _ (List.getElem_mem (l := toks s 0) hj)
    unfold strK
    split
    · exact h3 _ rfl
    · exact h2 _ _ g
  have k3 : ∀ (l acc : List Sp), (∀ x ∈ l, P x) → (∀ x ∈ acc, P x) → ∀ x ∈ merge acc l, P x := by
    intro l
    induction l with
    | nil => intro acc _ h; exact h
    | cons z l ih =>
      intro acc g1 g2
      refine ih (mstep acc z) (fun y hy => g1 y (List.mem_cons_of_mem _ hy)) (fun y hy => ?_)
      unfold mstep at hy
      cases e : acc.getLast? with
      | none => rw [e] at hy; simp at hy; subst hy; exact g1 _ (List.mem_cons_self ..)
      | some q =>
        rw [e] at hy
        dsimp only at hy
        split at hy
        · rename_i c
          simp only [Bool.and_eq_true, beq_iff_eq] at c
          rcases List.mem_append.1 hy with hy | hy
          · exact g2 y ((List.dropLast_sublist acc).subset hy)
          · simp at hy; subst hy; exact h3 _ c.1.2
        · rcases List.mem_append.1 hy with hy | hy
          · exact g2 y hy
          · simp at hy; subst hy; exact g1 _ (List.mem_cons_self ..)
  intro x hx
  obtain ⟨y, hy, rfl⟩ := List.mem_map.1 hx
  have h := k3 _ [] k2 (fun _ h => by cases h) y hy
  unfold fillT
  split
  · rename_i k; exact h3 _ k
  · exact h

/-- which token stands at a place -/
theorem tokA_cases (s : ByteArray) (a : Nat) : tokE s a = some (tokA s a) ∨ tokC s a = some (tokA s a) ∨ tokL s a = some (tokA s a) ∨ tokR s a = some (tokA s a) ∨ tokT s a = some (tokA s a) ∨ tokB s a = some (tokA s a) ∨ tokA s a = plainAt a := by
  unfold tokA
  cases e1 : tokE s a with
  | some x => exact .inl rfl
  | none =>
    cases e2 : tokC s a with
    | some x => exact .inr (.inl rfl)
    | none =>
      cases e3 : tokL s a with
      | some x => exact .inr (.inr (.inl rfl))
      | none =>
        cases e4 : tokR s a with
        | some x => exact .inr (.inr (.inr (.inl rfl)))
        | none =>
          cases e5 : tokT s a with
          | some x => exact .inr (.inr (.inr (.inr (.inl rfl))))
          | none =>
            cases e6 : tokB s a with
            | some x => exact .inr (.inr (.inr (.inr (.inr (.inl rfl)))))
            | none => exact .inr (.inr (.inr (.inr (.inr (.inr rfl)))))

/-- what a span is -/
structure SpIs (s : ByteArray) (x : Sp) : Prop where
  e2 : x.kind = 2 → x.to_ = x.frm + 2 ∧ x.text = s.extract (x.frm + 1) (x.frm + 2) ∧ x.show_ = noB ∧ x.id = 0
  e3 : x.kind = 3 → x.frm + 2 < x.to_ ∧ x.text = s.extract (x.frm + 1) (x.to_ - 1) ∧ x.show_ = noB ∧ x.id = 0
  e4 : x.kind = 4 → ∃ e, x.frm + 2 < e ∧ e ≤ x.frm + 102 ∧ x.text = s.extract (x.frm + 2) e ∧ bt s x.frm = 91 ∧ bt s (x.frm + 1) = 91 ∧ x.to_ ≤ s.size ∧ x.id = 0 ∧ ((x.to_ = e + 2 ∧ x.show_ = noB) ∨ (e + 1 < x.to_ - 2 ∧ 2 ≤ x.to_ ∧ x.show_ = s.extract (e + 1) (x.to_ - 2)))
  e5 : x.kind = 5 → x.frm + 4 < x.to_ ∧ x.text = s.extract (x.frm + 2) (x.to_ - 2) ∧ x.show_ = noB ∧ bt s x.frm = 40 ∧ bt s (x.frm + 1) = 40 ∧ bt s (x.to_ - 2) = 41 ∧ bt s (x.to_ - 1) = 41
  e6 : x.kind = 6 → x.frm + 1 < x.to_ ∧ x.text = s.extract (x.frm + 1) x.to_ ∧ x.show_ = noB ∧ x.id = 0 ∧ bt s x.frm = 35
  e7 : x.kind = 7 → x.to_ = x.frm + 2 ∧ x.show_ = noB ∧ x.id = 0
  k : 1 ≤ x.kind ∧ x.kind ≤ 7
theorem tokA_is (s : ByteArray) (a : Nat) : SpIs s (tokA s a) := by
  rcases tokA_cases s a with h | h | h | h | h | h | h
  · generalize tokA s a = x at h
    unfold tokE at h; split at h
    · injection h with h; subst h
      refine ⟨fun _ => ⟨rfl, rfl, rfl, rfl⟩, fun h => ?_, fun h => ?_, fun h => ?_, fun h => ?_, fun h => ?_, by show (1 : Int) ≤ 2; decide, by show (2 : Int) ≤ 7; decide⟩
      all_goals (replace h : (2 : Int) = _ := h; omega)
    · cases h
  · generalize tokA s a = x at h
    unfold tokC at h; dsimp only at h; split at h
    · rename_i c
      injection h with h; subst h
      refine ⟨fun h => ?_, fun _ => ⟨by show a + 2 < _ + 1; omega, rfl, rfl, rfl⟩, fun h => ?_, fun h => ?_, fun h => ?_, fun h => ?_, by show (1 : Int) ≤ 3; decide, by show (3 : Int) ≤ 7; decide⟩
      all_goals (replace h : (3 : Int) = _ := h; omega)
    · cases h
  · have LI := tokL_inv h
    have hto := tokL_to h
    generalize tokA s a = x at h LI hto
    obtain ⟨g1, g2, g3, g4⟩ := LI.es
    have hk := LI.kd
    have hsz := isTgt_facts LI.tg
    rw [← LI.tx, g4] at hsz
    refine ⟨fun h => by omega, fun h => by omega, fun _ => ⟨upto (notB tgtB) s (a + 2), by rw [LI.fr]; omega, by rw [LI.fr]; omega, by rw [LI.fr]; exact LI.tx, by rw [LI.fr]; exact LI.b0, by rw [LI.fr]; exact LI.b1, hto.2.2, LI.id0, ?_⟩, fun h => by omega, fun h => by omega, fun h => by omega, by omega, by omega⟩
    rcases LI.en with ⟨c1, c2, c3, c4⟩ | ⟨c1, c2, c3, c4, c5, c6, c7⟩
    · exact .inl ⟨c3, c4⟩
    · refine .inr ⟨by omega, by omega, ?_⟩
      rw [c7, c6]; rfl
  · generalize tokA s a = x at h
    unfold tokR at h; dsimp only at h; split at h
    · rename_i c
      injection h with h; subst h
      refine ⟨fun h => ?_, fun h => ?_, fun h => ?_, fun _ => ⟨by show a + 4 < _ + 2; omega, rfl, rfl, c.1, c.2.1, c.2.2.2.2.2.1, c.2.2.2.2.2.2.1⟩, fun h => ?_, fun h => ?_, by show (1 : Int) ≤ 5; decide, by show (5 : Int) ≤ 7; decide⟩
      all_goals (replace h : (5 : Int) = _ := h; omega)
    · cases h
  · generalize tokA s a = x at h
    unfold tokT at h; dsimp only at h; split at h
    · rename_i c
      injection h with h; subst h
      have := upto_ge letB s (a + 1)
      refine ⟨fun h => ?_, fun h => ?_, fun h => ?_, fun h => ?_, fun _ => ⟨by show a + 1 < upto _ _ _; omega, rfl, rfl, rfl, c.1⟩, fun h => ?_, by show (1 : Int) ≤ 6; decide, by show (6 : Int) ≤ 7; decide⟩
      all_goals (replace h : (6 : Int) = _ := h; omega)
    · cases h
  · generalize tokA s a = x at h
    unfold tokB at h; split at h
    · injection h with h; subst h
      refine ⟨fun h => ?_, fun h => ?_, fun h => ?_, fun h => ?_, fun h => ?_, fun _ => ⟨rfl, rfl, rfl⟩, by show (1 : Int) ≤ 7; decide, by show (7 : Int) ≤ 7; decide⟩
      all_goals (replace h : (7 : Int) = _ := h; omega)
    · cases h
  · rw [h]
    refine ⟨fun h => ?_, fun h => ?_, fun h => ?_, fun h => ?_, fun h => ?_, fun h => ?_, by show (1 : Int) ≤ 1; decide, by show (1 : Int) ≤ 7; decide⟩
    all_goals (replace h : (1 : Int) = _ := h; omega)
theorem spans_is (s : ByteArray) : ∀ x ∈ spans s, SpIs s x :=
  spans_all s (fun a _ => tokA_is s a) (fun _ _ h => ⟨h.e2, h.e3, h.e4, h.e5, h.e6, h.e7, h.k⟩) (fun x h => ⟨fun g => by omega, fun g => by omega, fun g => by omega, fun g => by omega, fun g => by omega, fun g => by omega, by omega⟩)
end Go.Proofs.YtcbmddgafkoooaaGreatDoor
