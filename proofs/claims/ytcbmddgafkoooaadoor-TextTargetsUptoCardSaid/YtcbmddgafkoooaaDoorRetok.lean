/-
  DERIVED. Plain law: the tokens of a text in which a link has been given another target. Conditions: none. By an AI agent.
-/
import Derived.Test.YtcbmddgafkoooaaDoorMerge
namespace Go.Proofs.YtcbmddgafkoooaaDoor
open Go.RowKit

theorem bt_list (s : ByteArray) (i : Nat) : bt s i = (match s.data.toList[i]? with | some c => (c.toNat : Int) | none => -1) := by
  by_cases h : i < s.size
  · rw [bt_at h, List.getElem?_eq_getElem (by simpa using h)]; rfl
  · rw [bt_out (by omega), List.getElem?_eq_none (by simp; exact Nat.le_of_not_lt h)]
theorem bt_eq_list {s o : ByteArray} {i j : Nat} (h : s.data.toList[i]? = o.data.toList[j]?) : bt s i = bt o j := by rw [bt_list, bt_list, h]
theorem ba_ext {s o : ByteArray} (h : s.data.toList = o.data.toList) : s = o := by
  cases s with | mk a => cases o with | mk b => cases a; cases b; simp at h; rw [h]
theorem ext_list2 (s : ByteArray) (a b : Nat) : (s.extract a b).data.toList = (s.data.toList.drop a).take (b - a) := by
  rw [ByteArray.data_extract, Array.toList_extract]

/-- two texts are alike from these places on -/
structure Same (s o : ByteArray) (a b : Nat) : Prop where
  la : a ≤ s.size
  lb : b ≤ o.size
  dr : s.data.toList.drop a = o.data.toList.drop b
theorem Same.sz {s o : ByteArray} {a b : Nat} (h : Same s o a b) : s.size + b = o.size + a := by
  have := congrArg List.length h.dr
  simp only [List.length_drop, Array.length_toList] at this
  have h1 := h.la
  have h2 := h.lb
  have e1 : s.data.size = s.size := rfl
  have e2 : o.data.size = o.size := rfl
  omega
theorem Same.at_ {s o : ByteArray} {a b : Nat} (h : Same s o a b) (i : Nat) : bt s (a + i) = bt o (b + i) := by
  apply bt_eq_list
  have := congrArg (fun l => l[i]?) h.dr
  simpa [List.getElem?_drop] using this
theorem Same.at' {s o : ByteArray} {a b i j : Nat} (h : Same s o a b) (hi : a ≤ i) (hj : i + b = j + a) : bt s i = bt o j := by
  have := h.at_ (i - a)
  rwa [show a + (i - a) = i by omega, show b + (i - a) = j by omega] at this
theorem Same.more {s o : ByteArray} {a b i j : Nat} (h : Same s o a b) (hi : a ≤ i) (hs : i ≤ s.size) (hj : i + b = j + a) : Same s o i j := by
  refine ⟨hs, by have := h.sz; omega, ?_⟩
  have := congrArg (fun l => l.drop (i - a)) h.dr
  simp only [List.drop_drop] at this
  rwa [show a + (i - a) = i by omega, show b + (i - a) = j by omega] at this
theorem Same.ext {s o : ByteArray} {a b i j i' j' : Nat} (h : Same s o a b) (hi : a ≤ i) (hij : i ≤ j) (h1 : i + b = i' + a) (h2 : j + b = j' + a) : o.extract i' j' = s.extract i j := by
  apply ba_ext
  rw [ext_list2, ext_list2]
  have := congrArg (fun l => (l.drop (i - a)).take (j - i)) h.dr
  simp only [List.drop_drop] at this
  rw [show a + (i - a) = i by omega, show b + (i - a) = i' by omega] at this
  rw [show j' - i' = j - i by omega]
  exact this.symm
theorem Same.upto {s o : ByteArray} {a b i j : Nat} (h : Same s o a b) (stop : Int → Bool) (hi : a ≤ i) (hj : i + b = j + a) : upto stop s i + b = upto stop o j + a := by
  have key : ∀ n i j, a ≤ i → i + b = j + a → uptoN stop s n i + b = uptoN stop o n j + a := by
    intro n
    induction n with
    | zero => intro i j _ h2; exact h2
    | succ n ih =>
      intro i j h1 h2
      simp only [uptoN]
      rw [h.at' h1 h2]
      split
      · exact h2
      · exact ih (i + 1) (j + 1) (by omega) (by omega)
  have hsz := h.sz
  unfold Go.Proofs.YtcbmddgafkoooaaDoor.upto
  rw [show o.size - j = s.size - i by omega]
  exact key _ i j hi hj

/-- a token at another place -/
def mv (f : Nat → Nat) (x : Sp) : Sp := { x with frm := f x.frm, to_ := f x.to_ }
def shF (a b : Nat) (n : Nat) : Nat := n + b - a

theorem tokE_same {s o : ByteArray} {a b : Nat} (h : Same s o a b) : tokE o b = (tokE s a).map (mv (shF a b)) := by
  unfold tokE
  rw [h.at' (i := a) (j := b) (by omega) (by omega), h.at' (i := a + 1) (j := b + 1) (by omega) (by omega)]
  split
  · rw [h.ext (i := a + 1) (j := a + 2) (by omega) (by omega) (by omega) (by omega)]
    simp [mv, shF]; omega
  · rfl
theorem tokC_same {s o : ByteArray} {a b : Nat} (h : Same s o a b) : tokC o b = (tokC s a).map (mv (shF a b)) := by
  unfold tokC
  dsimp only
  have hj := h.upto (isC 96) (i := a + 1) (j := b + 1) (by omega) (by omega)
  have hg := upto_ge (isC 96) s (a + 1)
  obtain ⟨j, e⟩ : ∃ j, j = upto (isC 96) s (a + 1) := ⟨_, rfl⟩
  obtain ⟨j', e'⟩ : ∃ j', j' = upto (isC 96) o (b + 1) := ⟨_, rfl⟩
  rw [← e] at hj hg
  rw [← e'] at hj
  rw [← e, ← e', h.at' (i := a) (j := b) (by omega) (by omega)]
  have hs := h.sz
  by_cases c : bt o b = 96 ∧ j < s.size ∧ a + 1 < j
  · rw [if_pos c, if_pos ⟨c.1, by omega, by omega⟩, h.ext (i := a + 1) (j := j) (by omega) (by omega) (by omega) (by omega)]
    simp [mv, shF]; omega
  · rw [if_neg c, if_neg (fun c' => c ⟨c'.1, by omega, by omega⟩)]; rfl
theorem tokL_same {s o : ByteArray} {a b : Nat} (h : Same s o a b) : tokL o b = (tokL s a).map (mv (shF a b)) := by
  unfold tokL
  dsimp only
  have he := h.upto (notB tgtB) (i := a + 2) (j := b + 2) (by omega) (by omega)
  have hg := upto_ge (notB tgtB) s (a + 2)
  obtain ⟨e, ee⟩ : ∃ e, e = upto (notB tgtB) s (a + 2) := ⟨_, rfl⟩
  obtain ⟨e', ee'⟩ : ∃ e', e' = upto (notB tgtB) o (b + 2) := ⟨_, rfl⟩
  rw [← ee] at he hg
  rw [← ee'] at he
  rw [← ee, ← ee']
  have hj := h.upto (isAny [91, 93]) (i := e + 1) (j := e' + 1) (by omega) (by omega)
  have hg2 := upto_ge (isAny [91, 93]) s (e + 1)
  obtain ⟨j, ej⟩ : ∃ j, j = upto (isAny [91, 93]) s (e + 1) := ⟨_, rfl⟩
  obtain ⟨j', ej'⟩ : ∃ j', j' = upto (isAny [91, 93]) o (e' + 1) := ⟨_, rfl⟩
  rw [← ej] at hj hg2
  rw [← ej'] at hj
  rw [← ej, ← ej']
  rw [h.at' (i := a) (j := b) (by omega) (by omega), h.at' (i := a + 1) (j := b + 1) (by omega) (by omega), h.ext (i := a + 2) (j := e) (i' := b + 2) (j' := e') (by omega) (by omega) (by omega) (by omega),
    h.at' (i := e) (j := e') (by omega) (by omega), h.at' (i := e + 1) (j := e' + 1) (by omega) (by omega), h.at' (i := j) (j := j') (by omega) (by omega), h.at' (i := j + 1) (j := j' + 1) (by omega) (by omega),
    h.ext (i := e + 1) (j := j) (i' := e' + 1) (j' := j') (by omega) (by omega) (by omega) (by omega)]
  have hs := h.sz
  split
  · split
    · simp [mv, shF]; omega
    · by_cases c : bt o e' = 124 ∧ j < s.size ∧ e + 1 < j ∧ bt o j' = 93 ∧ bt o (j' + 1) = 93
      · rw [if_pos c, if_pos ⟨c.1, by omega, by omega, c.2.2.2⟩]
        simp [mv, shF]; omega
      · rw [if_neg c, if_neg (fun c' => c ⟨c'.1, by omega, by omega, c'.2.2.2⟩)]; rfl
  · rfl
theorem tokR_same {s o : ByteArray} {a b : Nat} (h : Same s o a b) : tokR o b = (tokR s a).map (mv (shF a b)) := by
  unfold tokR
  dsimp only
  have he := h.upto (notB digB) (i := a + 2) (j := b + 2) (by omega) (by omega)
  have hg := upto_ge (notB digB) s (a + 2)
  obtain ⟨e, ee⟩ : ∃ e, e = upto (notB digB) s (a + 2) := ⟨_, rfl⟩
  obtain ⟨e', ee'⟩ : ∃ e', e' = upto (notB digB) o (b + 2) := ⟨_, rfl⟩
  rw [← ee] at he hg
  rw [← ee'] at he
  rw [← ee, ← ee']
  rw [h.at' (i := a) (j := b) (by omega) (by omega), h.at' (i := a + 1) (j := b + 1) (by omega) (by omega), h.at' (i := a + 2) (j := b + 2) (by omega) (by omega), h.ext (i := a + 2) (j := e) (i' := b + 2) (j' := e') (by omega) (by omega) (by omega) (by omega),
    h.at' (i := e) (j := e') (by omega) (by omega), h.at' (i := e + 1) (j := e' + 1) (by omega) (by omega)]
  by_cases c : bt o b = 40 ∧ bt o (b + 1) = 40 ∧ a + 2 < e ∧ e ≤ a + 9 ∧ bt o (b + 2) ≠ 48 ∧ bt o e' = 41 ∧ bt o (e' + 1) = 41 ∧ digVal (s.extract (a + 2) e).data.toList ≤ 1000000
  · rw [if_pos c, if_pos ⟨c.1, c.2.1, by omega, by omega, c.2.2.2.2⟩]
    simp [mv, shF]; omega
  · rw [if_neg c, if_neg (fun c' => c ⟨c'.1, c'.2.1, by omega, by omega, c'.2.2.2.2⟩)]; rfl
theorem tokT_same {s o : ByteArray} {a b : Nat} (h : Same s o a b) (ha : 0 < a) (hb : 0 < b) (hp : bt s (a - 1) = bt o (b - 1)) : tokT o b = (tokT s a).map (mv (shF a b)) := by
  unfold tokT
  dsimp only
  have he := h.upto (notB tagB) (i := a + 1) (j := b + 1) (by omega) (by omega)
  have hl := h.upto letB (i := a + 1) (j := b + 1) (by omega) (by omega)
  have hg := upto_ge (notB tagB) s (a + 1)
  obtain ⟨e, ee⟩ : ∃ e, e = upto (notB tagB) s (a + 1) := ⟨_, rfl⟩
  obtain ⟨e', ee'⟩ : ∃ e', e' = upto (notB tagB) o (b + 1) := ⟨_, rfl⟩
  rw [← ee] at he hg
  rw [← ee'] at he
  rw [← ee, ← ee']
  rw [hp, h.at' (i := a) (j := b) (by omega) (by omega), h.at' (i := a + 1) (j := b + 1) (by omega) (by omega), h.ext (i := a + 1) (j := e) (i' := b + 1) (j' := e') (by omega) (by omega) (by omega) (by omega),
    h.at' (i := e - 1) (j := e' - 1) (by omega) (by omega)]
  by_cases c : bt o b = 35 ∧ (a = 0 ∨ preT (bt o (b - 1)) = true) ∧ upto letB s (a + 1) < e ∧ e ≤ a + 101 ∧ bt o (b + 1) ≠ 47 ∧ bt o (e' - 1) ≠ 47
  · rw [if_pos c, if_pos ⟨c.1, .inr (c.2.1.resolve_left (by omega)), by omega, by omega, c.2.2.2.2⟩]
    simp [mv, shF]; omega
  · rw [if_neg c, if_neg (fun c' => c ⟨c'.1, .inr (c'.2.1.resolve_left (by omega)), by omega, by omega, c'.2.2.2.2⟩)]; rfl
theorem tokB_same {s o : ByteArray} {a b : Nat} (h : Same s o a b) : tokB o b = (tokB s a).map (mv (shF a b)) := by
  unfold tokB
  rw [h.at' (i := a) (j := b) (by omega) (by omega), h.at' (i := a + 1) (j := b + 1) (by omega) (by omega)]
  split
  · simp [mv, shF]; omega
  · rfl
theorem map_or' {α β : Type} (f : α → β) (x y : Option α) : (x.map f).or (y.map f) = (x.or y).map f := by cases x <;> rfl
theorem tokA_same {s o : ByteArray} {a b : Nat} (h : Same s o a b) (ha : 0 < a) (hb : 0 < b) (hp : bt s (a - 1) = bt o (b - 1)) : tokA o b = mv (shF a b) (tokA s a) := by
  unfold tokA
  rw [tokE_same h, tokC_same h, tokL_same h, tokR_same h, tokT_same h ha hb hp, tokB_same h]
  simp only [map_or']
  cases ((tokE s a).or ((tokC s a).or ((tokL s a).or ((tokR s a).or ((tokT s a).or (tokB s a)))))) with
  | none => simp [plainAt, mv, shF]; omega
  | some x => rfl
theorem mv_congr {f g : Nat → Nat} {x : Sp} (h1 : f x.frm = g x.frm) (h2 : f x.to_ = g x.to_) : mv f x = mv g x := by unfold mv; rw [h1, h2]
theorem toks_same {s o : ByteArray} {a b : Nat} (h : Same s o a b) (ha : 0 < a) (hb : 0 < b) (hp : bt s (a - 1) = bt o (b - 1)) : toks o b = (toks s a).map (mv (shF a b)) := by
  have key : ∀ n i j, s.size - i = n → a ≤ i → i ≤ s.size → i + b = j + a → bt s (i - 1) = bt o (j - 1) → toks o j = (toks s i).map (mv (shF a b)) := by
    intro n
    induction n using Nat.strongRecOn with
    | _ n ih =>
      intro i j hn hi his hj hq
      have hs := h.sz
      by_cases hlt : i < s.size
      · rw [toks_step hlt, toks_step (show j < o.size by omega)]
        have t := tokA_to hlt
        have e := tokA_same (h.more hi his hj) (by omega) (by omega) hq
        have e2 : tokA o j = mv (shF a b) (tokA s i) := by
          rw [e]; apply mv_congr <;> unfold shF <;> omega
        rw [e2, List.map_cons]
        congr 1
        refine ih (s.size - (tokA s i).to_) (by omega) _ _ rfl (by omega) t.2.2 (by simp [mv, shF]; omega) ?_
        exact h.at' (by omega) (by simp [mv, shF]; omega)
      · rw [toks_end (by omega), toks_end (by omega)]; rfl
  exact key _ a b rfl (Nat.le_refl _) h.la (by omega) hp
end Go.Proofs.YtcbmddgafkoooaaDoor
