/-
  DERIVED. Plain law: plain spans side by side are one; the spans of a text lie one after the other. Conditions: none. By an AI agent.
-/
import Derived.Test.YtcbmddgafkoooaaDoorStrengthen
namespace Go.Proofs.YtcbmddgafkoooaaDoor
open Go.RowKit

/-- does the span go into the last one? -/
def joins (acc : List Sp) (x : Sp) : Bool :=
  match acc.getLast? with
  | some y => x.kind == 1 && y.kind == 1 && y.strong == x.strong
  | none => false
def mstep (acc : List Sp) (x : Sp) : List Sp :=
  match acc.getLast? with
  | some y => if (x.kind == 1 && y.kind == 1 && y.strong == x.strong) = true then acc.dropLast ++ [{ y with to_ := x.to_ }] else acc ++ [x]
  | none => [x]
def merge (acc : List Sp) : List Sp → List Sp
  | [] => acc
  | x :: r => merge (mstep acc x) r
def fillT (s : ByteArray) (x : Sp) : Sp := if x.kind = 1 then { x with text := s.extract x.frm x.to_ } else x
def spans (s : ByteArray) : List Sp := (merge [] (strong (toks s 0))).map (fillT s)

/-- one after the other, from a to b -/
def Cont : Nat → List Sp → Nat → Prop
  | a, [], b => a = b
  | a, x :: r, b => x.frm = a ∧ a < x.to_ ∧ Cont x.to_ r b
theorem cont_le : ∀ {l : List Sp} {a b : Nat}, Cont a l b → a ≤ b ∧ a + l.length ≤ b
  | [], a, b, h => by cases h; simp
  | x :: r, a, b, h => by
    have := cont_le h.2.2
    have := h.2.1
    simp; omega
theorem cont_mem : ∀ {l : List Sp} {a b : Nat}, Cont a l b → ∀ x ∈ l, a ≤ x.frm ∧ x.frm < x.to_ ∧ x.to_ ≤ b
  | x :: r, a, b, h, y, hy => by
    rcases List.mem_cons.1 hy with rfl | hy
    · exact ⟨Nat.le_of_eq h.1.symm, by rw [h.1]; exact h.2.1, (cont_le h.2.2).1⟩
    · have := cont_mem h.2.2 y hy
      have := h.2.1
      omega
theorem cont_append : ∀ {l r : List Sp} {a b c : Nat}, Cont a l b → Cont b r c → Cont a (l ++ r) c
  | [], r, a, b, c, h, k => by cases h; exact k
  | x :: l, r, a, b, c, h, k => ⟨h.1, h.2.1, cont_append h.2.2 k⟩
theorem cont_split : ∀ {l r : List Sp} {a c : Nat}, Cont a (l ++ r) c → ∃ b, Cont a l b ∧ Cont b r c
  | [], r, a, c, h => ⟨a, rfl, h⟩
  | x :: l, r, a, c, h => by
    obtain ⟨b, h1, h2⟩ := cont_split h.2.2
    exact ⟨b, ⟨h.1, h.2.1, h1⟩, h2⟩
theorem toks_cont (s : ByteArray) : ∀ n a, s.size - a = n → a ≤ s.size → Cont a (toks s a) s.size
  | 0, a, h, ha => by rw [toks_end (by omega)]; show a = _; omega
  | n + 1, a, h, ha => by
    induction n using Nat.strongRecOn generalizing a with
    | _ n ih =>
      rw [toks_step (by omega)]
      have t := tokA_to (s := s) (a := a) (by omega)
      refine ⟨t.1, t.2.1, ?_⟩
      by_cases e : (tokA s a).to_ = s.size
      · rw [e, toks_end (Nat.le_refl _)]; rfl
      · exact ih (s.size - (tokA s a).to_ - 1) (by omega) _ (by omega) t.2.2
theorem cont_map : ∀ {l : List Sp} {g : Sp → Sp} {a b : Nat}, (∀ x, (g x).frm = x.frm ∧ (g x).to_ = x.to_) → Cont a l b → Cont a (l.map g) b
  | [], g, a, b, hg, h => h
  | x :: l, g, a, b, hg, h => by
    show (g x).frm = a ∧ a < (g x).to_ ∧ Cont (g x).to_ (l.map g) b
    rw [(hg x).1, (hg x).2]
    exact ⟨h.1, h.2.1, cont_map hg h.2.2⟩
theorem cont_mapIdx : ∀ {l : List Sp} {g : Nat → Sp → Sp} {a b : Nat}, (∀ j x, (g j x).frm = x.frm ∧ (g j x).to_ = x.to_) → Cont a l b → Cont a (l.mapIdx g) b
  | [], g, a, b, hg, h => h
  | x :: l, g, a, b, hg, h => by
    rw [List.mapIdx_cons]
    show (g 0 x).frm = a ∧ a < (g 0 x).to_ ∧ Cont (g 0 x).to_ _ b
    rw [(hg 0 x).1, (hg 0 x).2]
    exact ⟨h.1, h.2.1, cont_mapIdx (fun j x => hg (j + 1) x) h.2.2⟩
theorem strong_cont {l : List Sp} {a b : Nat} (h : Cont a l b) : Cont a (strong l) b := cont_mapIdx (fun _ _ => ⟨rfl, rfl⟩) h
theorem mstep_cont {acc : List Sp} {x : Sp} {a b : Nat} (h : Cont a acc b) (hx : x.frm = b) (hl : b < x.to_) : Cont a (mstep acc x) x.to_ := by
  have one : Cont b [x] x.to_ := ⟨hx, hl, rfl⟩
  unfold mstep
  cases e : acc.getLast? with
  | none =>
    rw [List.getLast?_eq_none_iff] at e
    subst e
    have e1 : a = b := h
    subst e1
    exact one
  | some y =>
    dsimp only
    split
    · obtain ⟨r, rfl⟩ := List.getLast?_eq_some_iff.1 e
      rw [List.dropLast_concat]
      obtain ⟨c, h1, h2⟩ := cont_split h
      refine cont_append h1 ⟨h2.1, ?_, rfl⟩
      have := h2.2.1
      have e2 : y.to_ = b := h2.2.2
      show c < x.to_
      omega
    · exact cont_append h one
theorem merge_cont : ∀ {l acc : List Sp} {a b c : Nat}, Cont a acc b → Cont b l c → Cont a (merge acc l) c
  | [], acc, a, b, c, h, k => by cases k; exact h
  | x :: l, acc, a, b, c, h, k => show Cont a (merge (mstep acc x) l) c from merge_cont (mstep_cont h k.1 k.2.1) k.2.2
theorem mstep_no {acc : List Sp} {x : Sp} (h : ∀ r y, acc = r ++ [y] → (x.kind == 1 && y.kind == 1 && y.strong == x.strong) = false) : mstep acc x = acc ++ [x] := by
  unfold mstep
  cases e : acc.getLast? with
  | none => rw [List.getLast?_eq_none_iff] at e; subst e; rfl
  | some y =>
    obtain ⟨r, hr⟩ := List.getLast?_eq_some_iff.1 e
    dsimp only
    rw [h r y hr]
    rfl
theorem mstep_yes {r : List Sp} {x y : Sp} (h : (x.kind == 1 && y.kind == 1 && y.strong == x.strong) = true) : mstep (r ++ [y]) x = r ++ [{ y with to_ := x.to_ }] := by
  unfold mstep
  rw [List.getLast?_concat]
  dsimp only
  rw [if_pos h, List.dropLast_concat]
theorem mstep_len (acc : List Sp) (x : Sp) : (mstep acc x).length ≤ acc.length + 1 := by
  unfold mstep
  cases e : acc.getLast? with
  | none => simp
  | some y =>
    obtain ⟨r, rfl⟩ := List.getLast?_eq_some_iff.1 e
    dsimp only
    split <;> simp
theorem fillT_pos (s : ByteArray) (x : Sp) : (fillT s x).frm = x.frm ∧ (fillT s x).to_ = x.to_ := by unfold fillT; split <;> exact ⟨rfl, rfl⟩
/-- the texts of the first i spans are laid -/
def fillI (l : List Sp) (s : ByteArray) (i : Nat) : List Sp := l.mapIdx fun j x => if j < i then fillT s x else x
theorem fillI_len (l : List Sp) (s : ByteArray) (i : Nat) : (fillI l s i).length = l.length := by simp [fillI]
theorem fillI_get (l : List Sp) (s : ByteArray) (i j : Nat) : (fillI l s i)[j]? = (l[j]?).map (fun x => if j < i then fillT s x else x) := by simp [fillI]
theorem fillI_at {l : List Sp} {s : ByteArray} {i : Nat} {y : Sp} (h : l[i]? = some y) : (fillI l s i)[i]? = some y := by rw [fillI_get, h]; simp
theorem fillI_zero (l : List Sp) (s : ByteArray) : fillI l s 0 = l := by
  apply List.ext_getElem?; intro j; rw [fillI_get]; cases l[j]? <;> simp
theorem fillI_all (l : List Sp) (s : ByteArray) : fillI l s l.length = l.map (fillT s) := by
  apply List.ext_getElem?; intro j; rw [fillI_get, List.getElem?_map]
  cases e : l[j]? with
  | none => rfl
  | some x => simp [(List.getElem?_eq_some_iff.1 e).1]
theorem fillI_set {l : List Sp} {s : ByteArray} {i : Nat} {y : Sp} (h : l[i]? = some y) : (fillI l s i).set i (fillT s y) = fillI l s (i + 1) := by
  apply List.ext_getElem?; intro j
  rw [List.getElem?_set, fillI_len, fillI_get, fillI_get]
  have hi : i < l.length := (List.getElem?_eq_some_iff.1 h).1
  by_cases e : i = j
  · subst e; rw [if_pos rfl, if_pos hi, h]; simp
  · rw [if_neg e]
    cases l[j]? with
    | none => rfl
    | some x =>
      simp only [Option.map_some]
      by_cases g : j < i
      · rw [if_pos g, if_pos (by omega)]
      · rw [if_neg g, if_neg (by omega)]
theorem fillI_same {l : List Sp} {s : ByteArray} {i : Nat} {y : Sp} (h : l[i]? = some y) (hk : y.kind ≠ 1) : fillI l s i = fillI l s (i + 1) := by
  rw [← fillI_set h, show fillT s y = y from if_neg hk]
  apply List.ext_getElem?; intro j
  rw [List.getElem?_set, fillI_len]
  by_cases e : i = j
  · subst e; rw [if_pos rfl, if_pos (List.getElem?_eq_some_iff.1 h).1, fillI_at h]
  · rw [if_neg e]
theorem spans_cont (s : ByteArray) : Cont 0 (spans s) s.size :=
  cont_map (fillT_pos s) (merge_cont (a := 0) (b := 0) rfl (strong_cont (toks_cont s _ 0 rfl (Nat.zero_le _))))
theorem toks_weak (s : ByteArray) (a : Nat) : ∀ x ∈ toks s a, x.strong = false := by
  have key : ∀ n a, ∀ x ∈ toksN s n a, x.strong = false := by
    intro n
    induction n with
    | zero => intro a x hx; cases hx
    | succ n ih =>
      intro a x hx
      simp only [toksN] at hx
      split at hx
      · rcases List.mem_cons.1 hx with rfl | hx
        · unfold tokA tokE tokC tokL tokR tokT tokB plainAt
          dsimp only
          repeat' split
          all_goals rfl
        · exact ih _ _ hx
      · cases hx
  exact key _ a
theorem toks_len (s : ByteArray) : (toks s 0).length ≤ s.size := by
  have := (cont_le (toks_cont s _ 0 rfl (Nat.zero_le _))).2
  omega
end Go.Proofs.YtcbmddgafkoooaaDoor
