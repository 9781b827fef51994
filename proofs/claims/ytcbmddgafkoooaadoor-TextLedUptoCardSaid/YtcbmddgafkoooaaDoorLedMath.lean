/-
  DERIVED. Plain law: what Retarget makes is the text with another target; its spans held against the text's own. Conditions: none. By an AI agent.
-/
import Derived.Test.YtcbmddgafkoooaaDoorRetarget
namespace Go.Proofs.YtcbmddgafkoooaaDoor
open Go.RowKit

theorem rep_plain (s : ByteArray) (n : Nat) (U : ByteArray) : ∀ (l pre : List Sp) (a b : Nat), Cont a l b → b ≤ s.size → (∀ p y q, l = p ++ y :: q → y.kind = 4 → lk (pre ++ p) ≠ n) → repP (retR s n U) pre l = (s.data.toList.drop a).take (b - a)
  | [], pre, a, b, hc, _, _ => by
    have : a = b := hc
    subst this
    simp [repP]
  | y :: l, pre, a, b, hc, hb, h => by
    have h1 := rep_plain s n U l (pre ++ [y]) y.to_ b hc.2.2 hb (fun p z q e hz => by
      have := h (y :: p) z q (by rw [e]; rfl) hz
      simpa using this)
    have hle := (cont_le hc.2.2).1
    have hy : retR s n U pre y = s.extract y.frm y.to_ := by
      unfold retR
      rw [if_neg (fun c => by
        have := h [] y l rfl c.1
        rw [List.append_nil] at this
        exact this c.2)]
    simp only [repP]
    rw [h1, hy, ext_list2, hc.1]
    have e1 : b - a = (y.to_ - a) + (b - y.to_) := by have := hc.2.1; omega
    rw [e1, List.take_add, List.drop_drop]
    congr 3
    have := hc.2.1; omega

theorem lk_prefix {p q : List Sp} {y : Sp} (h : y.kind = 4) : lk p < lk (p ++ y :: q) := by rw [lk_append, lk_cons, if_pos h]; omega

theorem cat_eq {l u : List UInt8} {f e t : Nat} (h0 : l[f]? = some 91) (h1 : l[f + 1]? = some 91) (he : e ≤ t) :
    l.take f ++ (([91, 91] ++ (u ++ (l.drop e).take (t - e))) ++ (l.drop t).take (l.length - t)) = l.take (f + 2) ++ (u ++ l.drop e) := by
  have a1 : l.take (f + 2) = l.take f ++ [91, 91] := by
    rw [show f + 2 = f + 1 + 1 from rfl, List.take_add_one, List.take_add_one, h0, h1]; simp
  have a2 : l.drop e = (l.drop e).take (t - e) ++ l.drop t := by
    have := List.take_append_drop (t - e) (l.drop e)
    rw [List.drop_drop, show e + (t - e) = t by omega] at this
    exact this.symm
  have a3 : (l.drop t).take (l.length - t) = l.drop t := List.take_of_length_le (by rw [List.length_drop]; exact Nat.le_refl _)
  rw [a3, a1]
  conv => rhs; rw [a2]
  simp only [List.append_assoc]
theorem bt_get {s : ByteArray} {i : Nat} {c : UInt8} (h : bt s i = c.toNat) : s.data.toList[i]? = some c := by
  have hx := bt_in (s := s) (i := i) (by omega)
  rw [bt_at hx] at h
  rw [List.getElem?_eq_getElem (show i < s.data.toList.length from hx)]
  exact congrArg some (UInt8.toNat_inj.1 (by
    have : ((s[i].toNat : Nat) : Int) = (c.toNat : Int) := h
    show s[i].toNat = c.toNat
    omega))
theorem repP_append (r : List Sp → Sp → ByteArray) : ∀ (l pre q : List Sp), repP r pre (l ++ q) = repP r pre l ++ repP r (pre ++ l) q
  | [], pre, q => by simp [repP]
  | y :: l, pre, q => by
    rw [List.cons_append]
    simp only [repP]
    rw [repP_append r l]
    simp
theorem retR_here {s U : ByteArray} {n : Nat} {pre : List Sp} {x : Sp} (h2 : x.kind = 4) (h3 : lk pre = n) : (retR s n U pre x).data.toList = [91, 91] ++ (U.data.toList ++ (s.data.toList.drop (x.frm + 2 + x.text.size)).take (x.to_ - (x.frm + 2 + x.text.size))) := by
  unfold retR
  rw [if_pos ⟨h2, h3⟩, ByteArray.data_append, ByteArray.data_append, Array.toList_append, Array.toList_append, ext_list2, List.append_assoc]

theorem retOut_eq {s U : ByteArray} {n : Nat} (hn : n < lk (spans s)) (hU : isTgt U = true) :
    ∃ F1 F2 x f, spans s = F1 ++ x :: F2 ∧ x.kind = 4 ∧ lk F1 = n ∧ spans (retOut s n U) = F1 ++ { x with text := U, to_ := f x.to_ } :: F2.map (mv f) := by
  obtain ⟨F1, F2, x, e, h1, h2, h3, h4, h5, h6, h7, h8, b0, b1, h9⟩ := spans_ret hn hU
  refine ⟨F1, F2, x, shF e (x.frm + 2 + U.size), h1, h2, h3, ?_⟩
  rw [← h9]
  have hE : retOut s n U = retS s U x.frm e := by
    apply ba_ext
    have r1 := rep_plain s n U F1 [] 0 x.frm h4 (by omega) (fun p y q e hy => by
      rw [List.nil_append]
      have := lk_prefix (p := p) (q := q) hy
      rw [← e] at this; omega)
    have r2 := rep_plain s n U F2 (F1 ++ [x]) x.to_ s.size h8 (Nat.le_refl _) (fun p y q e hy => by
      rw [lk_append, lk_append, lk_cons, if_pos h2]; omega)
    rw [List.drop_zero, Nat.sub_zero] at r1
    show repP (retR s n U) [] (spans s) = _
    rw [h1, repP_append, r1, List.nil_append]
    simp only [repP]
    rw [r2, retR_here h2 h3, h5, retS_list]
    exact cat_eq (bt_get b0) (bt_get b1) (by omega)
  rw [hE]

/-- what the spans of the new text are, each held against its own -/
theorem led_at {s U : ByteArray} {n : Nat} (hn : n < lk (spans s)) (hU : isTgt U = true) :
    (spans (retOut s n U)).length = (spans s).length ∧ ∀ (i : Nat) (x : Sp), (spans s)[i]? = some x → ∃ f t : Nat, (spans (retOut s n U))[i]? = some { x with frm := f, to_ := t, text := if x.kind = 4 ∧ lk ((spans s).take i) = n then U else x.text } := by
  obtain ⟨F1, F2, x, f, h1, h2, h3, h4⟩ := retOut_eq hn hU
  rw [h1, h4]
  refine ⟨by simp, fun i y hy => ?_⟩
  rcases Nat.lt_trichotomy i F1.length with g | g | g
  · rw [List.getElem?_append_left g] at hy ⊢
    refine ⟨y.frm, y.to_, ?_⟩
    rw [hy, if_neg]
    rintro ⟨k4, hl⟩
    rw [List.take_append_of_le_length (by omega)] at hl
    obtain ⟨p, q, e, hp⟩ : ∃ p q, F1 = p ++ y :: q ∧ p = F1.take i := by
      refine ⟨F1.take i, F1.drop (i + 1), ?_, rfl⟩
      have := List.take_append_drop i F1
      rw [List.drop_eq_getElem_cons g] at this
      rw [List.getElem?_eq_getElem g] at hy
      injection hy with hy
      rw [hy] at this
      exact this.symm
    rw [← hp] at hl
    have := lk_prefix (p := p) (q := q) k4
    rw [← e] at this
    omega
  · subst g
    rw [List.getElem?_append_right (Nat.le_refl _), Nat.sub_self] at hy ⊢
    injection hy with hy
    subst hy
    refine ⟨x.frm, f x.to_, ?_⟩
    rw [if_pos ⟨h2, by rw [List.take_left']; exact h3; rfl⟩]
    rfl
  · rw [List.getElem?_append_right (by omega)] at hy ⊢
    obtain ⟨j, hj⟩ : ∃ j, i - F1.length = j + 1 := ⟨i - F1.length - 1, by omega⟩
    rw [hj, List.getElem?_cons_succ] at hy ⊢
    refine ⟨f y.frm, f y.to_, ?_⟩
    rw [List.getElem?_map, hy, if_neg]
    · rfl
    · rintro ⟨_, hl⟩
      rw [List.take_append, lk_append, List.take_of_length_le (by omega), hj, List.take_succ_cons, lk_cons, if_pos h2] at hl
      omega
end Go.Proofs.YtcbmddgafkoooaaDoor
