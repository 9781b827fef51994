/-
  DERIVED. Plain law: what the reference makes of tokens is what the code makes. Conditions: none. By an AI agent.
-/
import Derived.Test.YtcbmddgafkoooaaDoorRefToken
namespace Go.Proofs.YtcbmddgafkoooaaDoor
open Go.RowKit

/-- the reference's tokens -/
def toksF (s : ByteArray) : List Sp := (toks s 0).map (fillT s)
theorem toksF_len (s : ByteArray) : (toksF s).length = (toks s 0).length := by simp [toksF]
theorem toksF_at {s : ByteArray} {k : Nat} {x : Sp} (h : (toks s 0)[k]? = some x) : (toksF s)[k]? = some (fillT s x) := by simp [toksF, h]
/-- a span of the strengthened tokens -/
def stK (l : List Sp) (k : Nat) (x : Sp) : Sp := { x with kind := strK l (cnt l l.length / 2 * 2) k x.kind, strong := strF l (cnt l l.length / 2 * 2) k }
theorem stK_at {l : List Sp} {k : Nat} {x : Sp} (h : l[k]? = some x) : (strong l)[k]? = some (stK l k x) := strong_at h
theorem toks_bold (s : ByteArray) : ∀ x ∈ toks s 0, x.kind = 7 → x.text = s.extract x.frm x.to_ := by
  intro x hx hk
  have key : ∀ n a, ∀ x ∈ toksN s n a, x.kind = 7 → x.text = s.extract x.frm x.to_ := by
    intro n
    induction n with
    | zero => intro a x hx; cases hx
    | succ n ih =>
      intro a x hx hk
      simp only [toksN] at hx
      split at hx
      · rcases List.mem_cons.1 hx with rfl | hx
        · rcases tokA_cases s a with h | h | h | h | h | h | h
          · have := tokE_kind h; omega
          · have := tokC_kind h; omega
          · have := (tokL_inv h).kd; omega
          · have := tokR_kind h; omega
          · have := tokT_kind h; omega
          · generalize tokA s a = y at h
            unfold tokB at h
            split at h
            · rename_i c
              injection h with h
              subst h
              have i1 := bt_in (s := s) (i := a + 1) (by omega)
              apply ba_ext
              rw [ext_list2, show a + 2 - a = 2 by omega, drop_bt (by omega), drop_bt i1]
              have c0 := c.1
              have c1 := c.2
              rw [bt_at (by omega)] at c0
              rw [bt_at i1] at c1
              have d0 : s[a] = 42 := UInt8.toNat_inj.1 (by show _ = 42; omega)
              have d1 : s[a + 1] = 42 := UInt8.toNat_inj.1 (by show _ = 42; omega)
              rw [d0, d1]; rfl
            · cases h
          · rw [h] at hk; exact absurd (show (1 : Int) = 7 from hk) (by decide)
        · exact ih _ _ hx hk
      · cases hx
  exact key _ 0 x hx hk
theorem strK_cases (l : List Sp) (P k : Nat) (x : Sp) (h : l[k]? = some x) : strK l P k x.kind = (if x.kind = 7 ∧ P < cnt l (k + 1) then 1 else x.kind) := by
  unfold strK
  rw [bold_at h]
  by_cases c : x.kind = 7 ∧ P < cnt l (k + 1)
  · rw [if_pos c, if_pos (by simp [c.1, c.2])]
  · rw [if_neg c, if_neg]
    simp only [Bool.and_eq_true, beq_iff_eq, decide_eq_true_eq]
    exact c
/-- the text of a filled token is that of the filled span -/
theorem fill_stK {s : ByteArray} {k : Nat} {x : Sp} (h : (toks s 0)[k]? = some x) : fillT s (stK (toks s 0) k x) = { fillT s x with kind := (stK (toks s 0) k x).kind, strong := (stK (toks s 0) k x).strong } := by
  have hm := List.mem_of_getElem? h
  have hk : (stK (toks s 0) k x).kind = _ := strK_cases _ _ k x h
  unfold fillT
  by_cases e : x.kind = 1
  · have : (stK (toks s 0) k x).kind = 1 := by rw [hk, if_neg (by omega)]; exact e
    rw [if_pos this, if_pos e, this]
    rfl
  · rw [if_neg e]
    by_cases c : x.kind = 7 ∧ cnt (toks s 0) (toks s 0).length / 2 * 2 < cnt (toks s 0) (k + 1)
    · have h1 : (stK (toks s 0) k x).kind = 1 := by rw [hk, if_pos c]
      rw [if_pos h1]
      have := toks_bold s x hm c.1
      rw [show s.extract (stK (toks s 0) k x).frm (stK (toks s 0) k x).to_ = x.text from this.symm]
      rfl
    · have h1 : ¬ (stK (toks s 0) k x).kind = 1 := by rw [hk, if_neg c]; exact e
      rw [if_neg h1]
      rfl
/-- two plain spans side by side, filled -/
theorem fill_join {s : ByteArray} {y x : Sp} (h1 : y.kind = 1) (h2 : x.kind = 1) (hf : y.frm ≤ y.to_) (hc : y.to_ = x.frm) (hx : x.frm ≤ x.to_) : fillT s { y with to_ := x.to_ } = { fillT s y with to_ := x.to_, text := (fillT s y).text ++ (fillT s x).text } := by
  unfold fillT
  rw [if_pos h1, if_pos h2, if_pos (show ({ y with to_ := x.to_ } : Sp).kind = 1 from h1)]
  have : s.extract y.frm x.to_ = s.extract y.frm y.to_ ++ s.extract x.frm x.to_ := by
    apply ba_ext
    rw [ByteArray.data_append, Array.toList_append, ext_list2, ext_list2, ext_list2, hc.symm, show x.to_ - y.frm = (y.to_ - y.frm) + (x.to_ - y.to_) by omega, List.take_add, List.drop_drop, show y.frm + (y.to_ - y.frm) = y.to_ by omega]
  simp only [this]

/-- the second loop's state -/
structure RMerge (s : ByteArray) (L : List Sp) (k m : Nat) (acc : List Sp) : Prop where
  mg : merge acc ((strong L).drop k) = merge [] (strong L)
  m_ : m = cnt L k
  ct : ∃ b, Cont 0 acc b ∧ Cont b ((strong L).drop k) s.size
theorem RMerge.start {s : ByteArray} (hL : Cont 0 (toks s 0) s.size) : RMerge s (toks s 0) 0 0 [] := ⟨rfl, rfl, 0, rfl, strong_cont hL⟩
theorem strong_drop {L : List Sp} {k : Nat} {x : Sp} (h : L[k]? = some x) : (strong L).drop k = stK L k x :: (strong L).drop (k + 1) := by
  have hk := (List.getElem?_eq_some_iff.1 (stK_at h)).1
  rw [List.drop_eq_getElem_cons hk]
  have := stK_at h
  rw [List.getElem?_eq_getElem hk] at this
  injection this with this
  rw [this]
theorem cnt_next {L : List Sp} {k : Nat} {x : Sp} (h : L[k]? = some x) : cnt L (k + 1) = cnt L k + (if x.kind = 7 then 1 else 0) := by
  show cnt L k + _ = _
  rw [bold_at h]
  by_cases c : x.kind = 7
  · rw [if_pos c, if_pos (by simpa using c)]
  · rw [if_neg c, if_neg (by simpa using c)]
theorem RMerge.step {s : ByteArray} {L acc : List Sp} {k m : Nat} {x : Sp} (h : RMerge s L k m acc) (hx : L[k]? = some x) : RMerge s L (k + 1) (cnt L (k + 1)) (mstep acc (stK L k x)) := by
  obtain ⟨b, c1, c2⟩ := h.ct
  have hd := strong_drop hx
  have hm := h.mg
  rw [hd] at hm c2
  exact ⟨hm, rfl, _, mstep_cont c1 c2.1 c2.2.1, c2.2.2⟩
theorem RMerge.pos {s : ByteArray} {L acc : List Sp} {k m : Nat} {x : Sp} (h : RMerge s L k m acc) (hx : L[k]? = some x) : x.frm < x.to_ ∧ x.to_ ≤ s.size ∧ ∀ r y, acc = r ++ [y] → y.to_ = x.frm ∧ y.frm ≤ y.to_ := by
  obtain ⟨b, c1, c2⟩ := h.ct
  rw [strong_drop hx] at c2
  have e : (stK L k x).frm = b := c2.1
  have e1 : b < (stK L k x).to_ := c2.2.1
  have e2 := (cont_le c2.2.2).1
  have e3 : (stK L k x).frm = x.frm := rfl
  have e4 : (stK L k x).to_ = x.to_ := rfl
  refine ⟨by omega, by omega, ?_⟩
  rintro r y rfl
  obtain ⟨d, d1, d2⟩ := cont_split c1
  have d3 : y.to_ = b := d2.2.2
  have d4 := d2.2.1
  have d5 : y.frm = d := d2.1
  omega
theorem stK_kind {L : List Sp} {k : Nat} {x : Sp} (h : L[k]? = some x) : (stK L k x).kind = (if x.kind = 7 ∧ cnt L L.length / 2 * 2 < cnt L (k + 1) then 1 else x.kind) := strK_cases _ _ k x h
theorem stK_strong {L : List Sp} {k : Nat} {x : Sp} (h : L[k]? = some x) : (stK L k x).strong = (decide (cnt L (k + 1) ≤ cnt L L.length / 2 * 2) && (x.kind == 7 || cnt L (k + 1) % 2 == 1)) := by
  show strF _ _ _ = _
  unfold strF
  rw [bold_at h]
/-- the step, filled -/
theorem rm_no {s : ByteArray} {acc : List Sp} {z : Sp} (h : ∀ r y, acc = r ++ [y] → (z.kind == 1 && y.kind == 1 && y.strong == z.strong) = false) : (mstep acc z).map (fillT s) = acc.map (fillT s) ++ [fillT s z] := by
  rw [mstep_no h, List.map_append, List.map_singleton]
theorem rm_yes {s : ByteArray} {r : List Sp} {y z : Sp} (h : (z.kind == 1 && y.kind == 1 && y.strong == z.strong) = true) (hf : y.frm ≤ y.to_) (hc : y.to_ = z.frm) (hx : z.frm ≤ z.to_) :
    (mstep (r ++ [y]) z).map (fillT s) = (((r ++ [y]).map (fillT s)).set r.length { fillT s y with to_ := z.to_ }).set r.length { fillT s y with to_ := z.to_, text := (fillT s y).text ++ (fillT s z).text } := by
  rw [mstep_yes h, List.map_append, List.map_append, List.map_singleton, List.map_singleton]
  simp only [Bool.and_eq_true, beq_iff_eq] at h
  rw [fill_join h.1.2 h.1.1 hf hc hx]
  have : r.length = (r.map (fillT s)).length := by simp
  rw [this, List.set_set, List.set_append_right _ _ (Nat.le_refl _), Nat.sub_self]
  rfl
theorem RMerge.done {s : ByteArray} {m : Nat} {acc : List Sp} (h : RMerge s (toks s 0) (toks s 0).length m acc) : acc.map (fillT s) = spans s := by
  have := h.mg
  rw [List.drop_eq_nil_of_le (by rw [strong_len]; exact Nat.le_refl _)] at this
  unfold spans
  rw [← this]; rfl
theorem zs_of {kx zk : Int} {mm P : Nat} {zs : Bool} (hzk : zk = if kx = 7 ∧ P < mm then 1 else kx) (hzs : zs = (decide (mm ≤ P) && (kx == 7 || mm % 2 == 1))) : zs = (if zk = 7 then true else (mm % 2 == 1 && decide (mm ≤ P))) := by
  by_cases h7 : kx = 7
  · by_cases hP : P < mm
    · rw [if_pos ⟨h7, hP⟩] at hzk
      have h1 : decide (mm ≤ P) = false := by simp; omega
      rw [if_neg (by omega), hzs, h1]; simp
    · rw [if_neg (fun c => hP c.2)] at hzk
      have h1 : decide (mm ≤ P) = true := by simp; omega
      have h2 : (kx == 7) = true := by simpa using h7
      rw [if_pos (by omega), hzs, h1, h2]; rfl
  · rw [if_neg (fun c => h7 c.1)] at hzk
    have h2 : (kx == 7) = false := by simpa using h7
    rw [if_neg (by omega), hzs, h2, Bool.false_or, Bool.and_comm]
end Go.Proofs.YtcbmddgafkoooaaDoor
