/-
  DERIVED. Plain law: what a span shows stands in the text, at the place where it begins. Conditions: none. By an AI agent.
-/
import Derived.Test.YtcbmddgafkoooaaGreatDoorSpanIs
import Derived.Test.YtcbmddgafkoooaaGreatDoorPlainOf
namespace Go.Proofs.YtcbmddgafkoooaaGreatDoor
open Go.RowKit

theorem shown_at {s : ByteArray} {x : Sp} (h : SpIs s x) (h1 : x.frm < x.to_) (h2 : x.to_ ≤ s.size) :
    ∃ a : Nat, shownAt x = a ∧ x.frm ≤ a ∧ a + (shown s x).size ≤ x.to_ ∧ shown s x = s.extract a (a + (shown s x).size) := by
  have ex : ∀ a n : Nat, a + n ≤ s.size → (s.extract a (a + n)).size = n := fun a n h => by rw [ByteArray.size_extract]; omega
  by_cases k2 : x.kind = 2
  · obtain ⟨g1, g2, _, _⟩ := h.e2 k2
    have e1 : shownAt x = ((x.frm + 1 : Nat) : Int) := by unfold shownAt; rw [if_pos (.inl k2)]; omega
    have e2 : shown s x = s.extract (x.frm + 1) (x.frm + 1 + 1) := by unfold shown; rw [if_pos (.inl k2), g2]
    have e3 : (shown s x).size = 1 := by rw [e2]; exact ex _ _ (by omega)
    exact ⟨_, e1, by omega, by omega, by rw [e3]; exact e2⟩
  by_cases k3 : x.kind = 3
  · obtain ⟨g1, g2, _, _⟩ := h.e3 k3
    have e1 : shownAt x = ((x.frm + 1 : Nat) : Int) := by unfold shownAt; rw [if_pos (.inr k3)]; omega
    have e2 : shown s x = s.extract (x.frm + 1) (x.frm + 1 + (x.to_ - 1 - (x.frm + 1))) := by unfold shown; rw [if_pos (.inr k3), g2]; congr 1; omega
    have e3 : (shown s x).size = x.to_ - 1 - (x.frm + 1) := by rw [e2]; exact ex _ _ (by omega)
    exact ⟨_, e1, by omega, by omega, by rw [e3]; exact e2⟩
  have n23 : ¬ (x.kind = 2 ∨ x.kind = 3) := by omega
  by_cases k4 : x.kind = 4
  · obtain ⟨e, g1, g2, g3, _, _, g6, _, g8⟩ := h.e4 k4
    rcases g8 with ⟨c1, c2⟩ | ⟨c1, c0, c2⟩
    · have z : x.show_.size = 0 := by rw [c2]; rfl
      have e1 : shownAt x = ((x.frm + 2 : Nat) : Int) := by unfold shownAt; rw [if_neg n23, if_pos k4, if_pos z]; omega
      have e2 : shown s x = s.extract (x.frm + 2) (x.frm + 2 + (e - (x.frm + 2))) := by unfold shown; rw [if_neg n23, if_pos k4, if_pos z, g3]; congr 1; omega
      have e3 : (shown s x).size = e - (x.frm + 2) := by rw [e2]; exact ex _ _ (by omega)
      exact ⟨_, e1, by omega, by omega, by rw [e3]; exact e2⟩
    · have z : x.show_.size = x.to_ - 2 - (e + 1) := by rw [c2, ByteArray.size_extract]; omega
      have e1 : shownAt x = ((e + 1 : Nat) : Int) := by unfold shownAt; rw [if_neg n23, if_pos k4, if_neg (by omega)]; omega
      have e2 : shown s x = s.extract (e + 1) (e + 1 + (x.to_ - 2 - (e + 1))) := by unfold shown; rw [if_neg n23, if_pos k4, if_neg (by omega), c2]; congr 1; omega
      have e3 : (shown s x).size = x.to_ - 2 - (e + 1) := by rw [e2]; exact ex _ _ (by omega)
      exact ⟨_, e1, by omega, by omega, by rw [e3]; exact e2⟩
  by_cases k7 : x.kind = 7
  · have e1 : shownAt x = ((x.to_ : Nat) : Int) := by unfold shownAt; rw [if_neg n23, if_neg k4, if_pos k7]
    have e2 : shown s x = noB := by unfold shown; rw [if_neg n23, if_neg k4, if_pos k7]
    have e3 : (shown s x).size = 0 := by rw [e2]; rfl
    refine ⟨_, e1, by omega, by omega, ?_⟩
    rw [e3, e2]
    apply ba_ext
    rw [ext_list2]; simp [noB]
  · have e1 : shownAt x = ((x.frm : Nat) : Int) := by unfold shownAt; rw [if_neg n23, if_neg k4, if_neg k7]
    have e2 : shown s x = s.extract x.frm (x.frm + (x.to_ - x.frm)) := by unfold shown; rw [if_neg n23, if_neg k4, if_neg k7]; congr 1; omega
    have e3 : (shown s x).size = x.to_ - x.frm := by rw [e2]; exact ex _ _ (by omega)
    exact ⟨_, e1, by omega, by omega, by rw [e3]; exact e2⟩

theorem snoc_ind {α : Type} {P : List α → Prop} (h0 : P []) (h1 : ∀ l x, P l → P (l ++ [x])) (l : List α) : P l := by
  have : ∀ l : List α, P l.reverse := by
    intro l
    induction l with
    | nil => exact h0
    | cons x l ih => rw [List.reverse_cons]; exact h1 _ _ ih
  have := this l.reverse
  rwa [List.reverse_reverse] at this

/-- what a span does to (before, found) -/
def srcStep (s : ByteArray) (p : Int) (st : Int × Int) (x : Sp) : Int × Int :=
  (st.1 + (shown s x).size, if st.2 < 0 ∧ st.1 ≤ p ∧ p < st.1 + (shown s x).size then shownAt x + p - st.1 else st.2)
def srcF (s : ByteArray) (p : Int) (l : List Sp) : Int × Int := l.foldl (srcStep s p) (0, -1)
theorem srcF_snoc (s : ByteArray) (p : Int) (l : List Sp) (x : Sp) : srcF s p (l ++ [x]) = srcStep s p (srcF s p l) x := by simp [srcF]

/-- the places of the bytes that spans show -/
def srcL (s : ByteArray) (l : List Sp) : List Int := l.flatMap fun x => (List.range (shown s x).size).map fun i => shownAt x + (i : Nat)
theorem srcL_snoc (s : ByteArray) (l : List Sp) (x : Sp) : srcL s (l ++ [x]) = srcL s l ++ (List.range (shown s x).size).map fun i => shownAt x + (i : Nat) := by simp [srcL]
theorem srcF_is {s : ByteArray} (p : Int) : ∀ (l : List Sp), (∀ x ∈ l, 0 ≤ shownAt x) → (srcF s p l).1 = (srcL s l).length ∧ (srcF s p l).2 = (if 0 ≤ p ∧ p < (srcL s l).length then (srcL s l).getD p.toNat 0 else -1) := by
  intro l
  refine snoc_ind (P := fun l => (∀ x ∈ l, 0 ≤ shownAt x) → (srcF s p l).1 = (srcL s l).length ∧ (srcF s p l).2 = (if 0 ≤ p ∧ p < (srcL s l).length then (srcL s l).getD p.toNat 0 else -1)) ?_ ?_ l
  · intro _; exact ⟨rfl, by rw [if_neg (by simp [srcL])]; rfl⟩
  · intro l x ih h
    obtain ⟨h1, h2⟩ := ih (fun y hy => h y (by simp [hy]))
    have hx := h x (by simp)
    have hpos : ∀ v ∈ srcL s l, 0 ≤ v := by
      intro v hv
      obtain ⟨y, hy, hv⟩ := List.mem_flatMap.1 hv
      obtain ⟨i, _, rfl⟩ := List.mem_map.1 hv
      have := h y (by simp [hy]); omega
    rw [srcF_snoc, srcL_snoc]
    unfold srcStep
    dsimp only
    rw [h1, h2]
    have hlen : ((srcL s l ++ (List.range (shown s x).size).map fun i => shownAt x + (i : Nat)).length : Int) = (srcL s l).length + (shown s x).size := by simp
    refine ⟨by rw [hlen], ?_⟩
    rw [hlen]
    by_cases c : 0 ≤ p ∧ p < (srcL s l).length
    · rw [if_pos c]
      have hm : (srcL s l).getD p.toNat 0 = (srcL s l)[p.toNat]'(by omega) := by simp [List.getD_eq_getElem?_getD, List.getElem?_eq_getElem (show p.toNat < (srcL s l).length by omega)]
      have := hpos _ (List.getElem_mem (l := srcL s l) (show p.toNat < (srcL s l).length by omega))
      rw [if_neg (by rw [hm]; omega), if_pos ⟨c.1, by omega⟩]
      rw [List.getD_eq_getElem?_getD, List.getD_eq_getElem?_getD, List.getElem?_append_left (by omega)]
    · rw [if_neg c]
      by_cases d : ((srcL s l).length : Int) ≤ p ∧ p < (srcL s l).length + (shown s x).size
      · rw [if_pos ⟨by decide, d.1, d.2⟩, if_pos ⟨by omega, d.2⟩, List.getD_eq_getElem?_getD, List.getElem?_append_right (by omega), List.getElem?_map, List.getElem?_range (by omega)]
        simp
        omega
      · rw [if_neg (by omega), if_neg (by omega)]
/-- what Source answers -/
def srcV (s : ByteArray) (p : Int) : Value :=
  if p < 0 ∨ (srcL s (spans s)).length < p then .tuple #[.int .i64 0, .int .i64 2]
  else if p = (srcL s (spans s)).length then .tuple #[.int .i64 s.size, .int .i64 0]
  else .tuple #[.int .i64 ((srcL s (spans s)).getD p.toNat 0), .int .i64 0]
theorem spans_at (s : ByteArray) : ∀ x ∈ spans s, 0 ≤ shownAt x := by
  intro x hx
  obtain ⟨m0, m1, m2⟩ := cont_mem (spans_cont s) x hx
  obtain ⟨a, h, _⟩ := shown_at (spans_is s x hx) m1 m2
  rw [h]; omega
end Go.Proofs.YtcbmddgafkoooaaGreatDoor
