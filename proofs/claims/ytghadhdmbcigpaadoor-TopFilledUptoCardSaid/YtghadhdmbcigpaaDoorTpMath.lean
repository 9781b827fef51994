/-
  DERIVED. The plain law of templates: texts and fields side by side, where each begins and ends, and what filling them gives. Conditions: none. By an AI agent.
-/
import Derived.Test.YtghadhdmbcigpaaDoorBt
namespace Go.Proofs.YtghadhdmbcigpaaDoor

abbrev Seg := ByteArray × ByteArray
def lb2 : ByteArray := ⟨#[123, 123]⟩
def rb2 : ByteArray := ⟨#[125, 125]⟩
/-- a template: texts, each with a field behind it, and a last text -/
def tpl : List Seg → ByteArray → ByteArray
  | [], z => z
  | x :: r, z => x.1 ++ (lb2 ++ (x.2 ++ (rb2 ++ tpl r z)))
def inN (x : Int) : Bool := decide (97 ≤ x ∧ x ≤ 122 ∨ 48 ≤ x ∧ x ≤ 57 ∨ x = 45)
def okN (n : ByteArray) : Prop := 0 < n.size ∧ n.size ≤ 20 ∧ ∀ i, i < n.size → inN (bt n i) = true
/-- a text ahead of a field: no bracket that could be a field's -/
def okT (t : ByteArray) : Prop := ∀ i, bt t i = 123 → i + 1 < t.size ∧ bt t (i + 1) ≠ 123
def okZ (z : ByteArray) : Prop := ∀ i, bt z i = 123 → bt z (i + 1) ≠ 123
def okS (x : Seg) : Prop := okT x.1 ∧ okN x.2

theorem lb_at : bt lb2 0 = 123 ∧ bt lb2 1 = 123 ∧ lb2.size = 2 := ⟨rfl, rfl, rfl⟩
theorem rb_at : bt rb2 0 = 125 ∧ bt rb2 1 = 125 ∧ rb2.size = 2 := ⟨rfl, rfl, rfl⟩
theorem bt_pos {t : ByteArray} {i : Nat} {x : Int} (h : bt t i = x) (hx : 0 ≤ x) : i < t.size := bt_in (by omega)

/-- within a text ahead of a field no field begins -/
theorem in_text {pre t n z : ByteArray} {r : List Seg} (h : okT t) {j : Nat} (hj : j < t.size) : ¬ (bt (pre ++ tpl ((t, n) :: r) z) (pre.size + j) = 123 ∧ bt (pre ++ tpl ((t, n) :: r) z) (pre.size + j + 1) = 123) := by
  rintro ⟨h1, h2⟩
  rw [bt_app, if_neg (by omega), show pre.size + j - pre.size = j by omega] at h1
  rw [bt_app, if_neg (by omega), show pre.size + j + 1 - pre.size = j + 1 by omega] at h2
  rw [tpl, bt_app, if_pos hj] at h1
  obtain ⟨h3, h4⟩ := h j h1
  rw [tpl, bt_app, if_pos h3] at h2
  exact h4 h2
/-- in the last text neither -/
theorem in_last {pre z : ByteArray} (h : okZ z) (j : Nat) : ¬ (bt (pre ++ tpl [] z) (pre.size + j) = 123 ∧ bt (pre ++ tpl [] z) (pre.size + j + 1) = 123) := by
  rintro ⟨h1, h2⟩
  rw [bt_app, if_neg (by omega), show pre.size + j - pre.size = j by omega] at h1
  rw [bt_app, if_neg (by omega), show pre.size + j + 1 - pre.size = j + 1 by omega] at h2
  exact h j h1 h2
theorem ext_mid (a b c : ByteArray) : (a ++ (b ++ c)).extract a.size (a.size + b.size) = b := by
  apply ByteArray.ext
  apply Array.toList_inj.1
  simp [ByteArray.data_append, List.drop_append]
  rw [List.drop_eq_nil_of_le (by simp), List.take_of_length_le (l := b.data.toList) (by simp)]; simp
theorem ext_end (a b : ByteArray) : (a ++ b).extract a.size (a ++ b).size = b := by
  have := ext_mid a b ⟨#[]⟩
  rw [show b ++ (⟨#[]⟩ : ByteArray) = b from ByteArray.append_empty] at this
  rw [ByteArray.size_append]; exact this

/-- what stands at a field -/
structure AtField (s : ByteArray) (p : Nat) (n : ByteArray) : Prop where
  lo : bt s p = 123
  hi : bt s (p + 1) = 123
  size : p + n.size + 4 ≤ s.size
  name : s.extract (p + 2) (p + 2 + n.size) = n
  bytes : ∀ i, i < n.size → inN (bt s (p + 2 + i)) = true
  r0 : bt s (p + 2 + n.size) = 125
  r1 : bt s (p + 2 + n.size + 1) = 125
theorem at_field {pre t n z : ByteArray} {r : List Seg} (h : okN n) : AtField (pre ++ tpl ((t, n) :: r) z) (pre.size + t.size) n := by
  have e : pre ++ tpl ((t, n) :: r) z = (pre ++ t ++ lb2) ++ (n ++ (rb2 ++ tpl r z)) := by
    rw [tpl]; simp only [ByteArray.append_assoc]
  have hz : (pre ++ t ++ lb2).size = pre.size + t.size + 2 := by simp [ByteArray.size_append, lb_at.2.2]
  have b0 : ∀ k, bt (pre ++ tpl ((t, n) :: r) z) (pre.size + t.size + k) = bt (lb2 ++ (n ++ (rb2 ++ tpl r z))) k := fun k => by
    rw [show pre ++ tpl ((t, n) :: r) z = (pre ++ t) ++ (lb2 ++ (n ++ (rb2 ++ tpl r z))) by rw [tpl]; simp only [ByteArray.append_assoc], bt_app, ByteArray.size_append, if_neg (by omega)]
    congr 1; omega
  have b2 : ∀ k, bt (pre ++ tpl ((t, n) :: r) z) (pre.size + t.size + (2 + k)) = bt (n ++ (rb2 ++ tpl r z)) k := fun k => by
    rw [b0, bt_app, lb_at.2.2, if_neg (by omega)]
    congr 1; omega
  have b3 : ∀ k, bt (pre ++ tpl ((t, n) :: r) z) (pre.size + t.size + (2 + (n.size + k))) = bt (rb2 ++ tpl r z) k := fun k => by
    rw [b2, bt_app, if_neg (by omega)]
    congr 1; omega
  refine ⟨?_, ?_, ?_, ?_, ?_, ?_, ?_⟩
  · have := b0 0; rw [bt_app lb2, lb_at.2.2, if_pos (by omega)] at this; exact this.trans lb_at.1
  · have := b0 1; rw [bt_app lb2, lb_at.2.2, if_pos (by omega)] at this; exact this.trans lb_at.2.1
  · rw [e]; simp [ByteArray.size_append, lb_at.2.2, rb_at.2.2]; omega
  · rw [e, ← hz]; exact ext_mid _ _ _
  · intro i hi
    have := b2 i
    rw [bt_app n, if_pos hi] at this
    rw [show pre.size + t.size + 2 + i = pre.size + t.size + (2 + i) by omega, this]
    exact h.2.2 i hi
  · have := b3 0; rw [bt_app rb2, rb_at.2.2, if_pos (by omega)] at this
    rw [show pre.size + t.size + 2 + n.size = pre.size + t.size + (2 + (n.size + 0)) by omega]; exact this.trans rb_at.1
  · have := b3 1; rw [bt_app rb2, rb_at.2.2, if_pos (by omega)] at this
    rw [show pre.size + t.size + 2 + n.size + 1 = pre.size + t.size + (2 + (n.size + 1)) by omega]; exact this.trans rb_at.2.1
theorem field_third {s n : ByteArray} {p : Nat} (h : AtField s p n) (hn : 0 < n.size) : bt s (p + 2) ≠ 123 := by
  have := h.bytes 0 hn
  intro e
  rw [Nat.add_zero, e] at this
  simp [inN] at this
theorem text_at (pre t n z : ByteArray) (r : List Seg) : (pre ++ tpl ((t, n) :: r) z).extract pre.size (pre.size + t.size) = t := by
  rw [tpl]; exact ext_mid _ _ _
theorem next_pre (pre t n z : ByteArray) (r : List Seg) : pre ++ tpl ((t, n) :: r) z = (pre ++ (t ++ (lb2 ++ (n ++ rb2)))) ++ tpl r z := by
  rw [tpl]; simp only [ByteArray.append_assoc]
theorem next_size (pre t n : ByteArray) : (pre ++ (t ++ (lb2 ++ (n ++ rb2)))).size = pre.size + t.size + n.size + 4 := by
  simp [ByteArray.size_append, lb_at.2.2, rb_at.2.2]; omega
end Go.Proofs.YtghadhdmbcigpaaDoor
