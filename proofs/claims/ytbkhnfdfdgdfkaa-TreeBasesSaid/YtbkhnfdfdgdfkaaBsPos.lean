/-
  DERIVED. Where a block with an id is in a base: the walks of florref1.at, tree.index and slices.BinarySearchFunc. Conditions: sizes; ids that rise. By an AI agent.
-/
import Derived.Test.YtbkhnfdfdgdfkaaBsMem
import Derived.Test.YtbkhnfdfdgdfkaaChecked
import Derived.Deep.LoopGhost
import Derived.Deep.DeepCutAuto
import Derived.Deep.QuietTactic
import Derived.BigQuiet
import Derived.IntWalk
namespace Go.Proofs.Ytbkhnfdfdgdfkaa
open Go.RowKit

/-- the place of the first block with an id, from a place on -/
def posFrom : List Bl → Int → Nat → Int
  | [], _, _ => -1
  | b :: l, id, k => if b.id = id then (k : Int) else posFrom l id (k + 1)
/-- the place of the first block with an id; -1: there is none -/
def posOf (l : List Bl) (id : Int) : Int := posFrom l id 0
theorem posFrom_at {l : List Bl} {k : Nat} {x : Bl} (h : l[k]? = some x) (id : Int) : posFrom (l.drop k) id k = if x.id = id then (k : Int) else posFrom (l.drop (k + 1)) id (k + 1) := by
  obtain ⟨hk, e⟩ := List.getElem?_eq_some_iff.1 h
  rw [List.drop_eq_getElem_cons hk, posFrom, e]
theorem posFrom_spec : ∀ (l : List Bl) (id : Int) (k : Nat), (posFrom l id k = -1 ∧ ∀ b ∈ l, b.id ≠ id) ∨ ∃ (i : Nat) (b : Bl), posFrom l id k = ((k + i : Nat) : Int) ∧ l[i]? = some b ∧ b.id = id ∧ ∀ (j : Nat) (c : Bl), j < i → l[j]? = some c → c.id ≠ id
  | [], id, k => .inl ⟨rfl, fun b hb => by cases hb⟩
  | b :: l, id, k => by
    rw [posFrom]
    by_cases h : b.id = id
    · rw [if_pos h]
      exact .inr ⟨0, b, rfl, rfl, h, fun j c hj => absurd hj (by omega)⟩
    · rw [if_neg h]
      rcases posFrom_spec l id (k + 1) with ⟨h1, h2⟩ | ⟨i, c, h1, h2, h3, h4⟩
      · exact .inl ⟨h1, fun x hx => by
          rcases List.mem_cons.1 hx with rfl | hx
          · exact h
          · exact h2 x hx⟩
      · refine .inr ⟨i + 1, c, by rw [h1]; congr 1; omega, h2, h3, fun j d hj hd => ?_⟩
        rcases j with _ | j
        · obtain rfl : b = d := by simpa using hd
          exact h
        · exact h4 j d (by omega) (by simpa using hd)
theorem posOf_spec (l : List Bl) (id : Int) : (posOf l id = -1 ∧ ∀ b ∈ l, b.id ≠ id) ∨ ∃ (i : Nat) (b : Bl), posOf l id = (i : Int) ∧ l[i]? = some b ∧ b.id = id ∧ ∀ (j : Nat) (c : Bl), j < i → l[j]? = some c → c.id ≠ id := by
  rcases posFrom_spec l id 0 with h | ⟨i, b, h1, h2⟩
  · exact .inl h
  · exact .inr ⟨i, b, by rw [posOf, h1]; congr 1; omega, h2⟩
/-- ids that rise, the first at 0 -/
def Rise (l : List Bl) : Prop := ∀ (i j : Nat) (x y : Bl), i < j → l[i]? = some x → l[j]? = some y → x.id < y.id
/-- ids within their bounds -/
def IdsIn (l : List Bl) : Prop := ∀ x ∈ l, 0 ≤ x.id ∧ x.id ≤ 1000000
theorem posOf_of {l : List Bl} (h : Rise l) {i : Nat} {b : Bl} (hb : l[i]? = some b) : posOf l b.id = (i : Int) := by
  rcases posOf_spec l b.id with ⟨_, h2⟩ | ⟨j, c, h1, h2, h3, h4⟩
  · exact absurd rfl (h2 b (List.mem_of_getElem? hb))
  · rcases Nat.lt_trichotomy i j with g | g | g
    · exact absurd rfl (h4 i b g hb)
    · rw [h1, g]
    · have := h j i c b g h2 hb
      omega

set_option maxHeartbeats 1000000 in
/-- the reference's at -/
theorem at_any (l : List Bl) (A : Option Addr) (n c : Nat) (id : Int) (w : World) (B : Nat) (hB : B ≤ w.heap.size) (h : RB w B (.slice A n c) l) :
    Calls Try.prog 27 #[.slice A n c, .int .i64 id] w fun e w' => e = .returned (.int .i64 (posOf l id)) ∧ Below w.heap.size w w' := by
  obtain ⟨V, hV⟩ : ∃ V, V = posOf l id := ⟨_, rfl⟩
  rw [← hV]
  have HV : Hid (V = posFrom (l.drop 0) id 0) := hV
  have HN := Lib.hid h.len
  have H := Lib.hid h
  clear h hV
  go_enter Try.func27, Try.ntmps27
  go_wp2_with fail
  go_loopg [9] n (fun gg s9 wr => ∃ k : Nat, k + gg = n ∧ s9 = .int .i64 (k : Int) ∧ Hid (V = posFrom (l.drop k) id k) ∧ Hid (Below w.heap.size w wr))
  case atStart => exact ⟨0, by omega, rfl, HV, Below.refl _ _⟩
  case round =>
    obtain ⟨k, hkg, rfl, hno, hbel⟩ := hrel
    have hbg : n * 80 ≤ 140737488351232 := HN.out.2.2
    by_cases hk : k < n
    · obtain ⟨x, hx⟩ : ∃ x, l[k]? = some x := ⟨_, List.getElem?_eq_getElem (by have := HN.out.1; omega)⟩
      obtain ⟨b, off, Ak, nk, ck, Ap, np, cp, rfl, hbb, g0, g1, g2, g3, g4, _, _⟩ := (H.out.below (hbel.out.mono hB)).at_ hx
      have hst := hno.out.trans (posFrom_at hx id)
      have j0 : (0 : Int) ≤ (k : Int) := by omega
      have j1 : (k : Int) < (n : Int) := by omega
      clear hx
      have HAL := Lib.hid (hbel.out.alloc hbel.out.size (.cells #[.int .i64 x.id, .int .i64 x.parent, .slice Ak nk ck, .string x.text, .slice Ap np cp] 30))
      by_cases he : x.id = id
      · have HV := Lib.hid (hst.trans (if_pos he))
        have he' : (x.id == id) = true := by simpa using he
        clear hst he
        go_wp2_with fail
        go_ret
        exact ⟨by rw [HV.out]; rfl, HAL.out⟩
      · have HV := Lib.hid (hst.trans (if_neg he))
        have he' : (x.id == id) = false := by simpa using he
        clear hst he
        go_wp2_with fail
        go_roundg (n - (k + 1))
        case measure => omega
        case rel => exact ⟨k + 1, by omega, by go_num, HV, HAL⟩
    · obtain rfl : k = n := by omega
      have HZ : Hid (V = -1) := hno.out.trans (by rw [List.drop_of_length_le (by rw [← HN.out.1]; exact Nat.le_refl _)]; rfl)
      go_wp2_with fail
      go_ret
      exact ⟨by rw [HZ.out]; rfl, hbel.out⟩
end Go.Proofs.Ytbkhnfdfdgdfkaa
