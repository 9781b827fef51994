/-
  DERIVED. Plain law: properties as a text, line by line; what a list without an error is. Conditions: none. By an AI agent.
-/
import Derived.Test.YtbdcimakdiegnaaGreatDoorVa18
namespace Go.Proofs.YtbdcimakdiegnaaGreatDoor
open Go.RowKit

theorem prs_right : ∀ {l : List Pr} {p : Option ByteArray}, prsErr p l = 0 → ∀ x ∈ l, vErr x.val = 0 ∧ nmErr x.name = 0
  | [], _, _, x, hx => by cases hx
  | a :: l, p, h, x, hx => by
    rw [prsErr] at h
    by_cases h1 : nmErr a.name ≠ 0
    · rw [if_pos h1] at h; exact absurd h h1
    rw [if_neg h1] at h
    by_cases h2 : lePrev p a.name = true
    · rw [if_pos h2] at h; exact absurd h (by decide)
    rw [if_neg h2] at h
    by_cases h3 : (a.val.kind == 0) = true
    · rw [if_pos h3] at h; exact absurd h (by decide)
    rw [if_neg h3] at h
    by_cases h4 : vErr a.val ≠ 0
    · rw [if_pos h4] at h; exact absurd h h4
    rw [if_neg h4] at h
    rcases List.mem_cons.1 hx with rfl | hx
    · exact ⟨Decidable.of_not_not h4, Decidable.of_not_not h1⟩
    · exact prs_right h x hx
theorem cp_right {l : List Pr} (h : cpErr l = 0) : l.length ≤ 20 ∧ ∀ x ∈ l, vErr x.val = 0 ∧ nmErr x.name = 0 := by
  unfold cpErr at h
  by_cases h1 : 20 < l.length
  · rw [if_pos h1] at h; exact absurd h (by decide)
  · rw [if_neg h1] at h; exact ⟨by omega, prs_right h⟩
theorem nm_right {s : ByteArray} (h : nmErr s = 0) : s.size ≤ 32 := by
  unfold nmErr at h
  by_cases e : nmOk s = true
  · unfold nmOk at e
    simp only [Bool.and_eq_true, decide_eq_true_eq] at e
    omega
  · rw [if_neg e] at h; exact absurd h (by decide)
/-- a property's line as a string -/
noncomputable def lnS (p : Pr) : ByteArray := p.name ++ ⟨#[58, 58, 32]⟩ ++ wrV p.val ++ ⟨#[10]⟩
/-- properties as a string -/
noncomputable def ptS : List Pr → ByteArray
  | [] => ⟨#[]⟩
  | p :: l => lnS p ++ ptS l
theorem ptS_list : ∀ l : List Pr, (ptS l).data.toList = ptL l
  | [] => rfl
  | p :: l => by
    rw [ptS, ptL, ByteArray.data_append, Array.toList_append, ptS_list l]
    unfold lnS lineL
    simp only [ByteArray.data_append, Array.toList_append, List.append_assoc, List.cons_append, List.nil_append]
    rfl
theorem ptS_snoc : ∀ (l : List Pr) (x : Pr), ptS (l ++ [x]) = ptS l ++ lnS x
  | [], x => by
    show lnS x ++ ⟨#[]⟩ = ⟨#[]⟩ ++ lnS x
    apply ByteArray.ext
    simp
  | p :: l, x => by
    rw [List.cons_append, ptS, ptS, ptS_snoc l x]
    apply ByteArray.ext
    simp
theorem ptS_take {l : List Pr} {k : Nat} {x : Pr} (h : l[k]? = some x) : ptS (l.take (k + 1)) = ptS (l.take k) ++ lnS x := by
  rw [List.take_add_one, h]
  exact ptS_snoc _ _
theorem strCells_two (a b : ByteArray) : Lib.strCells (a ++ b) = Lib.strCells a ++ Lib.strCells b := by
  simp [Lib.strCells]
end Go.Proofs.YtbdcimakdiegnaaGreatDoor
