/-
  DERIVED. Same values: the plain law; a value as an aggregate. Conditions: none. By an AI agent.
-/
import Derived.Test.YteichcpbfdjjkaaBsMem
namespace Go.Proofs.Yteichcpbfdjjkaa
open Go.RowKit

mutual
/-- the same value -/
def sameV : Vl → Vl → Bool
  | .mk k i t s l, .mk k' i' t' s' l' => (k == k') && (i == i') && (t == t') && decide (s = s') && sameL l l'
def sameL : List Vl → List Vl → Bool
  | [], [] => true
  | a :: l, b :: m => sameV a b && sameL l m
  | _, _ => false
end
theorem sameV_eq (a b : Vl) : sameV a b = ((a.kind == b.kind) && (a.int_ == b.int_) && (a.to_ == b.to_) && decide (a.text = b.text) && sameL a.items b.items) := by
  cases a; cases b; rw [sameV]; rfl
theorem sameL_len : ∀ {l m : List Vl}, sameL l m = true → l.length = m.length
  | [], [], _ => rfl
  | a :: l, b :: m, h => by
    rw [sameL, Bool.and_eq_true] at h
    simp only [List.length_cons, sameL_len h.2]
  | [], b :: m, h => by simp [sameL] at h
  | a :: l, [], h => by simp [sameL] at h
theorem sameL_at : ∀ {l m : List Vl} {k : Nat} {x y : Vl}, sameL l m = true → l[k]? = some x → m[k]? = some y → sameV x y = true
  | [], _, k, _, _, _, h1, _ => by simp at h1
  | _ :: _, [], k, _, _, _, _, h2 => by simp at h2
  | a :: l, b :: m, 0, x, y, h, h1, h2 => by
    rw [sameL, Bool.and_eq_true] at h
    obtain rfl : a = x := by simpa using h1
    obtain rfl : b = y := by simpa using h2
    exact h.1
  | a :: l, b :: m, k + 1, x, y, h, h1, h2 => by
    rw [sameL, Bool.and_eq_true] at h
    exact sameL_at h.2 (by simpa using h1) (by simpa using h2)
theorem sameL_of : ∀ {l m : List Vl}, l.length = m.length → (∀ (k : Nat) (x y : Vl), l[k]? = some x → m[k]? = some y → sameV x y = true) → sameL l m = true
  | [], [], _, _ => by rw [sameL]
  | a :: l, b :: m, h, H => by
    rw [sameL, Bool.and_eq_true]
    exact ⟨H 0 a b rfl rfl, sameL_of (by simpa using h) fun k x y h1 h2 => H (k + 1) x y (by rw [List.getElem?_cons_succ]; exact h1) (by rw [List.getElem?_cons_succ]; exact h2)⟩
  | [], b :: m, h, _ => by simp at h
  | a :: l, [], h, _ => by simp at h
mutual
theorem sameV_refl : ∀ a : Vl, sameV a a = true
  | .mk k i t s l => by rw [sameV, sameL_refl l, beq_self_eq_true, beq_self_eq_true, beq_self_eq_true, decide_eq_true (rfl : s = s)]; rfl
theorem sameL_refl : ∀ l : List Vl, sameL l l = true
  | [] => by rw [sameL]
  | a :: l => by rw [sameL, sameV_refl a, sameL_refl l]; rfl
end

theorem dec_toList (a b : ByteArray) : decide (a = b) = (a.toList == b.toList) := by
  cases h : a.toList == b.toList
  · refine decide_eq_false fun e => ?_
    rw [e, beq_self_eq_true] at h
    exact Bool.false_ne_true h.symm
  · have h := eq_of_beq h
    rw [ByteArray.toList_eq, ByteArray.toList_eq] at h
    exact decide_eq_true (by cases a with | mk x => cases b with | mk y => cases x; cases y; simp at h; rw [h])
/-- a value in memory, its items told apart -/
def AV (x : Vl × Value) : Value := .agg #[.int .i64 x.1.kind, .int .i64 x.1.int_, .int .i64 x.1.to_, .string x.1.text, x.2]

theorem RV.slice {w : World} {B : Nat} {v : Value} {l : List Vl} (h : RV w B v l) : ∃ A n c, v = .slice A n c := by
  obtain ⟨A, n, c, M, h1, h2, h3⟩ := h.open_
  exact ⟨A, n, c, h2⟩
end Go.Proofs.Yteichcpbfdjjkaa
