/-
  DERIVED. Plain law: a list of edits, one after the other. Conditions: none. By an AI agent.
-/
import Derived.Test.YtcbmddgafkoooaaDoorEditMath
import Derived.Test.YtcbmddgafkoooaaDoorDiffMath
namespace Go.Proofs.YtcbmddgafkoooaaDoor
open Go.RowKit

structure Ed where
  from_ : Int
  to_ : Int
  with_ : ByteArray

def edCell (e : Ed) : List Value := [.int .i64 e.from_, .int .i64 e.to_, .string e.with_]
def edCells (es : List Ed) : List Value := es.flatMap edCell
def errOf (s : ByteArray) (e : Ed) : Int := edErr s e.with_ e.from_ e.to_
def madeOf (s : ByteArray) (e : Ed) : ByteArray := edS s e.with_ e.from_ e.to_

theorem edCells_len (es : List Ed) : (edCells es).length = es.length * 3 := by
  induction es with
  | nil => rfl
  | cons e es ih => simp only [edCells, List.flatMap_cons, List.length_append, List.length_cons] at *; rw [ih]; simp [edCell]; omega
theorem edCells_at {es : List Ed} {k : Nat} {e : Ed} (h : es[k]? = some e) : (edCells es)[k * 3]? = some (.int .i64 e.from_) ∧ (edCells es)[k * 3 + 1]? = some (.int .i64 e.to_) ∧ (edCells es)[k * 3 + 2]? = some (.string e.with_) := by
  induction es generalizing k with
  | nil => simp at h
  | cons a es ih =>
    cases k with
    | zero =>
      simp at h
      subst h
      simp [edCells, edCell]
    | succ k =>
      have := ih (k := k) (by simpa using h)
      simp only [edCells, List.flatMap_cons] at *
      have e0 : ∀ j, (edCell a ++ List.flatMap edCell es)[(k + 1) * 3 + j]? = (List.flatMap edCell es)[k * 3 + j]? := fun j => by
        rw [List.getElem?_append_right (by simp [edCell]; omega)]
        congr 1
        simp [edCell]; omega
      exact ⟨(e0 0).trans this.1, (e0 1).trans this.2.1, (e0 2).trans this.2.2⟩

/-- the first error, and what is made if there is none -/
def compE : ByteArray → List Ed → Int
  | _, [] => 0
  | s, e :: r => if errOf s e = 0 then compE (madeOf s e) r else errOf s e
def compS : ByteArray → List Ed → ByteArray
  | s, [] => s
  | s, e :: r => if errOf s e = 0 then compS (madeOf s e) r else s
theorem drop_at {α : Type} {l : List α} {k : Nat} {x : α} (h : l[k]? = some x) : l.drop k = x :: l.drop (k + 1) := by
  have hk : k < l.length := by
    rcases Nat.lt_or_ge k l.length with h' | h'
    · exact h'
    · rw [List.getElem?_eq_none h'] at h; cases h
  rw [List.drop_eq_getElem_cons hk]
  rw [List.getElem?_eq_getElem hk] at h
  injection h with h
  rw [h]
theorem comp_good {s : ByteArray} {es : List Ed} {k : Nat} {e : Ed} (h : es[k]? = some e) (h0 : errOf s e = 0) : compE s (es.drop k) = compE (madeOf s e) (es.drop (k + 1)) ∧ compS s (es.drop k) = compS (madeOf s e) (es.drop (k + 1)) := by
  rw [drop_at h]; simp [compE, compS, h0]
theorem comp_bad {s : ByteArray} {es : List Ed} {k : Nat} {e : Ed} (h : es[k]? = some e) (h0 : errOf s e ≠ 0) : compE s (es.drop k) = errOf s e := by
  rw [drop_at h]; simp [compE, h0]
theorem made_size {s : ByteArray} {e : Ed} (h : errOf s e = 0) : (madeOf s e).size ≤ 2000 := by
  have g := edErr_ok h
  have := edS_size g.1 g.2.1 g.2.2.1 (x := e.with_)
  unfold madeOf
  omega
def compW (s : ByteArray) (es : List Ed) : Int := if 100 < es.length then 4 else compE s es
def zeroEd : Value := .agg #[.int .i64 0, .int .i64 0, .string ⟨#[]⟩]

end Go.Proofs.YtcbmddgafkoooaaDoor
