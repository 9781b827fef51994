/-
  DERIVED. An operation stored whole in a block of the call's own. Conditions: none.
  By an AI agent.
-/
import Derived.Test.YtmkicfjcgbfaaaaGreatTa15
import Derived.Test.YtmkicfjcgbfaaaaGreatTa09
namespace Go.Proofs.YtmkicfjcgbfaaaaGreat
open Go.RowKit

theorem Blk.setAll {t : TypeId} {g : Nat} : ∀ (vs : List Value) (o : Nat) (w : World) (cs : Array Value), Blk w g t cs → o + vs.length ≤ cs.size → Blk (w.setCells g o vs) g t (cs.toList.take o ++ vs ++ cs.toList.drop (o + vs.length)).toArray
  | [], o, w, cs, h, _ => by
    rw [List.append_nil, List.length_nil, Nat.add_zero, List.take_append_drop]
    exact h
  | v :: r, o, w, cs, h, hl => by
    rw [List.length_cons] at hl
    have h1 := Blk.setAll r (o + 1) (w.setCell ⟨g, o, none⟩ v) _ (h.set_ o v) (by rw [Array.size_setIfInBounds]; omega)
    have ho : o < cs.toList.length := by rw [Array.length_toList]; omega
    have e1 : (cs.setIfInBounds o v).toList.take (o + 1) = cs.toList.take o ++ [v] := by
      rw [Array.toList_setIfInBounds, List.take_set, List.take_succ_eq_append_getElem ho, List.set_append_right _ _ (by rw [List.length_take]; omega)]
      rw [List.length_take, Nat.min_eq_left (by omega), Nat.sub_self]; rfl
    have e2 : (cs.setIfInBounds o v).toList.drop (o + 1 + r.length) = cs.toList.drop (o + (v :: r).length) := by
      rw [Array.toList_setIfInBounds, List.drop_set_of_lt (by omega), List.length_cons]
      congr 1; omega
    rw [e1, e2] at h1
    have e3 : cs.toList.take o ++ [v] ++ r ++ cs.toList.drop (o + (v :: r).length) = cs.toList.take o ++ (v :: r) ++ cs.toList.drop (o + (v :: r).length) := by simp
    rw [e3] at h1
    exact h1
theorem Blk.whole {t : TypeId} {g : Nat} {w : World} {cs : Array Value} (vs : List Value) (h : Blk w g t cs) (hl : vs.length = cs.size) : Blk (w.setCells g 0 vs) g t vs.toArray := by
  have := Blk.setAll vs 0 w cs h (by omega)
  rw [List.take_zero, List.nil_append, List.drop_of_length_le (by rw [Array.length_toList]; omega), List.append_nil] at this
  exact this
theorem Below.setCells {B : Nat} {a : World} {g : Nat} (hg : B ≤ g) : ∀ (vs : List Value) (o : Nat) (w : World), Below B a w → Below B a (w.setCells g o vs)
  | [], _, _, h => h
  | v :: r, o, _, h => Below.setCells hg r (o + 1) _ (h.setCell (p := ⟨g, o, none⟩) hg v)
/-- the cells of an operation -/
theorem op_cells {W : World} {g : Nat} {t : TypeId} {a0 a1 a2 a3 a4 a5 a6 a7 a8 a9 a10 a11 a12 : Value} (h : Blk W g t #[a0, a1, a2, a3, a4, a5, a6, a7, a8, a9, a10, a11, a12]) :
    W.cell? ⟨g, 0, none⟩ = some a0 ∧ W.cell? ⟨g, 1, none⟩ = some a1 ∧ W.cell? ⟨g, 2, none⟩ = some a2 ∧ W.cell? ⟨g, 3, none⟩ = some a3 ∧ W.cell? ⟨g, 4, none⟩ = some a4 ∧ W.cell? ⟨g, 5, none⟩ = some a5 ∧ W.cell? ⟨g, 6, none⟩ = some a6 ∧ W.cell? ⟨g, 7, none⟩ = some a7 ∧ W.cell? ⟨g, 8, none⟩ = some a8 ∧ W.cell? ⟨g, 9, none⟩ = some a9 ∧ W.cell? ⟨g, 10, none⟩ = some a10 ∧ W.cell? ⟨g, 11, none⟩ = some a11 ∧ W.cell? ⟨g, 12, none⟩ = some a12 :=
  ⟨h.cell 0, h.cell 1, h.cell 2, h.cell 3, h.cell 4, h.cell 5, h.cell 6, h.cell 7, h.cell 8, h.cell 9, h.cell 10, h.cell 11, h.cell 12⟩
theorem op_some {W : World} {g : Nat} {t : TypeId} {cs : Array Value} (h : Blk W g t cs) (hs : cs.size = 13) :
    (W.cell? ⟨g, 0, none⟩).isSome = true ∧ (W.cell? ⟨g, 12, none⟩).isSome = true := by
  rw [h.cell, h.cell, Array.getElem?_eq_getElem (by omega), Array.getElem?_eq_getElem (by omega)]
  exact ⟨rfl, rfl⟩
/-- an operation put into its block -/
def putO (W : World) (g : Nat) (a0 a1 a2 a3 a4 a5 a6 a7 a8 a9 a10 a11 a12 : Value) : World :=
  ((((((((((((W.setCell ⟨g, 0, none⟩ a0).setCell ⟨g, 1, none⟩ a1).setCell ⟨g, 2, none⟩ a2).setCell ⟨g, 3, none⟩ a3).setCell ⟨g, 4, none⟩ a4).setCell ⟨g, 5, none⟩ a5).setCell ⟨g, 6, none⟩ a6).setCell ⟨g, 7, none⟩ a7).setCell ⟨g, 8, none⟩ a8).setCell ⟨g, 9, none⟩ a9).setCell ⟨g, 10, none⟩ a10).setCell ⟨g, 11, none⟩ a11).setCell ⟨g, 12, none⟩ a12
theorem putO_eq (W : World) (g : Nat) (a0 a1 a2 a3 a4 a5 a6 a7 a8 a9 a10 a11 a12 : Value) : putO W g a0 a1 a2 a3 a4 a5 a6 a7 a8 a9 a10 a11 a12 = W.setCells g 0 [a0, a1, a2, a3, a4, a5, a6, a7, a8, a9, a10, a11, a12] := rfl
theorem putO_blk {W : World} {g : Nat} {t : TypeId} {cs : Array Value} (a0 a1 a2 a3 a4 a5 a6 a7 a8 a9 a10 a11 a12 : Value) (h : Blk W g t cs) (hs : cs.size = 13) : Blk (putO W g a0 a1 a2 a3 a4 a5 a6 a7 a8 a9 a10 a11 a12) g t #[a0, a1, a2, a3, a4, a5, a6, a7, a8, a9, a10, a11, a12] := by
  rw [putO_eq]
  exact h.whole [a0, a1, a2, a3, a4, a5, a6, a7, a8, a9, a10, a11, a12] (by rw [hs]; rfl)
theorem putO_below {W a : World} {B g : Nat} (a0 a1 a2 a3 a4 a5 a6 a7 a8 a9 a10 a11 a12 : Value) (h : Below B a W) (hg : B ≤ g) : Below B a (putO W g a0 a1 a2 a3 a4 a5 a6 a7 a8 a9 a10 a11 a12) := by
  rw [putO_eq]
  exact Below.setCells hg _ _ _ h
theorem putO_size (W : World) (g : Nat) (a0 a1 a2 a3 a4 a5 a6 a7 a8 a9 a10 a11 a12 : Value) : (putO W g a0 a1 a2 a3 a4 a5 a6 a7 a8 a9 a10 a11 a12).heap.size = W.heap.size := by
  rw [putO_eq, setCells_size]
theorem putO_cell (W : World) (g : Nat) (a0 a1 a2 a3 a4 a5 a6 a7 a8 a9 a10 a11 a12 : Value) (p : Addr) (hp : p.block ≠ g) : (putO W g a0 a1 a2 a3 a4 a5 a6 a7 a8 a9 a10 a11 a12).cell? p = W.cell? p := by
  rw [putO_eq]
  exact World.cell?_of_block (setCells_other _ _ _ _ _ hp)
end Go.Proofs.YtmkicfjcgbfaaaaGreat
