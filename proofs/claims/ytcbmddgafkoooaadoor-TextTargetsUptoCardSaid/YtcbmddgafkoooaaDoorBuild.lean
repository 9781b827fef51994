/-
  DERIVED. The walks of strings.Builder's copyCheck, WriteString, String, of a builder that lies ahead of the rows that it is given. Conditions: Go's own limit. By an AI agent (after the shelf's own proofs, turned to this program).
-/
import Derived.Test.YtcbmddgafkoooaaDoorSpansWalk
import Derived.Lib.Builder
import Derived.Lib.AppendStr
import Derived.Lib.UnsafeStr
import Derived.Laws.Externs
namespace Go.Proofs.YtcbmddgafkoooaaDoor
open Go.RowKit

theorem bld_size : (Tryd.prog.info? 49).map (·.size) = some 2 := by kernel_rfl
theorem bld_lies : liesAt Tryd.prog Tryd.prog.depth 49 (2 / Tryd.prog.cellsOf 49) 0 49 1 = true := by kernel_rfl
theorem byte_info : (Tryd.prog.info? 5).map (fun i => (i.zero, i.size, i.bytes)) = some (some (.int .u8 0), 1, 1) := by kernel_rfl
theorem byte_cells : Tryd.prog.cellsOf 5 = 1 := by kernel_rfl

/-- a builder in block b; its bytes lie from block B on -/
def Bld (b B : Nat) (bs : List Value) (w : World) : Prop :=
  b < B ∧ ∃ p v, (p = .pointer none ∨ p = .pointer (some ⟨b, 0, none⟩)) ∧ w.heap[b]? = some (.cells #[p, v] 49 (0, 0)) ∧ w.ownsRow B 5 1 v bs.length bs

/-- nothing turned but block b and blocks from B on -/
def Keep (b B : Nat) (w w' : World) : Prop := Below b w w' ∧ ∀ k, k < B → k ≠ b → w'.heap[k]? = w.heap[k]?
theorem Keep.refl (b B : Nat) (w : World) : Keep b B w w := ⟨Below.refl _ _, fun _ _ _ => rfl⟩
theorem Keep.trans {b B : Nat} {a w w' : World} (h : Keep b B a w) (k : Keep b B w w') : Keep b B a w' := ⟨h.1.trans k.1, fun i hi hne => (k.2 i hi hne).trans (h.2 i hi hne)⟩
theorem Keep.alloc {b B : Nat} {a w : World} (h : Keep b B a w) (hB : B ≤ w.heap.size) (hb : b ≤ w.heap.size) (o : Obj) : Keep b B a (w.alloc o) :=
  ⟨h.1.alloc hb o, fun i hi hne => (Below.heap_alloc w o i (by omega)).trans (h.2 i hi hne)⟩
theorem Keep.cell {b B : Nat} {a w : World} (h : Keep b B a w) {p : Addr} (hp : p.block < B) (hne : p.block ≠ b) : w.cell? p = a.cell? p := World.cell?_of_block (h.2 p.block hp hne)
theorem Keep.frozen {b B : Nat} {a w : World} (h : Keep b B a w) {p : Addr} (hp : p.block < B) (hne : p.block ≠ b) : w.frozen? p = a.frozen? p := World.frozen?_of_block (h.2 p.block hp hne)
theorem Bld.alloc {b B : Nat} {bs : List Value} {w : World} (h : Bld b B bs w) (hB : B ≤ w.heap.size) (o : Obj) : Bld b B bs (w.alloc o) := by
  obtain ⟨hb, p, v, hp, hbk, hown⟩ := h
  exact ⟨hb, p, v, hp, (Below.heap_alloc w o b (by omega)).trans hbk, hown.alloc o⟩
theorem Bld.fresh {b B : Nat} {w : World} (hb : b < B) (h : w.heap[b]? = some (.cells #[.pointer none, .slice none 0 0] 49 (0, 0))) : Bld b B [] w :=
  ⟨hb, _, _, .inl rfl, h, World.ownsRow_nil _ _ _ _⟩

set_option maxHeartbeats 1000000 in
set_option maxRecDepth 100000 in
theorem copyCheck_used (b : Nat) (w : World) (h0 : w.cell? ⟨b, 0, none⟩ = some (.pointer (some ⟨b, 0, none⟩))) :
    Calls Tryd.prog 47 #[.pointer (some ⟨b, 0, none⟩)] w fun e w' => e = .returned (.tuple #[]) ∧ w' = w := by
  obtain ⟨j, hj, _⟩ := Option.map_eq_some_iff.1 bld_size
  go_enter Tryd.func47, Tryd.ntmps47
  go_wp2
  rw [Lib.run_neq_ptr_same w _ Tryd.underlying46 hj]
  go_wp2
  go_end0
  exact ⟨rfl, rfl⟩

set_option maxHeartbeats 1000000 in
set_option maxRecDepth 100000 in
theorem copyCheck_fresh (b : Nat) (w : World) (h0 : w.cell? ⟨b, 0, none⟩ = some (.pointer none)) (hsh : w.shape? b = some (49, 2)) (hfz : w.frozen? ⟨b, 0, none⟩ = false) :
    Calls Tryd.prog 47 #[.pointer (some ⟨b, 0, none⟩)] w fun e w' => e = .returned (.tuple #[]) ∧ w' = w.setCell ⟨b, 0, none⟩ (.pointer (some ⟨b, 0, none⟩)) := by
  obtain ⟨j, hj, hjs⟩ := Option.map_eq_some_iff.1 bld_size
  go_enter Tryd.func47, Tryd.ntmps47
  go_wp2
  rw [Lib.run_to_unsafe w ⟨b, 0, none⟩ Tryd.underlying46 Tryd.underlying87 hj (by rw [hjs]; decide) hsh (Nat.zero_lt_succ 1)]
  simp only [Result.andThen]
  rw [Oper.upon_value]
  go_wp2
  rw [run_callFunc_extern Tryd.func64 (by kernel_rfl) (by kernel_rfl) (by kernel_rfl) (e := Extern.AbiNoEscape.same) (by kernel_rfl)]
  rw [Lib.run_noEscape]
  simp only [Result.andThen]
  rw [Oper.upon_value]
  go_wp2
  rw [Lib.run_from_unsafe w ⟨b, 0, none⟩ Tryd.underlying87 Tryd.underlying46 hj hsh bld_lies]
  simp only [Result.andThen]
  rw [Oper.upon_value]
  go_wp2
  go_end0
  exact ⟨rfl, rfl⟩

/-- .. of either: behind it the builder is used -/
theorem copyCheck_any (b B : Nat) (bs : List Value) (w : World) (h : Bld b B bs w) :
    Calls Tryd.prog 47 #[.pointer (some ⟨b, 0, none⟩)] w fun e w' => e = .returned (.tuple #[]) ∧ w'.heap.size = w.heap.size ∧ Keep b B w w' ∧ (∃ v, w'.heap[b]? = some (.cells #[.pointer (some ⟨b, 0, none⟩), v] 49 (0, 0)) ∧ w'.ownsRow B 5 1 v bs.length bs) := by
  obtain ⟨hbB, p, v, hp, hbk, hown⟩ := h
  rcases hp with rfl | rfl
  · refine (copyCheck_fresh b w (by rw [Lib.cell_of_heap hbk]; rfl) (by simp [World.shape?, hbk]) (Lib.frozen_of_heap hbk 0)).mono ?_
    rintro e w' ⟨rfl, rfl⟩
    refine ⟨rfl, by simp [World.setCell], ⟨(Below.refl _ _).setCell (p := ⟨b, 0, none⟩) (Nat.le_refl _) _, fun k _ hne => Below.heap_setCell _ _ _ _ (fun e => hne (by simp [e]))⟩, v, ?_, ?_⟩
    · simp [World.setCell, Array.getElem?_modify, hbk]
    · exact ownsRow_setCell_below hown hbB _
  · refine (copyCheck_used b w (by rw [Lib.cell_of_heap hbk]; rfl)).mono ?_
    rintro e w' ⟨rfl, rfl⟩
    exact ⟨rfl, rfl, Keep.refl _ _ _, v, hbk, hown⟩
end Go.Proofs.YtcbmddgafkoooaaDoor
