/-
  DERIVED. The walk of florlaw1.TextMarks: it returns true. Conditions: the lengths are within the form's reach. By an AI agent.
-/
import Derived.Test.YtnkmmlancippmaaMarksRef
import Derived.Test.YtnkmmlancippmaaEqualInts
import Derived.Deep.RegionHeld3
namespace Go.Proofs.Ytnkmmlancippmaa
open Go.RowKit

theorem shift_reads (A : Option Addr) (len cap : Nat) (zs : List Int) (f t : Int) (s : ByteArray) (b : Bool) (w : World) (B : Nat) (hr : Reads w B 1 A len (zs.map (.int .i64))) (hB : B ≤ w.heap.size)
    (hl : len * 8 ≤ 140737488351232) (hs : s.size ≤ 140737488351232) (h4 : t ≤ 9223372036854775807) :
    Calls Try.prog 6 #[.slice A len cap, .agg #[.int .i64 f, .int .i64 t, .string s], .bool b] w fun e w' =>
      ∃ A' c', e = .returned (.slice A' len c') ∧ Reads w' w'.heap.size 1 A' len ((shfs f t s.size b zs).map (.int .i64)) ∧ Below w.heap.size w w' :=
  (shift_any A len cap zs f t s b w B hr hB hl hs h4).mono fun e w' ⟨v, he, ho, hb⟩ => by
    obtain ⟨A', c', rfl, h⟩ := own_reads ho
    exact ⟨A', c', he, h, hb⟩

theorem shifted_ref_reads (A : Option Addr) (len cap : Nat) (zs : List Int) (f t : Int) (s : ByteArray) (b : Bool) (w : World) (B : Nat) (hr : Reads w B 1 A len (zs.map (.int .i64))) (hB : B ≤ w.heap.size)
    (hl : len * 8 ≤ 140737488351232) (hs : s.size ≤ 140737488351232) (h4 : t ≤ 9223372036854775807) :
    Calls Try.prog 7 #[.slice A len cap, .agg #[.int .i64 f, .int .i64 t, .string s], .bool b] w fun e w' =>
      ∃ A' c', e = .returned (.slice A' len c') ∧ Reads w' w'.heap.size 1 A' len ((shfs f t s.size b zs).map (.int .i64)) ∧ Below w.heap.size w w' :=
  (shifted_ref_any A len cap zs f t s b w B hr hB hl hs h4).mono fun e w' ⟨v, he, ho, hb⟩ => by
    obtain ⟨A', c', rfl, h⟩ := own_reads ho
    exact ⟨A', c', he, h, hb⟩

set_option maxHeartbeats 2000000 in
theorem marks_any (A : Option Addr) (len cap : Nat) (zs : List Int) (f t : Int) (s : ByteArray) (b : Bool) (w : World) (hr : Reads w w.heap.size 1 A len (zs.map (.int .i64)))
    (hl : len * 8 ≤ 140737488351232) (hs : s.size ≤ 140737488351232) (h4 : t ≤ 9223372036854775807) :
    Calls Try.prog 3 #[.slice A len cap, .agg #[.int .i64 f, .int .i64 t, .string s], .bool b] w fun e w' => e = .returned (.bool true) ∧ Below w.heap.size w w' := by
  go_enter Try.func3, Try.ntmps3
  go_wp2
  go_region_held3 (fun w' => w'.cell? ⟨w.heap.size, 0, none⟩ = some (.int .i64 f) ∧ w'.cell? ⟨w.heap.size, 1, none⟩ = some (.int .i64 t) ∧ w'.cell? ⟨w.heap.size, 2, none⟩ = some (.string s))
    (first | go_keep | exact ⟨(hb3.cell (by simp; omega)).trans ((hb2.cell (by simp; omega)).trans ((hb1.cell (by simp)).trans (by simp))), (hb3.cell (by simp; omega)).trans ((hb2.cell (by simp; omega)).trans ((hb1.cell (by simp)).trans (by simp))), (hb3.cell (by simp; omega)).trans ((hb2.cell (by simp; omega)).trans ((hb1.cell (by simp)).trans (by simp)))⟩ | exact ⟨(hb2.cell (by simp; omega)).trans ((hb1.cell (by simp)).trans (by simp)), (hb2.cell (by simp; omega)).trans ((hb1.cell (by simp)).trans (by simp)), (hb2.cell (by simp; omega)).trans ((hb1.cell (by simp)).trans (by simp))⟩ | exact ⟨(hb1.cell (by simp)).trans (by simp), (hb1.cell (by simp)).trans (by simp), (hb1.cell (by simp)).trans (by simp)⟩)
    (first
      | (go_at_call 6; refine (shift_reads A len cap zs f t s b _ w.heap.size ((hr.alloc (Nat.le_refl _) _).drew) (by simp) hl hs h4).mono ?_; rintro e w1 ⟨A1, d1, rfl, hr1, hb1⟩; have hz1 : w.heap.size + 1 ≤ w1.heap.size := by have := hb1.size; simpa using this)
      | (go_at_call 7; refine (shifted_ref_reads A len cap zs f t s b _ w.heap.size ?_ ?_ hl hs h4).mono ?_; exact (((hr.alloc (Nat.le_refl _) _).drew).keep (fun p hp => hb1.cell (by simp; omega))); omega; rintro e w2 ⟨A2, d2, rfl, hr2, hb2⟩; have hz2 := hb2.size)
      | (go_at_call 5; refine (equal_ints A1 A2 len d1 d2 (shfs f t s.size b zs) _ w2.heap.size ?_ hr2 (Nat.le_refl _) (by omega)).mono ?_; exact (hr1.below hb2).more hz2; rintro e w3 ⟨rfl, hb3⟩))
  go_wp2
  go_ret
  exact ⟨rfl, ((((Below.refl _ _).alloc (Nat.le_refl _) _).drew.trans (hb1.mono (B' := w.heap.size) (by simp))).trans (hb2.mono (by omega))).trans (hb3.mono (by omega))⟩
end Go.Proofs.Ytnkmmlancippmaa
