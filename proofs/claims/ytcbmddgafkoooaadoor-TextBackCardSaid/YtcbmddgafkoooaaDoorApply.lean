/-
  DERIVED. The walks of text.Apply and text.Inverse. Conditions: the lengths are within the form's reach. By an AI agent.
-/
import Derived.Test.YtcbmddgafkoooaaDoorComposeMath
import Derived.Test.YtcbmddgafkoooaaDoorEdited
import Derived.RegionTactic
namespace Go.Proofs.YtcbmddgafkoooaaDoor
open Go.RowKit

set_option maxHeartbeats 1000000 in
theorem apply_ok (s x : ByteArray) (f t : Int) (w : World) (hs : s.size ≤ 140737488351232) (hx : x.size ≤ 140737488351232) (h : edErr s x f t = 0) :
    Calls Tryd.prog 11 #[.string s, .agg #[.int .i64 f, .int .i64 t, .string x]] w fun e w' => e = .returned (.tuple #[.string (edS s x f t), .int .i64 0]) ∧ Below w.heap.size w w' := by
  obtain ⟨h0, h1, h2, h3, h4⟩ := edErr_ok h
  have H := Lib.hid h
  clear h h3
  go_enter Tryd.func11, Tryd.ntmps11
  go_wp2_with fail
  refine (checkEdit_any s x f t _ hs hx).mono ?_
  rintro e w1 ⟨rfl, hb1⟩
  rw [H.out]
  have c0 := hb1.cell (p := ⟨w.heap.size, 0, none⟩) (by simp)
  have c1 := hb1.cell (p := ⟨w.heap.size, 1, none⟩) (by simp)
  have c2 := hb1.cell (p := ⟨w.heap.size, 2, none⟩) (by simp)
  go_wp2_with fail
  refine (edited_any s x f t _ hs hx h0 h1 h2).mono ?_
  rintro e w2 ⟨rfl, hb2⟩
  go_wp2
  go_ret2
  exact ⟨rfl, (((Below.refl _ _).alloc (Nat.le_refl _) _).trans (hb1.mono (by simp))).trans (hb2.mono (by have := hb1.size; simp at this; omega))⟩

set_option maxHeartbeats 1000000 in
theorem apply_bad (s x : ByteArray) (f t : Int) (w : World) (hs : s.size ≤ 140737488351232) (hx : x.size ≤ 140737488351232) (h : edErr s x f t ≠ 0) :
    Calls Tryd.prog 11 #[.string s, .agg #[.int .i64 f, .int .i64 t, .string x]] w fun e w' => e = .returned (.tuple #[.string ⟨#[]⟩, .int .i64 (edErr s x f t)]) ∧ Below w.heap.size w w' := by
  have hn : ((edErr s x f t) == 0) = false := by simpa using h
  have hn' : ((edErr s x f t) != 0) = true := by simpa using h
  clear h
  go_enter Tryd.func11, Tryd.ntmps11
  go_wp2_with fail
  refine (checkEdit_any s x f t _ hs hx).mono ?_
  rintro e w1 ⟨rfl, hb1⟩
  go_wp2
  go_ret2
  exact ⟨rfl, (((Below.refl _ _).alloc (Nat.le_refl _) _).trans (hb1.mono (by simp)))⟩

set_option maxHeartbeats 1000000 in
theorem inverse_bad (s x : ByteArray) (f t : Int) (w : World) (hs : s.size ≤ 140737488351232) (hx : x.size ≤ 140737488351232) (h : edErr s x f t ≠ 0) :
    Calls Tryd.prog 12 #[.string s, .agg #[.int .i64 f, .int .i64 t, .string x]] w fun e w' => e = .returned (.tuple #[zeroEd, .int .i64 (edErr s x f t)]) ∧ Below w.heap.size w w' := by
  have hn : ((edErr s x f t) == 0) = false := by simpa using h
  have hn' : ((edErr s x f t) != 0) = true := by simpa using h
  clear h
  go_enter Tryd.func12, Tryd.ntmps12
  go_wp2_with fail
  refine (checkEdit_any s x f t _ hs hx).mono ?_
  rintro e w1 ⟨rfl, hb1⟩
  have d0 := hb1.cell (p := ⟨w.heap.size + 1, 0, none⟩) (by simp <;> omega)
  have d1 := hb1.cell (p := ⟨w.heap.size + 1, 1, none⟩) (by simp <;> omega)
  have d2 := hb1.cell (p := ⟨w.heap.size + 1, 2, none⟩) (by simp <;> omega)
  have f0 := hb1.frozen (p := ⟨w.heap.size + 1, 0, none⟩) (by simp <;> omega)
  have f1 := hb1.frozen (p := ⟨w.heap.size + 1, 1, none⟩) (by simp <;> omega)
  have f2 := hb1.frozen (p := ⟨w.heap.size + 1, 2, none⟩) (by simp <;> omega)
  go_wp2
  refine bodyPost_ret (v := .tuple #[.agg #[.int .i64 0, .int .i64 0, .string ⟨#[]⟩], .int .i64 (edErr s x f t)]) (by simp [results, Tryd.results12, go_sem, d0, d1, d2]) rfl ⟨rfl, ?_⟩
  exact (((((((Below.refl _ _).alloc (Nat.le_refl _) _).alloc (by simp) _).trans (hb1.mono (B' := w.heap.size) (by simp <;> omega))).setCell (by simp) _).setCell (by simp) _).setCell (by simp) _)

set_option maxHeartbeats 1000000 in
theorem inverse_ok (s x : ByteArray) (f t : Int) (w : World) (hs : s.size ≤ 140737488351232) (hx : x.size ≤ 140737488351232) (h : edErr s x f t = 0) :
    Calls Tryd.prog 12 #[.string s, .agg #[.int .i64 f, .int .i64 t, .string x]] w fun e w' => e = .returned (.tuple #[.agg #[.int .i64 f, .int .i64 (f + x.size), .string (s.extract f.toNat t.toNat)], .int .i64 0]) ∧ Below w.heap.size w w' := by
  obtain ⟨h0, h1, h2, h3, h4⟩ := edErr_ok h
  have H := Lib.hid h
  clear h h3
  obtain ⟨a, rfl⟩ := Int.eq_ofNat_of_zero_le h0
  obtain ⟨b, rfl⟩ := Int.eq_ofNat_of_zero_le (Int.le_trans h0 h1)
  go_enter Tryd.func12, Tryd.ntmps12
  go_wp2_with fail
  refine (checkEdit_any s x a b _ hs hx).mono ?_
  rintro e w1 ⟨rfl, hb1⟩
  rw [H.out]
  have c0 := hb1.cell (p := ⟨w.heap.size, 0, none⟩) (by simp <;> omega)
  have c1 := hb1.cell (p := ⟨w.heap.size, 1, none⟩) (by simp <;> omega)
  have c2 := hb1.cell (p := ⟨w.heap.size, 2, none⟩) (by simp <;> omega)
  have d0 := hb1.cell (p := ⟨w.heap.size + 1, 0, none⟩) (by simp <;> omega)
  have d1 := hb1.cell (p := ⟨w.heap.size + 1, 1, none⟩) (by simp <;> omega)
  have d2 := hb1.cell (p := ⟨w.heap.size + 1, 2, none⟩) (by simp <;> omega)
  have f0 := hb1.frozen (p := ⟨w.heap.size + 1, 0, none⟩) (by simp <;> omega)
  have f1 := hb1.frozen (p := ⟨w.heap.size + 1, 1, none⟩) (by simp <;> omega)
  have f2 := hb1.frozen (p := ⟨w.heap.size + 1, 2, none⟩) (by simp <;> omega)
  go_wp2
  go_region
  go_wp2
  refine bodyPost_ret (v := .tuple #[.agg #[.int .i64 (a : Int), .int .i64 ((a : Int) + x.size), .string (s.extract a b)], .int .i64 0]) (by simp [results, Tryd.results12, go_sem, d0, d1, d2]) rfl ⟨rfl, ?_⟩
  exact (((((((Below.refl _ _).alloc (Nat.le_refl _) _).alloc (by simp) _).trans (hb1.mono (B' := w.heap.size) (by simp <;> omega))).drew.setCell (by simp) _).setCell (by simp) _).setCell (by simp) _)

end Go.Proofs.YtcbmddgafkoooaaDoor
