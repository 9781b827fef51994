/-
  DERIVED. The walk of florref1.ShiftedMarks: the marks where the edit puts them. Conditions: the lengths are within the form's reach. By an AI agent.
-/
import Derived.Test.YtnkmmlancippmaaMarksShift
namespace Go.Proofs.Ytnkmmlancippmaa
open Go.RowKit

set_option maxHeartbeats 4000000 in
theorem shifted_ref_idle1 (A : Option Addr) (len cap : Nat) (zs : List Int) (f t : Int) (s : ByteArray) (b : Bool) (w : World) (B : Nat) (hr : Reads w B 1 A len (zs.map (.int .i64))) (hB : B ≤ w.heap.size)
    (hl : len * 8 ≤ 140737488351232) (hs : s.size ≤ 140737488351232) (h4 : t ≤ 9223372036854775807) (g2 : f < 0) :
    Calls Try.prog 7 #[.slice A len cap, .agg #[.int .i64 f, .int .i64 t, .string s], .bool b] w fun e w' =>
      ∃ v, e = .returned v ∧ w'.ownsRow w.heap.size 3 1 v len ((shfs f t s.size b zs).map (.int .i64)) ∧ Below w.heap.size w w' := by
  obtain ⟨i0, hi, hz0, hz1, hz2⟩ := info_parts int_info
  have hlen : zs.length = len := by have := hr.1; simpa using this
  have HL := Lib.hid hlen
  clear hlen
  go_enter Try.func7, Try.ntmps7
  go_wp2
  go_loopw [7, 23] (fun v i wr => ∃ k : Nat, k ≤ len ∧ i = .int .i64 k ∧ wr.ownsRow (w.heap.size + 1) 3 1 v k ((shfs f t s.size b (zs.take k)).map (.int .i64)) ∧ Below w.heap.size w wr ∧ w.heap.size < wr.heap.size ∧
      wr.cell? ⟨w.heap.size, 0, none⟩ = some (.int .i64 f) ∧ wr.cell? ⟨w.heap.size, 1, none⟩ = some (.int .i64 t) ∧ wr.cell? ⟨w.heap.size, 2, none⟩ = some (.string s)) (fun _ i _ => len - (intOf i).toNat)
  case atStart => exact ⟨0, Nat.zero_le _, rfl, World.ownsRow_nil _ _ _ _, (Below.refl _ _).alloc (Nat.le_refl _) _, by simp, by simp, by simp, by simp⟩
  case round =>
    obtain ⟨k, hk, rfl, hown, hbel, hsz, c0, c1, c2⟩ := hrel
    by_cases hkl : k < len
    · obtain ⟨ad, u, rfl, hab, hx, hc⟩ := hr.at_ hkl
      obtain ⟨m, hm, rfl⟩ := map_int_at hx
      have hc' := (hbel.cell (p := ad.add k) (by rw [block_of_add]; omega)).trans hc
      clear hc hx
      have HM := Lib.hid hm
      clear hm
      have HS : Hid (shf m f t s.size b = m) := shf_out (by omega)
      go_wp2_with (at_builtin; refine wpList_append_own_at _ rfl _ _ 22 rfl (w.heap.size + 1) 3 i0 (.int .i64 0) 1 8 Try.underlying22 hi hz0 hz1 hz2 rfl (by decide) _ k _ rfl (hown.alloc _) ⟨wr.heap.size, 0, none⟩ 1 1 [.int .i64 (m)] rfl rfl (cell_one_new _ _ _) (by intro u hu; simp at hu; subst hu; rfl) (by unfold maxLen; omega) (by omega) (by simp; omega) ?_; intro v2 w2 hown2 hg2 _ _)
      have R := shift_step (m := m) HM.out (by rw [HS.out]; exact hown2) hg2 hbel hown (by omega) c0 c1 c2
      clear hown2 hg2 hown c0 c1 c2
      go_roundw
      case rel => exact ⟨k + 1, by omega, by go_num, R⟩
      case measure => simp [intOf]; omega
    · obtain rfl : k = len := by omega
      go_wp2
      go_ret
      rw [List.take_of_length_le (by rw [HL.out]; exact Nat.le_refl _)] at hown
      exact ⟨_, rfl, hown.mono (by omega), hbel⟩

set_option maxHeartbeats 4000000 in
theorem shifted_ref_idle2 (A : Option Addr) (len cap : Nat) (zs : List Int) (f t : Int) (s : ByteArray) (b : Bool) (w : World) (B : Nat) (hr : Reads w B 1 A len (zs.map (.int .i64))) (hB : B ≤ w.heap.size)
    (hl : len * 8 ≤ 140737488351232) (hs : s.size ≤ 140737488351232) (h4 : t ≤ 9223372036854775807) (g2 : 0 ≤ f) (g3 : t < f) :
    Calls Try.prog 7 #[.slice A len cap, .agg #[.int .i64 f, .int .i64 t, .string s], .bool b] w fun e w' =>
      ∃ v, e = .returned v ∧ w'.ownsRow w.heap.size 3 1 v len ((shfs f t s.size b zs).map (.int .i64)) ∧ Below w.heap.size w w' := by
  obtain ⟨i0, hi, hz0, hz1, hz2⟩ := info_parts int_info
  have hlen : zs.length = len := by have := hr.1; simpa using this
  have HL := Lib.hid hlen
  clear hlen
  go_enter Try.func7, Try.ntmps7
  go_wp2
  go_loopw [7, 23] (fun v i wr => ∃ k : Nat, k ≤ len ∧ i = .int .i64 k ∧ wr.ownsRow (w.heap.size + 1) 3 1 v k ((shfs f t s.size b (zs.take k)).map (.int .i64)) ∧ Below w.heap.size w wr ∧ w.heap.size < wr.heap.size ∧
      wr.cell? ⟨w.heap.size, 0, none⟩ = some (.int .i64 f) ∧ wr.cell? ⟨w.heap.size, 1, none⟩ = some (.int .i64 t) ∧ wr.cell? ⟨w.heap.size, 2, none⟩ = some (.string s)) (fun _ i _ => len - (intOf i).toNat)
  case atStart => exact ⟨0, Nat.zero_le _, rfl, World.ownsRow_nil _ _ _ _, (Below.refl _ _).alloc (Nat.le_refl _) _, by simp, by simp, by simp, by simp⟩
  case round =>
    obtain ⟨k, hk, rfl, hown, hbel, hsz, c0, c1, c2⟩ := hrel
    by_cases hkl : k < len
    · obtain ⟨ad, u, rfl, hab, hx, hc⟩ := hr.at_ hkl
      obtain ⟨m, hm, rfl⟩ := map_int_at hx
      have hc' := (hbel.cell (p := ad.add k) (by rw [block_of_add]; omega)).trans hc
      clear hc hx
      have HM := Lib.hid hm
      clear hm
      have HS : Hid (shf m f t s.size b = m) := shf_out (by omega)
      go_wp2_with (at_builtin; refine wpList_append_own_at _ rfl _ _ 22 rfl (w.heap.size + 1) 3 i0 (.int .i64 0) 1 8 Try.underlying22 hi hz0 hz1 hz2 rfl (by decide) _ k _ rfl (hown.alloc _) ⟨wr.heap.size, 0, none⟩ 1 1 [.int .i64 (m)] rfl rfl (cell_one_new _ _ _) (by intro u hu; simp at hu; subst hu; rfl) (by unfold maxLen; omega) (by omega) (by simp; omega) ?_; intro v2 w2 hown2 hg2 _ _)
      have R := shift_step (m := m) HM.out (by rw [HS.out]; exact hown2) hg2 hbel hown (by omega) c0 c1 c2
      clear hown2 hg2 hown c0 c1 c2
      go_roundw
      case rel => exact ⟨k + 1, by omega, by go_num, R⟩
      case measure => simp [intOf]; omega
    · obtain rfl : k = len := by omega
      go_wp2
      go_ret
      rw [List.take_of_length_le (by rw [HL.out]; exact Nat.le_refl _)] at hown
      exact ⟨_, rfl, hown.mono (by omega), hbel⟩

set_option maxHeartbeats 4000000 in
theorem shifted_ref_live (A : Option Addr) (len cap : Nat) (zs : List Int) (f t : Int) (s : ByteArray) (b : Bool) (w : World) (B : Nat) (hr : Reads w B 1 A len (zs.map (.int .i64))) (hB : B ≤ w.heap.size)
    (hl : len * 8 ≤ 140737488351232) (hs : s.size ≤ 140737488351232) (h4 : t ≤ 9223372036854775807) (g2 : 0 ≤ f) (g3 : f ≤ t) :
    Calls Try.prog 7 #[.slice A len cap, .agg #[.int .i64 f, .int .i64 t, .string s], .bool b] w fun e w' =>
      ∃ v, e = .returned v ∧ w'.ownsRow w.heap.size 3 1 v len ((shfs f t s.size b zs).map (.int .i64)) ∧ Below w.heap.size w w' := by
  obtain ⟨i0, hi, hz0, hz1, hz2⟩ := info_parts int_info
  have hlen : zs.length = len := by have := hr.1; simpa using this
  have HL := Lib.hid hlen
  clear hlen
  go_enter Try.func7, Try.ntmps7
  go_wp2
  go_loopw [7, 23] (fun v i wr => ∃ k : Nat, k ≤ len ∧ i = .int .i64 k ∧ wr.ownsRow (w.heap.size + 1) 3 1 v k ((shfs f t s.size b (zs.take k)).map (.int .i64)) ∧ Below w.heap.size w wr ∧ w.heap.size < wr.heap.size ∧
      wr.cell? ⟨w.heap.size, 0, none⟩ = some (.int .i64 f) ∧ wr.cell? ⟨w.heap.size, 1, none⟩ = some (.int .i64 t) ∧ wr.cell? ⟨w.heap.size, 2, none⟩ = some (.string s)) (fun _ i _ => len - (intOf i).toNat)
  case atStart => exact ⟨0, Nat.zero_le _, rfl, World.ownsRow_nil _ _ _ _, (Below.refl _ _).alloc (Nat.le_refl _) _, by simp, by simp, by simp, by simp⟩
  case round =>
    obtain ⟨k, hk, rfl, hown, hbel, hsz, c0, c1, c2⟩ := hrel
    by_cases hkl : k < len
    · obtain ⟨ad, u, rfl, hab, hx, hc⟩ := hr.at_ hkl
      obtain ⟨m, hm, rfl⟩ := map_int_at hx
      have hc' := (hbel.cell (p := ad.add k) (by rw [block_of_add]; omega)).trans hc
      clear hc hx
      have HM := Lib.hid hm
      clear hm
      have hm3 : m < 0 ∨ (0 ≤ m ∧ 2000 < m) ∨ (0 ≤ m ∧ m ≤ 2000 ∧ m < f) ∨ (0 ≤ m ∧ m ≤ 2000 ∧ f ≤ m ∧ t < m) ∨ (0 ≤ m ∧ m ≤ 2000 ∧ f ≤ m ∧ m ≤ t) := by omega
      rcases hm3 with g4 | ⟨g4, g5⟩ | ⟨g4, g5, g6⟩ | ⟨g4, g5, g6, g7⟩ | ⟨g4, g5, g6, g7⟩
      · have HS : Hid (shf m f t s.size b = m) := shf_out (by omega)
        go_wp2_with (at_builtin; refine wpList_append_own_at _ rfl _ _ 22 rfl (w.heap.size + 1) 3 i0 (.int .i64 0) 1 8 Try.underlying22 hi hz0 hz1 hz2 rfl (by decide) _ k _ rfl (hown.alloc _) ⟨wr.heap.size, 0, none⟩ 1 1 [.int .i64 (m)] rfl rfl (cell_one_new _ _ _) (by intro u hu; simp at hu; subst hu; rfl) (by unfold maxLen; omega) (by omega) (by simp; omega) ?_; intro v2 w2 hown2 hg2 _ _)
        have R := shift_step (m := m) HM.out (by rw [HS.out]; exact hown2) hg2 hbel hown (by omega) c0 c1 c2
        clear hown2 hg2 hown c0 c1 c2
        go_roundw
        case rel => exact ⟨k + 1, by omega, by go_num, R⟩
        case measure => simp [intOf]; omega
      · have HS : Hid (shf m f t s.size b = m) := shf_out (by omega)
        go_wp2_with (at_builtin; refine wpList_append_own_at _ rfl _ _ 22 rfl (w.heap.size + 1) 3 i0 (.int .i64 0) 1 8 Try.underlying22 hi hz0 hz1 hz2 rfl (by decide) _ k _ rfl (hown.alloc _) ⟨wr.heap.size, 0, none⟩ 1 1 [.int .i64 (m)] rfl rfl (cell_one_new _ _ _) (by intro u hu; simp at hu; subst hu; rfl) (by unfold maxLen; omega) (by omega) (by simp; omega) ?_; intro v2 w2 hown2 hg2 _ _)
        have R := shift_step (m := m) HM.out (by rw [HS.out]; exact hown2) hg2 hbel hown (by omega) c0 c1 c2
        clear hown2 hg2 hown c0 c1 c2
        go_roundw
        case rel => exact ⟨k + 1, by omega, by go_num, R⟩
        case measure => simp [intOf]; omega
      · have HS : Hid (shf m f t s.size b = m) := shf_before g6
        go_wp2_with (at_builtin; refine wpList_append_own_at _ rfl _ _ 22 rfl (w.heap.size + 1) 3 i0 (.int .i64 0) 1 8 Try.underlying22 hi hz0 hz1 hz2 rfl (by decide) _ k _ rfl (hown.alloc _) ⟨wr.heap.size, 0, none⟩ 1 1 [.int .i64 (m)] rfl rfl (cell_one_new _ _ _) (by intro u hu; simp at hu; subst hu; rfl) (by unfold maxLen; omega) (by omega) (by simp; omega) ?_; intro v2 w2 hown2 hg2 _ _)
        have R := shift_step (m := m) HM.out (by rw [HS.out]; exact hown2) hg2 hbel hown (by omega) c0 c1 c2
        clear hown2 hg2 hown c0 c1 c2
        go_roundw
        case rel => exact ⟨k + 1, by omega, by go_num, R⟩
        case measure => simp [intOf]; omega
      · have HS : Hid (shf m f t s.size b = m + (s.size - (t - f))) := (shf_behind g4 g5 g2 g3 g7).trans (by omega)
        go_wp2_with (at_builtin; refine wpList_append_own_at _ rfl _ _ 22 rfl (w.heap.size + 1) 3 i0 (.int .i64 0) 1 8 Try.underlying22 hi hz0 hz1 hz2 rfl (by decide) _ k _ rfl (hown.alloc _) ⟨wr.heap.size, 0, none⟩ 1 1 [.int .i64 (m + (s.size - (t - f)))] rfl rfl (cell_one_new _ _ _) (by intro u hu; simp at hu; subst hu; rfl) (by unfold maxLen; omega) (by omega) (by simp; omega) ?_; intro v2 w2 hown2 hg2 _ _)
        have R := shift_step (m := m) HM.out (by rw [HS.out]; exact hown2) hg2 hbel hown (by omega) c0 c1 c2
        clear hown2 hg2 hown c0 c1 c2
        go_roundw
        case rel => exact ⟨k + 1, by omega, by go_num, R⟩
        case measure => simp [intOf]; omega
      · cases b
        · have HS : Hid (shf m f t s.size false = f) := (shf_in g4 g5 g2 g3 (by omega) (by omega)).trans rfl
          go_wp2_with (at_builtin; refine wpList_append_own_at _ rfl _ _ 22 rfl (w.heap.size + 1) 3 i0 (.int .i64 0) 1 8 Try.underlying22 hi hz0 hz1 hz2 rfl (by decide) _ k _ rfl (hown.alloc _) ⟨wr.heap.size, 0, none⟩ 1 1 [.int .i64 (f)] rfl rfl (cell_one_new _ _ _) (by intro u hu; simp at hu; subst hu; rfl) (by unfold maxLen; omega) (by omega) (by simp; omega) ?_; intro v2 w2 hown2 hg2 _ _)
          have R := shift_step (m := m) HM.out (by rw [HS.out]; exact hown2) hg2 hbel hown (by omega) c0 c1 c2
          clear hown2 hg2 hown c0 c1 c2
          go_roundw
          case rel => exact ⟨k + 1, by omega, by go_num, R⟩
          case measure => simp [intOf]; omega
        · have HS : Hid (shf m f t s.size true = f + s.size) := (shf_in g4 g5 g2 g3 (by omega) (by omega)).trans rfl
          go_wp2_with (at_builtin; refine wpList_append_own_at _ rfl _ _ 22 rfl (w.heap.size + 1) 3 i0 (.int .i64 0) 1 8 Try.underlying22 hi hz0 hz1 hz2 rfl (by decide) _ k _ rfl (hown.alloc _) ⟨wr.heap.size, 0, none⟩ 1 1 [.int .i64 (f + s.size)] rfl rfl (cell_one_new _ _ _) (by intro u hu; simp at hu; subst hu; rfl) (by unfold maxLen; omega) (by omega) (by simp; omega) ?_; intro v2 w2 hown2 hg2 _ _)
          have R := shift_step (m := m) HM.out (by rw [HS.out]; exact hown2) hg2 hbel hown (by omega) c0 c1 c2
          clear hown2 hg2 hown c0 c1 c2
          go_roundw
          case rel => exact ⟨k + 1, by omega, by go_num, R⟩
          case measure => simp [intOf]; omega
    · obtain rfl : k = len := by omega
      go_wp2
      go_ret
      rw [List.take_of_length_le (by rw [HL.out]; exact Nat.le_refl _)] at hown
      exact ⟨_, rfl, hown.mono (by omega), hbel⟩

theorem shifted_ref_any (A : Option Addr) (len cap : Nat) (zs : List Int) (f t : Int) (s : ByteArray) (b : Bool) (w : World) (B : Nat) (hr : Reads w B 1 A len (zs.map (.int .i64))) (hB : B ≤ w.heap.size)
    (hl : len * 8 ≤ 140737488351232) (hs : s.size ≤ 140737488351232) (h4 : t ≤ 9223372036854775807) :
    Calls Try.prog 7 #[.slice A len cap, .agg #[.int .i64 f, .int .i64 t, .string s], .bool b] w fun e w' =>
      ∃ v, e = .returned v ∧ w'.ownsRow w.heap.size 3 1 v len ((shfs f t s.size b zs).map (.int .i64)) ∧ Below w.heap.size w w' := by
  by_cases g2 : f < 0
  · exact shifted_ref_idle1 A len cap zs f t s b w B hr hB hl hs h4 g2
  · by_cases g3 : t < f
    · exact shifted_ref_idle2 A len cap zs f t s b w B hr hB hl hs h4 (by omega) g3
    · exact shifted_ref_live A len cap zs f t s b w B hr hB hl hs h4 (by omega) (by omega)

end Go.Proofs.Ytnkmmlancippmaa
