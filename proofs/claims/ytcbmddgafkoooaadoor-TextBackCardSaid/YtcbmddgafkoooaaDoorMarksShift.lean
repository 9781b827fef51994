/-
  DERIVED. The walks of text.Shift and florref1.ShiftedMarks: both give the marks where the edit puts them. Conditions: the lengths are within the form's reach. By an AI agent.
-/
import Derived.Test.YtcbmddgafkoooaaDoorMarksShifted
namespace Go.Proofs.YtcbmddgafkoooaaDoor
open Go.RowKit

theorem int_info : (Tryd.prog.info? 3).map (fun i => (i.zero, i.size, i.bytes)) = some (some (.int .i64 0), 1, 8) := by kernel_rfl

/-- the marks after k rounds -/
def shfs (f t n : Int) (b : Bool) (zs : List Int) : List Int := zs.map fun m => shf m f t n b
theorem shfs_len (f t n : Int) (b : Bool) (zs : List Int) : (shfs f t n b zs).length = zs.length := by simp [shfs]
theorem shfs_take (f t n : Int) (b : Bool) (zs : List Int) (k : Nat) (m : Int) (h : zs[k]? = some m) : shfs f t n b (zs.take (k + 1)) = shfs f t n b (zs.take k) ++ [shf m f t n b] := by
  have hk : k < zs.length := by
    rcases Nat.lt_or_ge k zs.length with h' | h'
    · exact h'
    · rw [List.getElem?_eq_none h'] at h; cases h
  rw [List.take_succ_eq_append_getElem hk]
  rw [List.getElem?_eq_getElem hk] at h
  injection h with h
  simp [shfs, h]

theorem map_int_at {zs : List Int} {k : Nat} {u : Value} (hx : (zs.map (Value.int .i64))[k]? = some u) : ∃ m, zs[k]? = some m ∧ u = .int .i64 m := by
  rw [List.getElem?_map] at hx
  cases hz : zs[k]? with
  | none => rw [hz] at hx; cases hx
  | some m => rw [hz] at hx; injection hx with hx; exact ⟨m, rfl, hx.symm⟩

/-- what an append of one new element leaves -/
theorem shift_step {w w1 w2 : World} {e k : Nat} {f t : Int} {s : ByteArray} {b : Bool} {zs : List Int} {v v2 : Value} {m : Int} {o : Obj} (hm : zs[k]? = some m)
    (hown2 : w2.ownsRow (w.heap.size + 1) e 1 v2 (k + 1) ((shfs f t s.size b (zs.take k)).map (.int .i64) ++ [.int .i64 (shf m f t s.size b)]))
    (hg2 : (w1.alloc o).grownBy w2 v.ownBlock) (hb : Below w.heap.size w w1) (hown1 : w1.ownsRow (w.heap.size + 1) e 1 v k ((shfs f t s.size b (zs.take k)).map (.int .i64))) (hsz : w.heap.size < w1.heap.size)
    (d0 : w1.cell? ⟨w.heap.size, 0, none⟩ = some (.int .i64 f)) (d1 : w1.cell? ⟨w.heap.size, 1, none⟩ = some (.int .i64 t)) (d2 : w1.cell? ⟨w.heap.size, 2, none⟩ = some (.string s)) :
    w2.ownsRow (w.heap.size + 1) e 1 v2 (k + 1) ((shfs f t s.size b (zs.take (k + 1))).map (.int .i64)) ∧ Below w.heap.size w w2 ∧ w.heap.size < w2.heap.size ∧
      w2.cell? ⟨w.heap.size, 0, none⟩ = some (.int .i64 f) ∧ w2.cell? ⟨w.heap.size, 1, none⟩ = some (.int .i64 t) ∧ w2.cell? ⟨w.heap.size, 2, none⟩ = some (.string s) := by
  have hlt := hown1.lt
  have hs := hg2.size
  simp only [World.size_alloc] at hs
  have hc : ∀ i, w2.cell? ⟨w.heap.size, i, none⟩ = w1.cell? ⟨w.heap.size, i, none⟩ := fun i =>
    (World.cell?_of_block (w := w1.alloc o) (hg2.block w.heap.size (by simp; omega) (fun h => by have := (hlt _ h.symm).1; omega))).trans (World.cell?_alloc_lt w1 o _ hsz)
  refine ⟨?_, (hb.alloc (by omega) o).grown hg2 (by simp; omega) (fun g h => by have := (hlt _ h).1; omega), by omega, (hc 0).trans d0, (hc 1).trans d1, (hc 2).trans d2⟩
  rw [shfs_take _ _ _ _ _ _ _ hm]
  simpa using hown2

set_option maxHeartbeats 1000000 in
set_option maxRecDepth 100000 in
theorem shift_any (A : Option Addr) (len cap : Nat) (zs : List Int) (f t : Int) (s : ByteArray) (b : Bool) (w : World) (B : Nat) (hr : Reads w B 1 A len (zs.map (.int .i64))) (hB : B ≤ w.heap.size)
    (hl : len * 8 ≤ 140737488351232) (hs : s.size ≤ 140737488351232) (h4 : t ≤ 9223372036854775807) :
    Calls Tryd.prog 15 #[.slice A len cap, .agg #[.int .i64 f, .int .i64 t, .string s], .bool b] w fun e w' =>
      ∃ v, e = .returned v ∧ w'.ownsRow w.heap.size 3 1 v len ((shfs f t s.size b zs).map (.int .i64)) ∧ Below w.heap.size w w' := by
  obtain ⟨i0, hi, hz0, hz1, hz2⟩ := info_parts int_info
  have hlen : zs.length = len := by have := hr.1; simpa using this
  have HL := Lib.hid hlen
  clear hlen
  go_enter Tryd.func15, Tryd.ntmps15
  go_wp2
  go_loopw [7, 12] (fun v i wr => ∃ k : Nat, k ≤ len ∧ i = .int .i64 k ∧ wr.ownsRow (w.heap.size + 1) 3 1 v k ((shfs f t s.size b (zs.take k)).map (.int .i64)) ∧ Below w.heap.size w wr ∧ w.heap.size < wr.heap.size ∧
      wr.cell? ⟨w.heap.size, 0, none⟩ = some (.int .i64 f) ∧ wr.cell? ⟨w.heap.size, 1, none⟩ = some (.int .i64 t) ∧ wr.cell? ⟨w.heap.size, 2, none⟩ = some (.string s)) (fun _ i _ => len - (intOf i).toNat)
  case atStart => exact ⟨0, Nat.zero_le _, rfl, World.ownsRow_nil _ _ _ _, (Below.refl _ _).alloc (Nat.le_refl _) _, by simp, by simp, by simp, by simp⟩
  case round =>
    obtain ⟨k, hk, rfl, hown, hbel, hsz, c0, c1, c2⟩ := hrel
    by_cases hkl : k < len
    · obtain ⟨ad, u, rfl, hab, hx, hc⟩ := hr.at_ hkl
      obtain ⟨m, hm, rfl⟩ := map_int_at hx
      have hc' := (hbel.cell (p := ad.add k) (by rw [block_of_add]; omega)).trans hc
      clear hc hx
      have HM := Lib.hid hm
      clear hm
      by_cases hin : 0 ≤ m ∧ m ≤ 2000 ∧ 0 ≤ f ∧ f ≤ t
      · obtain ⟨g0, g1, g2, g3⟩ := hin
        go_wp2_with fail
        refine (shifted_any m f t s b _ g0 g1 g2 g3 h4 hs).mono ?_
        rintro e w1 ⟨rfl, hb1⟩
        have hown1 := own_below hown hb1
        clear hown
        have hsz1 := hb1.size
        have d0 := (hb1.cell (p := ⟨w.heap.size, 0, none⟩) hsz).trans c0
        have d1 := (hb1.cell (p := ⟨w.heap.size, 1, none⟩) hsz).trans c1
        have d2 := (hb1.cell (p := ⟨w.heap.size, 2, none⟩) hsz).trans c2
        clear c0 c1 c2
        go_wp2_with (at_builtin; refine wpList_append_own_at _ rfl _ _ 39 rfl (w.heap.size + 1) 3 i0 (.int .i64 0) 1 8 Tryd.underlying39 hi hz0 hz1 hz2 rfl (by decide) _ k _ rfl (hown1.alloc _) ⟨w1.heap.size, 0, none⟩ 1 1 [.int .i64 (shf m f t s.size b)] rfl rfl (cell_one_new _ _ _) (by intro u hu; simp at hu; subst hu; rfl) (by unfold maxLen; omega) (by omega) (by simp; omega) ?_; intro v2 w2 hown2 hg2 _ _)
        have R := shift_step (m := m) HM.out hown2 hg2 (hbel.trans (hb1.mono (by omega))) hown1 (by omega) d0 d1 d2
        clear hown2 hg2 hown1 hb1 d0 d1 d2
        go_roundw
        case rel => exact ⟨k + 1, by omega, by go_num, R⟩
        case measure => simp [intOf]; omega
      · have hout : m < 0 ∨ (0 ≤ m ∧ 2000 < m) ∨ (0 ≤ m ∧ m ≤ 2000 ∧ f < 0) ∨ (0 ≤ m ∧ m ≤ 2000 ∧ 0 ≤ f ∧ t < f) := by omega
        have HS := Lib.hid (shf_out (n := s.size) (b := b) hin)
        clear hin
        rcases hout with g0 | ⟨g0, g1⟩ | ⟨g0, g1, g2⟩ | ⟨g0, g1, g2, g3⟩
        all_goals
          go_wp2_with (at_builtin; refine wpList_append_own_at _ rfl _ _ 39 rfl (w.heap.size + 1) 3 i0 (.int .i64 0) 1 8 Tryd.underlying39 hi hz0 hz1 hz2 rfl (by decide) _ k _ rfl (hown.alloc _) ⟨wr.heap.size, 0, none⟩ 1 1 [.int .i64 m] rfl rfl (cell_one_new _ _ _) (by intro u hu; simp at hu; subst hu; rfl) (by unfold maxLen; omega) (by omega) (by simp; omega) ?_; intro v2 w2 hown2 hg2 _ _)
          have R := shift_step (m := m) HM.out (by rw [HS.out]; exact hown2) hg2 hbel hown (by omega) c0 c1 c2
          clear hown2 hg2 hown c0 c1 c2
          go_roundw
          case rel => exact ⟨k + 1, by omega, by go_num, R⟩
          case measure => simp [intOf]; omega
    · obtain rfl : k = len := by omega
      go_wp2
      go_ret
      rw [List.take_of_length_le (by rw [HL.out]; exact Nat.le_refl _)] at hown
      exact ⟨_, rfl, hown.mono (by omega), hbel⟩
end Go.Proofs.YtcbmddgafkoooaaDoor
