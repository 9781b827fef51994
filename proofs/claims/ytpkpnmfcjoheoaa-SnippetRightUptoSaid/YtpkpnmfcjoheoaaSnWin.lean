/-
  DERIVED. The walk of find.window; slices.Clip at []find.Mark. Conditions: sizes. By an AI agent.
-/
import Derived.Test.YtpkpnmfcjoheoaaSnDel3
namespace Go.Proofs.Ytpkpnmfcjoheoaa
open Go.RowKit

/-- how far a window reaches -/
def WinT (L : List Wd) (f : Wd) (width : Int) (T : Nat) : Prop := f.to_ ≤ T ∧ (T = f.to_ ∨ ∃ y ∈ L, T = y.to_ ∧ (y.to_ : Int) ≤ (f.frm : Int) + width)

set_option maxRecDepth 100000 in
set_option maxHeartbeats 4000000 in
theorem window_any (L : List Wd) (A : Option Addr) (n c : Nat) (f : Wd) (width : Int) (w : World) (B : Nat) (hr : Reads w B 3 A n (rowsW L)) (hB : B ≤ w.heap.size) (hn : n = L.length) (hbig : n ≤ 4294967280) (hf : f.frm ≤ 4294967280) (hw0 : 1 ≤ width) (hw1 : width ≤ 1000)
    (hL : ∀ x ∈ L, x.frm ≤ 4294967280 ∧ x.to_ ≤ 4294967280) :
    Calls Try.prog 16 #[.slice A n c, .agg #[.string f.text, .int .i64 f.frm, .int .i64 f.to_], .int .i64 width] w fun e w' => ∃ T : Nat, e = .returned (.agg #[.int .i64 f.frm, .int .i64 T, .slice none 0 0]) ∧ WinT L f width T ∧ Below w.heap.size w w' := by
  have HR := Lib.hid hr
  have HN := Lib.hid hn
  have HL := Lib.hid hL
  clear hr hn hL
  go_enter Try.func16, Try.ntmps16
  go_wp2_with fail
  have HW0 : Hid (∃ W0, W0 = ((w.alloc (.cells #[.string f.text, .int .i64 f.frm, .int .i64 f.to_] 38)).alloc (.cells #[.int .i64 0, .int .i64 0, .slice none 0 0] 28)).alloc (.cells #[.int .i64 f.frm, .int .i64 f.to_, .slice none 0 0] 28)) := ⟨_, rfl⟩
  obtain ⟨W0, hW0⟩ := HW0.out
  rw [← hW0]
  have BX0 : Hid (Blk W0 (w.heap.size + 1 + 1) 28 #[.int .i64 f.frm, .int .i64 f.to_, .slice none 0 0]) := by
    show Blk _ _ _ _
    rw [hW0]
    have := Blk.new ((w.alloc (.cells #[.string f.text, .int .i64 f.frm, .int .i64 f.to_] 38)).alloc (.cells #[.int .i64 0, .int .i64 0, .slice none 0 0] 28)) 28 #[.int .i64 f.frm, .int .i64 f.to_, .slice none 0 0]
    simpa using this
  have BR0 : Hid (Blk W0 (w.heap.size + 1) 28 #[.int .i64 0, .int .i64 0, .slice none 0 0]) := by
    show Blk _ _ _ _
    rw [hW0]
    have := (Blk.new (w.alloc (.cells #[.string f.text, .int .i64 f.frm, .int .i64 f.to_] 38)) 28 #[.int .i64 0, .int .i64 0, .slice none 0 0]).alloc (.cells #[.int .i64 f.frm, .int .i64 f.to_, .slice none 0 0] 28)
    simpa using this
  have BF0 : Hid (Blk W0 w.heap.size 38 #[.string f.text, .int .i64 f.frm, .int .i64 f.to_]) := by
    show Blk _ _ _ _
    rw [hW0]; exact ((Blk.new _ _ _).alloc _).alloc _
  have KB0 : Hid (Below w.heap.size w W0) := by
    show Below _ _ _
    rw [hW0]; exact (((Below.refl _ _).alloc (Nat.le_refl _) _).alloc (by simp) _).alloc (by simp; omega) _
  clear hW0 HW0
  go_loopg [17] n (fun gg s17 wr => ∃ (k T : Nat), k + gg = n ∧ s17 = .int .i64 (k : Int) ∧ Hid (WinT L f width T) ∧ T ≤ 4294967280 + f.to_ ∧ Hid (Blk wr (w.heap.size + 1 + 1) 28 #[.int .i64 f.frm, .int .i64 T, .slice none 0 0]) ∧ Hid (Blk wr (w.heap.size + 1) 28 #[.int .i64 0, .int .i64 0, .slice none 0 0]) ∧ Hid (Blk wr w.heap.size 38 #[.string f.text, .int .i64 f.frm, .int .i64 f.to_]) ∧ Hid (Below w.heap.size w wr))
  case atStart => exact ⟨0, f.to_, by omega, rfl, ⟨Nat.le_refl _, .inl rfl⟩, by omega, BX0, BR0, BF0, KB0⟩
  case round =>
    obtain ⟨k, T, hkg, rfl, hT, hTb, hX, hRb, hFb, hbel⟩ := hrel
    have hzX := hX.out.lt
    by_cases hk : k < n
    · obtain ⟨x, hx⟩ : ∃ x, L[k]? = some x := ⟨_, List.getElem?_eq_getElem (by have := HN.out; omega)⟩
      obtain ⟨b, off, rfl, hbb, hc0, hc1, hc2⟩ := wd_at HR.out HN.out hx
      have c0 := (hbel.out.cell (p := ⟨b, off + k * 3, none⟩) (by show b < _; omega)).trans hc0
      have c1 := (hbel.out.cell (p := ⟨b, off + k * 3 + 1, none⟩) (by show b < _; omega)).trans hc1
      have c2 := (hbel.out.cell (p := ⟨b, off + k * 3 + 2, none⟩) (by show b < _; omega)).trans hc2
      have j0 : (0 : Int) ≤ (k : Int) := by omega
      have j1 : (k : Int) < (n : Int) := by omega
      have hxL := HL.out x (List.mem_of_getElem? hx)
      have hxm := Lib.hid (List.mem_of_getElem? hx)
      have f1 : ∀ o, (wr.alloc o).cell? ⟨w.heap.size, 1, none⟩ = some (.int .i64 f.frm) := fun o => (hFb.out.alloc o).cell 1
      have x1 : ∀ o, (wr.alloc o).cell? ⟨w.heap.size + 1 + 1, 1, none⟩ = some (.int .i64 T) := fun o => (hX.out.alloc o).cell 1
      have z1 : ∀ o, (wr.alloc o).frozen? ⟨w.heap.size + 1 + 1, 1, none⟩ = false := fun o => (hX.out.alloc o).frozen 1
      clear hx hc0 hc1 hc2
      by_cases hw : (f.frm : Int) ≤ (x.frm : Int) ∧ (x.to_ : Int) ≤ (f.frm : Int) + width
      · obtain ⟨w1, w2⟩ := hw
        obtain ⟨T2, hT2, hT2'⟩ : ∃ T2 : Nat, max (T : Int) (x.to_ : Int) = (T2 : Int) ∧ T2 = max T x.to_ := ⟨max T x.to_, by omega, rfl⟩
        have HT2 : Hid (WinT L f width T2) := by
          obtain ⟨h1, h2⟩ := hT.out
          show _ ∧ _
          rcases Nat.le_total T x.to_ with h | h
          · rw [hT2', Nat.max_eq_right h]
            exact ⟨by omega, .inr ⟨x, hxm.out, rfl, w2⟩⟩
          · rw [hT2', Nat.max_eq_left h]
            exact ⟨h1, h2⟩
        have hT2b : T2 ≤ 4294967280 + f.to_ := by omega
        clear hT2'
        go_wp2_with fail
        go_roundg (n - (k + 1))
        case measure => omega
        case rel => exact ⟨k + 1, T2, by omega, by go_num, HT2, hT2b, (Blk.set_ hX.out 1 _).alloc _, (Blk.far hRb.out (by show w.heap.size + 1 ≠ w.heap.size + 1 + 1; omega) _).alloc _, (Blk.far hFb.out (by show w.heap.size ≠ w.heap.size + 1 + 1; omega) _).alloc _, (hbel.out.setCell (p := ⟨w.heap.size + 1 + 1, 1, none⟩) (by show w.heap.size ≤ w.heap.size + 1 + 1; omega) _).alloc (by simp [World.setCell]; omega) _⟩
      · have ways : (decide ((f.frm : Int) ≤ (x.frm : Int)) = false ∧ decide (f.frm ≤ x.frm) = false) ∨ ((f.frm : Int) ≤ (x.frm : Int) ∧ decide ((x.to_ : Int) ≤ (f.frm : Int) + width) = false) := by
          by_cases h1 : (f.frm : Int) ≤ (x.frm : Int)
          · exact .inr ⟨h1, decide_eq_false (fun h2 => hw ⟨h1, h2⟩)⟩
          · exact .inl ⟨decide_eq_false h1, decide_eq_false (by omega)⟩
        clear hw
        rcases ways with ⟨w1, w3⟩ | ⟨w1, w2⟩
        · go_wp2_with fail
          go_roundg (n - (k + 1))
          case measure => omega
          case rel => exact ⟨k + 1, T, by omega, by go_num, hT, hTb, Blk.alloc hX.out _, Blk.alloc hRb.out _, Blk.alloc hFb.out _, hbel.out.alloc (by omega) _⟩
        · go_wp2_with fail
          go_roundg (n - (k + 1))
          case measure => omega
          case rel => exact ⟨k + 1, T, by omega, by go_num, hT, hTb, Blk.alloc hX.out _, Blk.alloc hRb.out _, Blk.alloc hFb.out _, hbel.out.alloc (by omega) _⟩
    · obtain rfl : k = n := by omega
      have x0 := hX.out.cell 0
      have x1 := hX.out.cell 1
      have x2 := hX.out.cell 2
      have r0 := hRb.out.cell 0
      have r1 := hRb.out.cell 1
      have r2 := hRb.out.cell 2
      have r3 := hRb.out.frozen 0
      have r4 := hRb.out.frozen 1
      have r5 := hRb.out.frozen 2
      go_wp2_with fail
      have hb := (((hRb.out.set_ 0 (.int .i64 f.frm)).set_ 1 (.int .i64 T)).set_ 2 (.slice none 0 0))
      have q0 := hb.cell 0
      have q1 := hb.cell 1
      have q2 := hb.cell 2
      refine bodyPost_ret (v := .agg #[.int .i64 f.frm, .int .i64 T, .slice none 0 0]) (by simp [results, Try.results16, go_sem, q0, q1, q2]) rfl ⟨T, rfl, hT.out, ((hbel.out.setCell (p := ⟨w.heap.size + 1, 0, none⟩) (by show w.heap.size ≤ w.heap.size + 1; omega) _).setCell (p := ⟨w.heap.size + 1, 1, none⟩) (by show w.heap.size ≤ w.heap.size + 1; omega) _).setCell (p := ⟨w.heap.size + 1, 2, none⟩) (by show w.heap.size ≤ w.heap.size + 1; omega) _⟩

set_option maxHeartbeats 1000000 in
theorem clipM_any (A : Option Addr) (n c : Nat) (w : World) (hnc : n ≤ c) (hn : n ≤ 4294967280) :
    Calls Try.prog 17 #[.slice A n c] w fun e w' => e = .returned (.slice A n n) ∧ w' = w := by
  have h0 : (0 : Int) ≤ (n : Int) := by omega
  have h1 : (n : Int) ≤ (c : Int) := by omega
  go_enter Try.func17, Try.ntmps17
  go_wp2
  go_ret
  exact ⟨rfl, rfl⟩
end Go.Proofs.Ytpkpnmfcjoheoaa
