/-
  DERIVED. The walk of slices.Concat at two slices of pairs. Conditions: sizes. By an AI agent.
-/
import Derived.Test.YtghadhdmbcigpaaDoorTpOwn
import Derived.Test.YtghadhdmbcigpaaDoorTpShelf3
namespace Go.Proofs.YtghadhdmbcigpaaDoor
open Go.RowKit

theorem grow_any (n : Nat) (w : World) (h1 : 1 ≤ n) (h2 : n ≤ 100) :
    Calls Tryd.prog 37 #[.slice none 0 0, .int .i64 n] w fun e w' => ∃ v, e = .returned v ∧ w'.ownsRow w.heap.size 28 2 v 0 (rowsV []) ∧ Below w.heap.size w w' := by
  obtain ⟨i0, hi, hz0, hz1, hz2⟩ := info_parts pr_info
  refine (Any8.slices_Grow_grow Tryd.growP i0 prZ hi hz0 (by omega) none 0 0 n [] w (Nat.le_refl _) (by omega) (by rw [hz2]; omega) (by omega) (by simp) (fun _ => rfl) (fun a h => by cases h)).mono ?_
  rintro e w' ⟨rfl, rfl⟩
  refine ⟨_, rfl, ⟨rfl, .inr ⟨w.heap.size, _, _, rfl, Nat.le_refl _, heap_alloc_new w.drew _, Nat.zero_le _, grownCap_le_maxLen w _ _ _ (by unfold maxLen; omega), ?_, by simp [rowsV]⟩⟩, (Below.refl _ _).drew.alloc (by simp) _⟩
  have hge := grownCap_ge w (0 + n) 0 28
  have hps : prZ.cells.size = 2 := rfl
  show ((([] : List Value).toArray ++ Builtin.zeroCells prZ.cells (0 + n - 0)) ++ Builtin.zeroCells prZ.cells (grownCap w (0 + n) 0 28 - (0 + n))).size = grownCap w (0 + n) 0 28 * 2
  rw [Nat.zero_add] at hge ⊢
  simp only [Array.size_append, size_zeroCells, hps]
  generalize grownCap w n 0 28 = G at hge ⊢
  simp
  omega

set_option maxHeartbeats 4000000 in
set_option maxRecDepth 100000 in
theorem concat_any (g : Nat) (A1 A2 : Option Addr) (n1 c1 n2 c2 : Nat) (L1 L2 : List Pr) (w : World) (B : Nat) (h0 : w.cell? ⟨g, 0, none⟩ = some (.slice A1 n1 c1)) (h1 : w.cell? ⟨g, 1, none⟩ = some (.slice A2 n2 c2))
    (hr1 : Reads w B 2 A1 n1 (rowsV L1)) (hr2 : Reads w B 2 A2 n2 (rowsV L2)) (hB : B ≤ w.heap.size) (hg : g < w.heap.size) (hlo : 1 ≤ n1 + n2) (hhi : n1 + n2 ≤ 60) :
    Calls Tryd.prog 15 #[.slice (some ⟨g, 0, none⟩) 2 2] w fun e w' => ∃ A c, e = .returned (.slice A (n1 + n2) c) ∧ Reads w' w'.heap.size 2 A (n1 + n2) (rowsV (L1 ++ L2)) ∧ Below w.heap.size w w' := by
  obtain ⟨i0, hi, hz0, hz1, hz2⟩ := info_parts pr_info
  have HR1 := Lib.hid hr1
  have HR2 := Lib.hid hr2
  clear hr1 hr2
  go_enter Tryd.func15, Tryd.ntmps15
  go_wp2_with fail
  have hsel : ∀ k, k < 2 → ∃ (A' : Option Addr) (n' c' : Nat) (L' : List Pr), w.cell? ⟨g, k, none⟩ = some (.slice A' n' c') ∧ Reads w B 2 A' n' (rowsV L') ∧ ((k = 0 ∧ n' = n1 ∧ L' = L1) ∨ (k = 1 ∧ n' = n2 ∧ L' = L2)) := fun k hk => by
    rcases k with _ | _ | k
    · exact ⟨A1, n1, c1, L1, h0, HR1.out, .inl ⟨rfl, rfl, rfl⟩⟩
    · exact ⟨A2, n2, c2, L2, h1, HR2.out, .inr ⟨rfl, rfl, rfl⟩⟩
    · omega
  have HS := Lib.hid hsel
  clear hsel HR1 HR2 h0 h1
  go_loopg [3, 11] 2 (fun gg s3 s11 wr => ∃ k q : Nat, k + gg = 2 ∧ s11 = .int .i64 (k : Int) ∧ s3 = .int .i64 (q : Int) ∧ Hid ((k = 0 → q = 0) ∧ (k = 1 → q = n1) ∧ (k = 2 → q = n1 + n2)) ∧ wr = w)
  case atStart => exact ⟨0, 0, rfl, rfl, rfl, ⟨fun _ => rfl, fun h => absurd h (by omega), fun h => absurd h (by omega)⟩, rfl⟩
  case round =>
    obtain ⟨k, q, hkg, rfl, rfl, hq, rfl⟩ := hrel
    by_cases hk : k < 2
    · obtain ⟨A', n', c', L', hc, _hr, hL⟩ := HS.out k hk
      have j0 : (0 : Int) ≤ (k : Int) := by omega
      have j1 : (k : Int) < 2 := by omega
      have hq2 : q + n' ≤ 60 ∧ (k + 1 = 1 → q + n' = n1) ∧ (k + 1 = 2 → q + n' = n1 + n2) := by
        obtain ⟨e0, e1, _⟩ := hq.out
        rcases hL with ⟨rfl, rfl, _⟩ | ⟨rfl, rfl, _⟩
        · have := e0 rfl; omega
        · have := e1 rfl; omega
      obtain ⟨hb, hq3⟩ := hq2
      have HQ3 := Lib.hid hq3
      have j2 : (0 : Int) ≤ (q : Int) + (n' : Int) := by omega
      clear hL _hr hq hq3
      go_wp2_with fail
      go_roundg (2 - (k + 1))
      case measure => omega
      case rel => exact ⟨k + 1, q + n', by omega, by go_num, by go_num, ⟨fun h => absurd h (by omega), HQ3.out.1, HQ3.out.2⟩, rfl⟩
    · obtain rfl : k = 2 := by omega
      have hq4 := hq.out.2.2 rfl
      subst hq4
      clear hq
      go_wp2_with fail
      rw [show ((n1 : Int) + (n2 : Int)) = ((n1 + n2 : Nat) : Int) by omega]
      refine (grow_any (n1 + n2) wr hlo (by omega)).mono ?_
      rintro e w1 ⟨v, rfl, hown, hb1⟩
      have HO1 := Lib.hid hown
      have HB1 := Lib.hid hb1
      clear hown hb1
      obtain ⟨w, rfl⟩ : ∃ w : World, w = wr := ⟨_, rfl⟩
      go_wp2_with fail
      go_loopg [6, 27] 2 (fun gg s6 s27 wx => ∃ (k q : Nat) (L : List Pr), k + gg = 2 ∧ s27 = .int .i64 (k : Int) ∧ Hid ((k = 0 → q = 0 ∧ L = []) ∧ (k = 1 → q = n1 ∧ L = L1) ∧ (k = 2 → q = n1 + n2 ∧ L = L1 ++ L2)) ∧ wx.ownsRow w.heap.size 28 2 s6 q (rowsV L) ∧ Below w.heap.size w wx)
      case atStart => exact ⟨0, 0, [], rfl, rfl, ⟨fun _ => ⟨rfl, rfl⟩, fun h => absurd h (by omega), fun h => absurd h (by omega)⟩, HO1.out, HB1.out⟩
      case round =>
        clear HO1 HB1
        obtain ⟨k, q, L, hkg, rfl, hq, hown, hbel⟩ := hrel
        by_cases hk : k < 2
        · obtain ⟨A', n', c', L', hc, hr, hL⟩ := HS.out k hk
          have c0 := (hbel.cell (p := ⟨g, k, none⟩) hg).trans hc
          have j0 : (0 : Int) ≤ (k : Int) := by omega
          have j1 : (k : Int) < 2 := by omega
          have hq2 : q + n' ≤ 60 ∧ (k + 1 = 1 → q + n' = n1 ∧ L ++ L' = L1) ∧ (k + 1 = 2 → q + n' = n1 + n2 ∧ L ++ L' = L1 ++ L2) := by
            obtain ⟨e0, e1, _⟩ := hq.out
            rcases hL with ⟨rfl, rfl, rfl⟩ | ⟨rfl, rfl, rfl⟩
            · obtain ⟨rfl, rfl⟩ := e0 rfl
              exact ⟨by omega, fun _ => ⟨by omega, rfl⟩, fun h => absurd h (by omega)⟩
            · obtain ⟨rfl, rfl⟩ := e1 rfl
              exact ⟨by omega, fun h => absurd h (by omega), fun _ => ⟨rfl, rfl⟩⟩
          obtain ⟨hb, hq3⟩ := hq2
          have HQ3 := Lib.hid hq3
          have hrw := hr.below (hbel.mono hB)
          have hlt := hown.lt
          have hzz := hbel.size
          have HB := Lib.hid hbel
          have HLT := Lib.hid hlt
          have HRW := Lib.hid hrw
          clear hL hr hq hq3 hc hbel hlt hrw
          go_wp2_with (at_builtin; refine wpList_append_any _ rfl _ _ 29 rfl w.heap.size 28 i0 prZ 2 32 Tryd.underlying29 hi hz0 hz1 hz2 rfl (by decide) _ q _ rfl hown B A' n' c' (rowsV L') rfl HRW.out (rows_one _) (by unfold maxLen; omega) (by omega) (by omega) ?_; intro v7 w7 hown7 hg7 _)
          have HB7 : Hid (Below w.heap.size w w7) := HB.out.grown hg7 (by omega) (fun g h => (HLT.out g h).1)
          rw [← rowsV_app] at hown7
          clear hg7 hown
          go_wp2_with fail
          go_roundg (2 - (k + 1))
          case measure => omega
          case rel => exact ⟨k + 1, q + n', _, by omega, by go_num, ⟨fun h => absurd h (by omega), HQ3.out.1, HQ3.out.2⟩, hown7, HB7.out⟩
        · obtain rfl : k = 2 := by omega
          obtain ⟨rfl, rfl⟩ := hq.out.2.2 rfl
          clear hq
          obtain ⟨A, c, rfl, hR⟩ := own_reads hown
          go_wp2_with fail
          go_ret
          exact ⟨A, c, rfl, hR, hbel⟩
end Go.Proofs.YtghadhdmbcigpaaDoor
