/-
  DERIVED. The walks of florkeep2.sameProps on lists that are the same, and of awakeProp. Conditions: sizes. By an AI agent.
-/
import Derived.Test.YteichcpbfdjjkaaPmSame
namespace Go.Proofs.Yteichcpbfdjjkaa
open Go.RowKit

set_option maxHeartbeats 1000000 in
theorem sameP1_any (x y : Pr) (Ax Ay : Option Addr) (nx cx ny cy : Nat) (w : World) (B : Nat) (hB : B ≤ w.heap.size) (hx : RV w B (.slice Ax nx cx) x.val.items) (hy : RV w B (.slice Ay ny cy) y.val.items) (hn : x.name = y.name) (hc : cmpP x.val y.val = 0) :
    Calls Try.prog 19 #[AP (x, .slice Ax nx cx), AP (y, .slice Ay ny cy)] w fun e w' => e = .returned (.bool true) ∧ Below w.heap.size w w' := by
  have HX := Lib.hid fun W (hW : Below w.heap.size w W) => compare_any (x.val, .slice Ax nx cx) (y.val, .slice Ay ny cy) W B (Nat.le_trans hB hW.size) (hx.below (hW.mono hB)) (hy.below (hW.mono hB))
  dsimp only at HX
  rw [hc] at HX
  have hn' : (x.name.toList == y.name.toList) = true := by rw [hn]; exact beq_self_eq_true _
  dsimp only [AV, AP] at HX ⊢
  clear hx hy hc hn
  go_enter Try.func19, Try.ntmps19
  go_wp2_with fail
  refine (HX.out _ (((Below.refl _ _).alloc (Nat.le_refl _) _).alloc (by simp) _)).mono ?_
  rintro e w2 ⟨rfl, hb⟩
  go_wp2_with fail
  go_ret
  exact ⟨rfl, (((Below.refl _ _).alloc (Nat.le_refl _) _).alloc (by simp) _).trans (hb.mono (by simp; omega))⟩

set_option maxHeartbeats 2000000 in
/-- slices.EqualFunc at properties that are the same -/
theorem eqPs_any (l m : List Pr) (A A' : Option Addr) (n c n' c' : Nat) (w : World) (B : Nat) (hB : B ≤ w.heap.size) (h1 : RPr w B (.slice A n c) l) (h2 : RPr w B (.slice A' n' c') m) (hlen : l.length = m.length) (hs : ∀ (i : Nat) (x y : Pr), l[i]? = some x → m[i]? = some y → x.name = y.name ∧ cmpP x.val y.val = 0) :
    Calls Try.prog 18 #[.slice A n c, .slice A' n' c', .func (.func 19) #[] #[]] w fun e w' => e = .returned (.bool true) ∧ Below w.heap.size w w' := by
  obtain rfl : n = n' := by have := h1.len.1; have := h2.len.1; omega
  have HL1 := Lib.hid h1.len
  have HL2 := Lib.hid h2.len
  have H1 := Lib.hid h1
  have H2 := Lib.hid h2
  have HS := Lib.hid hs
  clear h1 h2 hs hlen
  go_enter Try.func18, Try.ntmps18
  go_wp2_with fail
  go_loopg [17] n (fun gg s17 wr => ∃ k : Nat, k + gg = n ∧ s17 = .int .i64 (k : Int) ∧ Hid (Below w.heap.size w wr))
  case atStart => exact ⟨0, by omega, rfl, Below.refl _ _⟩
  case round =>
    obtain ⟨k, hkg, rfl, hbel⟩ := hrel
    have hbg : n * 80 ≤ 140737488351232 := HL1.out.2.2
    by_cases hk : k < n
    · obtain ⟨x, hx⟩ : ∃ x, l[k]? = some x := ⟨_, List.getElem?_eq_getElem (by have := HL1.out.1; omega)⟩
      obtain ⟨y, hy⟩ : ∃ x, m[k]? = some x := ⟨_, List.getElem?_eq_getElem (by have := HL2.out.1; omega)⟩
      obtain ⟨b, off, Ax, nx, cx, rfl, hbb, g0, g1, g2, g3, g4, g5, hv1⟩ := (H1.out.below (hbel.out.mono hB)).at_ hx
      obtain ⟨b', off', Ay, ny, cy, rfl, hbb', k0, k1, k2, k3, k4, k5, hv2⟩ := (H2.out.below (hbel.out.mono hB)).at_ hy
      obtain ⟨hnm, hcm⟩ := HS.out k x y hx hy
      have hzr := hbel.out.size
      obtain ⟨wa, hwa⟩ : ∃ wa, wa = (wr.alloc (.cells #[.string x.name, .int .i64 x.val.kind, .int .i64 x.val.int_, .int .i64 x.val.to_, .string x.val.text, .slice Ax nx cx] 40)) := ⟨_, rfl⟩
      have hal : Below wr.heap.size wr wa := by rw [hwa]; exact (Below.refl _ _).alloc (Nat.le_refl _) _
      have k0 := (hal.cell (p := ⟨b', off' + k * 6, none⟩) (by show b' < _; omega)).trans k0
      have k1 := (hal.cell (p := ⟨b', off' + k * 6 + 1, none⟩) (by show b' < _; omega)).trans k1
      have k2 := (hal.cell (p := ⟨b', off' + k * 6 + 2, none⟩) (by show b' < _; omega)).trans k2
      have k3 := (hal.cell (p := ⟨b', off' + k * 6 + 3, none⟩) (by show b' < _; omega)).trans k3
      have k4 := (hal.cell (p := ⟨b', off' + k * 6 + 4, none⟩) (by show b' < _; omega)).trans k4
      have k5 := (hal.cell (p := ⟨b', off' + k * 6 + 5, none⟩) (by show b' < _; omega)).trans k5
      have HX : Hid (∀ W, Below wr.heap.size wr W → Calls _ _ #[AP (x, .slice Ax nx cx), AP (y, .slice Ay ny cy)] W _) := fun W hW => sameP1_any x y Ax Ay nx cx ny cy W B (by have := hW.size; omega) (hv1.below (hW.mono (by omega))) (hv2.below (hW.mono (by omega))) hnm hcm
      dsimp only [AP] at HX
      have j0 : (0 : Int) ≤ (k : Int) := by omega
      have j1 : (k : Int) < (n : Int) := by omega
      have HAB := Lib.hid (hal.alloc hal.size (.cells #[.string y.name, .int .i64 y.val.kind, .int .i64 y.val.int_, .int .i64 y.val.to_, .string y.val.text, .slice Ay ny cy] 40))
      have HWA := Lib.hid hwa
      clear hx hy hv1 hv2 hal hwa hnm hcm
      go_upto_region 6 with fail
      rw [← HWA.out]
      have z0 : wa.heap.size = wr.heap.size + 1 := by rw [HWA.out]; simp
      have p0 : Blk wa wr.heap.size 40 #[.string x.name, .int .i64 x.val.kind, .int .i64 x.val.int_, .int .i64 x.val.to_, .string x.val.text, .slice Ax nx cx] := by rw [HWA.out]; exact Blk.new _ _ _
      have e0 := fun o => (p0.alloc o).cell 0
      have e1 := fun o => (p0.alloc o).cell 1
      have e2 := fun o => (p0.alloc o).cell 2
      have e3 := fun o => (p0.alloc o).cell 3
      have e4 := fun o => (p0.alloc o).cell 4
      have e5 := fun o => (p0.alloc o).cell 5
      clear g0 g1 g2 g3 g4 g5 p0
      go_wp2_with fail
      refine (HX.out _ HAB.out).mono ?_
      rintro e w2 ⟨rfl, hb2⟩
      have HB2 : Hid (Below w.heap.size w w2) := hbel.out.trans ((HAB.out.trans (hb2.mono HAB.out.size)).mono hzr)
      clear hb2
      go_wp2_with fail
      go_roundg (n - (k + 1))
      case measure => omega
      case rel => exact ⟨k + 1, by omega, by go_num, HB2⟩
    · obtain rfl : n = k := by omega
      go_wp2_with fail
      go_ret
      exact ⟨rfl, hbel.out⟩
set_option maxHeartbeats 400000 in
theorem sameProps_any (l m : List Pr) (A A' : Option Addr) (n c n' c' : Nat) (w : World) (B : Nat) (hB : B ≤ w.heap.size) (h1 : RPr w B (.slice A n c) l) (h2 : RPr w B (.slice A' n' c') m) (hlen : l.length = m.length) (hs : ∀ (i : Nat) (x y : Pr), l[i]? = some x → m[i]? = some y → x.name = y.name ∧ cmpP x.val y.val = 0) :
    Calls Try.prog 7 #[.slice A n c, .slice A' n' c'] w fun e w' => e = .returned (.bool true) ∧ Below w.heap.size w w' := by
  have HX := Lib.hid (eqPs_any l m A A' n c n' c' w B hB h1 h2 hlen hs)
  clear h1 h2 hlen hs
  go_enter Try.func7, Try.ntmps7
  go_wp2_with fail
  refine HX.out.mono ?_
  rintro e w2 ⟨rfl, hb⟩
  go_wp2_with fail
  go_ret
  exact ⟨rfl, hb⟩
end Go.Proofs.Yteichcpbfdjjkaa
