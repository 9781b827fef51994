/-
  DERIVED. The walks of prop.same and prop.mergedValue where two of three are the same. Conditions: sizes. By an AI agent.
-/
import Derived.Test.YteichcpbfdjjkaaPmGet2
namespace Go.Proofs.Yteichcpbfdjjkaa
open Go.RowKit

set_option maxHeartbeats 1000000 in
theorem same_any (x y : Vl × Value) (w : World) (B : Nat) (hB : B ≤ w.heap.size) (hx : RV w B x.2 x.1.items) (hy : RV w B y.2 y.1.items) :
    Calls Try.prog 27 #[AV x, AV y] w fun e w' => e = .returned (.bool (cmpP x.1 y.1 == 0)) ∧ Below w.heap.size w w' := by
  obtain ⟨Ax, nx, cx, ex⟩ := hx.slice
  obtain ⟨Ay, ny, cy, ey⟩ := hy.slice
  obtain ⟨x, u⟩ := x
  obtain ⟨y, v⟩ := y
  dsimp only at ex ey
  subst ex ey
  have HX := Lib.hid fun W (hW : Below w.heap.size w W) => compare_any (x, .slice Ax nx cx) (y, .slice Ay ny cy) W B (Nat.le_trans hB hW.size) (hx.below (hW.mono hB)) (hy.below (hW.mono hB))
  dsimp only [AV] at HX ⊢
  clear hx hy
  go_enter Try.func27, Try.ntmps27
  go_wp2_with fail
  refine (HX.out _ (((Below.refl _ _).alloc (Nat.le_refl _) _).alloc (by simp) _)).mono ?_
  rintro e w2 ⟨rfl, hb⟩
  go_wp2_with fail
  go_ret
  exact ⟨rfl, (((Below.refl _ _).alloc (Nat.le_refl _) _).alloc (by simp) _).trans (hb.mono (by simp; omega))⟩

set_option maxRecDepth 100000 in
set_option maxHeartbeats 4000000 in
/-- prop.mergedValue where two of the three are the same -/
theorem merged_walk (x a b : Vl) (Ax Aa Ab : Option Addr) (nx cx na ca nb cb : Nat) (q1 q2 q3 : Bool) (hq : q1 = true ∨ q2 = true ∨ q3 = true) (w : World)
    (h1 : ∀ W, Below w.heap.size w W → Calls Try.prog 27 #[AV (a, .slice Aa na ca), AV (x, .slice Ax nx cx)] W fun e w' => e = .returned (.bool q1) ∧ Below W.heap.size W w')
    (h2 : ∀ W, Below w.heap.size w W → Calls Try.prog 27 #[AV (b, .slice Ab nb cb), AV (x, .slice Ax nx cx)] W fun e w' => e = .returned (.bool q2) ∧ Below W.heap.size W w')
    (h3 : ∀ W, Below w.heap.size w W → Calls Try.prog 27 #[AV (a, .slice Aa na ca), AV (b, .slice Ab nb cb)] W fun e w' => e = .returned (.bool q3) ∧ Below W.heap.size W w') :
    Calls Try.prog 12 #[AV (x, .slice Ax nx cx), AV (a, .slice Aa na ca), AV (b, .slice Ab nb cb)] w fun e w' => e = .returned (.tuple #[if q1 = true then AV (b, .slice Ab nb cb) else AV (a, .slice Aa na ca), .bool false]) ∧ Below w.heap.size w w' := by
  obtain ⟨wb, hwb⟩ : ∃ wb, wb = (((w.alloc (.cells #[.int .i64 x.kind, .int .i64 x.int_, .int .i64 x.to_, .string x.text, .slice Ax nx cx] 38)).alloc (.cells #[.int .i64 a.kind, .int .i64 a.int_, .int .i64 a.to_, .string a.text, .slice Aa na ca] 38)).alloc (.cells #[.int .i64 b.kind, .int .i64 b.int_, .int .i64 b.to_, .string b.text, .slice Ab nb cb] 38)).alloc (.cells #[.int .i64 0, .int .i64 0, .int .i64 0, .string ⟨#[]⟩, .slice none 0 0] 38) := ⟨_, rfl⟩
  have hbb : Below w.heap.size w wb := by rw [hwb]; exact ((((Below.refl _ _).alloc (Nat.le_refl _) _).alloc (by simp) _).alloc (by simp <;> omega) _).alloc (by simp <;> omega) _
  have hzb : wb.heap.size = w.heap.size + 4 := by rw [hwb]; simp
  have p0 : Blk wb w.heap.size 38 #[.int .i64 x.kind, .int .i64 x.int_, .int .i64 x.to_, .string x.text, .slice Ax nx cx] := by rw [hwb]; exact (((Blk.new w _ _).alloc _).alloc _).alloc _
  have p1 : Blk wb (w.heap.size + 1) 38 #[.int .i64 a.kind, .int .i64 a.int_, .int .i64 a.to_, .string a.text, .slice Aa na ca] := by
    rw [hwb]
    have h := ((Blk.new (w.alloc (.cells #[.int .i64 x.kind, .int .i64 x.int_, .int .i64 x.to_, .string x.text, .slice Ax nx cx] 38)) 38 #[.int .i64 a.kind, .int .i64 a.int_, .int .i64 a.to_, .string a.text, .slice Aa na ca]).alloc (.cells #[.int .i64 b.kind, .int .i64 b.int_, .int .i64 b.to_, .string b.text, .slice Ab nb cb] 38)).alloc (.cells #[.int .i64 0, .int .i64 0, .int .i64 0, .string ⟨#[]⟩, .slice none 0 0] 38)
    simpa only [World.size_alloc] using h
  have p2 : Blk wb (w.heap.size + 2) 38 #[.int .i64 b.kind, .int .i64 b.int_, .int .i64 b.to_, .string b.text, .slice Ab nb cb] := by
    rw [hwb]
    have h := (Blk.new ((w.alloc (.cells #[.int .i64 x.kind, .int .i64 x.int_, .int .i64 x.to_, .string x.text, .slice Ax nx cx] 38)).alloc (.cells #[.int .i64 a.kind, .int .i64 a.int_, .int .i64 a.to_, .string a.text, .slice Aa na ca] 38)) 38 #[.int .i64 b.kind, .int .i64 b.int_, .int .i64 b.to_, .string b.text, .slice Ab nb cb]).alloc (.cells #[.int .i64 0, .int .i64 0, .int .i64 0, .string ⟨#[]⟩, .slice none 0 0] 38)
    simpa only [World.size_alloc] using h
  have p3 : Blk wb (w.heap.size + 3) 38 #[.int .i64 0, .int .i64 0, .int .i64 0, .string ⟨#[]⟩, .slice none 0 0] := by
    rw [hwb]
    have h := Blk.new (((w.alloc (.cells #[.int .i64 x.kind, .int .i64 x.int_, .int .i64 x.to_, .string x.text, .slice Ax nx cx] 38)).alloc (.cells #[.int .i64 a.kind, .int .i64 a.int_, .int .i64 a.to_, .string a.text, .slice Aa na ca] 38)).alloc (.cells #[.int .i64 b.kind, .int .i64 b.int_, .int .i64 b.to_, .string b.text, .slice Ab nb cb] 38)) 38 #[.int .i64 0, .int .i64 0, .int .i64 0, .string ⟨#[]⟩, .slice none 0 0]
    simpa only [World.size_alloc] using h
  dsimp only [AV] at h1 h2 h3 ⊢
  have H1 := Lib.hid h1
  have H2 := Lib.hid h2
  have H3 := Lib.hid h3
  have HBB := Lib.hid hbb
  have HWB := Lib.hid hwb
  have HZB := Lib.hid hzb
  have P0 := Lib.hid p0
  have P1 := Lib.hid p1
  have P2 := Lib.hid p2
  have P3 := Lib.hid p3
  have e0 := fun i => p0.cell i
  have e1 := fun i => p1.cell i
  have X1 := Lib.hid (h1 wb hbb)
  clear h1 h2 h3 hbb hwb hzb p0 p1 p2 p3
  go_enter Try.func12, Try.ntmps12
  go_upto_region 1 with fail
  rw [← HWB.out]
  go_wp2_with fail
  refine X1.out.mono ?_
  rintro e w1 ⟨rfl, hb⟩
  have B1 : Hid (Below w.heap.size w w1) := HBB.out.trans (hb.mono HBB.out.size)
  have P01 := Lib.hid (P0.out.below hb (by have := HZB.out; omega))
  have P11 := Lib.hid (P1.out.below hb (by have := HZB.out; omega))
  have P21 := Lib.hid (P2.out.below hb (by have := HZB.out; omega))
  have P31 := Lib.hid (P3.out.below hb (by have := HZB.out; omega))
  have Z1 := Lib.hid (show w.heap.size + 4 ≤ w1.heap.size by have := HZB.out; have := hb.size; omega)
  clear hb e0 e1
  cases q1
  case true =>
    have e2 := fun i => P21.out.cell i
    have e3 := fun i => P31.out.cell i
    have f3 := fun i => P31.out.frozen i
    go_wp2_with fail
    have PF := ((((P31.out.set_ 0 (.int .i64 b.kind)).set_ 1 (.int .i64 b.int_)).set_ 2 (.int .i64 b.to_)).set_ 3 (.string b.text)).set_ 4 (.slice Ab nb cb)
    have HBF : Below w.heap.size w _ := (((((B1.out.setCell (p := ⟨w.heap.size + 3, 0, none⟩) (by show w.heap.size ≤ w.heap.size + 3; omega) (.int .i64 b.kind)).setCell (p := ⟨w.heap.size + 3, 1, none⟩) (by show w.heap.size ≤ w.heap.size + 3; omega) (.int .i64 b.int_)).setCell (p := ⟨w.heap.size + 3, 2, none⟩) (by show w.heap.size ≤ w.heap.size + 3; omega) (.int .i64 b.to_)).setCell (p := ⟨w.heap.size + 3, 3, none⟩) (by show w.heap.size ≤ w.heap.size + 3; omega) (.string b.text)).setCell (p := ⟨w.heap.size + 3, 4, none⟩) (by show w.heap.size ≤ w.heap.size + 3; omega) (.slice Ab nb cb))
    have r0 := PF.cell 0
    have r1 := PF.cell 1
    have r2 := PF.cell 2
    have r3 := PF.cell 3
    have r4 := PF.cell 4
    exact bodyPost_ret (v := .tuple #[AV (b, .slice Ab nb cb), .bool false]) (by simp [results, Try.results12, go_sem, r0, r1, r2, r3, r4, AV]) rfl ⟨by rfl, HBF⟩
  case false =>
    have hq' : q2 = true ∨ q3 = true := hq.resolve_left (by simp)
    have e0 := fun i => P01.out.cell i
    have e2 := fun i => P21.out.cell i
    have X2 := Lib.hid (H2.out w1 B1.out)
    go_wp2_with fail
    refine X2.out.mono ?_
    rintro e w2 ⟨rfl, hb⟩
    have B2 : Hid (Below w.heap.size w w2) := B1.out.trans (hb.mono B1.out.size)
    have P12 := Lib.hid (P11.out.below hb (by have := HZB.out; have := B1.out.size; have := Z1.out; omega))
    have P22 := Lib.hid (P21.out.below hb (by have := HZB.out; have := B1.out.size; have := Z1.out; omega))
    have P32 := Lib.hid (P31.out.below hb (by have := HZB.out; have := B1.out.size; have := Z1.out; omega))
    have Z2 := Lib.hid (show w.heap.size + 4 ≤ w2.heap.size by have := HZB.out; have := hb.size; have := Z1.out; omega)
    clear hb e0 e2
    cases q2
    case true =>
      have e1 := fun i => P12.out.cell i
      have e3 := fun i => P32.out.cell i
      have f3 := fun i => P32.out.frozen i
      go_wp2_with fail
      have PF := ((((P32.out.set_ 0 (.int .i64 a.kind)).set_ 1 (.int .i64 a.int_)).set_ 2 (.int .i64 a.to_)).set_ 3 (.string a.text)).set_ 4 (.slice Aa na ca)
      have HBF : Below w.heap.size w _ := (((((B2.out.setCell (p := ⟨w.heap.size + 3, 0, none⟩) (by show w.heap.size ≤ w.heap.size + 3; omega) (.int .i64 a.kind)).setCell (p := ⟨w.heap.size + 3, 1, none⟩) (by show w.heap.size ≤ w.heap.size + 3; omega) (.int .i64 a.int_)).setCell (p := ⟨w.heap.size + 3, 2, none⟩) (by show w.heap.size ≤ w.heap.size + 3; omega) (.int .i64 a.to_)).setCell (p := ⟨w.heap.size + 3, 3, none⟩) (by show w.heap.size ≤ w.heap.size + 3; omega) (.string a.text)).setCell (p := ⟨w.heap.size + 3, 4, none⟩) (by show w.heap.size ≤ w.heap.size + 3; omega) (.slice Aa na ca))
      have r0 := PF.cell 0
      have r1 := PF.cell 1
      have r2 := PF.cell 2
      have r3 := PF.cell 3
      have r4 := PF.cell 4
      exact bodyPost_ret (v := .tuple #[AV (a, .slice Aa na ca), .bool false]) (by simp [results, Try.results12, go_sem, r0, r1, r2, r3, r4, AV]) rfl ⟨by rfl, HBF⟩
    case false =>
      obtain rfl : q3 = true := hq'.resolve_left (by simp)
      have e1 := fun i => P12.out.cell i
      have e2 := fun i => P22.out.cell i
      have X3 := Lib.hid (H3.out w2 B2.out)
      go_wp2_with fail
      refine X3.out.mono ?_
      rintro e w3 ⟨rfl, hb⟩
      have B3 : Hid (Below w.heap.size w w3) := B2.out.trans (hb.mono B2.out.size)
      have P13 := Lib.hid (P12.out.below hb (by have := HZB.out; have := B2.out.size; have := Z2.out; omega))
      have P23 := Lib.hid (P22.out.below hb (by have := HZB.out; have := B2.out.size; have := Z2.out; omega))
      have P33 := Lib.hid (P32.out.below hb (by have := HZB.out; have := B2.out.size; have := Z2.out; omega))
      have Z3 := Lib.hid (show w.heap.size + 4 ≤ w3.heap.size by have := HZB.out; have := hb.size; have := Z2.out; omega)
      clear hb e1 e2
      have e1 := fun i => P13.out.cell i
      have e3 := fun i => P33.out.cell i
      have f3 := fun i => P33.out.frozen i
      go_wp2_with fail
      have PF := ((((P33.out.set_ 0 (.int .i64 a.kind)).set_ 1 (.int .i64 a.int_)).set_ 2 (.int .i64 a.to_)).set_ 3 (.string a.text)).set_ 4 (.slice Aa na ca)
      have HBF : Below w.heap.size w _ := (((((B3.out.setCell (p := ⟨w.heap.size + 3, 0, none⟩) (by show w.heap.size ≤ w.heap.size + 3; omega) (.int .i64 a.kind)).setCell (p := ⟨w.heap.size + 3, 1, none⟩) (by show w.heap.size ≤ w.heap.size + 3; omega) (.int .i64 a.int_)).setCell (p := ⟨w.heap.size + 3, 2, none⟩) (by show w.heap.size ≤ w.heap.size + 3; omega) (.int .i64 a.to_)).setCell (p := ⟨w.heap.size + 3, 3, none⟩) (by show w.heap.size ≤ w.heap.size + 3; omega) (.string a.text)).setCell (p := ⟨w.heap.size + 3, 4, none⟩) (by show w.heap.size ≤ w.heap.size + 3; omega) (.slice Aa na ca))
      have r0 := PF.cell 0
      have r1 := PF.cell 1
      have r2 := PF.cell 2
      have r3 := PF.cell 3
      have r4 := PF.cell 4
      exact bodyPost_ret (v := .tuple #[AV (a, .slice Aa na ca), .bool false]) (by simp [results, Try.results12, go_sem, r0, r1, r2, r3, r4, AV]) rfl ⟨by rfl, HBF⟩
end Go.Proofs.Yteichcpbfdjjkaa
