/-
  DERIVED. The walks of prop.reader's date and days; a result of five cells. Conditions: sizes. By an AI agent.
-/
import Derived.Test.YtbdcimakdiegnaaGreatDoorRvSmall
namespace Go.Proofs.YtbdcimakdiegnaaGreatDoor
open Go.RowKit

theorem gr_new {w w1 : World} {g : Nat} {r : Option Nat} (h : w.grownBy w1 r) (hg : w.heap.size ≤ g) (i : Nat) (v : Value) : w.grownBy (w1.setCell ⟨g, i, none⟩ v) r := by
  have hb : Below g w1 (w1.setCell ⟨g, i, none⟩ v) := (Below.refl g w1).setCell (p := ⟨g, i, none⟩) (Nat.le_refl _) v
  exact ⟨hb.os.trans h.os, hb.tape.trans h.tape, hb.output.trans h.output, Nat.le_trans h.size hb.size, fun j hj hn => (hb.block j (by omega)).trans (h.block j hj hn)⟩
/-- a result of five cells is written -/
theorem fin5 {w w1 : World} {rb : Nat} {t : TypeId} {z0 z1 z2 z3 z4 : Value} (hg : w.grownBy w1 (some rb)) (hrb : rb < w.heap.size) (hP : Blk w1 w.heap.size t #[z0, z1, z2, z3, z4]) (x0 x1 x2 x3 x4 : Value) (WF : World)
    (hWF : WF = ((((w1.setCell ⟨w.heap.size, 0, none⟩ x0).setCell ⟨w.heap.size, 1, none⟩ x1).setCell ⟨w.heap.size, 2, none⟩ x2).setCell ⟨w.heap.size, 3, none⟩ x3).setCell ⟨w.heap.size, 4, none⟩ x4) :
    (WF.cell? ⟨w.heap.size, 0, none⟩ = some x0 ∧ WF.cell? ⟨w.heap.size, 1, none⟩ = some x1 ∧ WF.cell? ⟨w.heap.size, 2, none⟩ = some x2 ∧ WF.cell? ⟨w.heap.size, 3, none⟩ = some x3 ∧ WF.cell? ⟨w.heap.size, 4, none⟩ = some x4)
      ∧ w.grownBy WF (some rb) ∧ (∀ cs : Array Value, ∀ t', Blk w1 rb t' cs → Blk WF rb t' cs) ∧ WF.heap.size = w1.heap.size ∧ ∀ j, j ≠ w.heap.size → WF.heap[j]? = w1.heap[j]? := by
  subst hWF
  have hb := ((((hP.set_ 0 x0).set_ 1 x1).set_ 2 x2).set_ 3 x3).set_ 4 x4
  refine ⟨⟨hb.cell 0, hb.cell 1, hb.cell 2, hb.cell 3, hb.cell 4⟩, ?_, ?_, ?_, ?_⟩
  · exact gr_new (gr_new (gr_new (gr_new (gr_new hg (Nat.le_refl _) _ _) (Nat.le_refl _) _ _) (Nat.le_refl _) _ _) (Nat.le_refl _) _ _) (Nat.le_refl _) _ _
  · intro cs t' h
    have hne : rb ≠ w.heap.size := by omega
    exact ((((h.far hne x0).far hne x1).far hne x2).far hne x3).far hne x4
  · simp [World.setCell]
  · intro j hj
    rw [Below.heap_setCell _ _ _ j hj, Below.heap_setCell _ _ _ j hj, Below.heap_setCell _ _ _ j hj, Below.heap_setCell _ _ _ j hj, Below.heap_setCell _ _ _ j hj]

theorem dateB_at {s : ByteArray} {a : Nat} (ha : a ≤ s.size) : dateB (rs s a) = (decide (a + 10 ≤ s.size) && dForm ((rs s a).take 10)) := by
  unfold dateB
  rw [rs_len]
  congr 1
  rw [decide_eq_decide]
  omega

set_option maxHeartbeats 2000000 in
theorem date_no (rb : Nat) (s : ByteArray) (a : Nat) (bad far : Bool) (w : World) (h : RdM w rb s a bad far) (ha : a ≤ s.size) (hs : s.size ≤ 400000) (hq : dateB (rs s a) = false) :
    Calls Tryz.prog 120 #[.pointer (some ⟨rb, 0, none⟩)] w fun e w' => e = .returned (.tuple #[.int .i64 0, .bool false]) ∧ Below w.heap.size w w' := by
  rw [dateB_at ha] at hq
  have hlt := Blk.lt h
  obtain ⟨⟨c0, c1, _, _⟩, _⟩ := h.at_
  by_cases hl : a + 10 ≤ s.size
  · rw [decide_eq_true hl, Bool.true_and, ← rs_cut] at hq
    have hz : (s.extract a (a + 10)).size = 10 := by rw [ext_size s a (a + 10) (by omega) hl]; omega
    have IF := fun W => isForm_any (s.extract a (a + 10)) W hz
    rw [hq] at IF
    obtain ⟨b, hb⟩ : ∃ b, b = a + 10 := ⟨_, rfl⟩
    rw [← hb] at IF
    have IF := Lib.hid IF
    have hw1 : IntKind.i64.wrap ((s.size : Int) - (a : Int)) = (s.size : Int) - (a : Int) := IntWalk.i64_in _ (by omega)
    have hw2 : IntKind.i64.wrap ((a : Int) + 10) = (b : Int) := by rw [hb]; exact IntWalk.i64_in _ (by omega)
    have hd1 : decide ((s.size : Int) - (a : Int) < 10) = false := decide_eq_false (by omega)
    have i0 : (0 : Int) ≤ (a : Int) := by omega
    have i1 : (0 : Int) ≤ (b : Int) := by omega
    have i2 : (a : Int) ≤ (b : Int) := by omega
    have i3 : (b : Int) ≤ (s.size : Int) := by omega
    clear hb hl ha
    have d : w.cell? ⟨rb, 0, none⟩ = some (.string s) ∧ w.cell? ⟨rb, 1, none⟩ = some (.int .i64 (a : Int)) := ⟨c0, c1⟩
    have d' : w.drew.cell? ⟨rb, 0, none⟩ = some (.string s) ∧ w.drew.cell? ⟨rb, 1, none⟩ = some (.int .i64 (a : Int)) := ⟨c0, c1⟩
    clear h hq hz
    go_enter Tryz.func120, Tryz.ntmps120
    go_wp2_with fail
    go_region_held3 (fun w' => w'.cell? ⟨rb, 0, none⟩ = some (.string s) ∧ w'.cell? ⟨rb, 1, none⟩ = some (.int .i64 (a : Int)))
      (first | with_reducible exact d | with_reducible exact d' | with_reducible exact t1)
      (first | (go_at_call 108; refine (IF.out _).mono ?_; rintro e w1 ⟨rfl, hb1⟩; have hbw : Below w.heap.size w w1 := (Below.refl w.heap.size w).drew.trans hb1; have t1 : w1.cell? ⟨rb, 0, none⟩ = some (.string s) ∧ w1.cell? ⟨rb, 1, none⟩ = some (.int .i64 (a : Int)) := ⟨(hbw.cell (p := ⟨rb, 0, none⟩) hlt).trans c0, (hbw.cell (p := ⟨rb, 1, none⟩) hlt).trans c1⟩; have HB1 := Lib.hid hbw; clear hb1 hbw))
    all_goals
      go_wp2_with fail
      go_ret2
      exact ⟨rfl, HB1.out⟩
  · have i1 : (s.size : Int) - (a : Int) < 10 := by omega
    have d : w.cell? ⟨rb, 0, none⟩ = some (.string s) ∧ w.cell? ⟨rb, 1, none⟩ = some (.int .i64 (a : Int)) := ⟨c0, c1⟩
    clear h hq
    go_enter Tryz.func120, Tryz.ntmps120
    go_wp2_with fail
    go_quiet (fail)
    go_wp2_with fail
    go_ret2
    exact ⟨rfl, bl_drewN _ _ _⟩

set_option maxHeartbeats 4000000 in
theorem date_yes (rb : Nat) (s : ByteArray) (a : Nat) (bad far : Bool) (w : World) (h : RdM w rb s a bad far) (ha : a ≤ s.size) (hs : s.size ≤ 400000) (hq : dateB (rs s a) = true) :
    Calls Tryz.prog 120 #[.pointer (some ⟨rb, 0, none⟩)] w fun e w' => e = .returned (.tuple #[.int .i64 (dayV (rs s a)), .bool true]) ∧ RdM w' rb s (a + 10) bad (far || dayF (rs s a)) ∧ w.grownBy w' (some rb) := by
  rw [dateB_at ha, Bool.and_eq_true] at hq
  obtain ⟨hl, hq⟩ := hq
  have hl := of_decide_eq_true hl
  have hlt := Blk.lt h
  unfold dayV dayF
  rw [← rs_cut] at hq ⊢
  have hz : (s.extract a (a + 10)).size = 10 := by rw [ext_size s a (a + 10) (by omega) hl]; omega
  have IF := fun W => isForm_any (s.extract a (a + 10)) W hz
  rw [hq] at IF
  have RD := fun W => readDate_any (s.extract a (a + 10)) W hq
  obtain ⟨⟨D, E⟩, hDE⟩ : ∃ p, p = rdDate (s.extract a (a + 10)).data.toList := ⟨_, rfl⟩
  rw [← hDE] at RD ⊢
  dsimp only at RD ⊢
  obtain ⟨b, hb⟩ : ∃ b, b = a + 10 := ⟨_, rfl⟩
  rw [← hb] at IF RD ⊢
  have IF := Lib.hid IF
  have RD := Lib.hid RD
  have H := Lib.hid h
  have hw1 : IntKind.i64.wrap ((s.size : Int) - (a : Int)) = (s.size : Int) - (a : Int) := IntWalk.i64_in _ (by omega)
  have hw2 : IntKind.i64.wrap ((a : Int) + 10) = (b : Int) := by rw [hb]; exact IntWalk.i64_in _ (by omega)
  have hd1 : decide ((s.size : Int) - (a : Int) < 10) = false := decide_eq_false (by omega)
  have i0 : (0 : Int) ≤ (a : Int) := by omega
  have i1 : (0 : Int) ≤ (b : Int) := by omega
  have i2 : (a : Int) ≤ (b : Int) := by omega
  have i3 : (b : Int) ≤ (s.size : Int) := by omega
  obtain ⟨⟨c0, c1, _, _⟩, _⟩ := h.at_
  have d : w.cell? ⟨rb, 0, none⟩ = some (.string s) ∧ w.cell? ⟨rb, 1, none⟩ = some (.int .i64 (a : Int)) := ⟨c0, c1⟩
  have d' : w.drew.cell? ⟨rb, 0, none⟩ = some (.string s) ∧ w.drew.cell? ⟨rb, 1, none⟩ = some (.int .i64 (a : Int)) := ⟨c0, c1⟩
  have HBE := Lib.hid hb
  clear h hq hz hb hl ha hDE
  go_enter Tryz.func120, Tryz.ntmps120
  go_upto_region 1 with fail
  go_cut [34] (fun s34 wc => s34 = .bool false ∧ Hid (Below w.heap.size w wc))
  case first =>
    go_region_held3 (fun w' => w'.cell? ⟨rb, 0, none⟩ = some (.string s) ∧ w'.cell? ⟨rb, 1, none⟩ = some (.int .i64 (a : Int)))
      (first | with_reducible exact d | with_reducible exact d' | with_reducible exact t1)
      (first | (go_at_call 108; refine (IF.out _).mono ?_; rintro e w1 ⟨rfl, hb1⟩; have hbw : Below w.heap.size w w1 := (Below.refl w.heap.size w).drew.trans hb1; have t1 : w1.cell? ⟨rb, 0, none⟩ = some (.string s) ∧ w1.cell? ⟨rb, 1, none⟩ = some (.int .i64 (a : Int)) := ⟨(hbw.cell (p := ⟨rb, 0, none⟩) hlt).trans c0, (hbw.cell (p := ⟨rb, 1, none⟩) hlt).trans c1⟩; have HB1 := Lib.hid hbw; clear hb1 hbw))
    all_goals
      go_wp2_with fail
      go_meet
      exact ⟨rfl, HB1⟩
  case rest =>
  obtain ⟨rfl, HB1⟩ := hcut
  have H1 : Hid (RdM wc rb s a bad far) := H.out.below HB1.out
  obtain ⟨w1, hw1e⟩ : ∃ w1, w1 = wc := ⟨_, rfl⟩
  rw [← hw1e] at HB1 H1 ⊢
  have hlt1 := Blk.lt H1.out
  obtain ⟨⟨k0, k1, _, k3⟩, _⟩ := H1.out.at_
  clear d d' c0 c1 hw1e
  have d : w1.cell? ⟨rb, 0, none⟩ = some (.string s) ∧ w1.cell? ⟨rb, 1, none⟩ = some (.int .i64 (a : Int)) := ⟨k0, k1⟩
  have d' : w1.drew.cell? ⟨rb, 0, none⟩ = some (.string s) ∧ w1.drew.cell? ⟨rb, 1, none⟩ = some (.int .i64 (a : Int)) := ⟨k0, k1⟩
  go_upto_region 3 with fail
  go_cut [4, 5] (fun s4 s5 wc => s4 = .int .i64 D ∧ s5 = .int .i64 E ∧ Hid (Below w1.heap.size w1 wc))
  case first =>
    go_region_held3 (fun w' => w'.cell? ⟨rb, 0, none⟩ = some (.string s) ∧ w'.cell? ⟨rb, 1, none⟩ = some (.int .i64 (a : Int)))
      (first | with_reducible exact d | with_reducible exact d' | with_reducible exact t1)
      (first | (go_at_call 80; refine (RD.out _).mono ?_; rintro e w2 ⟨rfl, hb1⟩; have hbw : Below w1.heap.size w1 w2 := (Below.refl w1.heap.size w1).drew.trans hb1; have t1 : w2.cell? ⟨rb, 0, none⟩ = some (.string s) ∧ w2.cell? ⟨rb, 1, none⟩ = some (.int .i64 (a : Int)) := ⟨(hbw.cell (p := ⟨rb, 0, none⟩) hlt1).trans k0, (hbw.cell (p := ⟨rb, 1, none⟩) hlt1).trans k1⟩; have HB2 := Lib.hid hbw; clear hb1 hbw))
    all_goals
      go_wp2_with fail
      go_meet
      exact ⟨rfl, rfl, HB2⟩
  case rest =>
  obtain ⟨rfl, rfl, HB2⟩ := hcut
  have H2 : Hid (RdM wc rb s a bad far) := H1.out.below HB2.out
  have HG2 : Hid (w.grownBy wc (some rb)) := gr_of (HB1.out.trans (HB2.out.mono HB1.out.size))
  clear d d' k0 k1 k3 H1 HB1 HB2 IF RD
  obtain ⟨⟨k0, k1, k2, k3⟩, f1, f2, f3⟩ := H2.out.at_
  cases far
  · have hee : (E != 0) = true ∨ (E != 0) = false := by cases E != 0 <;> simp
    rcases hee with hee | hee
    all_goals
      go_wp2_with fail
      go_ret2
      refine ⟨rfl, ?_, gr_set (gr_set HG2.out 3 _) 1 _⟩
      rw [hee]
      exact ((H2.out.fars _).go b)
  · go_wp2_with fail
    go_ret2
    refine ⟨rfl, ?_, gr_set (gr_set HG2.out 3 _) 1 _⟩
    exact ((H2.out.fars _).go b)
end Go.Proofs.YtbdcimakdiegnaaGreatDoor
