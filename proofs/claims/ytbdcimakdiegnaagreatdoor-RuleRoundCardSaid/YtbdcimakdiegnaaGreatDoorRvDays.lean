/-
  DERIVED. The walk of prop.reader's days. Conditions: sizes. By an AI agent.
-/
import Derived.Test.YtbdcimakdiegnaaGreatDoorRvDate
import Derived.Test.YtbdcimakdiegnaaGreatDoorVa06
namespace Go.Proofs.YtbdcimakdiegnaaGreatDoor
open Go.RowKit

/-- a value without items -/
def vN (x : Vl) : Value := .agg #[.int .i64 x.kind, .int .i64 x.int_, .int .i64 x.to_, .string x.text, .slice none 0 0]
/-- what a method leaves behind that reads a value without items -/
structure RdOut1 (o : RdR) (rb : Nat) (s : ByteArray) (far : Bool) (w : World) (x : Vl) (w' : World) : Prop where
  gr : w.grownBy w' (some rb)
  it : x.items = []
  st : ∃ a' bad' far', RdM w' rb s a' bad' far' ∧ a' ≤ s.size ∧ (match o with | none => bad' = true | some y => bad' = false ∧ far' = (far || y.2.2) ∧ rs s a' = y.2.1 ∧ x = y.1)
/-- the block of a result -/
abbrev zV5 : Array Value := #[.int .i64 0, .int .i64 0, .int .i64 0, .string ⟨#[]⟩, .slice none 0 0]
theorem start5 {w : World} {rb : Nat} {s : ByteArray} {a : Nat} {bad far : Bool} (h : RdM w rb s a bad far) : ∃ X, X = w.alloc (.cells zV5 24) ∧ RdM X rb s a bad far ∧ Blk X w.heap.size 24 zV5 ∧ w.grownBy X (some rb) ∧ X.heap.size = w.heap.size + 1 :=
  ⟨_, rfl, Blk.alloc h _, Blk.new _ _ _, gr_of ((Below.refl _ _).alloc (Nat.le_refl _) _), by simp⟩
theorem blk_gr {w1 w2 : World} {g rb : Nat} {t : TypeId} {cs : Array Value} (h : Blk w1 g t cs) (hg : w1.grownBy w2 (some rb)) (hne : g ≠ rb) : Blk w2 g t cs := h.grown hg (fun e => hne (by injection e))

set_option maxHeartbeats 2000000 in
theorem days_no (rb : Nat) (s : ByteArray) (a : Nat) (bad far : Bool) (w : World) (h : RdM w rb s a bad far) (ha : a ≤ s.size) (hs : s.size ≤ 400000) (hq : dateB (rs s a) = false) :
    Calls Tryz.prog 93 #[.pointer (some ⟨rb, 0, none⟩)] w fun e w' => e = .returned (.tuple #[vN (vI 0 0 0), .bool false]) ∧ RdM w' rb s a bad far ∧ w.grownBy w' (some rb) := by
  have hlt := Blk.lt h
  obtain ⟨X, hX, hr, hK, hg, hz⟩ := start5 h
  have HD := Lib.hid (date_no rb s a bad far X hr ha hs hq)
  have HX := Lib.hid hX
  have HR := Lib.hid hr
  have HK := Lib.hid hK
  have HG := Lib.hid hg
  clear h hX hr hK hg hq
  go_enter Tryz.func93, Tryz.ntmps93
  go_upto_region 1 with fail
  rw [← HX.out]
  go_wp2_with fail
  refine HD.out.mono ?_
  rintro e w1 ⟨rfl, hb1⟩
  have HR1 := Lib.hid (HR.out.below hb1)
  have HK1 := Lib.hid (HK.out.below hb1 HK.out.lt)
  have HG1 := Lib.hid (gr_below HG.out hb1)
  have e1 := fun i => HK1.out.cell i
  have f1 := fun i => HK1.out.frozen i
  clear hb1
  go_wp2_with fail
  obtain ⟨⟨r0, r1, r2, r3, r4⟩, gF, kF, _, _⟩ := fin5 HG1.out hlt HK1.out (.int .i64 0) (.int .i64 0) (.int .i64 0) (.string ⟨#[]⟩) (.slice none 0 0) _ rfl
  exact bodyPost_ret (v := .tuple #[vN (vI 0 0 0), .bool false]) (by simp [results, Tryz.results93, go_sem, r0, r1, r2, r3, r4, vN, vI, Vl.kind, Vl.int_, Vl.to_, Vl.text]) rfl ⟨rfl, kF _ _ HR1.out, gF⟩

set_option maxHeartbeats 4000000 in
set_option maxRecDepth 100000 in
theorem days_yes (rb : Nat) (s : ByteArray) (a : Nat) (far : Bool) (w : World) (h : RdM w rb s a false far) (ha : a ≤ s.size) (hs : s.size ≤ 400000) (hq : dateB (rs s a) = true) :
    Calls Tryz.prog 93 #[.pointer (some ⟨rb, 0, none⟩)] w fun e w' => ∃ x, e = .returned (.tuple #[vN x, .bool true]) ∧ RdOut1 (rdDays (rs s a)) rb s far w x w' := by
  have hlt := Blk.lt h
  have hl : a + 10 ≤ s.size := by
    rw [dateB_at ha, Bool.and_eq_true] at hq
    exact of_decide_eq_true hq.1
  obtain ⟨X, hX, hr, hK, hg, hz⟩ := start5 h
  have HD := Lib.hid (date_yes rb s a false far X hr ha hs hq)
  have HX := Lib.hid hX
  have HR := Lib.hid hr
  have HK := Lib.hid hK
  have HG := Lib.hid hg
  obtain ⟨D, hD⟩ : ∃ D, D = dayV (rs s a) := ⟨_, rfl⟩
  obtain ⟨F, hF⟩ : ∃ F, F = (far || dayF (rs s a)) := ⟨_, rfl⟩
  rw [← hD, ← hF] at HD
  have HF := Lib.hid hF
  have HDE := Lib.hid hD
  have hne : w.heap.size ≠ rb := by omega
  clear h hX hr hK hg hq hF hD
  cases hp : pre [46, 46] (rs s (a + 10))
  · have ho : rdDays (rs s a) = some (vI 4 D 0, rs s (a + 10), dayF (rs s a)) := by
      unfold rdDays
      rw [rs_drop, hp, if_neg (by decide), HDE.out]
    have HO := Lib.hid ho
    have hp := Lib.hid hp
    clear ho
    go_enter Tryz.func93, Tryz.ntmps93
    go_upto_region 1 with fail
    rw [← HX.out]
    go_wp2_with fail
    refine HD.out.mono ?_
    rintro e w1 ⟨rfl, hr1, hg1⟩
    have HR1 := Lib.hid hr1
    have HK1 := Lib.hid (blk_gr HK.out hg1 hne)
    have HG1 := Lib.hid (gr_trans HG.out hg1)
    clear hr1 hg1
    go_wp2_with fail
    refine (take_no rb s ⟨#[46, 46]⟩ (a + 10) false F w1 HR1.out hl hs hp.out).mono ?_
    rintro e w2 ⟨rfl, n, rfl⟩
    have HR2 : Hid (RdM (w1.drewN n) rb s (a + 10) false F) := HR1.out
    have HK2 : Hid (Blk (w1.drewN n) w.heap.size 24 zV5) := HK1.out
    have HG2 := Lib.hid (gr_trans HG1.out (gr_drewN w1 n _))
    generalize w1.drewN n = w2 at HR2 HK2 HG2 ⊢
    have e1 := fun i => HK2.out.cell i
    have f1 := fun i => HK2.out.frozen i
    go_wp2_with fail
    obtain ⟨⟨r0, r1, r2, r3, r4⟩, gF, kF, _, _⟩ := fin5 HG2.out hlt HK2.out (.int .i64 4) (.int .i64 D) (.int .i64 0) (.string ⟨#[]⟩) (.slice none 0 0) _ rfl
    refine bodyPost_ret (v := .tuple #[vN (vI 4 D 0), .bool true]) (by simp [results, Tryz.results93, go_sem, r0, r1, r2, r3, r4, vN, vI, Vl.kind, Vl.int_, Vl.to_, Vl.text]) rfl ⟨_, rfl, gF, rfl, a + 10, false, F, kF _ _ HR2.out, hl, ?_⟩
    rw [HO.out]
    exact ⟨rfl, HF.out, rfl, rfl⟩
  · have hl2 : a + 10 + 2 ≤ s.size := rs_pre hp hl
    cases hq : dateB (rs s (a + 10 + 2))
    · have ho : rdDays (rs s a) = none := by
        unfold rdDays
        rw [rs_drop, hp, if_pos rfl, rs_drop, if_neg (by rw [show a + 12 = a + 10 + 2 from rfl, hq]; decide)]
      have HO := Lib.hid ho
      have hp := Lib.hid hp
      have hq := Lib.hid hq
      clear ho
      go_enter Tryz.func93, Tryz.ntmps93
      go_upto_region 1 with fail
      rw [← HX.out]
      go_wp2_with fail
      refine HD.out.mono ?_
      rintro e w1 ⟨rfl, hr1, hg1⟩
      have HR1 := Lib.hid hr1
      have HK1 := Lib.hid (blk_gr HK.out hg1 hne)
      have HG1 := Lib.hid (gr_trans HG.out hg1)
      clear hr1 hg1
      go_wp2_with fail
      refine (take_yes rb s ⟨#[46, 46]⟩ (a + 10) false F w1 HR1.out hl hs hp.out).mono ?_
      rintro e w2 ⟨rfl, hr2, hg2⟩
      have HR2 : Hid (RdM w2 rb s (a + 10 + 2) false F) := hr2
      have HK2 := Lib.hid (blk_gr HK1.out hg2 hne)
      have HG2 := Lib.hid (gr_trans HG1.out hg2)
      clear hr2 hg2
      go_wp2_with fail
      refine (date_no rb s (a + 10 + 2) false F w2 HR2.out hl2 hs hq.out).mono ?_
      rintro e w3 ⟨rfl, hb3⟩
      have HR3 := Lib.hid (HR2.out.below hb3)
      have HK3 := Lib.hid (HK2.out.below hb3 HK2.out.lt)
      have HG3 := Lib.hid (gr_below HG2.out hb3)
      clear hb3
      have e1 := fun i => HK3.out.cell i
      have f1 := fun i => HK3.out.frozen i
      obtain ⟨⟨_, _, k2, _⟩, _, g2, _⟩ := HR3.out.at_
      have HK4 := Lib.hid (HK3.out.far (p := ⟨rb, 2, none⟩) hne (.bool true))
      have HR4 := Lib.hid (HR3.out.bads true)
      have HG4 := Lib.hid (gr_set HG3.out 2 (.bool true))
      have e4 := fun i => HK4.out.cell i
      have f4 := fun i => HK4.out.frozen i
      go_wp2_with fail
      obtain ⟨⟨r0, r1, r2, r3, r4⟩, gF, kF, _, _⟩ := fin5 HG4.out hlt HK4.out (.int .i64 5) (.int .i64 D) (.int .i64 0) (.string ⟨#[]⟩) (.slice none 0 0) _ rfl
      refine bodyPost_ret (v := .tuple #[vN (vI 5 D 0), .bool true]) (by simp [results, Tryz.results93, go_sem, r0, r1, r2, r3, r4, vN, vI, Vl.kind, Vl.int_, Vl.to_, Vl.text]) rfl ⟨_, rfl, gF, rfl, a + 10 + 2, true, F, kF _ _ HR4.out, hl2, ?_⟩
      rw [HO.out]
    · have hl3 : a + 10 + 2 + 10 ≤ s.size := by
        rw [dateB_at hl2, Bool.and_eq_true] at hq
        exact of_decide_eq_true hq.1
      obtain ⟨D2, hD2⟩ : ∃ D, D = dayV (rs s (a + 10 + 2)) := ⟨_, rfl⟩
      obtain ⟨F2, hF2⟩ : ∃ G, G = (F || dayF (rs s (a + 10 + 2))) := ⟨_, rfl⟩
      have ho : rdDays (rs s a) = some (vI 5 D D2, rs s (a + 10 + 2 + 10), dayF (rs s a) || dayF (rs s (a + 10 + 2))) := by
        unfold rdDays
        rw [rs_drop, hp, if_pos rfl, rs_drop, rs_drop, if_pos (by rw [show a + 12 = a + 10 + 2 from rfl, hq]), HDE.out, hD2]
      have DY := fun W hW => date_yes rb s (a + 10 + 2) false F W hW hl2 hs hq
      rw [← hD2, ← hF2] at DY
      have DY := Lib.hid DY
      have HO := Lib.hid ho
      have HF2 := Lib.hid hF2
      have hp := Lib.hid hp
      have hq := Lib.hid hq
      clear ho hD2 hF2
      go_enter Tryz.func93, Tryz.ntmps93
      go_upto_region 1 with fail
      rw [← HX.out]
      go_wp2_with fail
      refine HD.out.mono ?_
      rintro e w1 ⟨rfl, hr1, hg1⟩
      have HR1 := Lib.hid hr1
      have HK1 := Lib.hid (blk_gr HK.out hg1 hne)
      have HG1 := Lib.hid (gr_trans HG.out hg1)
      clear hr1 hg1
      go_wp2_with fail
      refine (take_yes rb s ⟨#[46, 46]⟩ (a + 10) false F w1 HR1.out hl hs hp.out).mono ?_
      rintro e w2 ⟨rfl, hr2, hg2⟩
      have HR2 : Hid (RdM w2 rb s (a + 10 + 2) false F) := hr2
      have HK2 := Lib.hid (blk_gr HK1.out hg2 hne)
      have HG2 := Lib.hid (gr_trans HG1.out hg2)
      clear hr2 hg2
      go_wp2_with fail
      refine (DY.out w2 HR2.out).mono ?_
      rintro e w3 ⟨rfl, hr3, hg3⟩
      have HR3 := Lib.hid hr3
      have HK3 := Lib.hid (blk_gr HK2.out hg3 hne)
      have HG3 := Lib.hid (gr_trans HG2.out hg3)
      clear hr3 hg3
      have e1 := fun i => HK3.out.cell i
      have f1 := fun i => HK3.out.frozen i
      obtain ⟨⟨_, _, k2, _⟩, _, g2, _⟩ := HR3.out.at_
      have HK4 := Lib.hid (HK3.out.far (p := ⟨rb, 2, none⟩) hne (.bool false))
      have HR4 := Lib.hid (HR3.out.bads false)
      have HG4 := Lib.hid (gr_set HG3.out 2 (.bool false))
      have e4 := fun i => HK4.out.cell i
      have f4 := fun i => HK4.out.frozen i
      go_wp2_with fail
      obtain ⟨⟨r0, r1, r2, r3, r4⟩, gF, kF, _, _⟩ := fin5 HG4.out hlt HK4.out (.int .i64 5) (.int .i64 D) (.int .i64 D2) (.string ⟨#[]⟩) (.slice none 0 0) _ rfl
      refine bodyPost_ret (v := .tuple #[vN (vI 5 D D2), .bool true]) (by simp [results, Tryz.results93, go_sem, r0, r1, r2, r3, r4, vN, vI, Vl.kind, Vl.int_, Vl.to_, Vl.text]) rfl ⟨_, rfl, gF, rfl, a + 10 + 2 + 10, false, F2, kF _ _ HR4.out, hl3, ?_⟩
      rw [HO.out]
      refine ⟨rfl, ?_, rfl, rfl⟩
      rw [HF2.out, HF.out, Bool.or_assoc]
end Go.Proofs.YtbdcimakdiegnaaGreatDoor
