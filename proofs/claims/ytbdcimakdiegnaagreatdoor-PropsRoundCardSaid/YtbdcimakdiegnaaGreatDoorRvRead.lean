/-
  DERIVED. The walks of prop.readValue and prop.Read. Conditions: sizes; tables are laid. By an AI agent.
-/
import Derived.Test.YtbdcimakdiegnaaGreatDoorRvVal
namespace Go.Proofs.YtbdcimakdiegnaaGreatDoor
open Go.RowKit

theorem fin5b {w w1 : World} {t : TypeId} {z0 z1 z2 z3 z4 : Value} (hg : Below w.heap.size w w1) (hP : Blk w1 w.heap.size t #[z0, z1, z2, z3, z4]) (x0 x1 x2 x3 x4 : Value) (WF : World)
    (hWF : WF = ((((w1.setCell ⟨w.heap.size, 0, none⟩ x0).setCell ⟨w.heap.size, 1, none⟩ x1).setCell ⟨w.heap.size, 2, none⟩ x2).setCell ⟨w.heap.size, 3, none⟩ x3).setCell ⟨w.heap.size, 4, none⟩ x4) :
    (WF.cell? ⟨w.heap.size, 0, none⟩ = some x0 ∧ WF.cell? ⟨w.heap.size, 1, none⟩ = some x1 ∧ WF.cell? ⟨w.heap.size, 2, none⟩ = some x2 ∧ WF.cell? ⟨w.heap.size, 3, none⟩ = some x3 ∧ WF.cell? ⟨w.heap.size, 4, none⟩ = some x4)
      ∧ Below w.heap.size w WF ∧ WF.heap.size = w1.heap.size ∧ ∀ j, j ≠ w.heap.size → WF.heap[j]? = w1.heap[j]? := by
  subst hWF
  have hb := ((((hP.set_ 0 x0).set_ 1 x1).set_ 2 x2).set_ 3 x3).set_ 4 x4
  refine ⟨⟨hb.cell 0, hb.cell 1, hb.cell 2, hb.cell 3, hb.cell 4⟩, ?_, ?_, ?_⟩
  · exact ((((hg.setCell (p := ⟨w.heap.size, 0, none⟩) (Nat.le_refl _) _).setCell (p := ⟨w.heap.size, 1, none⟩) (Nat.le_refl _) _).setCell (p := ⟨w.heap.size, 2, none⟩) (Nat.le_refl _) _).setCell (p := ⟨w.heap.size, 3, none⟩) (Nat.le_refl _) _).setCell (p := ⟨w.heap.size, 4, none⟩) (Nat.le_refl _) _
  · simp [World.setCell]
  · intro j hj
    rw [Below.heap_setCell _ _ _ j hj, Below.heap_setCell _ _ _ j hj, Below.heap_setCell _ _ _ j hj, Below.heap_setCell _ _ _ j hj, Below.heap_setCell _ _ _ j hj]
/-- what readValue and Read leave behind -/
def RvP (y : Vl × Int) (w : World) (e : Ending) (w' : World) : Prop := ∃ v : Vl × Value, e = .returned (.tuple #[AV v, .int .i64 y.2]) ∧ v.1 = y.1 ∧ RVX w' (fun b => w.heap.size ≤ b ∧ b < w'.heap.size) v.2 v.1.items ∧ Below w.heap.size w w'
theorem RdOut2.parts {o : RdR} {rb : Nat} {s : ByteArray} {far : Bool} {w w' : World} {v : Vl × Value} (h : RdOut2 o rb s far w v w') : ∃ a' bad' far', w.grownBy w' (some rb) ∧ RVX w' (fun b => w.heap.size ≤ b ∧ b < w'.heap.size) v.2 v.1.items ∧ RdM w' rb s a' bad' far' ∧ a' ≤ s.size ∧ StI o far bad' far' s a' v.1 := by
  obtain ⟨h1, h2, a', bad', far', h3, h4, h5⟩ := h
  exact ⟨a', bad', far', h1, h2, h3, h4, by cases o <;> exact h5⟩
def rdFin (o : RdR) : Vl × Int := match o with | none => (vI 0 0 0, 8) | some (v, r, f) => if r ≠ [] then (vI 0 0 0, 8) else if f = true then (vI 0 0 0, 2) else (v, 0)
theorem rdAll_fin (t : List UInt8) : rdAll t = rdFin (rdVal t) := rfl
theorem rs_zero (s : ByteArray) : rs s 0 = s.data.toList := by
  unfold rs
  rw [List.drop_zero]

set_option maxHeartbeats 2000000 in
set_option maxRecDepth 100000 in
theorem readValue_any (s : ByteArray) (m : Int) (w : World) (hs : s.size ≤ 400000) (hm : En m w) :
    Calls Tryz.prog 18 #[.string s] w (RvP (rdAll s.data.toList) w) := by
  obtain ⟨X, hX⟩ : ∃ X, X = w.alloc (.cells zV5 24) := ⟨_, rfl⟩
  obtain ⟨rb, hrb⟩ : ∃ rb, rb = w.heap.size + 1 := ⟨_, rfl⟩
  have hz : X.heap.size = rb := by rw [hX, hrb]; simp
  obtain ⟨w1, hw1⟩ : ∃ w1, w1 = X.alloc (.cells #[.string s, .int .i64 0, .bool false, .bool false] 91) := ⟨_, rfl⟩
  have hBX : Below w.heap.size w X := by rw [hX]; exact (Below.refl _ _).alloc (Nat.le_refl _) _
  have hB1 : Below w.heap.size w w1 := by rw [hw1]; exact hBX.alloc hBX.size _
  have hKX : Blk X w.heap.size 24 zV5 := by rw [hX]; exact Blk.new _ _ _
  have hK1 : Blk w1 w.heap.size 24 zV5 := by rw [hw1]; exact hKX.alloc _
  have hR1 : RdM w1 rb s 0 false false := by
    unfold RdM
    rw [hw1, ← hz]
    exact Blk.new X _ _
  have hE1 : En m w1 := hm.below hB1
  have hz1 : w1.heap.size = rb + 1 := by rw [hw1, ← hz]; simp
  have HV := Lib.hid (value_any rb s 0 false m w1 hR1 (Nat.zero_le _) hs hE1)
  rw [rs_zero] at HV
  have HX := Lib.hid hX
  have HW1 := Lib.hid hw1
  have HZ := Lib.hid hz
  have HB1 := Lib.hid hB1
  have HK1 := Lib.hid hK1
  obtain ⟨o, ho⟩ : ∃ o, o = rdVal s.data.toList := ⟨_, rfl⟩
  rw [← ho] at HV
  have hw : w.heap.size < rb := by omega
  rw [rdAll_fin, ← ho]
  clear hX hw1 hz hBX hB1 hKX hK1 hR1 hE1 ho hm hrb
  go_enter Tryz.func18, Tryz.ntmps18
  go_upto_region 1 with fail
  rw [← HX.out]
  go_wp2_with fail
  rw [HZ.out, ← HW1.out]
  refine HV.out.mono ?_
  rintro e w9 ⟨⟨⟨kx, ix, tx, sx, lx⟩, vx⟩, rfl, ho9⟩
  obtain ⟨Ax, nx, cx, rfl⟩ := ho9.mem.slice
  obtain ⟨p, bd, fr, g9, m9, r9, hp, st9⟩ := ho9.parts
  dsimp only [AV, Vl.kind, Vl.int_, Vl.to_, Vl.text]
  have hz9 := g9.size
  have hB9 : Below w.heap.size w w9 := HB1.out.trans (gr_base g9 (by omega) (by omega))
  have KV := Blk.new w9 24 #[.int .i64 kx, .int .i64 ix, .int .i64 tx, .string sx, .slice Ax nx cx]
  have R2 : RdM (w9.alloc (.cells #[.int .i64 kx, .int .i64 ix, .int .i64 tx, .string sx, .slice Ax nx cx] 24)) rb s p bd fr := Blk.alloc r9 _
  have K2 := (blk_gr HK1.out g9 (show w.heap.size ≠ rb by omega)).alloc (.cells #[.int .i64 kx, .int .i64 ix, .int .i64 tx, .string sx, .slice Ax nx cx] 24)
  have B2 : Below w.heap.size w (w9.alloc (.cells #[.int .i64 kx, .int .i64 ix, .int .i64 tx, .string sx, .slice Ax nx cx] 24)) := hB9.alloc hB9.size _
  have M2 : RVX (w9.alloc (.cells #[.int .i64 kx, .int .i64 ix, .int .i64 tx, .string sx, .slice Ax nx cx] 24)) (fun b => w1.heap.size ≤ b ∧ b < w9.heap.size) (.slice Ax nx cx) lx := m9.keep (fun q hq => World.cell?_alloc_lt _ _ _ hq.2)
  have Z2 : (w9.alloc (.cells #[.int .i64 kx, .int .i64 ix, .int .i64 tx, .string sx, .slice Ax nx cx] 24)).heap.size = w9.heap.size + 1 := by simp
  have HKV := Lib.hid KV
  have HR2 := Lib.hid R2
  have HK2 := Lib.hid K2
  have HB2 := Lib.hid B2
  have HM2 := Lib.hid M2
  have HZ2 := Lib.hid Z2
  have ST := Lib.hid st9
  clear g9 m9 r9 st9 ho9 hB9 KV R2 K2 B2 M2 Z2
  have hzz : w1.heap.size ≤ w9.heap.size := hz9
  have c0 := Blk.cell HR2.out 0
  have c1 := Blk.cell HR2.out 1
  have c2 := Blk.cell HR2.out 2
  have c3 := Blk.cell HR2.out 3
  have e2 := fun i => HK2.out.cell i
  have f2 := fun i => HK2.out.frozen i
  have v2 := fun i => HKV.out.cell i
  cases bd
  case true =>
    obtain rfl : o = none := by
      cases o with
      | none => rfl
      | some y => have := ST.out; exact absurd this.1 (by decide)
    have HRD : Hid (rdFin none = (vI 0 0 0, 8)) := rfl
    go_wp2_with fail
    obtain ⟨⟨r0, r1, r2, r3, r4⟩, bF, zF, jF⟩ := fin5b HB2.out HK2.out (.int .i64 0) (.int .i64 0) (.int .i64 0) (.string ⟨#[]⟩) (.slice none 0 0) _ rfl
    refine bodyPost_ret (v := .tuple #[AV (vI 0 0 0, .slice none 0 0), .int .i64 8]) (by simp [results, Tryz.results18, go_sem, r0, r1, r2, r3, r4, AV, vI, Vl.kind, Vl.int_, Vl.to_, Vl.text]) rfl ?_
    unfold RvP
    rw [HRD.out]
    refine ⟨(vI 0 0 0, .slice none 0 0), rfl, rfl, ⟨0, rfl, none, 0, rfl⟩, bF⟩
  case false =>
    obtain ⟨⟨y, r, f⟩, rfl⟩ : ∃ y, o = some y := by
      cases o with
      | none => have h : false = true := ST.out; cases h
      | some y => exact ⟨y, rfl⟩
    obtain ⟨_, hf, hr, hx⟩ : false = false ∧ fr = (false || f) ∧ rs s p = r ∧ Vl.mk kx ix tx sx lx = y := ST.out
    rw [Bool.false_or] at hf
    subst hf
    subst hx
    by_cases hps : p < s.size
    · have hne : r ≠ [] := by
        intro e
        have := rs_len s p
        rw [hr, e] at this
        simp at this
        omega
      have HRD : Hid (rdFin (some (Vl.mk kx ix tx sx lx, r, fr)) = (vI 0 0 0, 8)) := if_pos hne
      have j1 : (p : Int) < (s.size : Int) := by omega
      have j2 : decide ((p : Int) < (s.size : Int)) = true := decide_eq_true j1
      clear hr hne
      go_wp2_with fail
      obtain ⟨⟨r0, r1, r2, r3, r4⟩, bF, zF, jF⟩ := fin5b HB2.out HK2.out (.int .i64 0) (.int .i64 0) (.int .i64 0) (.string ⟨#[]⟩) (.slice none 0 0) _ rfl
      refine bodyPost_ret (v := .tuple #[AV (vI 0 0 0, .slice none 0 0), .int .i64 8]) (by simp [results, Tryz.results18, go_sem, r0, r1, r2, r3, r4, AV, vI, Vl.kind, Vl.int_, Vl.to_, Vl.text]) rfl ?_
      unfold RvP
      rw [HRD.out]
      refine ⟨(vI 0 0 0, .slice none 0 0), rfl, rfl, ⟨0, rfl, none, 0, rfl⟩, bF⟩
    · have he : r = [] := by rw [← hr]; exact rs_end (by omega)
      have j1 : ¬ (p : Int) < (s.size : Int) := by omega
      have j2 : decide ((p : Int) < (s.size : Int)) = false := decide_eq_false j1
      subst he
      clear hr
      cases fr
      · have HRD : Hid (rdFin (some (Vl.mk kx ix tx sx lx, [], false)) = (Vl.mk kx ix tx sx lx, 0)) := rfl
        go_wp2_with fail
        obtain ⟨⟨r0, r1, r2, r3, r4⟩, bF, zF, jF⟩ := fin5b HB2.out HK2.out (.int .i64 kx) (.int .i64 ix) (.int .i64 tx) (.string sx) (.slice Ax nx cx) _ rfl
        refine bodyPost_ret (v := .tuple #[AV (.mk kx ix tx sx lx, .slice Ax nx cx), .int .i64 0]) (by simp [results, Tryz.results18, go_sem, r0, r1, r2, r3, r4, AV, Vl.kind, Vl.int_, Vl.to_, Vl.text]) rfl ?_
        unfold RvP
        rw [HRD.out]
        refine ⟨(.mk kx ix tx sx lx, .slice Ax nx cx), rfl, rfl, ?_, bF⟩
        refine (HM2.out.keep (fun q hq => World.cell?_of_block (jF _ (by omega)))).weak (fun b hb => ⟨by omega, ?_⟩)
        rw [zF, HZ2.out]
        omega
      · have HRD : Hid (rdFin (some (Vl.mk kx ix tx sx lx, [], true)) = (vI 0 0 0, 2)) := rfl
        go_wp2_with fail
        obtain ⟨⟨r0, r1, r2, r3, r4⟩, bF, zF, jF⟩ := fin5b HB2.out HK2.out (.int .i64 0) (.int .i64 0) (.int .i64 0) (.string ⟨#[]⟩) (.slice none 0 0) _ rfl
        refine bodyPost_ret (v := .tuple #[AV (vI 0 0 0, .slice none 0 0), .int .i64 2]) (by simp [results, Tryz.results18, go_sem, r0, r1, r2, r3, r4, AV, vI, Vl.kind, Vl.int_, Vl.to_, Vl.text]) rfl ?_
        unfold RvP
        rw [HRD.out]
        refine ⟨(vI 0 0 0, .slice none 0 0), rfl, rfl, ⟨0, rfl, none, 0, rfl⟩, bF⟩

set_option maxHeartbeats 2000000 in
set_option maxRecDepth 100000 in
theorem read_any (s : ByteArray) (m : Int) (w : World) (hm : En m w) :
    Calls Tryz.prog 8 #[.string s] w (RvP (rdV s.data.toList) w) := by
  obtain ⟨X, hX⟩ : ∃ X, X = w.alloc (.cells zV5 24) := ⟨_, rfl⟩
  have hBX : Below w.heap.size w X := by rw [hX]; exact (Below.refl _ _).alloc (Nat.le_refl _) _
  have hKX : Blk X w.heap.size 24 zV5 := by rw [hX]; exact Blk.new _ _ _
  have hzX : w.heap.size < X.heap.size := by rw [hX]; simp
  have hEX : En m X := hm.below hBX
  have HX := Lib.hid hX
  have HBX := Lib.hid hBX
  have HKX := Lib.hid hKX
  have hsz := Lib.size_eq s
  by_cases hbig : 400000 < s.size
  · have HRD : Hid (rdV s.data.toList = (vI 0 0 0, 4)) := by
      show _ = _
      unfold rdV
      rw [if_pos (by omega)]
    have j1 : (400000 : Int) < (s.size : Int) := by omega
    have e2 := fun i => HKX.out.cell i
    have f2 := fun i => HKX.out.frozen i
    clear hX hBX hKX hEX hm hsz hbig
    go_enter Tryz.func8, Tryz.ntmps8
    go_upto_region 1 with fail
    rw [← HX.out]
    go_wp2_with fail
    obtain ⟨⟨r0, r1, r2, r3, r4⟩, bF, zF, jF⟩ := fin5b HBX.out HKX.out (.int .i64 0) (.int .i64 0) (.int .i64 0) (.string ⟨#[]⟩) (.slice none 0 0) _ rfl
    refine bodyPost_ret (v := .tuple #[AV (vI 0 0 0, .slice none 0 0), .int .i64 4]) (by simp [results, Tryz.results8, go_sem, r0, r1, r2, r3, r4, AV, vI, Vl.kind, Vl.int_, Vl.to_, Vl.text]) rfl ?_
    unfold RvP
    rw [HRD.out]
    refine ⟨(vI 0 0 0, .slice none 0 0), rfl, rfl, ⟨0, rfl, none, 0, rfl⟩, bF⟩
  have hrd : rdV s.data.toList = if (rdAll s.data.toList).2 ≠ 0 then (vI 0 0 0, (rdAll s.data.toList).2) else if vErr (rdAll s.data.toList).1 ≠ 0 then (vI 0 0 0, vErr (rdAll s.data.toList).1) else ((rdAll s.data.toList).1, 0) := by
    unfold rdV
    rw [if_neg (by omega)]
  have j1 : ¬ (400000 : Int) < (s.size : Int) := by omega
  have RV9 := Lib.hid (readValue_any s m X (by omega) hEX)
  obtain ⟨⟨y, E⟩, hy⟩ : ∃ y, y = rdAll s.data.toList := ⟨_, rfl⟩
  rw [← hy] at RV9 hrd
  dsimp only at hrd
  have HRD0 := Lib.hid hrd
  clear hX hBX hKX hEX hm hsz hbig hrd hy
  go_enter Tryz.func8, Tryz.ntmps8
  go_upto_region 1 with fail
  rw [← HX.out]
  go_wp2_with fail
  refine RV9.out.mono ?_
  rintro e w9 ⟨⟨⟨kx, ix, tx, sx, lx⟩, vx⟩, rfl, hyx, m9, b9⟩
  obtain ⟨Ax, nx, cx, rfl⟩ := m9.slice
  dsimp only at hyx m9
  subst hyx
  dsimp only [AV, Vl.kind, Vl.int_, Vl.to_, Vl.text, Vl.items] at m9 ⊢
  have hB9 : Below w.heap.size w w9 := HBX.out.trans (b9.mono (by omega))
  obtain ⟨W, hW⟩ : ∃ W, W = w9.alloc (.cells #[.int .i64 kx, .int .i64 ix, .int .i64 tx, .string sx, .slice Ax nx cx] 24) := ⟨_, rfl⟩
  have HKV : Hid (Blk W w9.heap.size 24 #[.int .i64 kx, .int .i64 ix, .int .i64 tx, .string sx, .slice Ax nx cx]) := by
    rw [hW]; exact Blk.new _ _ _
  have HK2 : Hid (Blk W w.heap.size 24 zV5) := by
    rw [hW]; exact (HKX.out.below b9 hzX).alloc _
  have HB2 : Hid (Below w.heap.size w W) := by
    rw [hW]; exact hB9.alloc hB9.size _
  have hM2 : RVX W (fun b => X.heap.size ≤ b ∧ b < w9.heap.size) (.slice Ax nx cx) lx := by
    rw [hW]; exact m9.keep (fun q hq => World.cell?_alloc_lt _ _ _ hq.2)
  have hzW : W.heap.size = w9.heap.size + 1 := by rw [hW]; simp
  obtain ⟨d, hd⟩ : RV W W.heap.size (.slice Ax nx cx) lx := hM2.reads (fun b hb => by omega)
  have CV := Lib.hid (checkValue_any d (.mk kx ix tx sx lx, .slice Ax nx cx) W W.heap.size (Nat.le_refl _) hd)
  have CP : Hid (∀ W', Below W.heap.size W W' → Calls Tryz.prog 19 #[AV (.mk kx ix tx sx lx, .slice Ax nx cx)] W' (CopyR (.mk kx ix tx sx lx) W')) := fun W' hW' => copyValue_any d (.mk kx ix tx sx lx, .slice Ax nx cx) W' W.heap.size hW'.size (hd.below hW')
  have HW := Lib.hid hW
  dsimp only [AV, Vl.kind, Vl.int_, Vl.to_, Vl.text] at CV CP
  obtain ⟨V, hV⟩ : ∃ V, V = vErr (.mk kx ix tx sx lx) := ⟨_, rfl⟩
  rw [← hV] at CV HRD0
  clear m9 b9 hB9 hW hM2 hd hV RV9
  have e2 := fun i => HK2.out.cell i
  have f2 := fun i => HK2.out.frozen i
  have v2 := fun i => HKV.out.cell i
  by_cases hE : E = 0
  case neg =>
    have HRD : Hid (rdV s.data.toList = (vI 0 0 0, E)) := by
      show _ = _
      rw [HRD0.out, if_pos hE]
    have k1 : (E == 0) = false := beq_eq_false_iff_ne.2 hE
    have k2 : (E != 0) = true := bne_iff_ne.2 hE
    clear hE
    go_upto_region 4 with fail
    rw [← HW.out]
    go_wp2_with fail
    obtain ⟨⟨r0, r1, r2, r3, r4⟩, bF, zF, jF⟩ := fin5b HB2.out HK2.out (.int .i64 0) (.int .i64 0) (.int .i64 0) (.string ⟨#[]⟩) (.slice none 0 0) _ rfl
    refine bodyPost_ret (v := .tuple #[AV (vI 0 0 0, .slice none 0 0), .int .i64 E]) (by simp [results, Tryz.results8, go_sem, r0, r1, r2, r3, r4, AV, vI, Vl.kind, Vl.int_, Vl.to_, Vl.text]) rfl ?_
    unfold RvP
    rw [HRD.out]
    refine ⟨(vI 0 0 0, .slice none 0 0), rfl, rfl, ⟨0, rfl, none, 0, rfl⟩, bF⟩
  case pos =>
  subst hE
  go_upto_region 4 with fail
  rw [← HW.out]
  go_wp2_with fail
  refine CV.out.mono ?_
  rintro e w3 ⟨rfl, b3⟩
  have HK3 := Lib.hid (HK2.out.below b3 HK2.out.lt)
  have HKV3 := Lib.hid (HKV.out.below b3 HKV.out.lt)
  have HB3 := Lib.hid (HB2.out.trans (b3.mono HB2.out.size))
  have hwW := HK2.out.lt
  have hz3 := b3.size
  clear e2 f2 v2
  have e2 := fun i => HK3.out.cell i
  have f2 := fun i => HK3.out.frozen i
  have v2 := fun i => HKV3.out.cell i
  by_cases hV : V = 0
  case neg =>
    have HRD : Hid (rdV s.data.toList = (vI 0 0 0, V)) := by
      show _ = _
      rw [HRD0.out, if_neg (by simp), if_pos hV]
    have k1 : (V == 0) = false := beq_eq_false_iff_ne.2 hV
    have k2 : (V != 0) = true := bne_iff_ne.2 hV
    clear hV b3
    go_wp2_with fail
    obtain ⟨⟨r0, r1, r2, r3, r4⟩, bF, zF, jF⟩ := fin5b HB3.out HK3.out (.int .i64 0) (.int .i64 0) (.int .i64 0) (.string ⟨#[]⟩) (.slice none 0 0) _ rfl
    refine bodyPost_ret (v := .tuple #[AV (vI 0 0 0, .slice none 0 0), .int .i64 V]) (by simp [results, Tryz.results8, go_sem, r0, r1, r2, r3, r4, AV, vI, Vl.kind, Vl.int_, Vl.to_, Vl.text]) rfl ?_
    unfold RvP
    rw [HRD.out]
    refine ⟨(vI 0 0 0, .slice none 0 0), rfl, rfl, ⟨0, rfl, none, 0, rfl⟩, bF⟩
  case pos =>
  subst hV
  have HRD : Hid (rdV s.data.toList = (Vl.mk kx ix tx sx lx, 0)) := by
    show _ = _
    rw [HRD0.out, if_neg (by simp), if_neg (by simp)]
  have CP3 := Lib.hid (CP.out w3 b3)
  clear b3
  go_wp2_with fail
  refine CP3.out.mono ?_
  rintro e w4 ⟨⟨A4, n4, c4, rfl, m4⟩, b4⟩
  have HK4 := Lib.hid (HK3.out.below b4 HK3.out.lt)
  have HB4 := Lib.hid (HB3.out.trans (b4.mono HB3.out.size))
  have HM4 := Lib.hid m4
  clear e2 f2 v2 b4 m4
  have e4 := fun i => HK4.out.cell i
  have f4 := fun i => HK4.out.frozen i
  dsimp only [AV, Vl.kind, Vl.int_, Vl.to_, Vl.text]
  go_wp2_with fail
  obtain ⟨⟨r0, r1, r2, r3, r4⟩, bF, zF, jF⟩ := fin5b HB4.out HK4.out (.int .i64 kx) (.int .i64 ix) (.int .i64 tx) (.string sx) (.slice A4 n4 c4) _ rfl
  refine bodyPost_ret (v := .tuple #[AV (.mk kx ix tx sx lx, .slice A4 n4 c4), .int .i64 0]) (by simp [results, Tryz.results8, go_sem, r0, r1, r2, r3, r4, AV, Vl.kind, Vl.int_, Vl.to_, Vl.text]) rfl ?_
  unfold RvP
  rw [HRD.out]
  refine ⟨(.mk kx ix tx sx lx, .slice A4 n4 c4), rfl, rfl, ?_, bF⟩
  refine (HM4.out.keep (fun q hq => World.cell?_of_block (jF _ (by omega)))).weak (fun b hb => ⟨by omega, ?_⟩)
  rw [zF]
  omega
end Go.Proofs.YtbdcimakdiegnaaGreatDoor
