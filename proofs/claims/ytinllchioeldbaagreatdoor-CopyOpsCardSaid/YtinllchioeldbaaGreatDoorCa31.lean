/-
  DERIVED. The walk of copy.CheckOp. Conditions: sizes. By an AI agent.
-/
import Derived.Test.YtinllchioeldbaaGreatDoorCa21
namespace Go.Proofs.YtinllchioeldbaaGreatDoor
open Go.RowKit

theorem cE_eq (o : COp) : cE o = if stE o.st ≠ 0 then stE o.st else if fmE o ≠ 0 then fmE o else if outI o.id 1 1000000 = true then 2 else if ((o.kind == 1) || (o.kind == 2)) = true then cPlE o else if (o.kind == 4) = true then cTyE o else if (o.kind == 5) = true then cErE o else if (o.kind == 6) = true then cSpE o else 0 := by
  unfold cE
  cases h : stOk o.st
  · rw [if_pos rfl, stE_no h]; rfl
  · rw [if_neg (by decide), stE_yes h]
    unfold fmE
    cases h1 : outI o.kind 1 6
    · cases h2 : cFormB o
      · simp
      · simp
    · simp

set_option maxHeartbeats 4000000 in
set_option maxRecDepth 100000 in
/-- copy.CheckOp -/
theorem checkOp_any (x : COm) (w : World) (B : Nat) (hB : B ≤ w.heap.size) (h : RC1 w B x) :
    Calls Tryz.prog 6 #[CA x] w fun e w' => e = .returned (.int .i64 (cE x.op)) ∧ Below w.heap.size w w' := by
  obtain ⟨As, ns, cs, Ai, ni, ci, hx⟩ := h.slices
  obtain ⟨o, sp, it⟩ := x
  injection hx with _ hx1 hx2
  subst hx1 hx2
  obtain ⟨hs, ⟨d, hv⟩, hci⟩ := h
  dsimp only at hs hv hci
  obtain ⟨hn, _, hn8⟩ := hs.len
  have hni : ni = o.val.items.length := by
    obtain ⟨A, n, c, M, h1, h2, h3, _⟩ := RV.open_ ⟨d, hv⟩
    injection h2 with _ h2 _
    rw [h2, h3, ← h1, List.length_map]
  have H1 := Lib.hid fun W => checkStamp_any o.st W
  have H2 := Lib.hid fun W => checkFormC_any o As Ai ns cs ni ci W hn hni
  have H3 := Lib.hid fun W => outsideC_any o.id 1 1000000 W
  have H4 := Lib.hid fun W => checkPlace_any o As Ai ns cs ni ci W hci.2.2.1
  have H5 := Lib.hid fun W => checkType_any o As Ai ns cs ni ci W
  have H6 : Hid (∀ W, Below w.heap.size w W → Calls Tryz.prog 17 #[CA ⟨o, .slice As ns cs, .slice Ai ni ci⟩] W fun e w' => e = .returned (.int .i64 (cErE o)) ∧ Below W.heap.size W w') := fun W hW => checkErase_any o As Ai ns cs ni ci W B (Nat.le_trans hB hW.size) (hs.below (hW.mono hB))
  have H7 := Lib.hid fun W => checkName_any o.name W
  have H8 : Hid (∀ W, Below w.heap.size w W → Calls Tryz.prog 19 #[AV (o.val, .slice Ai ni ci)] W fun e w' => e = .returned (.int .i64 (vErr o.val)) ∧ Below W.heap.size W w') := fun W hW => checkValue_any d (o.val, .slice Ai ni ci) W B (Nat.le_trans hB hW.size) (hv.below (hW.mono hB))
  dsimp only
  obtain ⟨E, hE⟩ : ∃ E, E = cE o := ⟨_, rfl⟩
  rw [← hE]
  rw [cE_eq, cSpE] at hE
  obtain ⟨s, hs1⟩ : ∃ q, q = stE o.st := ⟨_, rfl⟩
  obtain ⟨f, hf1⟩ : ∃ q, q = fmE o := ⟨_, rfl⟩
  obtain ⟨p, hp1⟩ : ∃ q, q = outI o.id 1 1000000 := ⟨_, rfl⟩
  obtain ⟨c1, hc1⟩ : ∃ q, q = cPlE o := ⟨_, rfl⟩
  obtain ⟨c2, hc2⟩ : ∃ q, q = cTyE o := ⟨_, rfl⟩
  obtain ⟨c3', hc3⟩ : ∃ q, q = cErE o := ⟨_, rfl⟩
  obtain ⟨c4, hc4⟩ : ∃ q, q = nmErr o.name := ⟨_, rfl⟩
  obtain ⟨c5, hc5⟩ : ∃ q, q = vErr o.val := ⟨_, rfl⟩
  rw [← hs1, ← hf1, ← hp1, ← hc1, ← hc2, ← hc3, ← hc4, ← hc5] at hE
  rw [← hs1] at H1
  rw [← hf1] at H2
  rw [← hp1] at H3
  rw [← hc1] at H4
  rw [← hc2] at H5
  rw [← hc3] at H6
  rw [← hc4] at H7
  rw [← hc5] at H8
  clear hs1 hf1 hp1 hc1 hc2 hc3 hc4 hc5 hs hv hci hn hni
  obtain ⟨⟨t0, t1⟩, k, id, pa, le, ⟨⟨a0, a1⟩, a2⟩, oc, sp, nm, ⟨vk, vi, vt, vs, vl⟩⟩ := o
  dsimp only [CA, stA, AV, Vl.kind, Vl.int_, Vl.to_, Vl.text, Vl.items] at H1 H2 H3 H4 H5 H6 H7 H8 hE ⊢
  obtain ⟨k1, h1⟩ : ∃ q, (k == 1) = q := ⟨_, rfl⟩
  obtain ⟨k2, h2⟩ : ∃ q, (k == 2) = q := ⟨_, rfl⟩
  obtain ⟨k4, h4⟩ : ∃ q, (k == 4) = q := ⟨_, rfl⟩
  obtain ⟨k5, h5⟩ : ∃ q, (k == 5) = q := ⟨_, rfl⟩
  obtain ⟨k6, h6⟩ : ∃ q, (k == 6) = q := ⟨_, rfl⟩
  rw [h1, h2, h4, h5, h6] at hE
  have HE := Lib.hid hE
  clear hE
  go_enter Tryz.func6, Tryz.ntmps6
  go_upto_region 1 with fail
  have KX := Blk.new w 33 #[.int .i64 t0, .int .i64 t1, .int .i64 k, .int .i64 id, .int .i64 pa, .int .i64 le, .int .i64 a0, .int .i64 a1, .int .i64 a2, .string oc, .slice As ns cs, .string nm, .int .i64 vk, .int .i64 vi, .int .i64 vt, .string vs, .slice Ai ni ci]
  have hbX : Below w.heap.size w (w.alloc (.cells #[.int .i64 t0, .int .i64 t1, .int .i64 k, .int .i64 id, .int .i64 pa, .int .i64 le, .int .i64 a0, .int .i64 a1, .int .i64 a2, .string oc, .slice As ns cs, .string nm, .int .i64 vk, .int .i64 vi, .int .i64 vt, .string vs, .slice Ai ni ci] 33)) := (Below.refl _ _).alloc (Nat.le_refl _) _
  generalize (w.alloc (.cells #[.int .i64 t0, .int .i64 t1, .int .i64 k, .int .i64 id, .int .i64 pa, .int .i64 le, .int .i64 a0, .int .i64 a1, .int .i64 a2, .string oc, .slice As ns cs, .string nm, .int .i64 vk, .int .i64 vi, .int .i64 vt, .string vs, .slice Ai ni ci] 33)) = X at KX hbX ⊢
  have x0 : X.cell? ⟨w.heap.size, 0, none⟩ = some (.int .i64 t0) := KX.cell 0
  have x1 : X.cell? ⟨w.heap.size, 1, none⟩ = some (.int .i64 t1) := KX.cell 1
  have x2 : X.cell? ⟨w.heap.size, 2, none⟩ = some (.int .i64 k) := KX.cell 2
  have x3 : X.cell? ⟨w.heap.size, 3, none⟩ = some (.int .i64 id) := KX.cell 3
  have x4 : X.cell? ⟨w.heap.size, 4, none⟩ = some (.int .i64 pa) := KX.cell 4
  have x5 : X.cell? ⟨w.heap.size, 5, none⟩ = some (.int .i64 le) := KX.cell 5
  have x6 : X.cell? ⟨w.heap.size, 6, none⟩ = some (.int .i64 a0) := KX.cell 6
  have x7 : X.cell? ⟨w.heap.size, 7, none⟩ = some (.int .i64 a1) := KX.cell 7
  have x8 : X.cell? ⟨w.heap.size, 8, none⟩ = some (.int .i64 a2) := KX.cell 8
  have x9 : X.cell? ⟨w.heap.size, 9, none⟩ = some (.string oc) := KX.cell 9
  have x10 : X.cell? ⟨w.heap.size, 10, none⟩ = some (.slice As ns cs) := KX.cell 10
  have x11 : X.cell? ⟨w.heap.size, 11, none⟩ = some (.string nm) := KX.cell 11
  have x12 : X.cell? ⟨w.heap.size, 12, none⟩ = some (.int .i64 vk) := KX.cell 12
  have x13 : X.cell? ⟨w.heap.size, 13, none⟩ = some (.int .i64 vi) := KX.cell 13
  have x14 : X.cell? ⟨w.heap.size, 14, none⟩ = some (.int .i64 vt) := KX.cell 14
  have x15 : X.cell? ⟨w.heap.size, 15, none⟩ = some (.string vs) := KX.cell 15
  have x16 : X.cell? ⟨w.heap.size, 16, none⟩ = some (.slice Ai ni ci) := KX.cell 16

  have HKX := Lib.hid KX
  have HBX := Lib.hid hbX
  clear KX hbX
  go_wp2_with fail
  refine (H1.out _).mono ?_
  rintro e w1 ⟨rfl, hb1⟩
  have K1 := HKX.out.below hb1 HKX.out.lt
  have HB1 : Hid (Below w.heap.size w w1) := HBX.out.trans (hb1.mono HBX.out.size)
  clear x0 x1 x2 x3 x4 x5 x6 x7 x8 x9 x10 x11 x12 x13 x14 x15 x16 hb1
  by_cases s0 : s = 0
  case neg =>
    have HV := Lib.hid (HE.out.trans (if_pos s0))
    have hsn : (s != 0) = true := by simpa using s0
    clear s0
    go_wp2_with fail
    go_ret
    exact ⟨by rw [HV.out]; rfl, HB1.out⟩
  subst s0
  have HE1 := Lib.hid (HE.out.trans (if_neg (fun h => h rfl)))
  clear HE
  have x0 : w1.cell? ⟨w.heap.size, 0, none⟩ = some (.int .i64 t0) := K1.cell 0
  have x1 : w1.cell? ⟨w.heap.size, 1, none⟩ = some (.int .i64 t1) := K1.cell 1
  have x2 : w1.cell? ⟨w.heap.size, 2, none⟩ = some (.int .i64 k) := K1.cell 2
  have x3 : w1.cell? ⟨w.heap.size, 3, none⟩ = some (.int .i64 id) := K1.cell 3
  have x4 : w1.cell? ⟨w.heap.size, 4, none⟩ = some (.int .i64 pa) := K1.cell 4
  have x5 : w1.cell? ⟨w.heap.size, 5, none⟩ = some (.int .i64 le) := K1.cell 5
  have x6 : w1.cell? ⟨w.heap.size, 6, none⟩ = some (.int .i64 a0) := K1.cell 6
  have x7 : w1.cell? ⟨w.heap.size, 7, none⟩ = some (.int .i64 a1) := K1.cell 7
  have x8 : w1.cell? ⟨w.heap.size, 8, none⟩ = some (.int .i64 a2) := K1.cell 8
  have x9 : w1.cell? ⟨w.heap.size, 9, none⟩ = some (.string oc) := K1.cell 9
  have x10 : w1.cell? ⟨w.heap.size, 10, none⟩ = some (.slice As ns cs) := K1.cell 10
  have x11 : w1.cell? ⟨w.heap.size, 11, none⟩ = some (.string nm) := K1.cell 11
  have x12 : w1.cell? ⟨w.heap.size, 12, none⟩ = some (.int .i64 vk) := K1.cell 12
  have x13 : w1.cell? ⟨w.heap.size, 13, none⟩ = some (.int .i64 vi) := K1.cell 13
  have x14 : w1.cell? ⟨w.heap.size, 14, none⟩ = some (.int .i64 vt) := K1.cell 14
  have x15 : w1.cell? ⟨w.heap.size, 15, none⟩ = some (.string vs) := K1.cell 15
  have x16 : w1.cell? ⟨w.heap.size, 16, none⟩ = some (.slice Ai ni ci) := K1.cell 16

  have HK1 := Lib.hid K1
  clear K1
  go_wp2_with fail
  refine (H2.out _).mono ?_
  rintro e w2 ⟨rfl, hb2⟩
  have K2 := HK1.out.below hb2 HK1.out.lt
  have HB2 : Hid (Below w.heap.size w w2) := HB1.out.trans (hb2.mono HB1.out.size)
  clear x0 x1 x2 x3 x4 x5 x6 x7 x8 x9 x10 x11 x12 x13 x14 x15 x16 hb2
  by_cases f0 : f = 0
  case neg =>
    have HV := Lib.hid (HE1.out.trans (if_pos f0))
    have hsn : (f != 0) = true := by simpa using f0
    clear f0
    go_wp2_with fail
    go_ret
    exact ⟨by rw [HV.out]; rfl, HB2.out⟩
  subst f0
  have HE2 := Lib.hid (HE1.out.trans (if_neg (fun h => h rfl)))
  clear HE1
  have x0 : w2.cell? ⟨w.heap.size, 0, none⟩ = some (.int .i64 t0) := K2.cell 0
  have x1 : w2.cell? ⟨w.heap.size, 1, none⟩ = some (.int .i64 t1) := K2.cell 1
  have x2 : w2.cell? ⟨w.heap.size, 2, none⟩ = some (.int .i64 k) := K2.cell 2
  have x3 : w2.cell? ⟨w.heap.size, 3, none⟩ = some (.int .i64 id) := K2.cell 3
  have x4 : w2.cell? ⟨w.heap.size, 4, none⟩ = some (.int .i64 pa) := K2.cell 4
  have x5 : w2.cell? ⟨w.heap.size, 5, none⟩ = some (.int .i64 le) := K2.cell 5
  have x6 : w2.cell? ⟨w.heap.size, 6, none⟩ = some (.int .i64 a0) := K2.cell 6
  have x7 : w2.cell? ⟨w.heap.size, 7, none⟩ = some (.int .i64 a1) := K2.cell 7
  have x8 : w2.cell? ⟨w.heap.size, 8, none⟩ = some (.int .i64 a2) := K2.cell 8
  have x9 : w2.cell? ⟨w.heap.size, 9, none⟩ = some (.string oc) := K2.cell 9
  have x10 : w2.cell? ⟨w.heap.size, 10, none⟩ = some (.slice As ns cs) := K2.cell 10
  have x11 : w2.cell? ⟨w.heap.size, 11, none⟩ = some (.string nm) := K2.cell 11
  have x12 : w2.cell? ⟨w.heap.size, 12, none⟩ = some (.int .i64 vk) := K2.cell 12
  have x13 : w2.cell? ⟨w.heap.size, 13, none⟩ = some (.int .i64 vi) := K2.cell 13
  have x14 : w2.cell? ⟨w.heap.size, 14, none⟩ = some (.int .i64 vt) := K2.cell 14
  have x15 : w2.cell? ⟨w.heap.size, 15, none⟩ = some (.string vs) := K2.cell 15
  have x16 : w2.cell? ⟨w.heap.size, 16, none⟩ = some (.slice Ai ni ci) := K2.cell 16

  go_wp2_with fail
  refine (H3.out _).mono ?_
  rintro e w3 ⟨rfl, hw3⟩
  obtain rfl : w2 = w3 := hw3.symm
  cases p
  case true =>
    have HV := Lib.hid (HE2.out.trans (if_pos rfl))
    go_wp2_with fail
    go_ret
    exact ⟨by rw [HV.out]; rfl, HB2.out⟩
  have HE3 := Lib.hid (HE2.out.trans (if_neg (by decide)))
  clear HE2
  have HR4 : Hid (∀ W, Below w2.heap.size w2 W → Below w.heap.size w W) := fun W hW => HB2.out.trans (hW.mono HB2.out.size)
  by_cases k12 : (k1 || k2) = true
  case pos =>
    have HV := Lib.hid (HE3.out.trans (if_pos k12))
    cases k1
    case true =>
      go_wp2_with fail
      refine (H4.out _).mono ?_
      rintro e w4 ⟨rfl, hb4⟩
      have HB4 := Lib.hid (HR4.out _ hb4)
      clear hb4
      go_wp2_with fail
      go_ret
      exact ⟨by rw [HV.out]; rfl, HB4.out⟩
    obtain rfl : k2 = true := by simpa using k12
    go_wp2_with fail
    refine (H4.out _).mono ?_
    rintro e w4 ⟨rfl, hb4⟩
    have HB4 := Lib.hid (HR4.out _ hb4)
    clear hb4
    go_wp2_with fail
    go_ret
    exact ⟨by rw [HV.out]; rfl, HB4.out⟩
  have HE4 := Lib.hid (HE3.out.trans (if_neg k12))
  clear HE3
  obtain ⟨rfl, rfl⟩ : k1 = false ∧ k2 = false := by
    cases k1 <;> cases k2 <;> simp at k12 ⊢
  clear k12
  cases k4
  case true =>
    have HV := Lib.hid (HE4.out.trans (if_pos rfl))
    go_wp2_with fail
    refine (H5.out _).mono ?_
    rintro e w4 ⟨rfl, hb4⟩
    have HB4 := Lib.hid (HR4.out _ hb4)
    clear hb4
    go_wp2_with fail
    go_ret
    exact ⟨by rw [HV.out]; rfl, HB4.out⟩
  have HE5 := Lib.hid (HE4.out.trans (if_neg (by decide)))
  clear HE4
  cases k5
  case true =>
    have HV := Lib.hid (HE5.out.trans (if_pos rfl))
    go_wp2_with fail
    refine (H6.out _ HB2.out).mono ?_
    rintro e w4 ⟨rfl, hb4⟩
    have HB4 := Lib.hid (HR4.out _ hb4)
    clear hb4
    go_wp2_with fail
    go_ret
    exact ⟨by rw [HV.out]; rfl, HB4.out⟩
  have HE6 := Lib.hid (HE5.out.trans (if_neg (by decide)))
  clear HE5
  cases k6
  case false =>
    have HV := Lib.hid (HE6.out.trans (if_neg (by decide)))
    go_wp2_with fail
    go_ret
    exact ⟨by rw [HV.out]; rfl, HB2.out⟩
  have HE7 := Lib.hid (HE6.out.trans (if_pos rfl))
  clear HE6
  go_wp2_with fail
  refine (H7.out _).mono ?_
  rintro e w4 ⟨rfl, hw4⟩
  obtain rfl : w2 = w4 := hw4.symm
  by_cases c0 : c4 = 0
  case neg =>
    have HV := Lib.hid (HE7.out.trans (if_pos c0))
    have hsn : (c4 != 0) = true := by simpa using c0
    clear c0
    go_wp2_with fail
    go_ret
    exact ⟨by rw [HV.out]; rfl, HB2.out⟩
  subst c0
  have HV := Lib.hid (HE7.out.trans (if_neg (fun h => h rfl)))
  go_wp2_with fail
  refine (H8.out _ HB2.out).mono ?_
  rintro e w5 ⟨rfl, hb5⟩
  have HB5 := Lib.hid (HR4.out _ hb5)
  clear hb5
  go_wp2_with fail
  go_ret
  exact ⟨by rw [HV.out]; rfl, HB5.out⟩
end Go.Proofs.YtinllchioeldbaaGreatDoor
