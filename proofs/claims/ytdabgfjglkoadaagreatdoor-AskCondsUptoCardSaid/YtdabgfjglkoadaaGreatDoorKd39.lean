/-
  DERIVED. The error of a condition, its text: the walks of the reference's CondError and of ask.CondText. Conditions: sizes; the table of powers of ten is laid.
  The walk of the law AskConds. Conditions: sizes; the table of powers of ten is laid.
  By an AI agent.
-/
import Derived.Test.YtdabgfjglkoadaaGreatDoorKd35
import Derived.Test.YtdabgfjglkoadaaGreatDoorKd38
import Derived.Test.YtdabgfjglkoadaaGreatDoorKd37
namespace Go.Proofs.YtdabgfjglkoadaaGreatDoor
open Go.RowKit

set_option maxHeartbeats 4000000 in
set_option maxRecDepth 100000 in
/-- the reference's CondError -/
theorem condError_any (d : Nat) (c : Cd) (Ai : Option Addr) (ni ci : Nat) (Ak : Option Addr) (nk ck : Nat) (B : Nat) (w : World) (hB : B ≤ w.heap.size) (hc : RCd w B d (.slice Ai ni ci) (.slice Ak nk ck) c) (hcb : cdB c ≤ 1048576) :
    Calls Tryz.prog 5 #[ACd (c, .slice Ai ni ci, .slice Ak nk ck)] w fun e w' => e = .returned (.int .i64 (cdErr c)) ∧ Below w.heap.size w w' := by
  have hn2 := cdN_le c
  have HN := Lib.hid fun W (hW : Below w.heap.size w W) => condNodes_any d c Ai ni ci Ak nk ck B W (Nat.le_trans hB hW.size) (hc.below (hW.mono hB)) (by omega)
  have HD := Lib.hid fun W (hW : Below w.heap.size w W) => condDepth_any d c Ai ni ci Ak nk ck B W (Nat.le_trans hB hW.size) (hc.below (hW.mono hB)) (by omega)
  have HV := Lib.hid fun W (hW : Below w.heap.size w W) => condNode_any d c Ai ni ci Ak nk ck B W (Nat.le_trans hB hW.size) (hc.below (hW.mono hB)) hcb
  unfold ACd at HN HD HV
  dsimp only at HN HD HV
  obtain ⟨q1, hq1⟩ : ∃ q, decide ((60 : Int) < (cdN c : Int)) = q := ⟨_, rfl⟩
  obtain ⟨q2, hq2⟩ : ∃ q, decide ((40 : Int) < (cdD c : Int)) = q := ⟨_, rfl⟩
  obtain ⟨ve, hve⟩ : ∃ q, viE c = q := ⟨_, rfl⟩
  have HE : Hid (cdErr c = if q1 = true then 4 else if q2 = true then 13 else ve) := by
    show _ = _
    unfold cdErr
    rw [hve, ← hq1, ← hq2]
    by_cases g1 : 60 < cdN c
    · rw [if_pos g1, decide_eq_true (show (60 : Int) < (cdN c : Int) by omega), if_pos rfl]
    · rw [if_neg g1, decide_eq_false (show ¬ (60 : Int) < (cdN c : Int) by omega), if_neg (show ¬ (false = true) by decide)]
      by_cases g2 : 40 < cdD c
      · rw [if_pos g2, decide_eq_true (show (40 : Int) < (cdD c : Int) by omega), if_pos rfl]
      · rw [if_neg g2, decide_eq_false (show ¬ (40 : Int) < (cdD c : Int) by omega), if_neg (show ¬ (false = true) by decide)]
  obtain ⟨n0, hn0⟩ : ∃ n, cdN c = n := ⟨_, rfl⟩
  obtain ⟨d0, hd0⟩ : ∃ n, cdD c = n := ⟨_, rfl⟩
  rw [hn0] at HN hq1
  rw [hd0] at HD hq2
  rw [hve] at HV
  clear hn0 hd0 hn2 hve hc
  unfold ACd
  dsimp only
  obtain ⟨wb, hwb⟩ : ∃ wb, wb = w.alloc (.cells #[.int .i64 c.op, .string c.name, .string c.text, .int .i64 c.val.kind, .int .i64 c.val.int_, .int .i64 c.val.to_, .string c.val.text, .slice Ai ni ci, .int .i64 c.num, .slice Ak nk ck] 27) := ⟨_, rfl⟩
  have hbwb : Below w.heap.size w wb := by rw [hwb]; exact (Below.refl _ _).alloc (Nat.le_refl _) _
  have kwb : Blk wb w.heap.size 27 #[.int .i64 c.op, .string c.name, .string c.text, .int .i64 c.val.kind, .int .i64 c.val.int_, .int .i64 c.val.to_, .string c.val.text, .slice Ai ni ci, .int .i64 c.num, .slice Ak nk ck] := by rw [hwb]; exact Blk.new _ _ _
  have x0 := kwb.cell 0
  have x1 := kwb.cell 1
  have x2 := kwb.cell 2
  have x3 := kwb.cell 3
  have x4 := kwb.cell 4
  have x5 := kwb.cell 5
  have x6 := kwb.cell 6
  have x7 := kwb.cell 7
  have x8 := kwb.cell 8
  have x9 := kwb.cell 9
  have HBwb := Lib.hid hbwb
  have HKwb := Lib.hid kwb
  have HEwb := Lib.hid hwb
  clear hwb hbwb kwb
  go_enter Tryz.func5, Tryz.ntmps5
  go_upto_region 1 with fail
  rw [← HEwb.out]
  go_wp2_with fail
  refine (HN.out _ HBwb.out).mono ?_
  rintro e w1 ⟨rfl, hb⟩
  have HB1 : Hid (Below w.heap.size w w1) := HBwb.out.trans (hb.mono HBwb.out.size)
  have HK1 := Lib.hid (HKwb.out.below hb HKwb.out.lt)
  clear hb x0 x1 x2 x3 x4 x5 x6 x7 x8 x9
  cases q1
  case true =>
    go_wp2_with fail
    go_ret
    exact ⟨by rw [HE.out]; rfl, HB1.out⟩
  have y0 := HK1.out.cell 0
  have y1 := HK1.out.cell 1
  have y2 := HK1.out.cell 2
  have y3 := HK1.out.cell 3
  have y4 := HK1.out.cell 4
  have y5 := HK1.out.cell 5
  have y6 := HK1.out.cell 6
  have y7 := HK1.out.cell 7
  have y8 := HK1.out.cell 8
  have y9 := HK1.out.cell 9
  go_wp2_with fail
  refine (HD.out _ HB1.out).mono ?_
  rintro e w2 ⟨rfl, hb⟩
  have HB2 : Hid (Below w.heap.size w w2) := HB1.out.trans (hb.mono HB1.out.size)
  have HK2 := Lib.hid (HK1.out.below hb HK1.out.lt)
  clear hb y0 y1 y2 y3 y4 y5 y6 y7 y8 y9
  cases q2
  case true =>
    go_wp2_with fail
    go_ret
    exact ⟨by rw [HE.out]; rfl, HB2.out⟩
  have z0 := HK2.out.cell 0
  have z1 := HK2.out.cell 1
  have z2 := HK2.out.cell 2
  have z3 := HK2.out.cell 3
  have z4 := HK2.out.cell 4
  have z5 := HK2.out.cell 5
  have z6 := HK2.out.cell 6
  have z7 := HK2.out.cell 7
  have z8 := HK2.out.cell 8
  have z9 := HK2.out.cell 9
  go_wp2_with fail
  refine (HV.out _ HB2.out).mono ?_
  rintro e w3 ⟨rfl, hb⟩
  have HB3 : Hid (Below w.heap.size w w3) := HB2.out.trans (hb.mono HB2.out.size)
  clear hb
  go_wp2_with fail
  go_ret
  exact ⟨by rw [HE.out]; rfl, HB3.out⟩
theorem cdErr_ok {c : Cd} (h : cdErr c = 0) : viE c = 0 ∧ cdN c ≤ 60 := by
  unfold cdErr at h
  by_cases h1 : 60 < cdN c
  · rw [if_pos h1] at h; exact absurd h (by decide)
  · rw [if_neg h1] at h
    by_cases h2 : 40 < cdD c
    · rw [if_pos h2] at h; exact absurd h (by decide)
    · rw [if_neg h2] at h; exact ⟨h, by omega⟩
/-- the error of a condition's text -/
noncomputable def ctE (c : Cd) : Int := if cdErr c ≠ 0 then cdErr c else if 400000 < (cdT c).size then 4 else 0
noncomputable def ctT (c : Cd) : ByteArray := if ctE c = 0 then cdT c else ⟨#[]⟩
set_option maxHeartbeats 4000000 in
set_option maxRecDepth 100000 in
/-- ask.CondText -/
theorem condText_any (d : Nat) (c : Cd) (Ai : Option Addr) (ni ci : Nat) (Ak : Option Addr) (nk ck : Nat) (B : Nat) (w : World) (hB : B ≤ w.heap.size) (hc : RCd w B d (.slice Ai ni ci) (.slice Ak nk ck) c) (hcb : cdB c ≤ 1048576) (hP : Pow w) :
    Calls Tryz.prog 6 #[ACd (c, .slice Ai ni ci, .slice Ak nk ck)] w fun e w' => e = .returned (.tuple #[.string (ctT c), .int .i64 (ctE c)]) ∧ Below w.heap.size w w' := by
  have HC := Lib.hid fun W (hW : Below w.heap.size w W) => checkCond_any d c Ai ni ci Ak nk ck B W (Nat.le_trans hB hW.size) (hc.below (hW.mono hB)) hcb
  have HW : Hid (cdErr c = 0 → ∀ W, Below w.heap.size w W → Calls Tryz.prog 16 #[ACd (c, .slice Ai ni ci, .slice Ak nk ck)] W fun e w' => e = .returned (.string (cdT c)) ∧ (cdT c).size ≤ 200000 * cdN c ∧ Below W.heap.size W w') := fun h W hW => writtenC_any d c Ai ni ci Ak nk ck B W (Nat.le_trans hB hW.size) (hc.below (hW.mono hB)) (cdErr_ok h).1 (cdErr_ok h).2 (hP.below hW)
  unfold ACd at HC HW
  dsimp only at HC HW
  obtain ⟨ce, hce⟩ : ∃ q, cdErr c = q := ⟨_, rfl⟩
  have HTE : Hid (ctE c = if ce ≠ 0 then ce else if 400000 < (cdT c).size then 4 else 0) := by show _ = _; unfold ctE; rw [hce]
  rw [hce] at HC HW
  clear hce hc hP
  unfold ACd
  dsimp only
  obtain ⟨wb, hwb⟩ : ∃ wb, wb = w.alloc (.cells #[.int .i64 c.op, .string c.name, .string c.text, .int .i64 c.val.kind, .int .i64 c.val.int_, .int .i64 c.val.to_, .string c.val.text, .slice Ai ni ci, .int .i64 c.num, .slice Ak nk ck] 27) := ⟨_, rfl⟩
  have hbwb : Below w.heap.size w wb := by rw [hwb]; exact (Below.refl _ _).alloc (Nat.le_refl _) _
  have kwb : Blk wb w.heap.size 27 #[.int .i64 c.op, .string c.name, .string c.text, .int .i64 c.val.kind, .int .i64 c.val.int_, .int .i64 c.val.to_, .string c.val.text, .slice Ai ni ci, .int .i64 c.num, .slice Ak nk ck] := by rw [hwb]; exact Blk.new _ _ _
  have x0 := kwb.cell 0
  have x1 := kwb.cell 1
  have x2 := kwb.cell 2
  have x3 := kwb.cell 3
  have x4 := kwb.cell 4
  have x5 := kwb.cell 5
  have x6 := kwb.cell 6
  have x7 := kwb.cell 7
  have x8 := kwb.cell 8
  have x9 := kwb.cell 9
  have HBwb := Lib.hid hbwb
  have HKwb := Lib.hid kwb
  have HEwb := Lib.hid hwb
  clear hwb hbwb kwb
  go_enter Tryz.func6, Tryz.ntmps6
  go_upto_region 1 with fail
  rw [← HEwb.out]
  go_wp2_with fail
  refine (HC.out _ HBwb.out).mono ?_
  rintro e w1 ⟨rfl, hb⟩
  have HB1 : Hid (Below w.heap.size w w1) := HBwb.out.trans (hb.mono HBwb.out.size)
  have HK1 := Lib.hid (HKwb.out.below hb HKwb.out.lt)
  clear hb x0 x1 x2 x3 x4 x5 x6 x7 x8 x9
  by_cases h0 : ce = 0
  case neg =>
    have e1 : (ce != 0) = true := by simpa using h0
    have HE : Hid (ctE c = ce ∧ ctT c = ⟨#[]⟩) := by
      have h1 : ctE c = ce := by rw [HTE.out, if_pos h0]
      exact ⟨h1, by unfold ctT; rw [if_neg (by rw [h1]; exact h0)]⟩
    clear h0
    go_wp2_with fail
    go_ret2
    exact ⟨by rw [HE.out.1, HE.out.2]; rfl, HB1.out⟩
  subst h0
  have y0 := HK1.out.cell 0
  have y1 := HK1.out.cell 1
  have y2 := HK1.out.cell 2
  have y3 := HK1.out.cell 3
  have y4 := HK1.out.cell 4
  have y5 := HK1.out.cell 5
  have y6 := HK1.out.cell 6
  have y7 := HK1.out.cell 7
  have y8 := HK1.out.cell 8
  have y9 := HK1.out.cell 9
  go_wp2_with fail
  refine (HW.out (by trivial) _ HB1.out).mono ?_
  rintro e w2 ⟨rfl, hsz, hb⟩
  have HB2 : Hid (Below w.heap.size w w2) := HB1.out.trans (hb.mono HB1.out.size)
  clear hb hsz y0 y1 y2 y3 y4 y5 y6 y7 y8 y9
  obtain ⟨T, hT⟩ : ∃ T, cdT c = T := ⟨_, rfl⟩
  obtain ⟨q, hq⟩ : ∃ q, decide ((400000 : Int) < (T.size : Int)) = q := ⟨_, rfl⟩
  have HE : Hid (ctE c = if q = true then 4 else 0) := by
    show _ = _
    rw [HTE.out, if_neg (fun h => h rfl), hT, ← hq]
    by_cases g : 400000 < T.size
    · rw [if_pos g, decide_eq_true (show (400000 : Int) < (T.size : Int) by omega), if_pos rfl]
    · rw [if_neg g, decide_eq_false (show ¬ (400000 : Int) < (T.size : Int) by omega), if_neg (show ¬ (false = true) by decide)]
  have HTT : Hid (ctT c = if q = true then ⟨#[]⟩ else T) := by
    show _ = _
    unfold ctT
    rw [HE.out, hT]
    cases q <;> rfl
  rw [hT]
  clear hT
  cases q
  · go_wp2_with fail
    go_ret2
    exact ⟨by rw [HE.out, HTT.out]; rfl, HB2.out⟩
  · go_wp2_with fail
    go_ret2
    exact ⟨by rw [HE.out, HTT.out]; rfl, HB2.out⟩
end Go.Proofs.YtdabgfjglkoadaaGreatDoor
namespace Go.Proofs.YtdabgfjglkoadaaGreatDoor
open Go.RowKit

set_option maxHeartbeats 8000000 in
set_option maxRecDepth 100000 in
/-- the law AskConds -/
theorem condsLaw_any (d : Nat) (c : Cd) (Ai : Option Addr) (ni ci : Nat) (Ak : Option Addr) (nk ck : Nat) (B : Nat) (w : World) (hB : B ≤ w.heap.size) (hc : RCd w B d (.slice Ai ni ci) (.slice Ak nk ck) c) (hcb : cdB c ≤ 1048576) (hP : Pow w) :
    Calls Tryz.prog 3 #[ACd (c, .slice Ai ni ci, .slice Ak nk ck)] w fun e w' => e = .returned (.bool true) ∧ Below w.heap.size w w' := by
  have HE := Lib.hid fun W (hW : Below w.heap.size w W) => condError_any d c Ai ni ci Ak nk ck B W (Nat.le_trans hB hW.size) (hc.below (hW.mono hB)) hcb
  have HCC := Lib.hid fun W (hW : Below w.heap.size w W) => checkCond_any d c Ai ni ci Ak nk ck B W (Nat.le_trans hB hW.size) (hc.below (hW.mono hB)) hcb
  have HCT := Lib.hid fun W (hW : Below w.heap.size w W) => condText_any d c Ai ni ci Ak nk ck B W (Nat.le_trans hB hW.size) (hc.below (hW.mono hB)) hcb (hP.below hW)
  have HCS : Hid (cdErr c = 0 → ∀ W, Below w.heap.size w W → Calls Tryz.prog 8 #[ACd (c, .slice Ai ni ci, .slice Ak nk ck)] W fun e w' => e = .returned (.string (cdT c)) ∧ (cdT c).size ≤ 200000 * cdN c ∧ Below W.heap.size W w') := fun h W hW => condString_any d c Ai ni ci Ak nk ck B W (Nat.le_trans hB hW.size) (hc.below (hW.mono hB)) (cdErr_ok h).1 (cdErr_ok h).2 (hP.below hW)
  unfold ACd at HE HCC HCT HCS
  dsimp only at HE HCC HCT HCS
  obtain ⟨T, hT⟩ : ∃ T, cdT c = T := ⟨_, rfl⟩
  obtain ⟨xs, hxs⟩ : ∃ x, ctT c = x := ⟨_, rfl⟩
  obtain ⟨xe, hxe⟩ : ∃ x, ctE c = x := ⟨_, rfl⟩
  have HXE : Hid (xe = if cdErr c ≠ 0 then cdErr c else if 400000 < T.size then 4 else 0) := by show _ = _; rw [← hxe, ← hT]; rfl
  have HXS : Hid (xs = if xe = 0 then T else ⟨#[]⟩) := by show _ = _; rw [← hxs, ← hxe, ← hT]; rfl
  obtain ⟨ce, hce⟩ : ∃ q, cdErr c = q := ⟨_, rfl⟩
  rw [hce] at HE HCC HCS HXE
  rw [hxs, hxe] at HCT
  rw [hT] at HCS
  clear hT hxs hxe hce hc hP
  unfold ACd
  dsimp only
  obtain ⟨wb, hwb⟩ : ∃ wb, wb = w.alloc (.cells #[.int .i64 c.op, .string c.name, .string c.text, .int .i64 c.val.kind, .int .i64 c.val.int_, .int .i64 c.val.to_, .string c.val.text, .slice Ai ni ci, .int .i64 c.num, .slice Ak nk ck] 27) := ⟨_, rfl⟩
  have hbwb : Below w.heap.size w wb := by rw [hwb]; exact (Below.refl _ _).alloc (Nat.le_refl _) _
  have kwb : Blk wb w.heap.size 27 #[.int .i64 c.op, .string c.name, .string c.text, .int .i64 c.val.kind, .int .i64 c.val.int_, .int .i64 c.val.to_, .string c.val.text, .slice Ai ni ci, .int .i64 c.num, .slice Ak nk ck] := by rw [hwb]; exact Blk.new _ _ _
  have x0 := kwb.cell 0
  have x1 := kwb.cell 1
  have x2 := kwb.cell 2
  have x3 := kwb.cell 3
  have x4 := kwb.cell 4
  have x5 := kwb.cell 5
  have x6 := kwb.cell 6
  have x7 := kwb.cell 7
  have x8 := kwb.cell 8
  have x9 := kwb.cell 9
  have HBwb := Lib.hid hbwb
  have HKwb := Lib.hid kwb
  have HEwb := Lib.hid hwb
  clear hwb hbwb kwb
  have hq : (ce != ce) = false := by rw [bne_self_eq_false]
  go_enter Tryz.func3, Tryz.ntmps3
  go_upto_region 1 with fail
  rw [← HEwb.out]
  go_wp2_with fail
  refine (HE.out _ HBwb.out).mono ?_
  rintro e w1 ⟨rfl, hb⟩
  have HB1 : Hid (Below w.heap.size w w1) := HBwb.out.trans (hb.mono HBwb.out.size)
  have HK1 := Lib.hid (HKwb.out.below hb HKwb.out.lt)
  clear hb x0 x1 x2 x3 x4 x5 x6 x7 x8 x9
  have y0 := HK1.out.cell 0
  have y1 := HK1.out.cell 1
  have y2 := HK1.out.cell 2
  have y3 := HK1.out.cell 3
  have y4 := HK1.out.cell 4
  have y5 := HK1.out.cell 5
  have y6 := HK1.out.cell 6
  have y7 := HK1.out.cell 7
  have y8 := HK1.out.cell 8
  have y9 := HK1.out.cell 9
  go_wp2_with fail
  refine (HCT.out _ HB1.out).mono ?_
  rintro e w2 ⟨rfl, hb⟩
  have HB2 : Hid (Below w.heap.size w w2) := HB1.out.trans (hb.mono HB1.out.size)
  have HK2 := Lib.hid (HK1.out.below hb HK1.out.lt)
  clear hb y0 y1 y2 y3 y4 y5 y6 y7 y8 y9
  have z0 := HK2.out.cell 0
  have z1 := HK2.out.cell 1
  have z2 := HK2.out.cell 2
  have z3 := HK2.out.cell 3
  have z4 := HK2.out.cell 4
  have z5 := HK2.out.cell 5
  have z6 := HK2.out.cell 6
  have z7 := HK2.out.cell 7
  have z8 := HK2.out.cell 8
  have z9 := HK2.out.cell 9
  go_wp2_with fail
  refine (HCC.out _ HB2.out).mono ?_
  rintro e w3 ⟨rfl, hb⟩
  have HB3 : Hid (Below w.heap.size w w3) := HB2.out.trans (hb.mono HB2.out.size)
  have HK3 := Lib.hid (HK2.out.below hb HK2.out.lt)
  clear hb z0 z1 z2 z3 z4 z5 z6 z7 z8 z9
  have u0 := HK3.out.cell 0
  have u1 := HK3.out.cell 1
  have u2 := HK3.out.cell 2
  have u3 := HK3.out.cell 3
  have u4 := HK3.out.cell 4
  have u5 := HK3.out.cell 5
  have u6 := HK3.out.cell 6
  have u7 := HK3.out.cell 7
  have u8 := HK3.out.cell 8
  have u9 := HK3.out.cell 9
  by_cases h0 : ce = 0
  case neg =>
    obtain rfl : xe = ce := by rw [HXE.out, if_pos h0]
    obtain rfl : xs = ⟨#[]⟩ := by rw [HXS.out, if_neg h0]
    have e1 : (xe == 0) = false := by simpa using h0
    have e2 : (xe != 0) = true := by simpa using h0
    have e3 : (xe == xe) = true := beq_self_eq_true xe
    clear h0
    go_wp2_with fail
    go_ret
    exact ⟨rfl, HB3.out⟩
  subst h0
  go_wp2_with fail
  refine (HCS.out (by trivial) _ HB3.out).mono ?_
  rintro e w4 ⟨rfl, _, hb⟩
  have HB4 : Hid (Below w.heap.size w w4) := HB3.out.trans (hb.mono HB3.out.size)
  have HK4 := Lib.hid (HK3.out.below hb HK3.out.lt)
  clear hb u0 u1 u2 u3 u4 u5 u6 u7 u8 u9
  have v0 := HK4.out.cell 0
  have v1 := HK4.out.cell 1
  have v2 := HK4.out.cell 2
  have v3 := HK4.out.cell 3
  have v4 := HK4.out.cell 4
  have v5 := HK4.out.cell 5
  have v6 := HK4.out.cell 6
  have v7 := HK4.out.cell 7
  have v8 := HK4.out.cell 8
  have v9 := HK4.out.cell 9
  obtain ⟨q, hq2⟩ : ∃ q, decide ((400000 : Int) < (T.size : Int)) = q := ⟨_, rfl⟩
  cases q
  · have hs : ¬ 400000 < T.size := by have := of_decide_eq_false hq2; omega
    obtain rfl : xe = 0 := by rw [HXE.out, if_neg (fun h => h rfl), if_neg hs]
    obtain rfl : xs = T := by rw [HXS.out, if_pos rfl]
    have e3 : (xs.toList == xs.toList) = true := beq_self_eq_true _
    clear hs
    go_wp2_with fail
    refine (HCS.out (by trivial) _ HB4.out).mono ?_
    rintro e w5 ⟨rfl, _, hb⟩
    have HB5 : Hid (Below w.heap.size w w5) := HB4.out.trans (hb.mono HB4.out.size)
    clear hb
    go_wp2_with fail
    go_ret
    exact ⟨rfl, HB5.out⟩
  · have hs : 400000 < T.size := by have := of_decide_eq_true hq2; omega
    obtain rfl : xe = 4 := by rw [HXE.out, if_neg (fun h => h rfl), if_pos hs]
    obtain rfl : xs = ⟨#[]⟩ := by rw [HXS.out, if_neg (by decide)]
    clear hs
    go_wp2_with fail
    go_ret
    exact ⟨rfl, HB4.out⟩
end Go.Proofs.YtdabgfjglkoadaaGreatDoor
