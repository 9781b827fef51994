/-
  DERIVED. The walk of the law AskQuestions. Conditions: sizes; the table of powers of ten is laid.
  By an AI agent.
-/
import Derived.Test.YtnlonleljbbgoaaGreatDoorKf14
import Derived.Test.YtnlonleljbbgoaaGreatDoorKf15
import Derived.Test.YtnlonleljbbgoaaGreatDoorKf16
namespace Go.Proofs.YtnlonleljbbgoaaGreatDoor
open Go.RowKit

set_option maxHeartbeats 8000000 in
set_option maxRecDepth 100000 in
/-- the law AskQuestions -/
theorem questionsLaw_any (d : Nat) (c : Cd) (Ai : Option Addr) (ni ci : Nat) (Ak : Option Addr) (nk ck : Nat) (l : List (ByteArray × Bool)) (As : Option Addr) (ns cs : Nat) (g : ByteArray) (m : Int) (B : Nat) (w : World) (hB : B ≤ w.heap.size) (hc : RCd w B d (.slice Ai ni ci) (.slice Ak nk ck) c) (hcb : cdB c ≤ 1048576) (hs : RSr w B (.slice As ns cs) l) (hP : Pow w) :
    Calls Tryz.prog 3 #[.agg #[.int .i64 c.op, .string c.name, .string c.text, .int .i64 c.val.kind, .int .i64 c.val.int_, .int .i64 c.val.to_, .string c.val.text, .slice Ai ni ci, .int .i64 c.num, .slice Ak nk ck, .slice As ns cs, .string g, .int .i64 m]] w fun e w' => e = .returned (.bool true) ∧ Below w.heap.size w w' := by
  have HE := Lib.hid fun W (hW : Below w.heap.size w W) => questionError_any d c Ai ni ci Ak nk ck l As ns cs g m B W (Nat.le_trans hB hW.size) (hc.below (hW.mono hB)) hcb (hs.below (hW.mono hB))
  have HCC := Lib.hid fun W (hW : Below w.heap.size w W) => checkQuestion_any d c Ai ni ci Ak nk ck l As ns cs g m B W (Nat.le_trans hB hW.size) (hc.below (hW.mono hB)) hcb (hs.below (hW.mono hB))
  have HCT := Lib.hid fun W (hW : Below w.heap.size w W) => questionText_any d c Ai ni ci Ak nk ck l As ns cs g m B W (Nat.le_trans hB hW.size) (hc.below (hW.mono hB)) hcb (hs.below (hW.mono hB)) (hP.below hW)
  have HCS : Hid (quE c l g m = 0 → ∀ W, Below w.heap.size w W → Calls Tryz.prog 9 #[.agg #[.int .i64 c.op, .string c.name, .string c.text, .int .i64 c.val.kind, .int .i64 c.val.int_, .int .i64 c.val.to_, .string c.val.text, .slice Ai ni ci, .int .i64 c.num, .slice Ak nk ck, .slice As ns cs, .string g, .int .i64 m]] W fun e w' => e = .returned (.string (quT c l g m)) ∧ (quT c l g m).size ≤ 12001000 ∧ Below W.heap.size W w') := fun h W hW => questionString_any d c Ai ni ci Ak nk ck l As ns cs g m B W (Nat.le_trans hB hW.size) (hc.below (hW.mono hB)) hcb (hs.below (hW.mono hB)) (quE_ok h) (hP.below hW)
  obtain ⟨T, hT⟩ : ∃ T, quT c l g m = T := ⟨_, rfl⟩
  obtain ⟨xs, hxs⟩ : ∃ x, qtT c l g m = x := ⟨_, rfl⟩
  obtain ⟨xe, hxe⟩ : ∃ x, qtE c l g m = x := ⟨_, rfl⟩
  have HXE : Hid (xe = if quE c l g m ≠ 0 then quE c l g m else if 400000 < T.size then 4 else 0) := by show _ = _; rw [← hxe, ← hT]; rfl
  have HXS : Hid (xs = if xe = 0 then T else ⟨#[]⟩) := by show _ = _; rw [← hxs, ← hxe, ← hT]; rfl
  obtain ⟨ce, hce⟩ : ∃ q, quE c l g m = q := ⟨_, rfl⟩
  rw [hce] at HE HCC HCS HXE
  rw [hxs, hxe] at HCT
  rw [hT] at HCS
  clear hT hxs hxe hce hc hs hP
  obtain ⟨wb, hwb⟩ : ∃ wb, wb = w.alloc (.cells #[.int .i64 c.op, .string c.name, .string c.text, .int .i64 c.val.kind, .int .i64 c.val.int_, .int .i64 c.val.to_, .string c.val.text, .slice Ai ni ci, .int .i64 c.num, .slice Ak nk ck, .slice As ns cs, .string g, .int .i64 m] 30) := ⟨_, rfl⟩
  have hbwb : Below w.heap.size w wb := by rw [hwb]; exact (Below.refl _ _).alloc (Nat.le_refl _) _
  have kwb : Blk wb w.heap.size 30 #[.int .i64 c.op, .string c.name, .string c.text, .int .i64 c.val.kind, .int .i64 c.val.int_, .int .i64 c.val.to_, .string c.val.text, .slice Ai ni ci, .int .i64 c.num, .slice Ak nk ck, .slice As ns cs, .string g, .int .i64 m] := by rw [hwb]; exact Blk.new _ _ _
  have x0 := kwb.cell 0
  have x1 := kwb.cell 1
  have x2 := kwb.cell 2
  have x3 := kwb.cell 3
  have x4 := kwb.cell 4
  have x5 := kwb.cell 5
  have x6 := kwb.cell 6
  have x7 := kwb.cell 7
  have x8 := kwb.cell 8
  have x9 := kwb.cell 9
  have x10 := kwb.cell 10
  have x11 := kwb.cell 11
  have x12 := kwb.cell 12
  have HBwb := Lib.hid hbwb
  have HKwb := Lib.hid kwb
  have HEwb := Lib.hid hwb
  clear hwb hbwb kwb
  have hq : (ce != ce) = false := by rw [bne_self_eq_false]
  go_enter Tryz.func3, Tryz.ntmps3
  go_upto_region 1 with fail
  rw [← HEwb.out]
  go_wp2_with fail
  refine (HE.out _ HBwb.out).mono ?_
  rintro e w1 ⟨rfl, hb⟩
  have HB1 : Hid (Below w.heap.size w w1) := HBwb.out.trans (hb.mono HBwb.out.size)
  have HK1 := Lib.hid (HKwb.out.below hb HKwb.out.lt)
  clear hb x0 x1 x2 x3 x4 x5 x6 x7 x8 x9 x10 x11 x12
  have y0 := HK1.out.cell 0
  have y1 := HK1.out.cell 1
  have y2 := HK1.out.cell 2
  have y3 := HK1.out.cell 3
  have y4 := HK1.out.cell 4
  have y5 := HK1.out.cell 5
  have y6 := HK1.out.cell 6
  have y7 := HK1.out.cell 7
  have y8 := HK1.out.cell 8
  have y9 := HK1.out.cell 9
  have y10 := HK1.out.cell 10
  have y11 := HK1.out.cell 11
  have y12 := HK1.out.cell 12
  go_wp2_with fail
  refine (HCT.out _ HB1.out).mono ?_
  rintro e w2 ⟨rfl, hb⟩
  have HB2 : Hid (Below w.heap.size w w2) := HB1.out.trans (hb.mono HB1.out.size)
  have HK2 := Lib.hid (HK1.out.below hb HK1.out.lt)
  clear hb y0 y1 y2 y3 y4 y5 y6 y7 y8 y9 y10 y11 y12
  have z0 := HK2.out.cell 0
  have z1 := HK2.out.cell 1
  have z2 := HK2.out.cell 2
  have z3 := HK2.out.cell 3
  have z4 := HK2.out.cell 4
  have z5 := HK2.out.cell 5
  have z6 := HK2.out.cell 6
  have z7 := HK2.out.cell 7
  have z8 := HK2.out.cell 8
  have z9 := HK2.out.cell 9
  have z10 := HK2.out.cell 10
  have z11 := HK2.out.cell 11
  have z12 := HK2.out.cell 12
  go_wp2_with fail
  refine (HCC.out _ HB2.out).mono ?_
  rintro e w3 ⟨rfl, hb⟩
  have HB3 : Hid (Below w.heap.size w w3) := HB2.out.trans (hb.mono HB2.out.size)
  have HK3 := Lib.hid (HK2.out.below hb HK2.out.lt)
  clear hb z0 z1 z2 z3 z4 z5 z6 z7 z8 z9 z10 z11 z12
  have u0 := HK3.out.cell 0
  have u1 := HK3.out.cell 1
  have u2 := HK3.out.cell 2
  have u3 := HK3.out.cell 3
  have u4 := HK3.out.cell 4
  have u5 := HK3.out.cell 5
  have u6 := HK3.out.cell 6
  have u7 := HK3.out.cell 7
  have u8 := HK3.out.cell 8
  have u9 := HK3.out.cell 9
  have u10 := HK3.out.cell 10
  have u11 := HK3.out.cell 11
  have u12 := HK3.out.cell 12
  by_cases h0 : ce = 0
  case neg =>
    obtain rfl : xe = ce := by rw [HXE.out, if_pos h0]
    obtain rfl : xs = ⟨#[]⟩ := by rw [HXS.out, if_neg h0]
    have e1 : (xe == 0) = false := by simpa using h0
    have e2 : (xe != 0) = true := by simpa using h0
    have e3 : (xe == xe) = true := beq_self_eq_true xe
    clear h0
    go_wp2_with fail
    go_ret
    exact ⟨rfl, HB3.out⟩
  subst h0
  go_wp2_with fail
  refine (HCS.out (by trivial) _ HB3.out).mono ?_
  rintro e w4 ⟨rfl, _, hb⟩
  have HB4 : Hid (Below w.heap.size w w4) := HB3.out.trans (hb.mono HB3.out.size)
  have HK4 := Lib.hid (HK3.out.below hb HK3.out.lt)
  clear hb u0 u1 u2 u3 u4 u5 u6 u7 u8 u9 u10 u11 u12
  have v0 := HK4.out.cell 0
  have v1 := HK4.out.cell 1
  have v2 := HK4.out.cell 2
  have v3 := HK4.out.cell 3
  have v4 := HK4.out.cell 4
  have v5 := HK4.out.cell 5
  have v6 := HK4.out.cell 6
  have v7 := HK4.out.cell 7
  have v8 := HK4.out.cell 8
  have v9 := HK4.out.cell 9
  have v10 := HK4.out.cell 10
  have v11 := HK4.out.cell 11
  have v12 := HK4.out.cell 12
  obtain ⟨q, hq2⟩ : ∃ q, decide ((400000 : Int) < (T.size : Int)) = q := ⟨_, rfl⟩
  cases q
  · have hs : ¬ 400000 < T.size := by have := of_decide_eq_false hq2; omega
    obtain rfl : xe = 0 := by rw [HXE.out, if_neg (fun h => h rfl), if_neg hs]
    obtain rfl : xs = T := by rw [HXS.out, if_pos rfl]
    have e3 : (xs.toList == xs.toList) = true := beq_self_eq_true _
    clear hs
    go_wp2_with fail
    refine (HCS.out (by trivial) _ HB4.out).mono ?_
    rintro e w5 ⟨rfl, _, hb⟩
    have HB5 : Hid (Below w.heap.size w w5) := HB4.out.trans (hb.mono HB4.out.size)
    clear hb
    go_wp2_with fail
    go_ret
    exact ⟨rfl, HB5.out⟩
  · have hs : 400000 < T.size := by have := of_decide_eq_true hq2; omega
    obtain rfl : xe = 4 := by rw [HXE.out, if_neg (fun h => h rfl), if_pos hs]
    obtain rfl : xs = ⟨#[]⟩ := by rw [HXS.out, if_neg (by decide)]
    clear hs
    go_wp2_with fail
    go_ret
    exact ⟨rfl, HB4.out⟩
end Go.Proofs.YtnlonleljbbgoaaGreatDoor
