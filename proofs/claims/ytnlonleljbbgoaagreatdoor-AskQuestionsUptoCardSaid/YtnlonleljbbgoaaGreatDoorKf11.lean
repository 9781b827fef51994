/-
  DERIVED. The error of a condition: the walk of the reference's condNode. Conditions: sizes.
  By an AI agent.
-/
import Derived.Test.YtnlonleljbbgoaaGreatDoorKf09
import Derived.Test.YtnlonleljbbgoaaGreatDoorKf08
import Derived.Test.YtnlonleljbbgoaaGreatDoorKe07
import Derived.Deep.CutBlock
namespace Go.Proofs.YtnlonleljbbgoaaGreatDoor
open Go.RowKit

theorem op_class {o : Int} (h1 : 1 ≤ o) (h2 : o ≤ 17) : (oneB o = true ∧ manyB o = false ∧ decide (4 ≤ o ∧ o ≤ 7) = false ∧ decide (11 ≤ o ∧ o ≤ 14) = false ∧ decide (12 ≤ o ∧ o ≤ 14) = false ∧ ((o == 9) || (o == 10)) = false) ∨ (oneB o = false ∧ manyB o = true ∧ decide (4 ≤ o ∧ o ≤ 7) = false ∧ decide (11 ≤ o ∧ o ≤ 14) = false ∧ decide (12 ≤ o ∧ o ≤ 14) = false ∧ ((o == 9) || (o == 10)) = false) ∨ (oneB o = false ∧ manyB o = false ∧ decide (4 ≤ o ∧ o ≤ 7) = true ∧ decide (11 ≤ o ∧ o ≤ 14) = false ∧ decide (12 ≤ o ∧ o ≤ 14) = false ∧ ((o == 9) || (o == 10)) = false) ∨ (oneB o = false ∧ manyB o = false ∧ decide (4 ≤ o ∧ o ≤ 7) = false ∧ decide (11 ≤ o ∧ o ≤ 14) = false ∧ decide (12 ≤ o ∧ o ≤ 14) = false ∧ ((o == 9) || (o == 10)) = true) ∨ (oneB o = false ∧ manyB o = false ∧ decide (4 ≤ o ∧ o ≤ 7) = false ∧ decide (11 ≤ o ∧ o ≤ 14) = true ∧ decide (12 ≤ o ∧ o ≤ 14) = false ∧ ((o == 9) || (o == 10)) = false) ∨ (oneB o = false ∧ manyB o = false ∧ decide (4 ≤ o ∧ o ≤ 7) = false ∧ decide (11 ≤ o ∧ o ≤ 14) = true ∧ decide (12 ≤ o ∧ o ≤ 14) = true ∧ ((o == 9) || (o == 10)) = false) ∨ (oneB o = false ∧ manyB o = false ∧ decide (4 ≤ o ∧ o ≤ 7) = false ∧ decide (11 ≤ o ∧ o ≤ 14) = false ∧ decide (12 ≤ o ∧ o ≤ 14) = false ∧ ((o == 9) || (o == 10)) = false) := by
  rcases (show o = 1 ∨ o = 2 ∨ o = 3 ∨ o = 4 ∨ o = 5 ∨ o = 6 ∨ o = 7 ∨ o = 8 ∨ o = 9 ∨ o = 10 ∨ o = 11 ∨ o = 12 ∨ o = 13 ∨ o = 14 ∨ o = 15 ∨ o = 16 ∨ o = 17 by omega) with rfl | rfl | rfl | rfl | rfl | rfl | rfl | rfl | rfl | rfl | rfl | rfl | rfl | rfl | rfl | rfl | rfl <;> decide
set_option maxHeartbeats 16000000 in
set_option maxRecDepth 100000 in
/-- the reference's condNode -/
theorem condNode_any : ∀ (d : Nat) (c : Cd) (Ai : Option Addr) (ni ci : Nat) (Ak : Option Addr) (nk ck : Nat) (B : Nat) (w : World), B ≤ w.heap.size → RCd w B d (.slice Ai ni ci) (.slice Ak nk ck) c → cdB c ≤ 1048576 →
    Calls Tryz.prog 46 #[ACd (c, .slice Ai ni ci, .slice Ak nk ck)] w fun e w' => e = .returned (.int .i64 (viE c)) ∧ Below w.heap.size w w' := by
  intro d
  induction d using Nat.strongRecOn with
  | _ d ih =>
  intro c Ai ni ci Ak nk ck B w hB hc hcb
  have HIH := Lib.hid ih
  obtain ⟨hkl, hk136⟩ := hc.2.len
  have HC := Lib.hid hc
  have HKL := Lib.hid hkl
  have HBK : Hid (∀ (k : Nat) (x : Cd), c.kids[k]? = some x → cdB x ≤ 1048576) := fun k x hx => by have := cdB_kid hx; have := cdB_eq c; omega
  have hts : c.text.size < 1048576 := by have := cdB_eq c; omega
  have HRI := Lib.hid fun (n a b : Int) W => inRange_any n a b W
  have HZE := Lib.hid fun W (hW : Below w.heap.size w W) => zero_any c.val Ai ni ci W B (Nat.le_trans hB hW.size) (hc.1.below (hW.mono hB))
  have HTG := Lib.hid fun W => rIsTarget_any c.text W (by omega)
  have HTA := Lib.hid fun W => rIsTagG_any c.text W (by omega)
  have HBL := Lib.hid fun W => below_any c.text W (by omega)
  have HNM := Lib.hid fun W => checkName_any c.name W
  have hv := hc.1
  obtain ⟨dv, hd⟩ := hv
  have HVL : Hid (∀ W, Below w.heap.size w W → Calls Tryz.prog 88 #[AV (c.val, .slice Ai ni ci)] W fun e w' => e = .returned (.int .i64 (vErr c.val)) ∧ Below W.heap.size W w') := fun W hW => checkValue_any dv (c.val, .slice Ai ni ci) W B (Nat.le_trans hB hW.size) (hd.below (hW.mono hB))
  unfold AV at HVL HZE
  dsimp only at HVL HZE
  have HVE := Lib.hid (viE_eq c)
  obtain ⟨qo, hqo⟩ : ∃ q, oneB c.op = q := ⟨_, rfl⟩
  obtain ⟨qm, hqm⟩ : ∃ q, manyB c.op = q := ⟨_, rfl⟩
  obtain ⟨qN, hqN⟩ : ∃ q, uN c.op = q := ⟨_, rfl⟩
  obtain ⟨qT, hqT⟩ : ∃ q, uT c.op = q := ⟨_, rfl⟩
  obtain ⟨qV, hqV⟩ : ∃ q, uV c.op = q := ⟨_, rfl⟩
  obtain ⟨qM, hqM⟩ : ∃ q, uM c.op = q := ⟨_, rfl⟩
  obtain ⟨b1, hb1⟩ : ∃ q, (c.name.toList != []) = q := ⟨_, rfl⟩
  obtain ⟨b2, hb2⟩ : ∃ q, (c.text.toList != []) = q := ⟨_, rfl⟩
  obtain ⟨b3, hb3⟩ : ∃ q, zeroB c.val = q := ⟨_, rfl⟩
  obtain ⟨b4, hb4⟩ : ∃ q, (c.num != 0) = q := ⟨_, rfl⟩
  obtain ⟨bo, hbo⟩ : ∃ q, ((nk : Int) != 1) = q := ⟨_, rfl⟩
  obtain ⟨bk, hbk⟩ : ∃ q, decide (0 < (nk : Int)) = q := ⟨_, rfl⟩
  have hbk2 : decide (0 < nk) = bk := by rw [← hbk]; simp only [decide_eq_decide]; omega
  have hm1 : c.name.toList.isEmpty = !b1 := by rw [← hb1]; cases c.name.toList <;> rfl
  have hm2 : c.text.toList.isEmpty = !b2 := by rw [← hb2]; cases c.text.toList <;> rfl
  rw [hb3] at HZE
  have HFB : Hid (1 ≤ c.op ∧ c.op ≤ 17 → formB c = (qo && bo || !qo && !qm && bk || !qT && b2 || !qN && b1 || !qV && !b3 || !qM && b4)) := by
    show _ → _
    rintro ⟨g1, g2⟩
    unfold formB
    rw [kerr_eq g1 g2, hqo, hqm, hqN, hqT, hqV, hqM, hb1, hb2, hb3, hb4, ← hkl, hbo, hbk]
    cases qo <;> cases bo <;> cases qm <;> cases bk <;> cases qT <;> cases b2 <;> cases qN <;> cases b1 <;> cases qV <;> cases b3 <;> cases qM <;> cases b4 <;> rfl
  have HQO := Lib.hid hqo
  have HQM := Lib.hid hqm
  have HQT : Hid (decide (4 ≤ c.op ∧ c.op ≤ 7) = qT) := hqT
  have HQN : Hid (decide (11 ≤ c.op ∧ c.op ≤ 14) = qN) := hqN
  have HQV : Hid (decide (12 ≤ c.op ∧ c.op ≤ 14) = qV) := hqV
  have HQU : Hid (((c.op == 9) || (c.op == 10)) = qM) := by show _ = _; rw [← uM_eq]; exact hqM
  clear ih hc hcb hkl hd hqo hqm hqT hqN hqV hqM hb3
  unfold ACd
  dsimp only
  obtain ⟨wb, hwb⟩ : ∃ wb, wb = w.alloc (.cells #[.int .i64 c.op, .string c.name, .string c.text, .int .i64 c.val.kind, .int .i64 c.val.int_, .int .i64 c.val.to_, .string c.val.text, .slice Ai ni ci, .int .i64 c.num, .slice Ak nk ck] 27) := ⟨_, rfl⟩
  have hbwb : Below w.heap.size w wb := by rw [hwb]; exact (Below.refl _ _).alloc (Nat.le_refl _) _
  have kwb : Blk wb w.heap.size 27 #[.int .i64 c.op, .string c.name, .string c.text, .int .i64 c.val.kind, .int .i64 c.val.int_, .int .i64 c.val.to_, .string c.val.text, .slice Ai ni ci, .int .i64 c.num, .slice Ak nk ck] := by rw [hwb]; exact Blk.new _ _ _
  have x0 := kwb.cell 0
  have x1 := kwb.cell 1
  have x2 := kwb.cell 2
  have x3 := kwb.cell 3
  have x4 := kwb.cell 4
  have x5 := kwb.cell 5
  have x6 := kwb.cell 6
  have x7 := kwb.cell 7
  have x8 := kwb.cell 8
  have x9 := kwb.cell 9
  have HBwb := Lib.hid hbwb
  have HKwb := Lib.hid kwb
  have HEwb := Lib.hid hwb
  clear hwb hbwb kwb
  go_enter Tryz.func46, Tryz.ntmps46
  go_upto_region 1 with fail
  rw [← HEwb.out]
  go_wp2_with fail
  refine (HRI.out _ _ _ _).mono ?_
  rintro e w1 ⟨rfl, rfl⟩
  by_cases hop : 1 ≤ c.op ∧ c.op ≤ 17
  case neg =>
    have HE : Hid (viE c = 10) := by
      show _ = _
      rw [HVE.out]
      unfold ndE fmE
      rw [if_pos (show c.op < 1 ∨ 17 < c.op by omega)]
      rfl
    rw [decide_eq_false hop]
    clear hop
    go_wp2_with fail
    go_ret
    exact ⟨by rw [HE.out]; rfl, HBwb.out⟩
  rw [decide_eq_true hop]
  have HOP := Lib.hid hop
  clear hop
  obtain ⟨wz, rfl⟩ : ∃ wz, wz = w1 := ⟨_, rfl⟩
  go_upto_region 3 with fail
  go_cut [3] (fun s3 wc => s3 = .bool qo ∧ wc = wz)
  case first =>
    as_aux_lemma =>
    obtain ⟨o1, ho1⟩ : ∃ q, (c.op == 3) = q := ⟨_, rfl⟩
    obtain ⟨o2, ho2⟩ : ∃ q, decide (15 ≤ c.op) = q := ⟨_, rfl⟩
    have HQ : Hid (qo = (o1 || o2)) := by show _ = _; rw [← HQO.out]; unfold oneB; rw [ho1, ho2]
    cases o1
    · go_wp2_with fail
      go_meet
      exact ⟨by rw [HQ.out]; rfl, rfl⟩
    · go_wp2_with fail
      go_meet
      exact ⟨by rw [HQ.out]; rfl, rfl⟩
  case rest =>
  obtain ⟨rfl, rfl⟩ := hcut
  obtain ⟨wz, rfl⟩ : ∃ wz, wz = wc := ⟨_, rfl⟩
  go_upto_region 4 with fail
  go_cut [4] (fun s4 wc => s4 = .bool qm ∧ wc = wz)
  case first =>
    as_aux_lemma =>
    obtain ⟨o1, ho1⟩ : ∃ q, (c.op == 1) = q := ⟨_, rfl⟩
    obtain ⟨o2, ho2⟩ : ∃ q, (c.op == 2) = q := ⟨_, rfl⟩
    have HQ : Hid (qm = (o1 || o2)) := by show _ = _; rw [← HQM.out]; unfold manyB; rw [ho1, ho2]
    cases o1
    · go_wp2_with fail
      go_meet
      exact ⟨by rw [HQ.out]; rfl, rfl⟩
    · go_wp2_with fail
      go_meet
      exact ⟨by rw [HQ.out]; rfl, rfl⟩
  case rest =>
  obtain ⟨rfl, rfl⟩ := hcut
  obtain ⟨wz, rfl⟩ : ∃ wz, wz = wc := ⟨_, rfl⟩
  go_wp2_with fail
  refine (HRI.out _ _ _ _).mono ?_
  rintro e w1 ⟨rfl, rfl⟩
  rw [HQT.out]
  go_wp2_with fail
  refine (HRI.out _ _ _ _).mono ?_
  rintro e w1 ⟨rfl, rfl⟩
  rw [HQN.out]
  go_wp2_with fail
  refine (HRI.out _ _ _ _).mono ?_
  rintro e wz ⟨rfl, rfl⟩
  rw [HQV.out]
  go_upto_region 8 with fail
  obtain ⟨wz, rfl⟩ : ∃ w2, w2 = wz := ⟨_, rfl⟩
  go_cut [8] (fun s8 wc => s8 = .bool qM ∧ wc = wz)
  case first =>
    as_aux_lemma =>
    obtain ⟨o1, ho1⟩ : ∃ q, (c.op == 9) = q := ⟨_, rfl⟩
    obtain ⟨o2, ho2⟩ : ∃ q, (c.op == 10) = q := ⟨_, rfl⟩
    have HQ : Hid (qM = (o1 || o2)) := by show _ = _; rw [← HQU.out, ho1, ho2]
    cases o1
    · go_wp2_with fail
      go_meet
      exact ⟨by rw [HQ.out]; rfl, rfl⟩
    · go_wp2_with fail
      go_meet
      exact ⟨by rw [HQ.out]; rfl, rfl⟩
  case rest =>
  obtain ⟨rfl, rfl⟩ := hcut
  obtain ⟨wz, rfl⟩ : ∃ wz, wz = wc := ⟨_, rfl⟩
  go_upto_region 9 with fail
  go_cut [108] (fun s108 wc => ∃ q : Bool, s108 = .bool q ∧ Hid (q = formB c) ∧ Hid (Below w.heap.size w wc) ∧ Hid (Blk wc w.heap.size 27 #[.int .i64 c.op, .string c.name, .string c.text, .int .i64 c.val.kind, .int .i64 c.val.int_, .int .i64 c.val.to_, .string c.val.text, .slice Ai ni ci, .int .i64 c.num, .slice Ak nk ck]))
  case first =>
   as_aux_lemma =>
    have HQ : Hid (formB c = (qo && bo || !qo && !qm && bk || !qT && b2 || !qN && b1 || !qV && !b3 || !qM && b4)) := HFB.out HOP.out
    rcases op_class HOP.out.1 HOP.out.2 with ⟨g1, g2, g3, g4, g5, g6⟩ | ⟨g1, g2, g3, g4, g5, g6⟩ | ⟨g1, g2, g3, g4, g5, g6⟩ | ⟨g1, g2, g3, g4, g5, g6⟩ | ⟨g1, g2, g3, g4, g5, g6⟩ | ⟨g1, g2, g3, g4, g5, g6⟩ | ⟨g1, g2, g3, g4, g5, g6⟩
    · as_aux_lemma =>
      obtain rfl : qo = true := HQO.out.symm.trans g1
      obtain rfl : qm = false := HQM.out.symm.trans g2
      obtain rfl : qT = false := HQT.out.symm.trans g3
      obtain rfl : qN = false := HQN.out.symm.trans g4
      obtain rfl : qV = false := HQV.out.symm.trans g5
      obtain rfl : qM = false := HQU.out.symm.trans g6
      clear g1 g2 g3 g4 g5 g6
      cases bo
      case true =>
        go_wp2_with fail
        go_meet
        exact ⟨true, rfl, by show _ = _; rw [HQ.out]; simp, HBwb, HKwb⟩
      cases b2
      case true =>
        go_wp2_with fail
        go_meet
        exact ⟨true, rfl, by show _ = _; rw [HQ.out]; simp, HBwb, HKwb⟩
      cases b1
      case true =>
        go_wp2_with fail
        go_meet
        exact ⟨true, rfl, by show _ = _; rw [HQ.out]; simp, HBwb, HKwb⟩
      go_wp2_with fail
      refine (HZE.out _ HBwb.out).mono ?_
      rintro e w2 ⟨rfl, hb⟩
      have HB2 : Hid (Below w.heap.size w w2) := HBwb.out.trans (hb.mono HBwb.out.size)
      have HK2 := Lib.hid (HKwb.out.below hb HKwb.out.lt)
      have y8 := HK2.out.cell 8
      clear hb
      cases b3
      case false =>
        go_wp2_with fail
        go_meet
        exact ⟨true, rfl, by show _ = _; rw [HQ.out]; simp, HB2, HK2⟩
      cases b4
      case true =>
        go_wp2_with fail
        go_meet
        exact ⟨true, rfl, by show _ = _; rw [HQ.out]; simp, HB2, HK2⟩
      go_wp2_with fail
      go_meet
      exact ⟨false, rfl, by show _ = _; rw [HQ.out]; simp, HB2, HK2⟩
    · as_aux_lemma =>
      obtain rfl : qo = false := HQO.out.symm.trans g1
      obtain rfl : qm = true := HQM.out.symm.trans g2
      obtain rfl : qT = false := HQT.out.symm.trans g3
      obtain rfl : qN = false := HQN.out.symm.trans g4
      obtain rfl : qV = false := HQV.out.symm.trans g5
      obtain rfl : qM = false := HQU.out.symm.trans g6
      clear g1 g2 g3 g4 g5 g6
      cases b2
      case true =>
        go_wp2_with fail
        go_meet
        exact ⟨true, rfl, by show _ = _; rw [HQ.out]; simp, HBwb, HKwb⟩
      cases b1
      case true =>
        go_wp2_with fail
        go_meet
        exact ⟨true, rfl, by show _ = _; rw [HQ.out]; simp, HBwb, HKwb⟩
      go_wp2_with fail
      refine (HZE.out _ HBwb.out).mono ?_
      rintro e w2 ⟨rfl, hb⟩
      have HB2 : Hid (Below w.heap.size w w2) := HBwb.out.trans (hb.mono HBwb.out.size)
      have HK2 := Lib.hid (HKwb.out.below hb HKwb.out.lt)
      have y8 := HK2.out.cell 8
      clear hb
      cases b3
      case false =>
        go_wp2_with fail
        go_meet
        exact ⟨true, rfl, by show _ = _; rw [HQ.out]; simp, HB2, HK2⟩
      cases b4
      case true =>
        go_wp2_with fail
        go_meet
        exact ⟨true, rfl, by show _ = _; rw [HQ.out]; simp, HB2, HK2⟩
      go_wp2_with fail
      go_meet
      exact ⟨false, rfl, by show _ = _; rw [HQ.out]; simp, HB2, HK2⟩
    · as_aux_lemma =>
      obtain rfl : qo = false := HQO.out.symm.trans g1
      obtain rfl : qm = false := HQM.out.symm.trans g2
      obtain rfl : qT = true := HQT.out.symm.trans g3
      obtain rfl : qN = false := HQN.out.symm.trans g4
      obtain rfl : qV = false := HQV.out.symm.trans g5
      obtain rfl : qM = false := HQU.out.symm.trans g6
      clear g1 g2 g3 g4 g5 g6
      cases bk
      case true =>
        go_wp2_with fail
        go_meet
        exact ⟨true, rfl, by show _ = _; rw [HQ.out]; simp, HBwb, HKwb⟩
      cases b1
      case true =>
        go_wp2_with fail
        go_meet
        exact ⟨true, rfl, by show _ = _; rw [HQ.out]; simp, HBwb, HKwb⟩
      go_wp2_with fail
      refine (HZE.out _ HBwb.out).mono ?_
      rintro e w2 ⟨rfl, hb⟩
      have HB2 : Hid (Below w.heap.size w w2) := HBwb.out.trans (hb.mono HBwb.out.size)
      have HK2 := Lib.hid (HKwb.out.below hb HKwb.out.lt)
      have y8 := HK2.out.cell 8
      clear hb
      cases b3
      case false =>
        go_wp2_with fail
        go_meet
        exact ⟨true, rfl, by show _ = _; rw [HQ.out]; simp, HB2, HK2⟩
      cases b4
      case true =>
        go_wp2_with fail
        go_meet
        exact ⟨true, rfl, by show _ = _; rw [HQ.out]; simp, HB2, HK2⟩
      go_wp2_with fail
      go_meet
      exact ⟨false, rfl, by show _ = _; rw [HQ.out]; simp, HB2, HK2⟩
    · as_aux_lemma =>
      obtain rfl : qo = false := HQO.out.symm.trans g1
      obtain rfl : qm = false := HQM.out.symm.trans g2
      obtain rfl : qT = false := HQT.out.symm.trans g3
      obtain rfl : qN = false := HQN.out.symm.trans g4
      obtain rfl : qV = false := HQV.out.symm.trans g5
      obtain rfl : qM = true := HQU.out.symm.trans g6
      clear g1 g2 g3 g4 g5 g6
      cases bk
      case true =>
        go_wp2_with fail
        go_meet
        exact ⟨true, rfl, by show _ = _; rw [HQ.out]; simp, HBwb, HKwb⟩
      cases b2
      case true =>
        go_wp2_with fail
        go_meet
        exact ⟨true, rfl, by show _ = _; rw [HQ.out]; simp, HBwb, HKwb⟩
      cases b1
      case true =>
        go_wp2_with fail
        go_meet
        exact ⟨true, rfl, by show _ = _; rw [HQ.out]; simp, HBwb, HKwb⟩
      go_wp2_with fail
      refine (HZE.out _ HBwb.out).mono ?_
      rintro e w2 ⟨rfl, hb⟩
      have HB2 : Hid (Below w.heap.size w w2) := HBwb.out.trans (hb.mono HBwb.out.size)
      have HK2 := Lib.hid (HKwb.out.below hb HKwb.out.lt)
      have y8 := HK2.out.cell 8
      clear hb
      cases b3
      case false =>
        go_wp2_with fail
        go_meet
        exact ⟨true, rfl, by show _ = _; rw [HQ.out]; simp, HB2, HK2⟩
      go_wp2_with fail
      go_meet
      exact ⟨false, rfl, by show _ = _; rw [HQ.out]; simp, HB2, HK2⟩
    · as_aux_lemma =>
      obtain rfl : qo = false := HQO.out.symm.trans g1
      obtain rfl : qm = false := HQM.out.symm.trans g2
      obtain rfl : qT = false := HQT.out.symm.trans g3
      obtain rfl : qN = true := HQN.out.symm.trans g4
      obtain rfl : qV = false := HQV.out.symm.trans g5
      obtain rfl : qM = false := HQU.out.symm.trans g6
      clear g1 g2 g3 g4 g5 g6
      cases bk
      case true =>
        go_wp2_with fail
        go_meet
        exact ⟨true, rfl, by show _ = _; rw [HQ.out]; simp, HBwb, HKwb⟩
      cases b2
      case true =>
        go_wp2_with fail
        go_meet
        exact ⟨true, rfl, by show _ = _; rw [HQ.out]; simp, HBwb, HKwb⟩
      go_wp2_with fail
      refine (HZE.out _ HBwb.out).mono ?_
      rintro e w2 ⟨rfl, hb⟩
      have HB2 : Hid (Below w.heap.size w w2) := HBwb.out.trans (hb.mono HBwb.out.size)
      have HK2 := Lib.hid (HKwb.out.below hb HKwb.out.lt)
      have y8 := HK2.out.cell 8
      clear hb
      cases b3
      case false =>
        go_wp2_with fail
        go_meet
        exact ⟨true, rfl, by show _ = _; rw [HQ.out]; simp, HB2, HK2⟩
      cases b4
      case true =>
        go_wp2_with fail
        go_meet
        exact ⟨true, rfl, by show _ = _; rw [HQ.out]; simp, HB2, HK2⟩
      go_wp2_with fail
      go_meet
      exact ⟨false, rfl, by show _ = _; rw [HQ.out]; simp, HB2, HK2⟩
    · as_aux_lemma =>
      obtain rfl : qo = false := HQO.out.symm.trans g1
      obtain rfl : qm = false := HQM.out.symm.trans g2
      obtain rfl : qT = false := HQT.out.symm.trans g3
      obtain rfl : qN = true := HQN.out.symm.trans g4
      obtain rfl : qV = true := HQV.out.symm.trans g5
      obtain rfl : qM = false := HQU.out.symm.trans g6
      clear g1 g2 g3 g4 g5 g6
      cases bk
      case true =>
        go_wp2_with fail
        go_meet
        exact ⟨true, rfl, by show _ = _; rw [HQ.out]; simp, HBwb, HKwb⟩
      cases b2
      case true =>
        go_wp2_with fail
        go_meet
        exact ⟨true, rfl, by show _ = _; rw [HQ.out]; simp, HBwb, HKwb⟩
      cases b4
      case true =>
        go_wp2_with fail
        go_meet
        exact ⟨true, rfl, by show _ = _; rw [HQ.out]; simp, HBwb, HKwb⟩
      go_wp2_with fail
      go_meet
      exact ⟨false, rfl, by show _ = _; rw [HQ.out]; simp, HBwb, HKwb⟩
    · as_aux_lemma =>
      obtain rfl : qo = false := HQO.out.symm.trans g1
      obtain rfl : qm = false := HQM.out.symm.trans g2
      obtain rfl : qT = false := HQT.out.symm.trans g3
      obtain rfl : qN = false := HQN.out.symm.trans g4
      obtain rfl : qV = false := HQV.out.symm.trans g5
      obtain rfl : qM = false := HQU.out.symm.trans g6
      clear g1 g2 g3 g4 g5 g6
      cases bk
      case true =>
        go_wp2_with fail
        go_meet
        exact ⟨true, rfl, by show _ = _; rw [HQ.out]; simp, HBwb, HKwb⟩
      cases b2
      case true =>
        go_wp2_with fail
        go_meet
        exact ⟨true, rfl, by show _ = _; rw [HQ.out]; simp, HBwb, HKwb⟩
      cases b1
      case true =>
        go_wp2_with fail
        go_meet
        exact ⟨true, rfl, by show _ = _; rw [HQ.out]; simp, HBwb, HKwb⟩
      go_wp2_with fail
      refine (HZE.out _ HBwb.out).mono ?_
      rintro e w2 ⟨rfl, hb⟩
      have HB2 : Hid (Below w.heap.size w w2) := HBwb.out.trans (hb.mono HBwb.out.size)
      have HK2 := Lib.hid (HKwb.out.below hb HKwb.out.lt)
      have y8 := HK2.out.cell 8
      clear hb
      cases b3
      case false =>
        go_wp2_with fail
        go_meet
        exact ⟨true, rfl, by show _ = _; rw [HQ.out]; simp, HB2, HK2⟩
      cases b4
      case true =>
        go_wp2_with fail
        go_meet
        exact ⟨true, rfl, by show _ = _; rw [HQ.out]; simp, HB2, HK2⟩
      go_wp2_with fail
      go_meet
      exact ⟨false, rfl, by show _ = _; rw [HQ.out]; simp, HB2, HK2⟩
  case rest =>
  obtain ⟨q, rfl, hq, HB1, HK1⟩ := hcut
  clear x0 x1 x2 x3 x4 x5 x6 x7 x8 x9
  have y0 := HK1.out.cell 0
  have y1 := HK1.out.cell 1
  have y2 := HK1.out.cell 2
  have y3 := HK1.out.cell 3
  have y4 := HK1.out.cell 4
  have y5 := HK1.out.cell 5
  have y6 := HK1.out.cell 6
  have y7 := HK1.out.cell 7
  have y8 := HK1.out.cell 8
  have y9 := HK1.out.cell 9
  cases q
  case true =>
    have HE : Hid (viE c = 1) := by
      show _ = _
      have hop := HOP.out
      have hfm : fmE c = 1 := by
        unfold fmE
        rw [if_neg (show ¬ (c.op < 1 ∨ 17 < c.op) by omega), ← hq.out, if_pos rfl]
      rw [HVE.out]
      unfold ndE
      rw [hfm]
      rfl
    go_wp2_with fail
    go_ret
    exact ⟨by rw [HE.out]; rfl, HB1.out⟩
  have HND : Hid (ndE c = inE c) := by
    show _ = _
    have hop := HOP.out
    have hfm : fmE c = 0 := by
      unfold fmE
      rw [if_neg (show ¬ (c.op < 1 ∨ 17 < c.op) by omega), ← hq.out, if_neg (by decide)]
    unfold ndE
    rw [hfm]
    rfl
  clear hq
  go_upto_block 0 with fail
  go_cut [] (fun wc => Hid (inE c = 0) ∧ Hid (Below w.heap.size w wc) ∧ Hid (Blk wc w.heap.size 27 #[.int .i64 c.op, .string c.name, .string c.text, .int .i64 c.val.kind, .int .i64 c.val.int_, .int .i64 c.val.to_, .string c.val.text, .slice Ai ni ci, .int .i64 c.num, .slice Ak nk ck]))
  case first =>
   as_aux_lemma =>
    rcases op_class HOP.out.1 HOP.out.2 with ⟨g1, g2, g3, g4, g5, g6⟩ | ⟨g1, g2, g3, g4, g5, g6⟩ | ⟨g1, g2, g3, g4, g5, g6⟩ | ⟨g1, g2, g3, g4, g5, g6⟩ | ⟨g1, g2, g3, g4, g5, g6⟩ | ⟨g1, g2, g3, g4, g5, g6⟩ | ⟨g1, g2, g3, g4, g5, g6⟩
    · obtain rfl : qo = true := HQO.out.symm.trans g1
      obtain rfl : qm = false := HQM.out.symm.trans g2
      obtain rfl : qT = false := HQT.out.symm.trans g3
      obtain rfl : qN = false := HQN.out.symm.trans g4
      obtain rfl : qV = false := HQV.out.symm.trans g5
      obtain rfl : qM = false := HQU.out.symm.trans g6
      have HI : Hid (inE c = 0) := by
        show _ = _
        have a1 := of_decide_eq_false g3
        have a2 := of_decide_eq_false g4
        have a3 : ¬ (c.op = 9 ∨ c.op = 10) := by simpa using g6
        unfold inE
        rw [if_neg (by omega), if_neg (by omega), if_neg (by omega), if_neg a3, if_neg (by omega), if_neg (by omega)]
      have a1 := of_decide_eq_false g3
      have t4 : (c.op == 4) = false := by simpa using (show ¬ c.op = 4 by omega)
      have t6 : (c.op == 6) = false := by simpa using (show ¬ c.op = 6 by omega)
      clear g1 g2 g3 g4 g5 g6 a1
      go_wp2_with fail
      go_meet
      exact ⟨HI.out, HB1, HK1⟩
    · obtain rfl : qo = false := HQO.out.symm.trans g1
      obtain rfl : qm = true := HQM.out.symm.trans g2
      obtain rfl : qT = false := HQT.out.symm.trans g3
      obtain rfl : qN = false := HQN.out.symm.trans g4
      obtain rfl : qV = false := HQV.out.symm.trans g5
      obtain rfl : qM = false := HQU.out.symm.trans g6
      have HI : Hid (inE c = 0) := by
        show _ = _
        have a1 := of_decide_eq_false g3
        have a2 := of_decide_eq_false g4
        have a3 : ¬ (c.op = 9 ∨ c.op = 10) := by simpa using g6
        unfold inE
        rw [if_neg (by omega), if_neg (by omega), if_neg (by omega), if_neg a3, if_neg (by omega), if_neg (by omega)]
      have a1 := of_decide_eq_false g3
      have t4 : (c.op == 4) = false := by simpa using (show ¬ c.op = 4 by omega)
      have t6 : (c.op == 6) = false := by simpa using (show ¬ c.op = 6 by omega)
      clear g1 g2 g3 g4 g5 g6 a1
      go_wp2_with fail
      go_meet
      exact ⟨HI.out, HB1, HK1⟩
    · obtain rfl : qo = false := HQO.out.symm.trans g1
      obtain rfl : qm = false := HQM.out.symm.trans g2
      obtain rfl : qT = true := HQT.out.symm.trans g3
      obtain rfl : qN = false := HQN.out.symm.trans g4
      obtain rfl : qV = false := HQV.out.symm.trans g5
      obtain rfl : qM = false := HQU.out.symm.trans g6
      have a1 := of_decide_eq_true g3
      clear g1 g2 g3 g4 g5 g6
      by_cases h4 : c.op = 4
      · have t4 : (c.op == 4) = true := by simpa using h4
        obtain ⟨b1, hb1⟩ : ∃ q, decide ((c.text.size : Int) < 1) = q := ⟨_, rfl⟩
        obtain ⟨b2, hb2⟩ : ∃ q, decide ((200 : Int) < (c.text.size : Int)) = q := ⟨_, rfl⟩
        obtain ⟨b3, hb3⟩ : ∃ q, ctl c.text = q := ⟨_, rfl⟩
        have HI : Hid (inE c = if (b1 || b2) = true then 4 else if b3 = true then 9 else 0) := by
          show _ = _
          have hs1 : decide ((c.text.size : Int) < 1) = decide (c.text.size = 0) := by simp only [decide_eq_decide]; omega
          have hs2 : decide ((200 : Int) < (c.text.size : Int)) = decide (200 < c.text.size) := by simp only [decide_eq_decide]; omega
          unfold inE
          rw [if_pos h4, ← hb1, ← hb2, hs1, hs2, hb3]
          by_cases g1 : c.text.size = 0
          · simp [g1]
          · by_cases g2 : 200 < c.text.size
            · simp [g1, g2]
            · simp [g1, g2]
        simp only [hb3] at HBL
        clear h4 a1 hb3
        cases b1
        case true =>
          have HE : Hid (viE c = 4) := by
            show _ = _
            have hi : inE c = 4 := by rw [HI.out]; simp
            rw [HVE.out, HND.out, hi, if_pos (show (4 : Int) ≠ 0 by decide)]
          go_wp2_with fail
          go_ret
          exact ⟨by rw [HE.out]; rfl, HB1.out⟩
        cases b2
        case true =>
          have HE : Hid (viE c = 4) := by
            show _ = _
            have hi : inE c = 4 := by rw [HI.out]; simp
            rw [HVE.out, HND.out, hi, if_pos (show (4 : Int) ≠ 0 by decide)]
          go_wp2_with fail
          go_ret
          exact ⟨by rw [HE.out]; rfl, HB1.out⟩
        go_wp2_with fail
        refine (HBL.out _).mono ?_
        rintro e w5 ⟨rfl, rfl⟩
        cases b3
        case true =>
          have HE : Hid (viE c = 9) := by
            show _ = _
            have hi : inE c = 9 := by rw [HI.out]; simp
            rw [HVE.out, HND.out, hi, if_pos (show (9 : Int) ≠ 0 by decide)]
          go_wp2_with fail
          go_ret
          exact ⟨by rw [HE.out]; rfl, HB1.out⟩
        go_wp2_with fail
        go_meet
        exact ⟨HI.out, HB1, HK1⟩
      have n4 := h4
      clear h4
      have t4 : (c.op == 4) = false := by simpa using n4
      by_cases h6 : c.op = 6
      · have t6 : (c.op == 6) = true := by simpa using h6
        obtain ⟨q, hq⟩ : ∃ q, tagFull c.text = q := ⟨_, rfl⟩
        have HI : Hid (inE c = if q = true then 0 else 3) := by show _ = _; unfold inE; rw [if_neg (show ¬ c.op = 4 by omega), if_neg (show ¬ (c.op = 5 ∨ c.op = 7) by omega), if_pos (show c.op = 6 from h6), hq]
        simp only [hq] at HTA
        clear h6 hq a1 n4
        go_wp2_with fail
        refine (HTA.out _).mono ?_
        rintro e w5 ⟨rfl, rfl⟩
        cases q
        case false =>
          have HE : Hid (viE c = 3) := by
            show _ = _
            have hi : inE c = 3 := by rw [HI.out]; simp
            rw [HVE.out, HND.out, hi, if_pos (show (3 : Int) ≠ 0 by decide)]
          go_wp2_with fail
          go_ret
          exact ⟨by rw [HE.out]; rfl, HB1.out⟩
        go_wp2_with fail
        go_meet
        exact ⟨HI.out, HB1, HK1⟩
      · have t6 : (c.op == 6) = false := by simpa using h6
        obtain ⟨q, hq⟩ : ∃ q, isTgt c.text = q := ⟨_, rfl⟩
        have HI : Hid (inE c = if q = true then 0 else 3) := by show _ = _; unfold inE; rw [if_neg (show ¬ c.op = 4 by omega), if_pos (show c.op = 5 ∨ c.op = 7 by omega), hq]
        simp only [hq] at HTG
        clear h6 hq a1 n4
        go_wp2_with fail
        refine (HTG.out _).mono ?_
        rintro e w5 ⟨rfl, hb⟩
        have HB5 : Hid (Below w.heap.size w w5) := HB1.out.trans (hb.mono HB1.out.size)
        have HK5 := Lib.hid (HK1.out.below hb HK1.out.lt)
        clear hb
        cases q
        case false =>
          have HE : Hid (viE c = 3) := by
            show _ = _
            have hi : inE c = 3 := by rw [HI.out]; simp
            rw [HVE.out, HND.out, hi, if_pos (show (3 : Int) ≠ 0 by decide)]
          go_wp2_with fail
          go_ret
          exact ⟨by rw [HE.out]; rfl, HB5.out⟩
        go_wp2_with fail
        go_meet
        exact ⟨HI.out, HB5, HK5⟩
    · obtain rfl : qo = false := HQO.out.symm.trans g1
      obtain rfl : qm = false := HQM.out.symm.trans g2
      obtain rfl : qT = false := HQT.out.symm.trans g3
      obtain rfl : qN = false := HQN.out.symm.trans g4
      obtain rfl : qV = false := HQV.out.symm.trans g5
      obtain rfl : qM = true := HQU.out.symm.trans g6
      have a3 : c.op = 9 ∨ c.op = 10 := by simpa using g6
      have t4 : (c.op == 4) = false := by simpa using (show ¬ c.op = 4 by omega)
      have t6 : (c.op == 6) = false := by simpa using (show ¬ c.op = 6 by omega)
      obtain ⟨q, hq⟩ : ∃ q, decide (0 ≤ c.num ∧ c.num ≤ 1000000) = q := ⟨_, rfl⟩
      have HI : Hid (inE c = if q = true then 0 else 2) := by
        show _ = _
        unfold inE
        rw [if_neg (by omega), if_neg (by omega), if_neg (by omega), if_pos a3, ← hq]
        by_cases h : c.num < 0 ∨ 1000000 < c.num
        · rw [if_pos h, decide_eq_false (show ¬ (0 ≤ c.num ∧ c.num ≤ 1000000) by omega), if_neg (by decide)]
        · rw [if_neg h, decide_eq_true (show 0 ≤ c.num ∧ c.num ≤ 1000000 by omega), if_pos rfl]
      clear g1 g2 g3 g4 g5 g6 a3
      go_wp2_with fail
      refine (HRI.out _ _ _ _).mono ?_
      rintro e w5 ⟨rfl, rfl⟩
      rw [hq]
      clear hq
      cases q
      case false =>
        have HE : Hid (viE c = 2) := by
          show _ = _
          have hi : inE c = 2 := by rw [HI.out]; simp
          rw [HVE.out, HND.out, hi, if_pos (show (2 : Int) ≠ 0 by decide)]
        go_wp2_with fail
        go_ret
        exact ⟨by rw [HE.out]; rfl, HB1.out⟩
      go_wp2_with fail
      go_meet
      exact ⟨HI.out, HB1, HK1⟩
    · obtain rfl : qo = false := HQO.out.symm.trans g1
      obtain rfl : qm = false := HQM.out.symm.trans g2
      obtain rfl : qT = false := HQT.out.symm.trans g3
      obtain rfl : qN = true := HQN.out.symm.trans g4
      obtain rfl : qV = false := HQV.out.symm.trans g5
      obtain rfl : qM = false := HQU.out.symm.trans g6
      have a1 := of_decide_eq_true g4
      have a2 := of_decide_eq_false g5
      have t4 : (c.op == 4) = false := by simpa using (show ¬ c.op = 4 by omega)
      have t6 : (c.op == 6) = false := by simpa using (show ¬ c.op = 6 by omega)
      obtain ⟨q, hq⟩ : ∃ q, nmErr c.name = q := ⟨_, rfl⟩
      obtain ⟨qv, hqv⟩ : ∃ q, vErr c.val = q := ⟨_, rfl⟩
      have HI : Hid (inE c = q) := by show _ = _; unfold inE; rw [if_neg (by omega), if_neg (by omega), if_neg (by omega), if_neg (by omega), if_pos (show c.op = 11 by omega), hq]
      simp only [hq] at HNM
      simp only [hqv] at HVL
      clear g1 g2 g3 g4 g5 g6 a1 a2 hq hqv
      go_wp2_with fail
      refine (HNM.out _).mono ?_
      rintro e w5 ⟨rfl, rfl⟩
      by_cases g0 : q = 0
      case neg =>
        have e1 : (q != 0) = true := by simpa using g0
        have HE : Hid (viE c = q) := by
          show _ = _
          have hi : inE c = q := by rw [HI.out]
          rw [HVE.out, HND.out, hi, if_pos g0]
        clear g0
        go_wp2_with fail
        go_ret
        exact ⟨by rw [HE.out]; rfl, HB1.out⟩
      subst g0
      go_wp2_with fail
      refine (HVL.out _ HB1.out).mono ?_
      rintro e w6 ⟨rfl, hb⟩
      have HB5 : Hid (Below w.heap.size w w6) := HB1.out.trans (hb.mono HB1.out.size)
      have HK5 := Lib.hid (HK1.out.below hb HK1.out.lt)
      clear hb
      go_wp2_with fail
      go_meet
      exact ⟨HI.out, HB5, HK5⟩
    · obtain rfl : qo = false := HQO.out.symm.trans g1
      obtain rfl : qm = false := HQM.out.symm.trans g2
      obtain rfl : qT = false := HQT.out.symm.trans g3
      obtain rfl : qN = true := HQN.out.symm.trans g4
      obtain rfl : qV = true := HQV.out.symm.trans g5
      obtain rfl : qM = false := HQU.out.symm.trans g6
      have a1 := of_decide_eq_true g4
      have a2 := of_decide_eq_true g5
      have t4 : (c.op == 4) = false := by simpa using (show ¬ c.op = 4 by omega)
      have t6 : (c.op == 6) = false := by simpa using (show ¬ c.op = 6 by omega)
      obtain ⟨q, hq⟩ : ∃ q, nmErr c.name = q := ⟨_, rfl⟩
      obtain ⟨qv, hqv⟩ : ∃ q, vErr c.val = q := ⟨_, rfl⟩
      have HI : Hid (inE c = if q ≠ 0 then q else if c.val.kind = 0 then 10 else qv) := by show _ = _; unfold inE; rw [if_neg (by omega), if_neg (by omega), if_neg (by omega), if_neg (by omega), if_neg (show ¬ c.op = 11 by omega), if_pos a2, hq, hqv]
      simp only [hq] at HNM
      simp only [hqv] at HVL
      clear g1 g2 g3 g4 g5 g6 a1 a2 hq hqv
      go_wp2_with fail
      refine (HNM.out _).mono ?_
      rintro e w5 ⟨rfl, rfl⟩
      by_cases g0 : q = 0
      case neg =>
        have e1 : (q != 0) = true := by simpa using g0
        have HE : Hid (viE c = q) := by
          show _ = _
          have hi : inE c = q := by rw [HI.out]; exact if_pos g0
          rw [HVE.out, HND.out, hi, if_pos g0]
        clear g0
        go_wp2_with fail
        go_ret
        exact ⟨by rw [HE.out]; rfl, HB1.out⟩
      subst g0
      by_cases g1 : c.val.kind = 0
      case pos =>
        have e1 : (c.val.kind == 0) = true := by simpa using g1
        have HE : Hid (viE c = 10) := by
          show _ = _
          have hi : inE c = 10 := by rw [HI.out, if_neg (by decide), if_pos g1]
          rw [HVE.out, HND.out, hi, if_pos (by decide)]
        clear g1
        go_wp2_with fail
        go_ret
        exact ⟨by rw [HE.out]; rfl, HB1.out⟩
      have e1 : (c.val.kind == 0) = false := by simpa using g1
      have HI2 : Hid (inE c = qv) := by show _ = _; rw [HI.out, if_neg (by decide), if_neg g1]
      clear g1
      go_wp2_with fail
      refine (HVL.out _ HB1.out).mono ?_
      rintro e w6 ⟨rfl, hb⟩
      have HB5 : Hid (Below w.heap.size w w6) := HB1.out.trans (hb.mono HB1.out.size)
      have HK5 := Lib.hid (HK1.out.below hb HK1.out.lt)
      clear hb
      by_cases g0 : qv = 0
      case neg =>
        have e2 : (qv != 0) = true := by simpa using g0
        have HE : Hid (viE c = qv) := by show _ = _; rw [HVE.out, HND.out, HI2.out, if_pos g0]
        clear g0
        go_wp2_with fail
        go_ret
        exact ⟨by rw [HE.out]; rfl, HB5.out⟩
      subst g0
      go_wp2_with fail
      go_meet
      exact ⟨HI2.out, HB5, HK5⟩
    · obtain rfl : qo = false := HQO.out.symm.trans g1
      obtain rfl : qm = false := HQM.out.symm.trans g2
      obtain rfl : qT = false := HQT.out.symm.trans g3
      obtain rfl : qN = false := HQN.out.symm.trans g4
      obtain rfl : qV = false := HQV.out.symm.trans g5
      obtain rfl : qM = false := HQU.out.symm.trans g6
      have HI : Hid (inE c = 0) := by
        show _ = _
        have a1 := of_decide_eq_false g3
        have a2 := of_decide_eq_false g4
        have a3 : ¬ (c.op = 9 ∨ c.op = 10) := by simpa using g6
        unfold inE
        rw [if_neg (by omega), if_neg (by omega), if_neg (by omega), if_neg a3, if_neg (by omega), if_neg (by omega)]
      have a1 := of_decide_eq_false g3
      have t4 : (c.op == 4) = false := by simpa using (show ¬ c.op = 4 by omega)
      have t6 : (c.op == 6) = false := by simpa using (show ¬ c.op = 6 by omega)
      clear g1 g2 g3 g4 g5 g6 a1
      go_wp2_with fail
      go_meet
      exact ⟨HI.out, HB1, HK1⟩
  case rest =>
  obtain ⟨hie, HB2, HK2⟩ := hcut
  have HVK : Hid (viE c = viEs c.kids) := by show _ = _; rw [HVE.out, HND.out, hie.out]; rfl
  clear hie y0 y1 y2 y3 y4 y5 y6 y7 y8 y9
  have y9 := HK2.out.cell 9
  go_wp2_with fail
  clear y9
  go_loopg [173] nk (fun gg s173 wr => ∃ j : Nat, j + gg = nk ∧ s173 = .int .i64 (j : Int) ∧ Hid (viEs (c.kids.take j) = 0) ∧ Hid (Below w.heap.size w wr))
  case atStart => exact ⟨0, by omega, rfl, by rw [List.take_zero, viEs]; exact rfl, HB2⟩
  case round =>
    obtain ⟨j, hjg, rfl, hno, hbel⟩ := hrel
    obtain ⟨W1, rfl⟩ : ∃ W1, W1 = wr := ⟨_, rfl⟩
    by_cases hj : j < nk
    · obtain ⟨x, hx⟩ : ∃ x, c.kids[j]? = some x := ⟨_, List.getElem?_eq_getElem (by have := HKL.out; omega)⟩
      have hb1 : B ≤ W1.heap.size := Nat.le_trans hB hbel.out.size
      obtain ⟨d', b, off, Bi, mi, di, Bk, mk, dk, hdd, rfl, hbb, hcl, hrx⟩ := (HC.out.2.below (hbel.out.mono hB)).at_ hx
      have e0 : W1.cell? ⟨b, off + j * 10, none⟩ = some (.int .i64 x.op) := hcl 0 _ rfl
      have e1 : W1.cell? ⟨b, off + j * 10 + 1, none⟩ = some (.string x.name) := hcl 1 _ rfl
      have e2 : W1.cell? ⟨b, off + j * 10 + 2, none⟩ = some (.string x.text) := hcl 2 _ rfl
      have e3 : W1.cell? ⟨b, off + j * 10 + 3, none⟩ = some (.int .i64 x.val.kind) := hcl 3 _ rfl
      have e4 : W1.cell? ⟨b, off + j * 10 + 4, none⟩ = some (.int .i64 x.val.int_) := hcl 4 _ rfl
      have e5 : W1.cell? ⟨b, off + j * 10 + 5, none⟩ = some (.int .i64 x.val.to_) := hcl 5 _ rfl
      have e6 : W1.cell? ⟨b, off + j * 10 + 6, none⟩ = some (.string x.val.text) := hcl 6 _ rfl
      have e7 : W1.cell? ⟨b, off + j * 10 + 7, none⟩ = some (.slice Bi mi di) := hcl 7 _ rfl
      have e8 : W1.cell? ⟨b, off + j * 10 + 8, none⟩ = some (.int .i64 x.num) := hcl 8 _ rfl
      have e9 : W1.cell? ⟨b, off + j * 10 + 9, none⟩ = some (.slice Bk mk dk) := hcl 9 _ rfl
      obtain ⟨wa, hwa⟩ : ∃ wa, wa = W1.alloc (.cells #[.int .i64 x.op, .string x.name, .string x.text, .int .i64 x.val.kind, .int .i64 x.val.int_, .int .i64 x.val.to_, .string x.val.text, .slice Bi mi di, .int .i64 x.num, .slice Bk mk dk] 27) := ⟨_, rfl⟩
      have hal : Below W1.heap.size W1 wa := by rw [hwa]; exact (Below.refl _ _).alloc (Nat.le_refl _) _
      have q9 : Blk wa W1.heap.size 27 #[.int .i64 x.op, .string x.name, .string x.text, .int .i64 x.val.kind, .int .i64 x.val.int_, .int .i64 x.val.to_, .string x.val.text, .slice Bi mi di, .int .i64 x.num, .slice Bk mk dk] := by rw [hwa]; exact Blk.new _ _ _
      have m0 := q9.cell 0
      have m1 := q9.cell 1
      have m2 := q9.cell 2
      have m3 := q9.cell 3
      have m4 := q9.cell 4
      have m5 := q9.cell 5
      have m6 := q9.cell 6
      have m7 := q9.cell 7
      have m8 := q9.cell 8
      have m9 := q9.cell 9
      have HWA := Lib.hid hwa
      have HAL := Lib.hid hal
      have HCX := Lib.hid (HIH.out d' (by omega) x Bi mi di Bk mk dk B wa (Nat.le_trans hb1 hal.size) (hrx.below (hal.mono hb1)) (HBK.out j x hx))
      unfold ACd at HCX
      dsimp only at HCX
      have HXJ := Lib.hid hx
      have HBA : Hid (Below w.heap.size w wa) := hbel.out.trans (hal.mono hbel.out.size)
      have j0 : (0 : Int) ≤ (j : Int) := by omega
      have j1 : (j : Int) < (nk : Int) := by omega
      clear hx hrx hcl hbb hwa hal q9
      obtain ⟨ex, hex⟩ : ∃ q, viE x = q := ⟨_, rfl⟩
      rw [hex] at HCX
      have HEX := Lib.hid hex
      clear hex
      go_upto_region 37 with fail
      rw [← HWA.out]
      clear e0 e1 e2 e3 e4 e5 e6 e7 e8 e9
      go_wp2_with fail
      refine HCX.out.mono ?_
      rintro e w2 ⟨rfl, hb⟩
      have HB3 : Hid (Below w.heap.size w w2) := HBA.out.trans (hb.mono HBA.out.size)
      clear hb m0 m1 m2 m3 m4 m5 m6 m7 m8 m9
      have HT : Hid (viEs (c.kids.take (j + 1)) = ex) := (viEs_take HXJ.out hno.out).trans HEX.out
      by_cases h1 : ex = 0
      · subst h1
        go_wp2_with fail
        go_roundg (nk - (j + 1))
        case measure => omega
        case rel => exact ⟨j + 1, by omega, by go_num, HT, HB3⟩
      · have e1 : (ex != 0) = true := by simpa using h1
        have HE : Hid (viE c = ex) := by
          show _ = _
          rw [HVK.out, viEs_stop (by rw [HT.out]; exact h1), HT.out]
        clear h1
        go_wp2_with fail
        go_ret
        exact ⟨by rw [HE.out]; rfl, HB3.out⟩
    · obtain rfl : nk = j := by omega
      have ht : c.kids.take nk = c.kids := List.take_of_length_le (by rw [← HKL.out]; exact Nat.le_refl _)
      have HE : Hid (viE c = 0) := by show _ = _; rw [HVK.out, ← ht]; exact hno.out
      clear ht
      go_wp2_with fail
      go_ret
      exact ⟨by rw [HE.out]; rfl, hbel.out⟩
end Go.Proofs.YtnlonleljbbgoaaGreatDoor
