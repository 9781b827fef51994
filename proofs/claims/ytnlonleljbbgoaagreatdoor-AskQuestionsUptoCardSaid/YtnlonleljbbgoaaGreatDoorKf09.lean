/-
  DERIVED. The error of a condition: the walks of the reference's zero, condNode and CondError. Conditions: sizes.
  The error of a node: the walk of ask.checkNode. Conditions: sizes.
  By an AI agent.
-/
import Derived.Test.YtnlonleljbbgoaaGreatDoorKe27
import Derived.Test.YtnlonleljbbgoaaGreatDoorKf06
import Derived.Test.YtnlonleljbbgoaaGreatDoorKf02
import Derived.Test.YtnlonleljbbgoaaGreatDoorKe07
import Derived.Test.YtnlonleljbbgoaaGreatDoorKf01
import Derived.Test.YtnlonleljbbgoaaGreatDoorKf08
namespace Go.Proofs.YtnlonleljbbgoaaGreatDoor
open Go.RowKit

set_option maxHeartbeats 4000000 in
set_option maxRecDepth 100000 in
/-- the reference's zero -/
theorem zero_any (v : Vl) (Ai : Option Addr) (ni ci : Nat) (w : World) (B : Nat) (hB : B ≤ w.heap.size) (hv : RV w B (.slice Ai ni ci) v.items) :
    Calls Tryz.prog 89 #[AV (v, .slice Ai ni ci)] w fun e w' => e = .returned (.bool (zeroB v)) ∧ Below w.heap.size w w' := by
  obtain ⟨d, hd⟩ := hv
  obtain ⟨wb, hwb⟩ : ∃ wb, wb = w.alloc (.cells #[.int .i64 v.kind, .int .i64 v.int_, .int .i64 v.to_, .string v.text, .slice Ai ni ci] 24) := ⟨_, rfl⟩
  have hbb : Below w.heap.size w wb := by rw [hwb]; exact (Below.refl _ _).alloc (Nat.le_refl _) _
  have kb : Blk wb w.heap.size 24 #[.int .i64 v.kind, .int .i64 v.int_, .int .i64 v.to_, .string v.text, .slice Ai ni ci] := by rw [hwb]; exact Blk.new _ _ _
  have HS := Lib.hid (sameRef_any d (v, .slice Ai ni ci) (.mk 0 0 0 ⟨#[]⟩ [], .slice none 0 0) wb B (Nat.le_trans hB hbb.size) (hd.below (hbb.mono hB)) (by
    cases d with
    | zero => exact ⟨rfl, none, 0, rfl⟩
    | succ d => exact ⟨none, 0, 0, [], rfl, rfl, rfl, ⟨Nat.le_refl _, by omega⟩, ⟨rfl, fun h => absurd h (by omega)⟩, fun x hx => by cases hx⟩))
  have hz : sameV v (.mk 0 0 0 ⟨#[]⟩ []) = zeroB v := by
    obtain ⟨k, i, t, s, l⟩ := v
    rw [sameV]
    unfold zeroB
    rw [dec_toList, show (⟨#[]⟩ : ByteArray).toList = [] from ByteArray.toList_eq _]
    cases l with
    | nil => rw [sameL]; rfl
    | cons a l =>
      have h : sameL (a :: l) [] = false := by rw [sameL] <;> simp
      rw [h]; rfl
  rw [show ((v, Value.slice Ai ni ci) : Vl × Value).1 = v from rfl, hz] at HS
  unfold AV at HS
  dsimp only [Vl.kind, Vl.int_, Vl.to_, Vl.text] at HS
  have HB := Lib.hid hbb
  have HWB := Lib.hid hwb
  have x0 := kb.cell 0
  have x1 := kb.cell 1
  have x2 := kb.cell 2
  have x3 := kb.cell 3
  have x4 := kb.cell 4
  clear hwb hbb kb hz hd
  unfold AV
  dsimp only
  go_enter Tryz.func89, Tryz.ntmps89
  go_upto_region 1 with fail
  rw [← HWB.out]
  go_wp2_with fail
  refine HS.out.mono ?_
  rintro e w1 ⟨rfl, hb⟩
  have HB2 : Hid (Below w.heap.size w w1) := HB.out.trans (hb.mono HB.out.size)
  clear hb
  go_wp2_with fail
  go_ret
  exact ⟨rfl, HB2.out⟩
end Go.Proofs.YtnlonleljbbgoaaGreatDoor
namespace Go.Proofs.YtnlonleljbbgoaaGreatDoor
open Go.RowKit

theorem RV.lenI {w : World} {B : Nat} {A : Option Addr} {n c : Nat} {l : List Vl} (h : RV w B (.slice A n c) l) : n = l.length := by
  obtain ⟨A', n', c', M, h1, e, h3, _⟩ := h.open_
  injection e with _ e2 _
  rw [e2, h3, ← h1, List.length_map]
theorem fm_op {c : Cd} (h : fmE c = 0) : 1 ≤ c.op ∧ c.op ≤ 17 := by
  unfold fmE at h
  by_cases h1 : c.op < 1 ∨ 17 < c.op
  · rw [if_pos h1] at h; exact absurd h (by decide)
  · omega
set_option maxHeartbeats 16000000 in
set_option maxRecDepth 100000 in
/-- ask.checkNode -/
theorem checkNode_any (c : Cd) (Ai : Option Addr) (ni ci : Nat) (Ak : Option Addr) (nk ck : Nat) (w : World) (B : Nat) (hB : B ≤ w.heap.size) (hv : RV w B (.slice Ai ni ci) c.val.items) (hnk : nk = c.kids.length) (ht : c.text.size < 1048576) :
    Calls Tryz.prog 68 #[ACd (c, .slice Ai ni ci, .slice Ak nk ck)] w fun e w' => e = .returned (.int .i64 (ndE c)) ∧ Below w.heap.size w w' := by
  have HFM := Lib.hid fun W => checkForm_any c Ai ni ci Ak nk ck W hv.lenI hnk
  have HTG := Lib.hid fun W => askTarget_any c.text W (by omega)
  have HTA := Lib.hid fun W => askTag_any c.text W ht
  have HCT := Lib.hid fun W => check_any c.text W (by omega)
  have HNM := Lib.hid fun W => checkName_any c.name W
  obtain ⟨d, hd⟩ := hv
  have HVL : Hid (∀ W, Below w.heap.size w W → Calls Tryz.prog 88 #[AV (c.val, .slice Ai ni ci)] W fun e w' => e = .returned (.int .i64 (vErr c.val)) ∧ Below W.heap.size W w') := fun W hW => checkValue_any d (c.val, .slice Ai ni ci) W B (Nat.le_trans hB hW.size) (hd.below (hW.mono hB))
  unfold ACd at HFM
  unfold AV at HVL
  dsimp only at HFM HVL
  obtain ⟨f, hf⟩ : ∃ f, fmE c = f := ⟨_, rfl⟩
  rw [hf] at HFM
  have HFE := Lib.hid hf
  have HND : Hid (ndE c = if f ≠ 0 then f else inE c) := by show _ = _; unfold ndE; rw [hf]
  clear hf hd hnk ht
  unfold ACd
  dsimp only
  obtain ⟨wb, hwb⟩ : ∃ wb, wb = w.alloc (.cells #[.int .i64 c.op, .string c.name, .string c.text, .int .i64 c.val.kind, .int .i64 c.val.int_, .int .i64 c.val.to_, .string c.val.text, .slice Ai ni ci, .int .i64 c.num, .slice Ak nk ck] 27) := ⟨_, rfl⟩
  have hbwb : Below w.heap.size w wb := by rw [hwb]; exact (Below.refl _ _).alloc (Nat.le_refl _) _
  have kwb : Blk wb w.heap.size 27 #[.int .i64 c.op, .string c.name, .string c.text, .int .i64 c.val.kind, .int .i64 c.val.int_, .int .i64 c.val.to_, .string c.val.text, .slice Ai ni ci, .int .i64 c.num, .slice Ak nk ck] := by rw [hwb]; exact Blk.new _ _ _
  have x0 := kwb.cell 0
  have x1 := kwb.cell 1
  have x2 := kwb.cell 2
  have x3 := kwb.cell 3
  have x4 := kwb.cell 4
  have x5 := kwb.cell 5
  have x6 := kwb.cell 6
  have x7 := kwb.cell 7
  have x8 := kwb.cell 8
  have x9 := kwb.cell 9
  have HBwb := Lib.hid hbwb
  have HKwb := Lib.hid kwb
  have HEwb := Lib.hid hwb
  clear hwb hbwb kwb
  go_enter Tryz.func68, Tryz.ntmps68
  go_upto_region 1 with fail
  rw [← HEwb.out]
  go_wp2_with fail
  refine (HFM.out wb).mono ?_
  rintro e w1 ⟨rfl, hb⟩
  have HB1 : Hid (Below w.heap.size w w1) := HBwb.out.trans (hb.mono HBwb.out.size)
  have HK1 := Lib.hid (HKwb.out.below hb HKwb.out.lt)
  clear hb x0 x1 x2 x3 x4 x5 x6 x7 x8 x9
  have y0 := HK1.out.cell 0
  have y1 := HK1.out.cell 1
  have y2 := HK1.out.cell 2
  have y3 := HK1.out.cell 3
  have y4 := HK1.out.cell 4
  have y5 := HK1.out.cell 5
  have y6 := HK1.out.cell 6
  have y7 := HK1.out.cell 7
  have y8 := HK1.out.cell 8
  have y9 := HK1.out.cell 9
  by_cases h0 : f = 0
  case neg =>
    have e1 : (f != 0) = true := by simpa using h0
    have HE : Hid (ndE c = f) := by show _ = _; rw [HND.out, if_pos h0]
    clear h0
    go_wp2_with fail
    go_ret
    exact ⟨by rw [HE.out]; rfl, HB1.out⟩
  subst h0
  have HE : Hid (ndE c = inE c) := by show _ = _; rw [HND.out]; rfl
  obtain ⟨ho1, ho2⟩ := fm_op HFE.out
  clear HND HFM
  by_cases hop : c.op = 4
  · have t4 : (c.op == 4) = true := by rw [hop]; rfl
    obtain ⟨b1, hb1⟩ : ∃ q, c.text.toList.isEmpty = q := ⟨_, rfl⟩
    obtain ⟨b2, hb2⟩ : ∃ q, decide ((200 : Int) < (c.text.size : Int)) = q := ⟨_, rfl⟩
    obtain ⟨ce, hce⟩ : ∃ q, chkE c.text = q := ⟨_, rfl⟩
    have HI : Hid (inE c = if (b1 || b2) = true then 4 else if ce ≠ 0 then 9 else 0) := by
      show _ = _
      have hs : c.text.toList.isEmpty = decide (c.text.size = 0) := by
        by_cases g : c.text.size = 0
        · rw [decide_eq_true g, Lib.toList_data, show c.text.data = #[] from Array.eq_empty_of_size_eq_zero g]; rfl
        · rw [decide_eq_false g]; exact notEmpty_of (by omega)
      have hs2 : decide ((200 : Int) < (c.text.size : Int)) = decide (200 < c.text.size) := by simp only [decide_eq_decide]; omega
      unfold inE
      rw [if_pos hop, ← hb1, ← hb2, hs, hs2]
      by_cases g1 : c.text.size = 0
      · simp [g1]
      · by_cases g2 : 200 < c.text.size
        · simp [g1, g2]
        · have hk : ce = if ctl c.text = true then 9 else 0 := by
            rw [← hce]
            unfold chkE
            rw [if_neg (show ¬ 2000 < c.text.size by omega)]
          rw [hk]
          by_cases g3 : ctl c.text = true
          · simp [g1, g2, g3]
          · simp [g1, g2, g3]
    simp only [hce] at HCT
    clear hop hce
    cases b1
    case true => 
      go_wp2_with fail
      go_ret
      exact ⟨by rw [HE.out, HI.out]; rfl, HB1.out⟩
    cases b2
    case true => 
      go_wp2_with fail
      go_ret
      exact ⟨by rw [HE.out, HI.out]; rfl, HB1.out⟩
    go_wp2_with fail
    refine (HCT.out _).mono ?_
    rintro e w2 ⟨rfl, rfl⟩
    by_cases g0 : ce = 0
    · subst g0
      go_wp2_with fail
      go_ret
      exact ⟨by rw [HE.out, HI.out]; rfl, HB1.out⟩
    · have e1 : (ce != 0) = true := by simpa using g0
      have HI2 : Hid (inE c = 9) := by show _ = _; rw [HI.out, if_neg (by decide), if_pos g0]
      clear g0
      go_wp2_with fail
      go_ret
      exact ⟨by rw [HE.out, HI2.out]; rfl, HB1.out⟩
  have n4 : ¬ c.op = 4 := hop
  clear hop
  by_cases hop : c.op = 5
  · have t4 : (c.op == 4) = false := by rw [hop]; rfl
    have t5 : (c.op == 5) = true := by rw [hop]; rfl
    obtain ⟨q, hq⟩ : ∃ q, isTgt c.text = q := ⟨_, rfl⟩
    have HI : Hid (inE c = if q = true then 0 else 3) := by show _ = _; unfold inE; rw [if_neg (show ¬ c.op = 4 by omega), if_pos (show c.op = 5 ∨ c.op = 7 by omega), hq]
    simp only [hq] at HTG
    clear hop hq
    go_wp2_with fail
    refine (HTG.out _).mono ?_
    rintro e w2 ⟨rfl, hb⟩
    have HB2 : Hid (Below w.heap.size w w2) := HB1.out.trans (hb.mono HB1.out.size)
    clear hb
    cases q
    · go_wp2_with fail
      go_ret
      exact ⟨by rw [HE.out, HI.out]; rfl, HB2.out⟩
    · go_wp2_with fail
      go_ret
      exact ⟨by rw [HE.out, HI.out]; rfl, HB2.out⟩
  have n5 : ¬ c.op = 5 := hop
  clear hop
  by_cases hop : c.op = 7
  · have t4 : (c.op == 4) = false := by rw [hop]; rfl
    have t5 : (c.op == 5) = false := by rw [hop]; rfl
    have t7 : (c.op == 7) = true := by rw [hop]; rfl
    obtain ⟨q, hq⟩ : ∃ q, isTgt c.text = q := ⟨_, rfl⟩
    have HI : Hid (inE c = if q = true then 0 else 3) := by show _ = _; unfold inE; rw [if_neg (show ¬ c.op = 4 by omega), if_pos (show c.op = 5 ∨ c.op = 7 by omega), hq]
    simp only [hq] at HTG
    clear hop hq
    go_wp2_with fail
    refine (HTG.out _).mono ?_
    rintro e w2 ⟨rfl, hb⟩
    have HB2 : Hid (Below w.heap.size w w2) := HB1.out.trans (hb.mono HB1.out.size)
    clear hb
    cases q
    · go_wp2_with fail
      go_ret
      exact ⟨by rw [HE.out, HI.out]; rfl, HB2.out⟩
    · go_wp2_with fail
      go_ret
      exact ⟨by rw [HE.out, HI.out]; rfl, HB2.out⟩
  have n7 : ¬ c.op = 7 := hop
  clear hop
  by_cases hop : c.op = 6
  · have t4 : (c.op == 4) = false := by rw [hop]; rfl
    have t5 : (c.op == 5) = false := by rw [hop]; rfl
    have t7 : (c.op == 7) = false := by rw [hop]; rfl
    have t6 : (c.op == 6) = true := by rw [hop]; rfl
    obtain ⟨q, hq⟩ : ∃ q, tagFull c.text = q := ⟨_, rfl⟩
    have HI : Hid (inE c = if q = true then 0 else 3) := by show _ = _; unfold inE; rw [if_neg (show ¬ c.op = 4 by omega), if_neg (show ¬ (c.op = 5 ∨ c.op = 7) by omega), if_pos (show c.op = 6 from hop), hq]
    simp only [hq] at HTA
    clear hop hq
    go_wp2_with fail
    refine (HTA.out _).mono ?_
    rintro e w2 ⟨rfl, hb⟩
    have HB2 : Hid (Below w.heap.size w w2) := HB1.out.trans (hb.mono HB1.out.size)
    clear hb
    cases q
    · go_wp2_with fail
      go_ret
      exact ⟨by rw [HE.out, HI.out]; rfl, HB2.out⟩
    · go_wp2_with fail
      go_ret
      exact ⟨by rw [HE.out, HI.out]; rfl, HB2.out⟩
  have n6 : ¬ c.op = 6 := hop
  clear hop
  by_cases hop : c.op = 9
  · have t4 : (c.op == 4) = false := by rw [hop]; rfl
    have t5 : (c.op == 5) = false := by rw [hop]; rfl
    have t7 : (c.op == 7) = false := by rw [hop]; rfl
    have t6 : (c.op == 6) = false := by rw [hop]; rfl
    have t9 : (c.op == 9) = true := by rw [hop]; rfl
    obtain ⟨b1, hb1⟩ : ∃ q, decide (c.num < 0) = q := ⟨_, rfl⟩
    obtain ⟨b2, hb2⟩ : ∃ q, decide (1000000 < c.num) = q := ⟨_, rfl⟩
    have HI : Hid (inE c = if (b1 || b2) = true then 2 else 0) := by
      show _ = _
      unfold inE
      rw [if_neg (show ¬ c.op = 4 by omega), if_neg (show ¬ (c.op = 5 ∨ c.op = 7) by omega), if_neg (show ¬ c.op = 6 by omega), if_pos (show c.op = 9 ∨ c.op = 10 by omega), ← hb1, ← hb2]
      by_cases g1 : c.num < 0
      · simp [g1]
      · by_cases g2 : 1000000 < c.num
        · simp [g1, g2]
        · simp [g1, g2]
    clear hop
    cases b1
    case true =>
      go_wp2_with fail
      go_ret
      exact ⟨by rw [HE.out, HI.out]; rfl, HB1.out⟩
    cases b2
    case true =>
      go_wp2_with fail
      go_ret
      exact ⟨by rw [HE.out, HI.out]; rfl, HB1.out⟩
    go_wp2_with fail
    go_ret
    exact ⟨by rw [HE.out, HI.out]; rfl, HB1.out⟩
  have n9 : ¬ c.op = 9 := hop
  clear hop
  by_cases hop : c.op = 10
  · have t4 : (c.op == 4) = false := by rw [hop]; rfl
    have t5 : (c.op == 5) = false := by rw [hop]; rfl
    have t7 : (c.op == 7) = false := by rw [hop]; rfl
    have t6 : (c.op == 6) = false := by rw [hop]; rfl
    have t9 : (c.op == 9) = false := by rw [hop]; rfl
    have t10 : (c.op == 10) = true := by rw [hop]; rfl
    obtain ⟨b1, hb1⟩ : ∃ q, decide (c.num < 0) = q := ⟨_, rfl⟩
    obtain ⟨b2, hb2⟩ : ∃ q, decide (1000000 < c.num) = q := ⟨_, rfl⟩
    have HI : Hid (inE c = if (b1 || b2) = true then 2 else 0) := by
      show _ = _
      unfold inE
      rw [if_neg (show ¬ c.op = 4 by omega), if_neg (show ¬ (c.op = 5 ∨ c.op = 7) by omega), if_neg (show ¬ c.op = 6 by omega), if_pos (show c.op = 9 ∨ c.op = 10 by omega), ← hb1, ← hb2]
      by_cases g1 : c.num < 0
      · simp [g1]
      · by_cases g2 : 1000000 < c.num
        · simp [g1, g2]
        · simp [g1, g2]
    clear hop
    cases b1
    case true =>
      go_wp2_with fail
      go_ret
      exact ⟨by rw [HE.out, HI.out]; rfl, HB1.out⟩
    cases b2
    case true =>
      go_wp2_with fail
      go_ret
      exact ⟨by rw [HE.out, HI.out]; rfl, HB1.out⟩
    go_wp2_with fail
    go_ret
    exact ⟨by rw [HE.out, HI.out]; rfl, HB1.out⟩
  have n10 : ¬ c.op = 10 := hop
  clear hop
  by_cases hop : c.op = 11
  · have t4 : (c.op == 4) = false := by rw [hop]; rfl
    have t5 : (c.op == 5) = false := by rw [hop]; rfl
    have t7 : (c.op == 7) = false := by rw [hop]; rfl
    have t6 : (c.op == 6) = false := by rw [hop]; rfl
    have t9 : (c.op == 9) = false := by rw [hop]; rfl
    have t10 : (c.op == 10) = false := by rw [hop]; rfl
    have t11 : (c.op == 11) = true := by rw [hop]; rfl
    obtain ⟨q, hq⟩ : ∃ q, nmErr c.name = q := ⟨_, rfl⟩
    have HI : Hid (inE c = q) := by show _ = _; unfold inE; rw [if_neg (show ¬ c.op = 4 by omega), if_neg (show ¬ (c.op = 5 ∨ c.op = 7) by omega), if_neg (show ¬ c.op = 6 by omega), if_neg (show ¬ (c.op = 9 ∨ c.op = 10) by omega), if_pos hop, hq]
    simp only [hq] at HNM
    clear hop hq
    go_wp2_with fail
    refine (HNM.out _).mono ?_
    rintro e w2 ⟨rfl, rfl⟩
    go_wp2_with fail
    go_ret
    exact ⟨by rw [HE.out, HI.out]; rfl, HB1.out⟩
  have n11 : ¬ c.op = 11 := hop
  clear hop
  by_cases hop : c.op = 12
  · have t4 : (c.op == 4) = false := by rw [hop]; rfl
    have t5 : (c.op == 5) = false := by rw [hop]; rfl
    have t7 : (c.op == 7) = false := by rw [hop]; rfl
    have t6 : (c.op == 6) = false := by rw [hop]; rfl
    have t9 : (c.op == 9) = false := by rw [hop]; rfl
    have t10 : (c.op == 10) = false := by rw [hop]; rfl
    have t11 : (c.op == 11) = false := by rw [hop]; rfl
    have t12 : (c.op == 12) = true := by rw [hop]; rfl
    obtain ⟨q, hq⟩ : ∃ q, nmErr c.name = q := ⟨_, rfl⟩
    obtain ⟨qv, hqv⟩ : ∃ q, vErr c.val = q := ⟨_, rfl⟩
    have HI : Hid (inE c = if q ≠ 0 then q else if c.val.kind = 0 then 10 else qv) := by show _ = _; unfold inE; rw [if_neg (show ¬ c.op = 4 by omega), if_neg (show ¬ (c.op = 5 ∨ c.op = 7) by omega), if_neg (show ¬ c.op = 6 by omega), if_neg (show ¬ (c.op = 9 ∨ c.op = 10) by omega), if_neg (show ¬ c.op = 11 by omega), if_pos (show 12 ≤ c.op ∧ c.op ≤ 14 by omega), hq, hqv]
    simp only [hq] at HNM
    simp only [hqv] at HVL
    clear hop hq hqv
    go_wp2_with fail
    refine (HNM.out _).mono ?_
    rintro e w2 ⟨rfl, rfl⟩
    by_cases g0 : q = 0
    case neg =>
      have e1 : (q != 0) = true := by simpa using g0
      have HI2 : Hid (inE c = q) := by show _ = _; rw [HI.out, if_pos g0]
      clear g0
      go_wp2_with fail
      go_ret
      exact ⟨by rw [HE.out, HI2.out]; rfl, HB1.out⟩
    subst g0
    by_cases g1 : c.val.kind = 0
    case pos =>
      have e1 : (c.val.kind == 0) = true := by simpa using g1
      have HI2 : Hid (inE c = 10) := by show _ = _; rw [HI.out, if_neg (by decide), if_pos g1]
      clear g1
      go_wp2_with fail
      go_ret
      exact ⟨by rw [HE.out, HI2.out]; rfl, HB1.out⟩
    have e1 : (c.val.kind == 0) = false := by simpa using g1
    have HI2 : Hid (inE c = qv) := by show _ = _; rw [HI.out, if_neg (by decide), if_neg g1]
    clear g1
    go_wp2_with fail
    refine (HVL.out _ HB1.out).mono ?_
    rintro e w3 ⟨rfl, hb⟩
    have HB2 : Hid (Below w.heap.size w w3) := HB1.out.trans (hb.mono HB1.out.size)
    clear hb
    go_wp2_with fail
    go_ret
    exact ⟨by rw [HE.out, HI2.out]; rfl, HB2.out⟩
  have n12 : ¬ c.op = 12 := hop
  clear hop
  by_cases hop : c.op = 13
  · have t4 : (c.op == 4) = false := by rw [hop]; rfl
    have t5 : (c.op == 5) = false := by rw [hop]; rfl
    have t7 : (c.op == 7) = false := by rw [hop]; rfl
    have t6 : (c.op == 6) = false := by rw [hop]; rfl
    have t9 : (c.op == 9) = false := by rw [hop]; rfl
    have t10 : (c.op == 10) = false := by rw [hop]; rfl
    have t11 : (c.op == 11) = false := by rw [hop]; rfl
    have t12 : (c.op == 12) = false := by rw [hop]; rfl
    have t13 : (c.op == 13) = true := by rw [hop]; rfl
    obtain ⟨q, hq⟩ : ∃ q, nmErr c.name = q := ⟨_, rfl⟩
    obtain ⟨qv, hqv⟩ : ∃ q, vErr c.val = q := ⟨_, rfl⟩
    have HI : Hid (inE c = if q ≠ 0 then q else if c.val.kind = 0 then 10 else qv) := by show _ = _; unfold inE; rw [if_neg (show ¬ c.op = 4 by omega), if_neg (show ¬ (c.op = 5 ∨ c.op = 7) by omega), if_neg (show ¬ c.op = 6 by omega), if_neg (show ¬ (c.op = 9 ∨ c.op = 10) by omega), if_neg (show ¬ c.op = 11 by omega), if_pos (show 12 ≤ c.op ∧ c.op ≤ 14 by omega), hq, hqv]
    simp only [hq] at HNM
    simp only [hqv] at HVL
    clear hop hq hqv
    go_wp2_with fail
    refine (HNM.out _).mono ?_
    rintro e w2 ⟨rfl, rfl⟩
    by_cases g0 : q = 0
    case neg =>
      have e1 : (q != 0) = true := by simpa using g0
      have HI2 : Hid (inE c = q) := by show _ = _; rw [HI.out, if_pos g0]
      clear g0
      go_wp2_with fail
      go_ret
      exact ⟨by rw [HE.out, HI2.out]; rfl, HB1.out⟩
    subst g0
    by_cases g1 : c.val.kind = 0
    case pos =>
      have e1 : (c.val.kind == 0) = true := by simpa using g1
      have HI2 : Hid (inE c = 10) := by show _ = _; rw [HI.out, if_neg (by decide), if_pos g1]
      clear g1
      go_wp2_with fail
      go_ret
      exact ⟨by rw [HE.out, HI2.out]; rfl, HB1.out⟩
    have e1 : (c.val.kind == 0) = false := by simpa using g1
    have HI2 : Hid (inE c = qv) := by show _ = _; rw [HI.out, if_neg (by decide), if_neg g1]
    clear g1
    go_wp2_with fail
    refine (HVL.out _ HB1.out).mono ?_
    rintro e w3 ⟨rfl, hb⟩
    have HB2 : Hid (Below w.heap.size w w3) := HB1.out.trans (hb.mono HB1.out.size)
    clear hb
    go_wp2_with fail
    go_ret
    exact ⟨by rw [HE.out, HI2.out]; rfl, HB2.out⟩
  have n13 : ¬ c.op = 13 := hop
  clear hop
  by_cases hop : c.op = 14
  · have t4 : (c.op == 4) = false := by rw [hop]; rfl
    have t5 : (c.op == 5) = false := by rw [hop]; rfl
    have t7 : (c.op == 7) = false := by rw [hop]; rfl
    have t6 : (c.op == 6) = false := by rw [hop]; rfl
    have t9 : (c.op == 9) = false := by rw [hop]; rfl
    have t10 : (c.op == 10) = false := by rw [hop]; rfl
    have t11 : (c.op == 11) = false := by rw [hop]; rfl
    have t12 : (c.op == 12) = false := by rw [hop]; rfl
    have t13 : (c.op == 13) = false := by rw [hop]; rfl
    have t14 : (c.op == 14) = true := by rw [hop]; rfl
    obtain ⟨q, hq⟩ : ∃ q, nmErr c.name = q := ⟨_, rfl⟩
    obtain ⟨qv, hqv⟩ : ∃ q, vErr c.val = q := ⟨_, rfl⟩
    have HI : Hid (inE c = if q ≠ 0 then q else if c.val.kind = 0 then 10 else qv) := by show _ = _; unfold inE; rw [if_neg (show ¬ c.op = 4 by omega), if_neg (show ¬ (c.op = 5 ∨ c.op = 7) by omega), if_neg (show ¬ c.op = 6 by omega), if_neg (show ¬ (c.op = 9 ∨ c.op = 10) by omega), if_neg (show ¬ c.op = 11 by omega), if_pos (show 12 ≤ c.op ∧ c.op ≤ 14 by omega), hq, hqv]
    simp only [hq] at HNM
    simp only [hqv] at HVL
    clear hop hq hqv
    go_wp2_with fail
    refine (HNM.out _).mono ?_
    rintro e w2 ⟨rfl, rfl⟩
    by_cases g0 : q = 0
    case neg =>
      have e1 : (q != 0) = true := by simpa using g0
      have HI2 : Hid (inE c = q) := by show _ = _; rw [HI.out, if_pos g0]
      clear g0
      go_wp2_with fail
      go_ret
      exact ⟨by rw [HE.out, HI2.out]; rfl, HB1.out⟩
    subst g0
    by_cases g1 : c.val.kind = 0
    case pos =>
      have e1 : (c.val.kind == 0) = true := by simpa using g1
      have HI2 : Hid (inE c = 10) := by show _ = _; rw [HI.out, if_neg (by decide), if_pos g1]
      clear g1
      go_wp2_with fail
      go_ret
      exact ⟨by rw [HE.out, HI2.out]; rfl, HB1.out⟩
    have e1 : (c.val.kind == 0) = false := by simpa using g1
    have HI2 : Hid (inE c = qv) := by show _ = _; rw [HI.out, if_neg (by decide), if_neg g1]
    clear g1
    go_wp2_with fail
    refine (HVL.out _ HB1.out).mono ?_
    rintro e w3 ⟨rfl, hb⟩
    have HB2 : Hid (Below w.heap.size w w3) := HB1.out.trans (hb.mono HB1.out.size)
    clear hb
    go_wp2_with fail
    go_ret
    exact ⟨by rw [HE.out, HI2.out]; rfl, HB2.out⟩
  have n14 : ¬ c.op = 14 := hop
  clear hop
  have t4 : (c.op == 4) = false := by simpa using n4
  have t5 : (c.op == 5) = false := by simpa using n5
  have t7 : (c.op == 7) = false := by simpa using n7
  have t6 : (c.op == 6) = false := by simpa using n6
  have t9 : (c.op == 9) = false := by simpa using n9
  have t10 : (c.op == 10) = false := by simpa using n10
  have t11 : (c.op == 11) = false := by simpa using n11
  have t12 : (c.op == 12) = false := by simpa using n12
  have t13 : (c.op == 13) = false := by simpa using n13
  have t14 : (c.op == 14) = false := by simpa using n14
  have HI : Hid (inE c = 0) := by show _ = _; unfold inE; rw [if_neg (by omega), if_neg (by omega), if_neg (by omega), if_neg (by omega), if_neg (by omega), if_neg (by omega)]
  clear n4 n5 n7 n6 n9 n10 n11 n12 n13 n14 ho1 ho2
  go_wp2_with fail
  go_ret
  exact ⟨by rw [HE.out, HI.out]; rfl, HB1.out⟩
end Go.Proofs.YtnlonleljbbgoaaGreatDoor
