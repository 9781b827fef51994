/-
  DERIVED. The first error of the nodes of a condition: the walks of ask.visit and ask.CheckCond. Conditions: sizes.
  By an AI agent.
-/
import Derived.Test.YtnlonleljbbgoaaGreatDoorKf09
import Derived.Test.YtnlonleljbbgoaaGreatDoorKf03
namespace Go.Proofs.YtnlonleljbbgoaaGreatDoor
open Go.RowKit

set_option maxHeartbeats 8000000 in
set_option maxRecDepth 100000 in
/-- ask.visit with ask.checkNode -/
theorem visit_any : ∀ (d : Nat) (c : Cd) (Ai : Option Addr) (ni ci : Nat) (Ak : Option Addr) (nk ck : Nat) (B : Nat) (w : World), B ≤ w.heap.size → RCd w B d (.slice Ai ni ci) (.slice Ak nk ck) c → cdB c ≤ 1048576 →
    Calls Tryz.prog 67 #[ACd (c, .slice Ai ni ci, .slice Ak nk ck), .func (.func 68) #[] #[]] w fun e w' => e = .returned (.int .i64 (viE c)) ∧ Below w.heap.size w w' := by
  intro d
  induction d using Nat.strongRecOn with
  | _ d ih =>
  intro c Ai ni ci Ak nk ck B w hB hc hcb
  have HIH := Lib.hid ih
  obtain ⟨hkl, hk136⟩ := hc.2.len
  have HC := Lib.hid hc
  have HKL := Lib.hid hkl
  have HN := Lib.hid fun W (hW : Below w.heap.size w W) => checkNode_any c Ai ni ci Ak nk ck W B (Nat.le_trans hB hW.size) (hc.1.below (hW.mono hB)) hkl (by have := cdB_eq c; omega)
  unfold ACd at HN
  dsimp only at HN
  have HVE := Lib.hid (viE_eq c)
  have HBK : Hid (∀ (k : Nat) (x : Cd), c.kids[k]? = some x → cdB x ≤ 1048576) := fun k x hx => by have := cdB_kid hx; have := cdB_eq c; omega
  obtain ⟨n0, hn0⟩ : ∃ q, ndE c = q := ⟨_, rfl⟩
  rw [hn0] at HN HVE
  clear hn0
  clear ih hc hkl
  unfold ACd
  dsimp only
  obtain ⟨wb, hwb⟩ : ∃ wb, wb = w.alloc (.cells #[.int .i64 c.op, .string c.name, .string c.text, .int .i64 c.val.kind, .int .i64 c.val.int_, .int .i64 c.val.to_, .string c.val.text, .slice Ai ni ci, .int .i64 c.num, .slice Ak nk ck] 27) := ⟨_, rfl⟩
  have hbwb : Below w.heap.size w wb := by rw [hwb]; exact (Below.refl _ _).alloc (Nat.le_refl _) _
  have kwb : Blk wb w.heap.size 27 #[.int .i64 c.op, .string c.name, .string c.text, .int .i64 c.val.kind, .int .i64 c.val.int_, .int .i64 c.val.to_, .string c.val.text, .slice Ai ni ci, .int .i64 c.num, .slice Ak nk ck] := by rw [hwb]; exact Blk.new _ _ _
  have x0 := kwb.cell 0
  have x1 := kwb.cell 1
  have x2 := kwb.cell 2
  have x3 := kwb.cell 3
  have x4 := kwb.cell 4
  have x5 := kwb.cell 5
  have x6 := kwb.cell 6
  have x7 := kwb.cell 7
  have x8 := kwb.cell 8
  have x9 := kwb.cell 9
  have HBwb := Lib.hid hbwb
  have HKwb := Lib.hid kwb
  have HEwb := Lib.hid hwb
  clear hwb hbwb kwb
  go_enter Tryz.func67, Tryz.ntmps67
  go_upto_region 1 with fail
  rw [← HEwb.out]
  go_wp2_with fail
  refine (HN.out wb HBwb.out).mono ?_
  rintro e w1 ⟨rfl, hb⟩
  have HB1 : Hid (Below w.heap.size w w1) := HBwb.out.trans (hb.mono HBwb.out.size)
  have HK1 := Lib.hid (HKwb.out.below hb HKwb.out.lt)
  clear hb x0 x1 x2 x3 x4 x5 x6 x7 x8 x9
  have y9 := HK1.out.cell 9
  by_cases h0 : n0 = 0
  case neg =>
    have e1 : (n0 != 0) = true := by simpa using h0
    have HE : Hid (viE c = n0) := by show _ = _; rw [HVE.out, if_pos h0]
    clear h0
    go_wp2_with fail
    go_ret
    exact ⟨by rw [HE.out]; rfl, HB1.out⟩
  subst h0
  have HVK : Hid (viE c = viEs c.kids) := by show _ = _; rw [HVE.out]; rfl
  clear HVE
  go_wp2_with fail
  clear y9
  go_loopg [18] nk (fun gg s18 wr => ∃ j : Nat, j + gg = nk ∧ s18 = .int .i64 (j : Int) ∧ Hid (viEs (c.kids.take j) = 0) ∧ Hid (Below w.heap.size w wr))
  case atStart => exact ⟨0, by omega, rfl, by rw [List.take_zero, viEs]; exact rfl, HB1⟩
  case round =>
    obtain ⟨j, hjg, rfl, hno, hbel⟩ := hrel
    obtain ⟨W1, rfl⟩ : ∃ W1, W1 = wr := ⟨_, rfl⟩
    by_cases hj : j < nk
    · obtain ⟨x, hx⟩ : ∃ x, c.kids[j]? = some x := ⟨_, List.getElem?_eq_getElem (by have := HKL.out; omega)⟩
      have hb1 : B ≤ W1.heap.size := Nat.le_trans hB hbel.out.size
      obtain ⟨d', b, off, Bi, mi, di, Bk, mk, dk, hdd, rfl, hbb, hcl, hrx⟩ := (HC.out.2.below (hbel.out.mono hB)).at_ hx
      have e0 : W1.cell? ⟨b, off + j * 10, none⟩ = some (.int .i64 x.op) := hcl 0 _ rfl
      have e1 : W1.cell? ⟨b, off + j * 10 + 1, none⟩ = some (.string x.name) := hcl 1 _ rfl
      have e2 : W1.cell? ⟨b, off + j * 10 + 2, none⟩ = some (.string x.text) := hcl 2 _ rfl
      have e3 : W1.cell? ⟨b, off + j * 10 + 3, none⟩ = some (.int .i64 x.val.kind) := hcl 3 _ rfl
      have e4 : W1.cell? ⟨b, off + j * 10 + 4, none⟩ = some (.int .i64 x.val.int_) := hcl 4 _ rfl
      have e5 : W1.cell? ⟨b, off + j * 10 + 5, none⟩ = some (.int .i64 x.val.to_) := hcl 5 _ rfl
      have e6 : W1.cell? ⟨b, off + j * 10 + 6, none⟩ = some (.string x.val.text) := hcl 6 _ rfl
      have e7 : W1.cell? ⟨b, off + j * 10 + 7, none⟩ = some (.slice Bi mi di) := hcl 7 _ rfl
      have e8 : W1.cell? ⟨b, off + j * 10 + 8, none⟩ = some (.int .i64 x.num) := hcl 8 _ rfl
      have e9 : W1.cell? ⟨b, off + j * 10 + 9, none⟩ = some (.slice Bk mk dk) := hcl 9 _ rfl
      obtain ⟨wa, hwa⟩ : ∃ wa, wa = W1.alloc (.cells #[.int .i64 x.op, .string x.name, .string x.text, .int .i64 x.val.kind, .int .i64 x.val.int_, .int .i64 x.val.to_, .string x.val.text, .slice Bi mi di, .int .i64 x.num, .slice Bk mk dk] 27) := ⟨_, rfl⟩
      have hal : Below W1.heap.size W1 wa := by rw [hwa]; exact (Below.refl _ _).alloc (Nat.le_refl _) _
      have q9 : Blk wa W1.heap.size 27 #[.int .i64 x.op, .string x.name, .string x.text, .int .i64 x.val.kind, .int .i64 x.val.int_, .int .i64 x.val.to_, .string x.val.text, .slice Bi mi di, .int .i64 x.num, .slice Bk mk dk] := by rw [hwa]; exact Blk.new _ _ _
      have m0 := q9.cell 0
      have m1 := q9.cell 1
      have m2 := q9.cell 2
      have m3 := q9.cell 3
      have m4 := q9.cell 4
      have m5 := q9.cell 5
      have m6 := q9.cell 6
      have m7 := q9.cell 7
      have m8 := q9.cell 8
      have m9 := q9.cell 9
      have HWA := Lib.hid hwa
      have HAL := Lib.hid hal
      have HCX := Lib.hid (HIH.out d' (by omega) x Bi mi di Bk mk dk B wa (Nat.le_trans hb1 hal.size) (hrx.below (hal.mono hb1)) (HBK.out j x hx))
      unfold ACd at HCX
      dsimp only at HCX
      have HXJ := Lib.hid hx
      have HBA : Hid (Below w.heap.size w wa) := hbel.out.trans (hal.mono hbel.out.size)
      have j0 : (0 : Int) ≤ (j : Int) := by omega
      have j1 : (j : Int) < (nk : Int) := by omega
      clear hx hrx hcl hbb hwa hal q9
      obtain ⟨ex, hex⟩ : ∃ q, viE x = q := ⟨_, rfl⟩
      rw [hex] at HCX
      have HEX := Lib.hid hex
      clear hex
      go_upto_region 7 with fail
      rw [← HWA.out]
      clear e0 e1 e2 e3 e4 e5 e6 e7 e8 e9
      go_wp2_with fail
      refine HCX.out.mono ?_
      rintro e w2 ⟨rfl, hb⟩
      have HB2 : Hid (Below w.heap.size w w2) := HBA.out.trans (hb.mono HBA.out.size)
      clear hb m0 m1 m2 m3 m4 m5 m6 m7 m8 m9
      have HT : Hid (viEs (c.kids.take (j + 1)) = ex) := (viEs_take HXJ.out hno.out).trans HEX.out
      by_cases h1 : ex = 0
      · subst h1
        go_wp2_with fail
        go_roundg (nk - (j + 1))
        case measure => omega
        case rel => exact ⟨j + 1, by omega, by go_num, HT, HB2⟩
      · have e1 : (ex != 0) = true := by simpa using h1
        have HE : Hid (viE c = ex) := by
          show _ = _
          rw [HVK.out, viEs_stop (by rw [HT.out]; exact h1), HT.out]
        clear h1
        go_wp2_with fail
        go_ret
        exact ⟨by rw [HE.out]; rfl, HB2.out⟩
    · obtain rfl : nk = j := by omega
      have ht : c.kids.take nk = c.kids := List.take_of_length_le (by rw [← HKL.out]; exact Nat.le_refl _)
      have HE : Hid (viE c = 0) := by show _ = _; rw [HVK.out, ← ht]; exact hno.out
      clear ht
      go_wp2_with fail
      go_ret
      exact ⟨by rw [HE.out]; rfl, hbel.out⟩
set_option maxHeartbeats 4000000 in
set_option maxRecDepth 100000 in
/-- ask.CheckCond -/
theorem checkCond_any (d : Nat) (c : Cd) (Ai : Option Addr) (ni ci : Nat) (Ak : Option Addr) (nk ck : Nat) (B : Nat) (w : World) (hB : B ≤ w.heap.size) (hc : RCd w B d (.slice Ai ni ci) (.slice Ak nk ck) c) (hcb : cdB c ≤ 1048576) :
    Calls Tryz.prog 27 #[ACd (c, .slice Ai ni ci, .slice Ak nk ck)] w fun e w' => e = .returned (.int .i64 (cdErr c)) ∧ Below w.heap.size w w' := by
  have HC := Lib.hid hc
  have HVI := Lib.hid fun W (hW : Below w.heap.size w W) => visit_any d c Ai ni ci Ak nk ck B W (Nat.le_trans hB hW.size) (hc.below (hW.mono hB)) hcb
  unfold ACd at HVI
  dsimp only at HVI
  obtain ⟨ve, hve⟩ : ∃ q, viE c = q := ⟨_, rfl⟩
  have HCE : Hid (cdErr c = if 60 < cdN c then 4 else if 40 < cdD c then 13 else ve) := by show _ = _; unfold cdErr; rw [hve]
  rw [hve] at HVI
  clear hve
  obtain ⟨wb, hwb⟩ : ∃ wb, wb = w.alloc (.cells #[.int .i64 c.op, .string c.name, .string c.text, .int .i64 c.val.kind, .int .i64 c.val.int_, .int .i64 c.val.to_, .string c.val.text, .slice Ai ni ci, .int .i64 c.num, .slice Ak nk ck] 27) := ⟨_, rfl⟩
  have hbwb : Below w.heap.size w wb := by rw [hwb]; exact (Below.refl _ _).alloc (Nat.le_refl _) _
  have kwb : Blk wb w.heap.size 27 #[.int .i64 c.op, .string c.name, .string c.text, .int .i64 c.val.kind, .int .i64 c.val.int_, .int .i64 c.val.to_, .string c.val.text, .slice Ai ni ci, .int .i64 c.num, .slice Ak nk ck] := by rw [hwb]; exact Blk.new _ _ _
  have x0 := kwb.cell 0
  have x1 := kwb.cell 1
  have x2 := kwb.cell 2
  have x3 := kwb.cell 3
  have x4 := kwb.cell 4
  have x5 := kwb.cell 5
  have x6 := kwb.cell 6
  have x7 := kwb.cell 7
  have x8 := kwb.cell 8
  have x9 := kwb.cell 9
  have HBwb := Lib.hid hbwb
  have HKwb := Lib.hid kwb
  have HEwb := Lib.hid hwb
  clear hwb hbwb kwb
  obtain ⟨wp, hwp⟩ : ∃ wp, wp = wb.alloc (.cells #[.int .i64 0] 3) := ⟨_, rfl⟩
  have hbp : Below wb.heap.size wb wp := by rw [hwp]; exact (Below.refl _ _).alloc (Nat.le_refl _) _
  have kp : Blk wp wb.heap.size 3 #[.int .i64 ((0 : Nat) : Int)] := by rw [hwp]; exact Blk.new _ _ _
  have HBP : Hid (Below w.heap.size w wp) := HBwb.out.trans (hbp.mono HBwb.out.size)
  have hKP := HKwb.out.below hbp HKwb.out.lt
  have HSM := Lib.hid (small_any d c Ai ni ci Ak nk ck 1 0 wb.heap.size B wp (hc.below (HBP.out.mono hB)) (Nat.le_trans hB HBwb.out.size) kp (by omega) (by omega))
  unfold ACd at HSM
  rw [show ((1 : Nat) : Int) = 1 from rfl] at HSM
  dsimp only at HSM
  have hwbz : w.heap.size < wb.heap.size := HKwb.out.lt
  have HKP := Lib.hid hKP
  have HWP := Lib.hid hwp
  have HZP : Hid (wb.heap.size < wp.heap.size) := kp.lt
  clear hwp hbp kp hKP hc x0 x1 x2 x3 x4 x5 x6 x7 x8 x9
  have y0 := HKP.out.cell 0
  have y1 := HKP.out.cell 1
  have y2 := HKP.out.cell 2
  have y3 := HKP.out.cell 3
  have y4 := HKP.out.cell 4
  have y5 := HKP.out.cell 5
  have y6 := HKP.out.cell 6
  have y7 := HKP.out.cell 7
  have y8 := HKP.out.cell 8
  have y9 := HKP.out.cell 9
  unfold ACd
  dsimp only
  go_enter Tryz.func27, Tryz.ntmps27
  go_upto_region 1 with fail
  rw [← HEwb.out]
  go_upto_region 2 with fail
  rw [← HWP.out]
  go_wp2_with fail
  refine HSM.out.mono ?_
  rintro e w2 ⟨hg2, hw2⟩
  have HB2 : Hid (Below w.heap.size w w2) := HBP.out.grown hg2 HBP.out.size (fun g hg => by injection hg with hg; omega)
  have HK2 := Lib.hid (HKP.out.grown hg2 (fun e => by injection e with e; omega))
  clear hg2 y0 y1 y2 y3 y4 y5 y6 y7 y8 y9
  rcases hw2 with ⟨hs, rfl, _⟩ | ⟨hs, rfl⟩
  case inr =>
    have HE : Hid (cdErr c = 4) := by show _ = _; rw [HCE.out, if_pos (by omega)]
    clear hs
    go_wp2_with fail
    go_ret
    exact ⟨by rw [HE.out]; rfl, HB2.out⟩
  have HS : Hid (¬ 60 < cdN c) := by show ¬ _; omega
  obtain ⟨q, hq⟩ : ∃ q, decide (40 < 1 + cdD c - 1) = q := ⟨_, rfl⟩
  have HQ : Hid (decide (40 < cdD c) = q) := by show _ = _; rw [← hq]; simp only [decide_eq_decide]; omega
  rw [hq]
  clear hs hq
  cases q
  · have HE : Hid (cdErr c = ve) := by show _ = _; rw [HCE.out, if_neg HS.out, if_neg (of_decide_eq_false HQ.out)]
    have z0 := HK2.out.cell 0
    have z1 := HK2.out.cell 1
    have z2 := HK2.out.cell 2
    have z3 := HK2.out.cell 3
    have z4 := HK2.out.cell 4
    have z5 := HK2.out.cell 5
    have z6 := HK2.out.cell 6
    have z7 := HK2.out.cell 7
    have z8 := HK2.out.cell 8
    have z9 := HK2.out.cell 9
    go_wp2_with fail
    refine (HVI.out _ HB2.out).mono ?_
    rintro e w3 ⟨rfl, hb⟩
    have HB3 : Hid (Below w.heap.size w w3) := HB2.out.trans (hb.mono HB2.out.size)
    clear hb
    go_wp2_with fail
    go_ret
    exact ⟨by rw [HE.out]; rfl, HB3.out⟩
  · have HE : Hid (cdErr c = 13) := by show _ = _; rw [HCE.out, if_neg HS.out, if_pos (of_decide_eq_true HQ.out)]
    go_wp2_with fail
    go_ret
    exact ⟨by rw [HE.out]; rfl, HB2.out⟩
end Go.Proofs.YtnlonleljbbgoaaGreatDoor
