/-
  DERIVED. The error of a condition, its text: the walks of the reference's CondError and of ask.CondText. Conditions: sizes; the table of powers of ten is laid.
  Questions: the error of one, its text. Conditions: none.
  The walk of ask.CheckQuestion. Conditions: sizes.
  By an AI agent.
-/
import Derived.Test.YtnlonleljbbgoaaGreatDoorKf11
import Derived.Test.YtnlonleljbbgoaaGreatDoorKf12
import Derived.Test.YtnlonleljbbgoaaGreatDoorKf10
import Derived.Test.YtnlonleljbbgoaaGreatDoorKf04
import Derived.Test.YtnlonleljbbgoaaGreatDoorKf01
import Derived.Test.YtnlonleljbbgoaaGreatDoorKf03
import Derived.Test.YtnlonleljbbgoaaGreatDoorKf05
namespace Go.Proofs.YtnlonleljbbgoaaGreatDoor
open Go.RowKit

set_option maxHeartbeats 4000000 in
set_option maxRecDepth 100000 in
/-- the reference's CondError -/
theorem condError_any (d : Nat) (c : Cd) (Ai : Option Addr) (ni ci : Nat) (Ak : Option Addr) (nk ck : Nat) (B : Nat) (w : World) (hB : B ≤ w.heap.size) (hc : RCd w B d (.slice Ai ni ci) (.slice Ak nk ck) c) (hcb : cdB c ≤ 1048576) :
    Calls Tryz.prog 16 #[ACd (c, .slice Ai ni ci, .slice Ak nk ck)] w fun e w' => e = .returned (.int .i64 (cdErr c)) ∧ Below w.heap.size w w' := by
  have hn2 := cdN_le c
  have HN := Lib.hid fun W (hW : Below w.heap.size w W) => condNodes_any d c Ai ni ci Ak nk ck B W (Nat.le_trans hB hW.size) (hc.below (hW.mono hB)) (by omega)
  have HD := Lib.hid fun W (hW : Below w.heap.size w W) => condDepth_any d c Ai ni ci Ak nk ck B W (Nat.le_trans hB hW.size) (hc.below (hW.mono hB)) (by omega)
  have HV := Lib.hid fun W (hW : Below w.heap.size w W) => condNode_any d c Ai ni ci Ak nk ck B W (Nat.le_trans hB hW.size) (hc.below (hW.mono hB)) hcb
  unfold ACd at HN HD HV
  dsimp only at HN HD HV
  obtain ⟨q1, hq1⟩ : ∃ q, decide ((60 : Int) < (cdN c : Int)) = q := ⟨_, rfl⟩
  obtain ⟨q2, hq2⟩ : ∃ q, decide ((40 : Int) < (cdD c : Int)) = q := ⟨_, rfl⟩
  obtain ⟨ve, hve⟩ : ∃ q, viE c = q := ⟨_, rfl⟩
  have HE : Hid (cdErr c = if q1 = true then 4 else if q2 = true then 13 else ve) := by
    show _ = _
    unfold cdErr
    rw [hve, ← hq1, ← hq2]
    by_cases g1 : 60 < cdN c
    · rw [if_pos g1, decide_eq_true (show (60 : Int) < (cdN c : Int) by omega), if_pos rfl]
    · rw [if_neg g1, decide_eq_false (show ¬ (60 : Int) < (cdN c : Int) by omega), if_neg (show ¬ (false = true) by decide)]
      by_cases g2 : 40 < cdD c
      · rw [if_pos g2, decide_eq_true (show (40 : Int) < (cdD c : Int) by omega), if_pos rfl]
      · rw [if_neg g2, decide_eq_false (show ¬ (40 : Int) < (cdD c : Int) by omega), if_neg (show ¬ (false = true) by decide)]
  obtain ⟨n0, hn0⟩ : ∃ n, cdN c = n := ⟨_, rfl⟩
  obtain ⟨d0, hd0⟩ : ∃ n, cdD c = n := ⟨_, rfl⟩
  rw [hn0] at HN hq1
  rw [hd0] at HD hq2
  rw [hve] at HV
  clear hn0 hd0 hn2 hve hc
  unfold ACd
  dsimp only
  obtain ⟨wb, hwb⟩ : ∃ wb, wb = w.alloc (.cells #[.int .i64 c.op, .string c.name, .string c.text, .int .i64 c.val.kind, .int .i64 c.val.int_, .int .i64 c.val.to_, .string c.val.text, .slice Ai ni ci, .int .i64 c.num, .slice Ak nk ck] 27) := ⟨_, rfl⟩
  have hbwb : Below w.heap.size w wb := by rw [hwb]; exact (Below.refl _ _).alloc (Nat.le_refl _) _
  have kwb : Blk wb w.heap.size 27 #[.int .i64 c.op, .string c.name, .string c.text, .int .i64 c.val.kind, .int .i64 c.val.int_, .int .i64 c.val.to_, .string c.val.text, .slice Ai ni ci, .int .i64 c.num, .slice Ak nk ck] := by rw [hwb]; exact Blk.new _ _ _
  have x0 := kwb.cell 0
  have x1 := kwb.cell 1
  have x2 := kwb.cell 2
  have x3 := kwb.cell 3
  have x4 := kwb.cell 4
  have x5 := kwb.cell 5
  have x6 := kwb.cell 6
  have x7 := kwb.cell 7
  have x8 := kwb.cell 8
  have x9 := kwb.cell 9
  have HBwb := Lib.hid hbwb
  have HKwb := Lib.hid kwb
  have HEwb := Lib.hid hwb
  clear hwb hbwb kwb
  go_enter Tryz.func16, Tryz.ntmps16
  go_upto_region 1 with fail
  rw [← HEwb.out]
  go_wp2_with fail
  refine (HN.out _ HBwb.out).mono ?_
  rintro e w1 ⟨rfl, hb⟩
  have HB1 : Hid (Below w.heap.size w w1) := HBwb.out.trans (hb.mono HBwb.out.size)
  have HK1 := Lib.hid (HKwb.out.below hb HKwb.out.lt)
  clear hb x0 x1 x2 x3 x4 x5 x6 x7 x8 x9
  cases q1
  case true =>
    go_wp2_with fail
    go_ret
    exact ⟨by rw [HE.out]; rfl, HB1.out⟩
  have y0 := HK1.out.cell 0
  have y1 := HK1.out.cell 1
  have y2 := HK1.out.cell 2
  have y3 := HK1.out.cell 3
  have y4 := HK1.out.cell 4
  have y5 := HK1.out.cell 5
  have y6 := HK1.out.cell 6
  have y7 := HK1.out.cell 7
  have y8 := HK1.out.cell 8
  have y9 := HK1.out.cell 9
  go_wp2_with fail
  refine (HD.out _ HB1.out).mono ?_
  rintro e w2 ⟨rfl, hb⟩
  have HB2 : Hid (Below w.heap.size w w2) := HB1.out.trans (hb.mono HB1.out.size)
  have HK2 := Lib.hid (HK1.out.below hb HK1.out.lt)
  clear hb y0 y1 y2 y3 y4 y5 y6 y7 y8 y9
  cases q2
  case true =>
    go_wp2_with fail
    go_ret
    exact ⟨by rw [HE.out]; rfl, HB2.out⟩
  have z0 := HK2.out.cell 0
  have z1 := HK2.out.cell 1
  have z2 := HK2.out.cell 2
  have z3 := HK2.out.cell 3
  have z4 := HK2.out.cell 4
  have z5 := HK2.out.cell 5
  have z6 := HK2.out.cell 6
  have z7 := HK2.out.cell 7
  have z8 := HK2.out.cell 8
  have z9 := HK2.out.cell 9
  go_wp2_with fail
  refine (HV.out _ HB2.out).mono ?_
  rintro e w3 ⟨rfl, hb⟩
  have HB3 : Hid (Below w.heap.size w w3) := HB2.out.trans (hb.mono HB2.out.size)
  clear hb
  go_wp2_with fail
  go_ret
  exact ⟨by rw [HE.out]; rfl, HB3.out⟩
theorem cdErr_ok {c : Cd} (h : cdErr c = 0) : viE c = 0 ∧ cdN c ≤ 60 := by
  unfold cdErr at h
  by_cases h1 : 60 < cdN c
  · rw [if_pos h1] at h; exact absurd h (by decide)
  · rw [if_neg h1] at h
    by_cases h2 : 40 < cdD c
    · rw [if_pos h2] at h; exact absurd h (by decide)
    · rw [if_neg h2] at h; exact ⟨h, by omega⟩
end Go.Proofs.YtnlonleljbbgoaaGreatDoor
namespace Go.Proofs.YtnlonleljbbgoaaGreatDoor
open Go.RowKit

/-- the error of sorts that follow others -/
def srE : List (ByteArray × Bool) → List (ByteArray × Bool) → Int
  | _, [] => 0
  | p, x :: r => if isByL x.1 = false then 3 else if (p.any fun y => y.1.toList == x.1.toList) = true then 6 else srE (p ++ [x]) r
theorem srE_at {l : List (ByteArray × Bool)} {k : Nat} {x : ByteArray × Bool} (h : l[k]? = some x) : srE (l.take k) (l.drop k) = if isByL x.1 = false then 3 else if ((l.take k).any fun y => y.1.toList == x.1.toList) = true then 6 else srE (l.take (k + 1)) (l.drop (k + 1)) := by
  obtain ⟨hl, rfl⟩ := List.getElem?_eq_some_iff.1 h
  rw [List.drop_eq_getElem_cons hl, srE, List.take_succ_eq_append_getElem hl]
theorem srE_end {l : List (ByteArray × Bool)} {k : Nat} (h : l.length ≤ k) : srE (l.take k) (l.drop k) = 0 := by
  rw [List.drop_of_length_le h, srE]
/-- the error of what follows a question's condition -/
def qrE (l : List (ByteArray × Bool)) (g : ByteArray) (m : Int) : Int := if 5 < l.length then 4 else if srE [] l ≠ 0 then srE [] l else if g.toList ≠ [] ∧ nmErr g ≠ 0 then nmErr g else if m < 0 ∨ 2000 < m then 2 else 0
/-- the error of a question -/
noncomputable def quE (c : Cd) (l : List (ByteArray × Bool)) (g : ByteArray) (m : Int) : Int := if cdErr c ≠ 0 then cdErr c else qrE l g m
end Go.Proofs.YtnlonleljbbgoaaGreatDoor
namespace Go.Proofs.YtnlonleljbbgoaaGreatDoor
open Go.RowKit

set_option maxHeartbeats 8000000 in
set_option maxRecDepth 100000 in
/-- ask.CheckQuestion -/
theorem checkQuestion_any (d : Nat) (c : Cd) (Ai : Option Addr) (ni ci : Nat) (Ak : Option Addr) (nk ck : Nat) (l : List (ByteArray × Bool)) (As : Option Addr) (ns cs : Nat) (g : ByteArray) (m : Int) (B : Nat) (w : World) (hB : B ≤ w.heap.size) (hc : RCd w B d (.slice Ai ni ci) (.slice Ak nk ck) c) (hcb : cdB c ≤ 1048576) (hs : RSr w B (.slice As ns cs) l) :
    Calls Tryz.prog 8 #[.agg #[.int .i64 c.op, .string c.name, .string c.text, .int .i64 c.val.kind, .int .i64 c.val.int_, .int .i64 c.val.to_, .string c.val.text, .slice Ai ni ci, .int .i64 c.num, .slice Ak nk ck, .slice As ns cs, .string g, .int .i64 m]] w fun e w' => e = .returned (.int .i64 (quE c l g m)) ∧ Below w.heap.size w w' := by
  have HC := Lib.hid fun W (hW : Below w.heap.size w W) => checkCond_any d c Ai ni ci Ak nk ck B W (Nat.le_trans hB hW.size) (hc.below (hW.mono hB)) hcb
  unfold ACd at HC
  dsimp only at HC
  have HN := Lib.hid hs.len
  have HS := Lib.hid hs
  have hnb : ns * 24 ≤ 140737488351232 := hs.len.2.2
  have hnc : ns ≤ cs := hs.len.2.1
  have HQ : Hid (quE c l g m = if cdErr c ≠ 0 then cdErr c else qrE l g m) := rfl
  obtain ⟨V, hV⟩ : ∃ V, V = quE c l g m := ⟨_, rfl⟩
  rw [← hV] at HQ ⊢
  obtain ⟨ce, hce⟩ : ∃ q, cdErr c = q := ⟨_, rfl⟩
  rw [hce] at HC HQ
  clear hc hs hV hce
  obtain ⟨wb, hwb⟩ : ∃ wb, wb = w.alloc (.cells #[.int .i64 c.op, .string c.name, .string c.text, .int .i64 c.val.kind, .int .i64 c.val.int_, .int .i64 c.val.to_, .string c.val.text, .slice Ai ni ci, .int .i64 c.num, .slice Ak nk ck, .slice As ns cs, .string g, .int .i64 m] 30) := ⟨_, rfl⟩
  have hbwb : Below w.heap.size w wb := by rw [hwb]; exact (Below.refl _ _).alloc (Nat.le_refl _) _
  have kwb : Blk wb w.heap.size 30 #[.int .i64 c.op, .string c.name, .string c.text, .int .i64 c.val.kind, .int .i64 c.val.int_, .int .i64 c.val.to_, .string c.val.text, .slice Ai ni ci, .int .i64 c.num, .slice Ak nk ck, .slice As ns cs, .string g, .int .i64 m] := by rw [hwb]; exact Blk.new _ _ _
  have x0 := kwb.cell 0
  have x1 := kwb.cell 1
  have x2 := kwb.cell 2
  have x3 := kwb.cell 3
  have x4 := kwb.cell 4
  have x5 := kwb.cell 5
  have x6 := kwb.cell 6
  have x7 := kwb.cell 7
  have x8 := kwb.cell 8
  have x9 := kwb.cell 9
  have x10 := kwb.cell 10
  have x11 := kwb.cell 11
  have x12 := kwb.cell 12
  have HBwb := Lib.hid hbwb
  have HKwb := Lib.hid kwb
  have HEwb := Lib.hid hwb
  clear hwb hbwb kwb
  go_enter Tryz.func8, Tryz.ntmps8
  go_upto_region 1 with fail
  rw [← HEwb.out]
  go_wp2_with fail
  refine (HC.out _ HBwb.out).mono ?_
  rintro e w1 ⟨rfl, hb⟩
  have HB1 : Hid (Below w.heap.size w w1) := HBwb.out.trans (hb.mono HBwb.out.size)
  have HK1 := Lib.hid (HKwb.out.below hb HKwb.out.lt)
  clear hb x0 x1 x2 x3 x4 x5 x6 x7 x8 x9 x10 x11 x12
  by_cases h0 : ce = 0
  case neg =>
    have e1 : (ce != 0) = true := by simpa using h0
    have HE : Hid (V = ce) := by show _ = _; rw [HQ.out, if_pos h0]
    clear h0
    go_wp2_with fail
    go_ret
    exact ⟨by rw [HE.out]; rfl, HB1.out⟩
  subst h0
  have y0 := HK1.out.cell 0
  have y1 := HK1.out.cell 1
  have y2 := HK1.out.cell 2
  have y3 := HK1.out.cell 3
  have y4 := HK1.out.cell 4
  have y5 := HK1.out.cell 5
  have y6 := HK1.out.cell 6
  have y7 := HK1.out.cell 7
  have y8 := HK1.out.cell 8
  have y9 := HK1.out.cell 9
  have y10 := HK1.out.cell 10
  have y11 := HK1.out.cell 11
  have y12 := HK1.out.cell 12
  have HQ2 : Hid (V = qrE l g m) := by show _ = _; rw [HQ.out, if_neg (fun h => h rfl)]
  obtain ⟨q, hq⟩ : ∃ q, decide ((5 : Int) < (ns : Int)) = q := ⟨_, rfl⟩
  cases q
  case true =>
    have HE : Hid (V = 4) := by show _ = _; rw [HQ2.out, qrE, if_pos (by have := of_decide_eq_true hq; have := HN.out.1; omega)]
    go_wp2_with fail
    go_ret
    exact ⟨by rw [HE.out]; rfl, HB1.out⟩
  have HQ3 : Hid (V = if srE [] l ≠ 0 then srE [] l else if g.toList ≠ [] ∧ nmErr g ≠ 0 then nmErr g else if m < 0 ∨ 2000 < m then 2 else 0) := by show _ = _; rw [HQ2.out, qrE, if_neg (by have := of_decide_eq_false hq; have := HN.out.1; omega)]
  have hn5 : ns ≤ 5 := by have := of_decide_eq_false hq; omega
  go_wp2_with fail
  clear y0 y1 y2 y3 y4 y5 y6 y7 y8 y9 y10 y11 y12 hq
  go_loopg [20] ns (fun gg s20 wr => ∃ j : Nat, j + gg = ns ∧ s20 = .int .i64 (j : Int) ∧ Hid (srE [] l = srE (l.take j) (l.drop j)) ∧ Hid (Below w1.heap.size w1 wr))
  case atStart => exact ⟨0, by omega, rfl, rfl, Below.refl _ _⟩
  case round =>
    obtain ⟨j, hjg, rfl, hsr, hbel⟩ := hrel
    obtain ⟨W1, rfl⟩ : ∃ W1, W1 = wr := ⟨_, rfl⟩
    have HBW : Hid (Below w.heap.size w W1) := HB1.out.trans (hbel.out.mono HB1.out.size)
    have HKW := Lib.hid (HK1.out.below hbel.out HK1.out.lt)
    by_cases hj : j < ns
    · obtain ⟨⟨s, dn⟩, hx⟩ : ∃ x, l[j]? = some x := ⟨_, List.getElem?_eq_getElem (by have := HN.out.1; omega)⟩
      have hb1 : B ≤ W1.heap.size := Nat.le_trans hB HBW.out.size
      have hsw := HS.out.below (HBW.out.mono hB)
      obtain ⟨b, off, rfl, hbb, e0, e1⟩ := hsw.at_ hx
      dsimp only at e0 e1
      obtain ⟨wa, hwa⟩ : ∃ wa, wa = W1.alloc (.cells #[.string s, .bool dn] 58) := ⟨_, rfl⟩
      have hal : Below W1.heap.size W1 wa := by rw [hwa]; exact (Below.refl _ _).alloc (Nat.le_refl _) _
      have q9 : Blk wa W1.heap.size 58 #[.string s, .bool dn] := by rw [hwa]; exact Blk.new _ _ _
      have HKA := Lib.hid (HKW.out.below hal HKW.out.lt)
      have z10 := HKA.out.cell 10
      have m0 := q9.cell 0
      have m1 := q9.cell 1
      have HWA := Lib.hid hwa
      have HBA : Hid (Below w1.heap.size w1 wa) := hbel.out.trans (hal.mono hbel.out.size)
      have HCT := Lib.hid (containsSr_any (l.take j) (some ⟨b, off, none⟩) j cs W1.heap.size s dn wa B (Nat.le_trans hb1 hal.size) q9.lt m0 m1 ((hsw.below (hal.mono hb1)).take (by omega)))
      have HSR := Lib.hid (hsr.out.trans (srE_at hx))
      have HIB := Lib.hid (isBy_any s wa)
      have j0 : (0 : Int) ≤ (j : Int) := by omega
      have j1 : (j : Int) < (ns : Int) := by omega
      have j2 : (j : Int) ≤ (cs : Int) := by omega
      dsimp only at HSR
      obtain ⟨q1, hq1⟩ : ∃ q, isByL s = q := ⟨_, rfl⟩
      obtain ⟨q2, hq2⟩ : ∃ q, ((l.take j).any fun y => y.1.toList == s.toList) = q := ⟨_, rfl⟩
      rw [hq1] at HIB
      rw [hq2] at HCT
      rw [hq1, hq2] at HSR
      clear hx hbb hwa hal q9 hq1 hq2 hsw hsr
      go_upto_region 9 with fail
      rw [← HWA.out]
      clear e0 e1
      go_wp2_with fail
      refine HIB.out.mono ?_
      rintro e w2 ⟨rfl, rfl⟩
      cases q1
      · have HE : Hid (V = 3) := by show _ = _; rw [HQ3.out, HSR.out, if_pos rfl]; rfl
        go_wp2_with fail
        go_ret
        exact ⟨by rw [HE.out]; rfl, HB1.out.trans (HBA.out.mono HB1.out.size)⟩
      go_wp2_with fail
      refine HCT.out.mono ?_
      rintro e w2 ⟨rfl, hb⟩
      have HB2 : Hid (Below w1.heap.size w1 w2) := HBA.out.trans (hb.mono HBA.out.size)
      clear hb m0 m1 z10
      cases q2
      · have HS2 : Hid (srE [] l = srE (l.take (j + 1)) (l.drop (j + 1))) := by show _ = _; rw [HSR.out, if_neg (show ¬ (true = false) by decide), if_neg (show ¬ (false = true) by decide)]
        go_wp2_with fail
        go_roundg (ns - (j + 1))
        case measure => omega
        case rel => exact ⟨j + 1, by omega, by go_num, HS2, HB2⟩
      · have HE : Hid (V = 6) := by show _ = _; rw [HQ3.out, HSR.out, if_neg (show ¬ (true = false) by decide), if_pos rfl]; rfl
        go_wp2_with fail
        go_ret
        exact ⟨by rw [HE.out]; rfl, HB1.out.trans (HB2.out.mono HB1.out.size)⟩
    · obtain rfl : ns = j := by omega
      have HQ4 : Hid (V = if g.toList ≠ [] ∧ nmErr g ≠ 0 then nmErr g else if m < 0 ∨ 2000 < m then 2 else 0) := by show _ = _; rw [HQ3.out, hsr.out, srE_end (by rw [← HN.out.1]; exact Nat.le_refl _), if_neg (fun h => h rfl)]
      have z11 := HKW.out.cell 11
      have z12 := HKW.out.cell 12
      obtain ⟨ne, hne⟩ : ∃ x, nmErr g = x := ⟨_, rfl⟩
      have HNM := Lib.hid fun W => checkName_any g W
      rw [hne] at HQ4
      simp only [hne] at HNM
      clear hsr hne
      by_cases h1 : g.toList = []
      · have e1 : (g.toList != []) = false := by rw [h1]; rfl
        have e2 : g.toList.isEmpty = true := by rw [h1]; rfl
        have HQ5 : Hid (V = if m < 0 ∨ 2000 < m then 2 else 0) := by show _ = _; rw [HQ4.out, if_neg (fun h => h.1 h1)]
        clear h1
        by_cases h2 : m < 0
        · have HE : Hid (V = 2) := by show _ = _; rw [HQ5.out, if_pos (.inl h2)]
          go_wp2_with fail
          go_ret
          exact ⟨by rw [HE.out]; rfl, HBW.out⟩
        · by_cases h3 : 2000 < m
          · have HE : Hid (V = 2) := by show _ = _; rw [HQ5.out, if_pos (.inr h3)]
            go_wp2_with fail
            go_ret
            exact ⟨by rw [HE.out]; rfl, HBW.out⟩
          · have HE : Hid (V = 0) := by show _ = _; rw [HQ5.out, if_neg (fun h => h.elim h2 h3)]
            go_wp2_with fail
            go_ret
            exact ⟨by rw [HE.out]; rfl, HBW.out⟩
      · have e1 : (g.toList != []) = true := by simpa using h1
        have e2 : g.toList.isEmpty = false := by simpa using h1
        by_cases h4 : ne = 0
        · have e4 : (ne != 0) = false := by simpa using h4
          have HQ5 : Hid (V = if m < 0 ∨ 2000 < m then 2 else 0) := by show _ = _; rw [HQ4.out, if_neg (fun h => h.2 h4)]
          clear h1
          subst h4
          by_cases h2 : m < 0
          · have HE : Hid (V = 2) := by show _ = _; rw [HQ5.out, if_pos (.inl h2)]
            go_wp2_with fail
            refine (HNM.out _).mono ?_
            rintro e w2 ⟨rfl, rfl⟩
            go_wp2_with fail
            go_ret
            exact ⟨by rw [HE.out]; rfl, HBW.out⟩
          · by_cases h3 : 2000 < m
            · have HE : Hid (V = 2) := by show _ = _; rw [HQ5.out, if_pos (.inr h3)]
              go_wp2_with fail
              refine (HNM.out _).mono ?_
              rintro e w2 ⟨rfl, rfl⟩
              go_wp2_with fail
              go_ret
              exact ⟨by rw [HE.out]; rfl, HBW.out⟩
            · have HE : Hid (V = 0) := by show _ = _; rw [HQ5.out, if_neg (fun h => h.elim h2 h3)]
              go_wp2_with fail
              refine (HNM.out _).mono ?_
              rintro e w2 ⟨rfl, rfl⟩
              go_wp2_with fail
              go_ret
              exact ⟨by rw [HE.out]; rfl, HBW.out⟩
        · have e4 : (ne != 0) = true := by simpa using h4
          have HE : Hid (V = ne) := by show _ = _; rw [HQ4.out, if_pos ⟨h1, h4⟩]
          clear h1 h4
          go_wp2_with fail
          refine (HNM.out _).mono ?_
          rintro e w2 ⟨rfl, rfl⟩
          go_wp2_with fail
          go_ret
          exact ⟨by rw [HE.out]; rfl, HBW.out⟩
end Go.Proofs.YtnlonleljbbgoaaGreatDoor
