/-
  DERIVED. A condition as a text: the walks of the reference's nestWord, textWord, sign and CondString. Conditions: sizes; the table of powers of ten is laid.
  By an AI agent.
-/
import Derived.Test.YtnlonleljbbgoaaGreatDoorKf07
import Derived.Test.YtnlonleljbbgoaaGreatDoorKf03
namespace Go.Proofs.YtnlonleljbbgoaaGreatDoor
open Go.RowKit

set_option maxHeartbeats 4000000 in
set_option maxRecDepth 100000 in
/-- the reference's nestWord -/
theorem nestWord_any (o : Int) (w : World) :
    Calls Tryz.prog 70 #[.int .i64 o] w fun e w' => e = .returned (.string (if uC o = true then wordS o else ⟨#[]⟩)) ∧ w' = w := by
  by_cases h1 : o = 1
  · subst h1
    rw [if_pos (by decide), wordS_1]
    go_enter Tryz.func70, Tryz.ntmps70
    go_wp2_with fail
    go_ret
    exact ⟨rfl, rfl⟩
  by_cases h2 : o = 2
  · subst h2
    rw [if_pos (by decide), wordS_2]
    go_enter Tryz.func70, Tryz.ntmps70
    go_wp2_with fail
    go_ret
    exact ⟨rfl, rfl⟩
  by_cases h3 : o = 3
  · subst h3
    rw [if_pos (by decide), wordS_3]
    go_enter Tryz.func70, Tryz.ntmps70
    go_wp2_with fail
    go_ret
    exact ⟨rfl, rfl⟩
  by_cases h15 : o = 15
  · subst h15
    rw [if_pos (by decide), wordS_15]
    go_enter Tryz.func70, Tryz.ntmps70
    go_wp2_with fail
    go_ret
    exact ⟨rfl, rfl⟩
  by_cases h16 : o = 16
  · subst h16
    rw [if_pos (by decide), wordS_16]
    go_enter Tryz.func70, Tryz.ntmps70
    go_wp2_with fail
    go_ret
    exact ⟨rfl, rfl⟩
  by_cases h17 : o = 17
  · subst h17
    rw [if_pos (by decide), wordS_17]
    go_enter Tryz.func70, Tryz.ntmps70
    go_wp2_with fail
    go_ret
    exact ⟨rfl, rfl⟩
  have hu : uC o = false := by simp [uC, h1, h2, h3, h15, h16, h17]
  have e1 : (o == 1) = false := by simpa using h1
  have e2 : (o == 2) = false := by simpa using h2
  have e3 : (o == 3) = false := by simpa using h3
  have e15 : (o == 15) = false := by simpa using h15
  have e16 : (o == 16) = false := by simpa using h16
  have e17 : (o == 17) = false := by simpa using h17
  rw [hu, if_neg (by decide)]
  clear hu h1 h2 h3 h15 h16 h17
  go_enter Tryz.func70, Tryz.ntmps70
  go_wp2_with fail
  go_ret
  exact ⟨rfl, rfl⟩
set_option maxHeartbeats 4000000 in
set_option maxRecDepth 100000 in
/-- the reference's textWord -/
theorem textWord_any (o : Int) (w : World) :
    Calls Tryz.prog 71 #[.int .i64 o] w fun e w' => e = .returned (.string (if uT o = true then wordS o else ⟨#[]⟩)) ∧ w' = w := by
  by_cases h4 : o = 4
  · subst h4
    rw [if_pos (by decide), wordS_4]
    go_enter Tryz.func71, Tryz.ntmps71
    go_wp2_with fail
    go_ret
    exact ⟨rfl, rfl⟩
  by_cases h5 : o = 5
  · subst h5
    rw [if_pos (by decide), wordS_5]
    go_enter Tryz.func71, Tryz.ntmps71
    go_wp2_with fail
    go_ret
    exact ⟨rfl, rfl⟩
  by_cases h6 : o = 6
  · subst h6
    rw [if_pos (by decide), wordS_6]
    go_enter Tryz.func71, Tryz.ntmps71
    go_wp2_with fail
    go_ret
    exact ⟨rfl, rfl⟩
  by_cases h7 : o = 7
  · subst h7
    rw [if_pos (by decide), wordS_7]
    go_enter Tryz.func71, Tryz.ntmps71
    go_wp2_with fail
    go_ret
    exact ⟨rfl, rfl⟩
  have hu : uT o = false := by exact decide_eq_false (by omega)
  have e4 : (o == 4) = false := by simpa using h4
  have e5 : (o == 5) = false := by simpa using h5
  have e6 : (o == 6) = false := by simpa using h6
  have e7 : (o == 7) = false := by simpa using h7
  rw [hu, if_neg (by decide)]
  clear hu h4 h5 h6 h7
  go_enter Tryz.func71, Tryz.ntmps71
  go_wp2_with fail
  go_ret
  exact ⟨rfl, rfl⟩
set_option maxHeartbeats 4000000 in
set_option maxRecDepth 100000 in
/-- the reference's sign -/
theorem sign_any (o : Int) (w : World) :
    Calls Tryz.prog 73 #[.int .i64 o] w fun e w' => e = .returned (.string (if uV o = true then wordS o else ⟨#[]⟩)) ∧ w' = w := by
  by_cases h12 : o = 12
  · subst h12
    rw [if_pos (by decide), wordS_12]
    go_enter Tryz.func73, Tryz.ntmps73
    go_wp2_with fail
    go_ret
    exact ⟨rfl, rfl⟩
  by_cases h13 : o = 13
  · subst h13
    rw [if_pos (by decide), wordS_13]
    go_enter Tryz.func73, Tryz.ntmps73
    go_wp2_with fail
    go_ret
    exact ⟨rfl, rfl⟩
  by_cases h14 : o = 14
  · subst h14
    rw [if_pos (by decide), wordS_14]
    go_enter Tryz.func73, Tryz.ntmps73
    go_wp2_with fail
    go_ret
    exact ⟨rfl, rfl⟩
  have hu : uV o = false := by exact decide_eq_false (by omega)
  have e12 : (o == 12) = false := by simpa using h12
  have e13 : (o == 13) = false := by simpa using h13
  have e14 : (o == 14) = false := by simpa using h14
  rw [hu, if_neg (by decide)]
  clear hu h12 h13 h14
  go_enter Tryz.func73, Tryz.ntmps73
  go_wp2_with fail
  go_ret
  exact ⟨rfl, rfl⟩
set_option maxHeartbeats 16000000 in
set_option maxRecDepth 100000 in
/-- the reference's CondString -/
theorem condString_any : ∀ (d : Nat) (c : Cd) (Ai : Option Addr) (ni ci : Nat) (Ak : Option Addr) (nk ck : Nat) (B : Nat) (w : World), B ≤ w.heap.size → RCd w B d (.slice Ai ni ci) (.slice Ak nk ck) c → viE c = 0 → cdN c ≤ 60 → Pow w →
    Calls Tryz.prog 31 #[ACd (c, .slice Ai ni ci, .slice Ak nk ck)] w fun e w' => e = .returned (.string (cdT c)) ∧ (cdT c).size ≤ 200000 * cdN c ∧ Below w.heap.size w w' := by
  intro d
  induction d using Nat.strongRecOn with
  | _ d ih =>
  intro c Ai ni ci Ak nk ck B w hB hc hvi hcn hP
  have HIH := Lib.hid ih
  obtain ⟨hkl, hk136⟩ := hc.2.len
  obtain ⟨hnd, hvk⟩ := viE_node hvi
  obtain ⟨hop, htx, hnu, hnm⟩ := okN_of hnd
  have hne := cdN_eq c
  have hte := cdT_eq c
  have HC := Lib.hid hc
  have HKL := Lib.hid hkl
  have HVK := Lib.hid hvk
  have HNE := Lib.hid hne
  have HTE := Lib.hid hte
  have hkn : cdNs c.kids < 60 := by omega
  have hkl2 : nk < 60 := by have := cdNs_len c.kids; omega
  have HN0 := Lib.hid fun W => nestWord_any c.op W
  have HT0 := Lib.hid fun W => textWord_any c.op W
  have HS0 := Lib.hid fun W => sign_any c.op W
  have hws := wordS_size c.op
  obtain ⟨wd0, hwd0⟩ : ∃ s, wordS c.op = s := ⟨_, rfl⟩
  rw [hwd0] at HN0 HT0 HS0 hws
  have HW0 := Lib.hid hwd0
  have HP := Lib.hid hP
  obtain ⟨i0, hinf, hq0, hq1, hq2⟩ := info_parts rp_str_info
  have HQT := Lib.hid fun (hs : c.text.size ≤ 2000) W => quotedR_any c.text W (by omega)
  have HTXV := Lib.hid fun W (hW : Below w.heap.size w W) => text_any c.val Ai ni ci W B (Nat.le_trans hB hW.size) (hc.1.below (hW.mono hB)) (hP.below hW)
  unfold AV at HTXV
  dsimp only at HTXV
  clear ih hc hvi hnd hvk hne hte hwd0 hkl hP
  unfold ACd
  dsimp only
  obtain ⟨wb, hwb⟩ : ∃ wb, wb = w.alloc (.cells #[.int .i64 c.op, .string c.name, .string c.text, .int .i64 c.val.kind, .int .i64 c.val.int_, .int .i64 c.val.to_, .string c.val.text, .slice Ai ni ci, .int .i64 c.num, .slice Ak nk ck] 27) := ⟨_, rfl⟩
  have hbwb : Below w.heap.size w wb := by rw [hwb]; exact (Below.refl _ _).alloc (Nat.le_refl _) _
  have kwb : Blk wb w.heap.size 27 #[.int .i64 c.op, .string c.name, .string c.text, .int .i64 c.val.kind, .int .i64 c.val.int_, .int .i64 c.val.to_, .string c.val.text, .slice Ai ni ci, .int .i64 c.num, .slice Ak nk ck] := by rw [hwb]; exact Blk.new _ _ _
  have x0 := kwb.cell 0
  have x1 := kwb.cell 1
  have x2 := kwb.cell 2
  have x3 := kwb.cell 3
  have x4 := kwb.cell 4
  have x5 := kwb.cell 5
  have x6 := kwb.cell 6
  have x7 := kwb.cell 7
  have x8 := kwb.cell 8
  have x9 := kwb.cell 9
  have HBwb := Lib.hid hbwb
  have HKwb := Lib.hid kwb
  have HEwb := Lib.hid hwb
  clear hwb hbwb kwb
  by_cases hgrp : c.op = 1 ∨ c.op = 2 ∨ c.op = 3 ∨ c.op = 15 ∨ c.op = 16 ∨ c.op = 17
  case pos =>
    rcases hgrp with hop0 | hop0 | hop0 | hop0 | hop0 | hop0
    all_goals
      first | have t8 : (c.op == 8) = true := by rw [hop0]; rfl | have t8 : (c.op == 8) = false := by rw [hop0]; rfl
      first | have t9 : (c.op == 9) = true := by rw [hop0]; rfl | have t9 : (c.op == 9) = false := by rw [hop0]; rfl
      first | have t10 : (c.op == 10) = true := by rw [hop0]; rfl | have t10 : (c.op == 10) = false := by rw [hop0]; rfl
      first | have t11 : (c.op == 11) = true := by rw [hop0]; rfl | have t11 : (c.op == 11) = false := by rw [hop0]; rfl
      have uuC : uC c.op = true := by rw [hop0]; decide
      have uuT : uT c.op = false := by rw [hop0]; decide
      have uuM : uM c.op = false := by rw [hop0]; decide
      have uuV : uV c.op = false := by rw [hop0]; decide
      have HNW : Hid (∀ W, Calls Tryz.prog 70 #[.int .i64 c.op] W fun e w' => e = .returned (.string wd0) ∧ w' = W) := fun W => by have := HN0.out W; rw [uuC, if_pos rfl] at this; exact this
      have HTW : Hid (∀ W, Calls Tryz.prog 71 #[.int .i64 c.op] W fun e w' => e = .returned (.string ⟨#[]⟩) ∧ w' = W) := fun W => by have := HT0.out W; rw [uuT, if_neg (by decide)] at this; exact this
      have HSG : Hid (∀ W, Calls Tryz.prog 73 #[.int .i64 c.op] W fun e w' => e = .returned (.string ⟨#[]⟩) ∧ w' = W) := fun W => by have := HS0.out W; rw [uuV, if_neg (by decide)] at this; exact this
      have hne : wd0.toList.isEmpty = false := notEmpty_of (by rw [← HW0.out, hop0]; decide)
      have HT : Hid (cdT c = wd0 ++ ⟨#[40]⟩ ++ joinB (c.kids.map cdT) ⟨#[44, 32]⟩ ++ ⟨#[41]⟩) := by show _ = _; rw [HTE.out, HW0.out, if_pos uuC]
      clear uuC uuT uuM uuV
      have HO0 : Hid (wb.ownsRow wb.heap.size 9 1 (.slice none 0 0) 0 (((c.kids.take 0).map cdT).map .string)) := World.ownsRow_nil _ _ _ _
      clear hop0 htx hnu hnm
      go_enter Tryz.func31, Tryz.ntmps31
      go_upto_region 1 with fail
      rw [← HEwb.out]
      go_wp2_with fail
      refine (HNW.out wb).mono ?_
      rintro e w5 ⟨rfl, rfl⟩
      obtain ⟨wb, rfl⟩ : ∃ x, x = w5 := ⟨_, rfl⟩
      go_wp2_with fail
      clear x0 x1 x2 x3 x4 x5 x6 x7 x8 x9
      go_loopg [4, 18] nk (fun gg s3 s20 wr => ∃ (j : Nat) (v : Value), j + gg = nk ∧ v = s3 ∧ s20 = .int .i64 (j : Int) ∧ Hid (wr.ownsRow wb.heap.size 9 1 v j (((c.kids.take j).map cdT).map .string)) ∧ Hid (Below wb.heap.size wb wr) ∧ Hid (∀ i x, i < j → c.kids[i]? = some x → (cdT x).size ≤ 200000 * cdN x))
      case atStart => exact ⟨0, _, by omega, rfl, rfl, HO0, Below.refl _ _, fun i x hi => absurd hi (Nat.not_lt_zero _)⟩
      case round =>
        obtain ⟨j, v, hjg, rfl, rfl, hown, hbel, hsz⟩ := hrel
        obtain ⟨W1, rfl⟩ : ∃ W1, W1 = wr := ⟨_, rfl⟩
        have hbw : Below w.heap.size w W1 := HBwb.out.trans (hbel.out.mono HBwb.out.size)
        by_cases hj : j < nk
        · obtain ⟨x, hx⟩ : ∃ x, c.kids[j]? = some x := ⟨_, List.getElem?_eq_getElem (by have := HKL.out; omega)⟩
          have hb1 : B ≤ W1.heap.size := Nat.le_trans hB hbw.size
          obtain ⟨d', b, off, Bi, mi, di, Bk, mk, dk, hdd, rfl, hbb, hcl, hrx⟩ := (HC.out.2.below (hbw.mono hB)).at_ hx
          have e0 : W1.cell? ⟨b, off + j * 10, none⟩ = some (.int .i64 x.op) := hcl 0 _ rfl
          have e1 : W1.cell? ⟨b, off + j * 10 + 1, none⟩ = some (.string x.name) := hcl 1 _ rfl
          have e2 : W1.cell? ⟨b, off + j * 10 + 2, none⟩ = some (.string x.text) := hcl 2 _ rfl
          have e3 : W1.cell? ⟨b, off + j * 10 + 3, none⟩ = some (.int .i64 x.val.kind) := hcl 3 _ rfl
          have e4 : W1.cell? ⟨b, off + j * 10 + 4, none⟩ = some (.int .i64 x.val.int_) := hcl 4 _ rfl
          have e5 : W1.cell? ⟨b, off + j * 10 + 5, none⟩ = some (.int .i64 x.val.to_) := hcl 5 _ rfl
          have e6 : W1.cell? ⟨b, off + j * 10 + 6, none⟩ = some (.string x.val.text) := hcl 6 _ rfl
          have e7 : W1.cell? ⟨b, off + j * 10 + 7, none⟩ = some (.slice Bi mi di) := hcl 7 _ rfl
          have e8 : W1.cell? ⟨b, off + j * 10 + 8, none⟩ = some (.int .i64 x.num) := hcl 8 _ rfl
          have e9 : W1.cell? ⟨b, off + j * 10 + 9, none⟩ = some (.slice Bk mk dk) := hcl 9 _ rfl
          obtain ⟨wa, hwa⟩ : ∃ wa, wa = W1.alloc (.cells #[.int .i64 x.op, .string x.name, .string x.text, .int .i64 x.val.kind, .int .i64 x.val.int_, .int .i64 x.val.to_, .string x.val.text, .slice Bi mi di, .int .i64 x.num, .slice Bk mk dk] 27) := ⟨_, rfl⟩
          have hal : Below W1.heap.size W1 wa := by rw [hwa]; exact (Below.refl _ _).alloc (Nat.le_refl _) _
          have q9 : Blk wa W1.heap.size 27 #[.int .i64 x.op, .string x.name, .string x.text, .int .i64 x.val.kind, .int .i64 x.val.int_, .int .i64 x.val.to_, .string x.val.text, .slice Bi mi di, .int .i64 x.num, .slice Bk mk dk] := by rw [hwa]; exact Blk.new _ _ _
          have m0 := q9.cell 0
          have m1 := q9.cell 1
          have m2 := q9.cell 2
          have m3 := q9.cell 3
          have m4 := q9.cell 4
          have m5 := q9.cell 5
          have m6 := q9.cell 6
          have m7 := q9.cell 7
          have m8 := q9.cell 8
          have m9 := q9.cell 9
          have HWA := Lib.hid hwa
          have HAL := Lib.hid hal
          have HCX := Lib.hid (HIH.out d' (by omega) x Bi mi di Bk mk dk B wa (Nat.le_trans hb1 hal.size) (hrx.below (hal.mono hb1)) (viEs_kid HVK.out hx) (by have := cdN_kid hx; omega) (HP.out.below (hbw.trans (hal.mono hbw.size))))
          unfold ACd at HCX
          dsimp only at HCX
          have HTK := Lib.hid (take_str cdT hx)
          have HXJ := Lib.hid hx
          have HBA : Hid (Below wb.heap.size wb wa) := hbel.out.trans (hal.mono hbel.out.size)
          have HOA := Lib.hid (own_below hown.out hal)
          have j0 : (0 : Int) ≤ (j : Int) := by omega
          have j1 : (j : Int) < (nk : Int) := by omega
          obtain ⟨T, hT⟩ : ∃ T, cdT x = T := ⟨_, rfl⟩
          rw [hT] at HCX HTK
          have HTX := Lib.hid hT
          clear hx hrx hcl hbb hwa hal q9 hbw hown hT
          go_upto_region 7 with fail
          rw [← HWA.out]
          clear e0 e1 e2 e3 e4 e5 e6 e7 e8 e9
          go_wp2_with fail
          refine HCX.out.mono ?_
          rintro e w2 ⟨rfl, hts, hb⟩
          have HB2 : Hid (Below wb.heap.size wb w2) := HBA.out.trans (hb.mono HBA.out.size)
          have HO2 := Lib.hid (own_below HOA.out hb)
          have HTS := Lib.hid hts
          clear hb hts m0 m1 m2 m3 m4 m5 m6 m7 m8 m9
          have hkm : j + 1 ≤ maxLen := by unfold maxLen; omega
          have hkb : (j + 1) * 16 ≤ 140737488355328 := by omega
          have hz2 : wb.heap.size ≤ w2.heap.size := HB2.out.size
          go_wp2_with (at_builtin; refine wpList_append_own_at _ rfl _ _ 92 rfl wb.heap.size 9 i0 (.string .empty) 1 16 Tryz.underlying92 hinf hq0 hq1 hq2 rfl (by decide) v j _ rfl (HO2.out.alloc _) ⟨w2.heap.size, 0, none⟩ 1 1 [.string T] rfl rfl (newCellsS _ _ _) (by intro u hu; simp at hu; subst hu; rfl) hkm hkb (by simp; omega) ?_)
          intro v' w3 hown3 hg3 hxx3 hat3
          clear hxx3
          have HO3 : Hid (w3.ownsRow wb.heap.size 9 1 v' (j + 1) (((c.kids.take (j + 1)).map cdT).map .string)) := by show World.ownsRow _ _ _ _ _ _ _; rw [HTK.out]; simpa using hown3
          have HB3 : Hid (Below wb.heap.size wb w3) := (HB2.out.alloc hz2 _).grown hg3 (by simp; omega) (fun g hg => (own_block_lt HO2.out g hg).1)
          have HS3 : Hid (∀ i y, i < j + 1 → c.kids[i]? = some y → (cdT y).size ≤ 200000 * cdN y) := fun i y hi hy => by
            by_cases e : i = j
            · subst e
              obtain rfl := Option.some.inj (HXJ.out.symm.trans hy)
              rw [HTX.out]; exact HTS.out
            · exact hsz.out i y (by omega) hy
          clear hown3 hg3 hat3
          go_wp2_with fail
          go_roundg (nk - (j + 1))
          case measure => omega
          case rel => exact ⟨j + 1, v', by omega, rfl, by go_num, HO3, HB3, HS3⟩
        · obtain rfl : nk = j := by omega
          have ht : c.kids.take nk = c.kids := List.take_of_length_le (by rw [← HKL.out]; exact Nat.le_refl _)
          rw [ht] at hown
          have hjs := join_size c.kids fun y hy => by
            obtain ⟨i, hi, e⟩ := List.mem_iff_getElem.1 hy
            exact hsz.out i y (by have := HKL.out; omega) (by rw [List.getElem?_eq_getElem hi, e])
          have HJ := Lib.hid (join_own (c.kids.map cdT) ⟨#[44, 32]⟩ W1 wb.heap.size nk v hown.out (by rw [List.length_map]; exact HKL.out) (by omega) (by omega))
          obtain ⟨J, hJ⟩ : ∃ J, joinB (c.kids.map cdT) ⟨#[44, 32]⟩ = J := ⟨_, rfl⟩
          rw [hJ] at HJ HT hjs
          have q1 : (⟨#[40]⟩ : ByteArray).size = 1 := rfl
          have q2 : (⟨#[41]⟩ : ByteArray).size = 1 := rfl
          have hS : (wd0 ++ ⟨#[40]⟩ ++ J ++ ⟨#[41]⟩).size ≤ 200002 * cdNs c.kids + 9 := by simp only [ByteArray.size_append]; omega
          have HFIN : Hid ((cdT c).size ≤ 200000 * cdN c) := by show _ ≤ _; rw [HT.out, HNE.out]; omega
          have ha0 : ∀ W, (Op.stringOp .add (wd0) ⟨#[40]⟩).run Tryz.prog W = .ok (.string (wd0 ++ ⟨#[40]⟩)) W := fun W => run_string_add_sum W _ _ (by omega)
          have ha1 : ∀ W, (Op.stringOp .add (wd0 ++ ⟨#[40]⟩) J).run Tryz.prog W = .ok (.string (wd0 ++ ⟨#[40]⟩ ++ J)) W := fun W => run_string_add_sum W _ _ (by simp only [ByteArray.size_append]; omega)
          have ha2 : ∀ W, (Op.stringOp .add (wd0 ++ ⟨#[40]⟩ ++ J) ⟨#[41]⟩).run Tryz.prog W = .ok (.string (wd0 ++ ⟨#[40]⟩ ++ J ++ ⟨#[41]⟩)) W := fun W => run_string_add_sum W _ _ (by simp only [ByteArray.size_append]; omega)
          have z0 : W1.cell? ⟨w.heap.size, 0, none⟩ = some (.int .i64 c.op) := (HKwb.out.below hbel.out HKwb.out.lt).cell 0
          have HB5 : Hid (Below w.heap.size w W1) := hbw
          obtain ⟨Aj, cj, rfl⟩ : ∃ A c, v = .slice A nk c := by
            obtain ⟨A, c, e, _⟩ := own_reads hown.out
            exact ⟨A, c, e⟩
          clear ht hown hjs hJ hS q1 q2 hsz hbw
          go_wp2_with fail



          refine HJ.out.mono ?_
          rintro e w6 ⟨rfl, hb6⟩
          have HB6 : Hid (Below w.heap.size w w6) := HB5.out.trans (hb6.mono HB5.out.size)
          clear hb6
          go_wp2_with fail
          go_ret
          exact ⟨by rw [HT.out]; rfl, HFIN.out, HB6.out⟩
  have n1 := hgrp
  clear hgrp
  by_cases hgrp : c.op = 4 ∨ c.op = 5 ∨ c.op = 6 ∨ c.op = 7
  case pos =>
    rcases hgrp with hop0 | hop0 | hop0 | hop0
    all_goals
      first | have t8 : (c.op == 8) = true := by rw [hop0]; rfl | have t8 : (c.op == 8) = false := by rw [hop0]; rfl
      first | have t9 : (c.op == 9) = true := by rw [hop0]; rfl | have t9 : (c.op == 9) = false := by rw [hop0]; rfl
      first | have t10 : (c.op == 10) = true := by rw [hop0]; rfl | have t10 : (c.op == 10) = false := by rw [hop0]; rfl
      first | have t11 : (c.op == 11) = true := by rw [hop0]; rfl | have t11 : (c.op == 11) = false := by rw [hop0]; rfl
      have uuC : uC c.op = false := by rw [hop0]; decide
      have uuT : uT c.op = true := by rw [hop0]; decide
      have uuM : uM c.op = false := by rw [hop0]; decide
      have uuV : uV c.op = false := by rw [hop0]; decide
      have HNW : Hid (∀ W, Calls Tryz.prog 70 #[.int .i64 c.op] W fun e w' => e = .returned (.string ⟨#[]⟩) ∧ w' = W) := fun W => by have := HN0.out W; rw [uuC, if_neg (by decide)] at this; exact this
      have HTW : Hid (∀ W, Calls Tryz.prog 71 #[.int .i64 c.op] W fun e w' => e = .returned (.string wd0) ∧ w' = W) := fun W => by have := HT0.out W; rw [uuT, if_pos rfl] at this; exact this
      have HSG : Hid (∀ W, Calls Tryz.prog 73 #[.int .i64 c.op] W fun e w' => e = .returned (.string ⟨#[]⟩) ∧ w' = W) := fun W => by have := HS0.out W; rw [uuV, if_neg (by decide)] at this; exact this
      have hne : wd0.toList.isEmpty = false := notEmpty_of (by rw [← HW0.out, hop0]; decide)
      have HT : Hid (cdT c = wd0 ++ ⟨#[32]⟩ ++ quoS c.text) := by show _ = _; rw [HTE.out, HW0.out, if_neg (by rw [uuC]; decide), if_pos uuT]
      clear uuC uuT uuM uuV
      have hts := htx (by rw [hop0]; decide)
      have hqs := quoS_size c.text
      have HQ := Lib.hid (HQT.out (by omega))
      obtain ⟨Q, hQ⟩ : ∃ Q, quoS c.text = Q := ⟨_, rfl⟩
      rw [hQ] at HQ HT hqs
      have hS : (wd0 ++ ⟨#[32]⟩ ++ Q).size ≤ 200000 := by simp only [ByteArray.size_append]; have : (⟨#[32]⟩ : ByteArray).size = 1 := rfl; omega
      have ha0 : ∀ W, (Op.stringOp .add (wd0) ⟨#[32]⟩).run Tryz.prog W = .ok (.string (wd0 ++ ⟨#[32]⟩)) W := fun W => run_string_add_sum W _ _ (by have : (⟨#[32]⟩ : ByteArray).size = 1 := rfl; omega)
      have ha1 : ∀ W, (Op.stringOp .add (wd0 ++ ⟨#[32]⟩) Q).run Tryz.prog W = .ok (.string (wd0 ++ ⟨#[32]⟩ ++ Q)) W := fun W => run_string_add_sum W _ _ (by simp only [ByteArray.size_append]; have : (⟨#[32]⟩ : ByteArray).size = 1 := rfl; omega)
      have HFIN : Hid ((cdT c).size ≤ 200000 * cdN c) := by show _ ≤ _; rw [HT.out, HNE.out]; omega
      clear hop0 htx hnu hnm hQ hS hqs hts hws
      go_enter Tryz.func31, Tryz.ntmps31
      go_upto_region 1 with fail
      rw [← HEwb.out]
      go_wp2_with fail
      refine (HNW.out wb).mono ?_
      rintro e w5 ⟨rfl, rfl⟩
      obtain ⟨wb, rfl⟩ : ∃ x, x = w5 := ⟨_, rfl⟩
      go_wp2_with fail
      refine (HTW.out wb).mono ?_
      rintro e w5 ⟨rfl, rfl⟩
      obtain ⟨wb, rfl⟩ : ∃ x, x = w5 := ⟨_, rfl⟩
      go_wp2_with fail
      refine (HQ.out _).mono ?_
      rintro e w6 ⟨rfl, hb6⟩
      have HB6 : Hid (Below w.heap.size w w6) := HBwb.out.trans (hb6.mono HBwb.out.size)
      clear hb6
      go_wp2_with fail
      go_ret
      exact ⟨by rw [HT.out]; rfl, HFIN.out, HB6.out⟩
  have n4 := hgrp
  clear hgrp
  by_cases hgrp : c.op = 9
  case pos =>
    have hop0 := hgrp
    clear hgrp
    all_goals
      first | have t8 : (c.op == 8) = true := by rw [hop0]; rfl | have t8 : (c.op == 8) = false := by rw [hop0]; rfl
      first | have t9 : (c.op == 9) = true := by rw [hop0]; rfl | have t9 : (c.op == 9) = false := by rw [hop0]; rfl
      first | have t10 : (c.op == 10) = true := by rw [hop0]; rfl | have t10 : (c.op == 10) = false := by rw [hop0]; rfl
      first | have t11 : (c.op == 11) = true := by rw [hop0]; rfl | have t11 : (c.op == 11) = false := by rw [hop0]; rfl
      have uuC : uC c.op = false := by rw [hop0]; decide
      have uuT : uT c.op = false := by rw [hop0]; decide
      have uuM : uM c.op = true := by rw [hop0]; decide
      have uuV : uV c.op = false := by rw [hop0]; decide
      have HNW : Hid (∀ W, Calls Tryz.prog 70 #[.int .i64 c.op] W fun e w' => e = .returned (.string ⟨#[]⟩) ∧ w' = W) := fun W => by have := HN0.out W; rw [uuC, if_neg (by decide)] at this; exact this
      have HTW : Hid (∀ W, Calls Tryz.prog 71 #[.int .i64 c.op] W fun e w' => e = .returned (.string ⟨#[]⟩) ∧ w' = W) := fun W => by have := HT0.out W; rw [uuT, if_neg (by decide)] at this; exact this
      have HSG : Hid (∀ W, Calls Tryz.prog 73 #[.int .i64 c.op] W fun e w' => e = .returned (.string ⟨#[]⟩) ∧ w' = W) := fun W => by have := HS0.out W; rw [uuV, if_neg (by decide)] at this; exact this
      have HT : Hid (cdT c = wd0 ++ ⟨#[32]⟩ ++ wd c.num) := by show _ = _; rw [HTE.out, HW0.out, if_neg (by rw [uuC]; decide), if_neg (by rw [uuT]; decide), if_pos uuM]
      have hlit : wd0 ++ ⟨#[32]⟩ = ⟨#[100, 101, 101, 112, 32]⟩ := by rw [← HW0.out, hop0]; rfl
      rw [hlit] at HT
      clear hlit
      clear uuC uuT uuM uuV
      have hns := hnu (by rw [hop0]; decide)
      have hqs : (wd c.num).size ≤ 21 := wd_size21 (by omega)
      have HQ := Lib.hid fun W => told_wd c.num (by omega) (by omega) W
      obtain ⟨Q, hQ⟩ : ∃ Q, wd c.num = Q := ⟨_, rfl⟩
      rw [hQ] at HQ HT hqs
      have hz : (⟨#[100, 101, 101, 112, 32]⟩ : ByteArray).size = 5 := rfl
      have hS : (⟨#[100, 101, 101, 112, 32]⟩ ++ Q : ByteArray).size ≤ 200000 := by simp only [ByteArray.size_append]; omega
      have ha0 : ∀ W, (Op.stringOp .add (⟨#[100, 101, 101, 112, 32]⟩) Q).run Tryz.prog W = .ok (.string (⟨#[100, 101, 101, 112, 32]⟩ ++ Q)) W := fun W => run_string_add_sum W _ _ (by omega)
      have HFIN : Hid ((cdT c).size ≤ 200000 * cdN c) := by show _ ≤ _; rw [HT.out, HNE.out]; omega
      clear hop0 htx hnu hnm hQ hS hqs hns hws hz
      go_enter Tryz.func31, Tryz.ntmps31
      go_upto_region 1 with fail
      rw [← HEwb.out]
      go_wp2_with fail
      refine (HNW.out wb).mono ?_
      rintro e w5 ⟨rfl, rfl⟩
      obtain ⟨wb, rfl⟩ : ∃ x, x = w5 := ⟨_, rfl⟩
      go_wp2_with fail
      refine (HTW.out wb).mono ?_
      rintro e w5 ⟨rfl, rfl⟩
      obtain ⟨wb, rfl⟩ : ∃ x, x = w5 := ⟨_, rfl⟩
      go_wp2_with fail
      refine (HQ.out _).mono ?_
      rintro e w6 ⟨rfl, hb6⟩
      have HB6 : Hid (Below w.heap.size w w6) := HBwb.out.trans (hb6.mono HBwb.out.size)
      clear hb6
      go_wp2_with fail
      go_ret
      exact ⟨by rw [HT.out]; rfl, HFIN.out, HB6.out⟩
  have n9 := hgrp
  clear hgrp
  by_cases hgrp : c.op = 10
  case pos =>
    have hop0 := hgrp
    clear hgrp
    all_goals
      first | have t8 : (c.op == 8) = true := by rw [hop0]; rfl | have t8 : (c.op == 8) = false := by rw [hop0]; rfl
      first | have t9 : (c.op == 9) = true := by rw [hop0]; rfl | have t9 : (c.op == 9) = false := by rw [hop0]; rfl
      first | have t10 : (c.op == 10) = true := by rw [hop0]; rfl | have t10 : (c.op == 10) = false := by rw [hop0]; rfl
      first | have t11 : (c.op == 11) = true := by rw [hop0]; rfl | have t11 : (c.op == 11) = false := by rw [hop0]; rfl
      have uuC : uC c.op = false := by rw [hop0]; decide
      have uuT : uT c.op = false := by rw [hop0]; decide
      have uuM : uM c.op = true := by rw [hop0]; decide
      have uuV : uV c.op = false := by rw [hop0]; decide
      have HNW : Hid (∀ W, Calls Tryz.prog 70 #[.int .i64 c.op] W fun e w' => e = .returned (.string ⟨#[]⟩) ∧ w' = W) := fun W => by have := HN0.out W; rw [uuC, if_neg (by decide)] at this; exact this
      have HTW : Hid (∀ W, Calls Tryz.prog 71 #[.int .i64 c.op] W fun e w' => e = .returned (.string ⟨#[]⟩) ∧ w' = W) := fun W => by have := HT0.out W; rw [uuT, if_neg (by decide)] at this; exact this
      have HSG : Hid (∀ W, Calls Tryz.prog 73 #[.int .i64 c.op] W fun e w' => e = .returned (.string ⟨#[]⟩) ∧ w' = W) := fun W => by have := HS0.out W; rw [uuV, if_neg (by decide)] at this; exact this
      have HT : Hid (cdT c = wd0 ++ ⟨#[32]⟩ ++ wd c.num) := by show _ = _; rw [HTE.out, HW0.out, if_neg (by rw [uuC]; decide), if_neg (by rw [uuT]; decide), if_pos uuM]
      have hlit : wd0 ++ ⟨#[32]⟩ = ⟨#[117, 110, 100, 101, 114, 32]⟩ := by rw [← HW0.out, hop0]; rfl
      rw [hlit] at HT
      clear hlit
      clear uuC uuT uuM uuV
      have hns := hnu (by rw [hop0]; decide)
      have hqs : (wd c.num).size ≤ 21 := wd_size21 (by omega)
      have HQ := Lib.hid fun W => told_wd c.num (by omega) (by omega) W
      obtain ⟨Q, hQ⟩ : ∃ Q, wd c.num = Q := ⟨_, rfl⟩
      rw [hQ] at HQ HT hqs
      have hz : (⟨#[117, 110, 100, 101, 114, 32]⟩ : ByteArray).size = 6 := rfl
      have hS : (⟨#[117, 110, 100, 101, 114, 32]⟩ ++ Q : ByteArray).size ≤ 200000 := by simp only [ByteArray.size_append]; omega
      have ha0 : ∀ W, (Op.stringOp .add (⟨#[117, 110, 100, 101, 114, 32]⟩) Q).run Tryz.prog W = .ok (.string (⟨#[117, 110, 100, 101, 114, 32]⟩ ++ Q)) W := fun W => run_string_add_sum W _ _ (by omega)
      have HFIN : Hid ((cdT c).size ≤ 200000 * cdN c) := by show _ ≤ _; rw [HT.out, HNE.out]; omega
      clear hop0 htx hnu hnm hQ hS hqs hns hws hz
      go_enter Tryz.func31, Tryz.ntmps31
      go_upto_region 1 with fail
      rw [← HEwb.out]
      go_wp2_with fail
      refine (HNW.out wb).mono ?_
      rintro e w5 ⟨rfl, rfl⟩
      obtain ⟨wb, rfl⟩ : ∃ x, x = w5 := ⟨_, rfl⟩
      go_wp2_with fail
      refine (HTW.out wb).mono ?_
      rintro e w5 ⟨rfl, rfl⟩
      obtain ⟨wb, rfl⟩ : ∃ x, x = w5 := ⟨_, rfl⟩
      go_wp2_with fail
      refine (HQ.out _).mono ?_
      rintro e w6 ⟨rfl, hb6⟩
      have HB6 : Hid (Below w.heap.size w w6) := HBwb.out.trans (hb6.mono HBwb.out.size)
      clear hb6
      go_wp2_with fail
      go_ret
      exact ⟨by rw [HT.out]; rfl, HFIN.out, HB6.out⟩
  have n10 := hgrp
  clear hgrp
  by_cases hgrp : c.op = 11
  case pos =>
    have hop0 := hgrp
    clear hgrp
    all_goals
      first | have t8 : (c.op == 8) = true := by rw [hop0]; rfl | have t8 : (c.op == 8) = false := by rw [hop0]; rfl
      first | have t9 : (c.op == 9) = true := by rw [hop0]; rfl | have t9 : (c.op == 9) = false := by rw [hop0]; rfl
      first | have t10 : (c.op == 10) = true := by rw [hop0]; rfl | have t10 : (c.op == 10) = false := by rw [hop0]; rfl
      first | have t11 : (c.op == 11) = true := by rw [hop0]; rfl | have t11 : (c.op == 11) = false := by rw [hop0]; rfl
      have uuC : uC c.op = false := by rw [hop0]; decide
      have uuT : uT c.op = false := by rw [hop0]; decide
      have uuM : uM c.op = false := by rw [hop0]; decide
      have uuV : uV c.op = false := by rw [hop0]; decide
      have HNW : Hid (∀ W, Calls Tryz.prog 70 #[.int .i64 c.op] W fun e w' => e = .returned (.string ⟨#[]⟩) ∧ w' = W) := fun W => by have := HN0.out W; rw [uuC, if_neg (by decide)] at this; exact this
      have HTW : Hid (∀ W, Calls Tryz.prog 71 #[.int .i64 c.op] W fun e w' => e = .returned (.string ⟨#[]⟩) ∧ w' = W) := fun W => by have := HT0.out W; rw [uuT, if_neg (by decide)] at this; exact this
      have HSG : Hid (∀ W, Calls Tryz.prog 73 #[.int .i64 c.op] W fun e w' => e = .returned (.string ⟨#[]⟩) ∧ w' = W) := fun W => by have := HS0.out W; rw [uuV, if_neg (by decide)] at this; exact this
      have HT : Hid (cdT c = ⟨#[104, 97, 115, 40]⟩ ++ c.name ++ ⟨#[41]⟩) := by show _ = _; rw [HTE.out, HW0.out, if_neg (by rw [uuC]; decide), if_neg (by rw [uuT]; decide), if_neg (by rw [uuM]; decide), if_pos hop0]
      clear uuC uuT uuM uuV
      have hns := hnm (by rw [hop0]; decide)
      have hS : (⟨#[104, 97, 115, 40]⟩ ++ c.name ++ ⟨#[41]⟩ : ByteArray).size ≤ 200000 := by simp only [ByteArray.size_append]; have : (⟨#[104, 97, 115, 40]⟩ : ByteArray).size = 4 := rfl; have : (⟨#[41]⟩ : ByteArray).size = 1 := rfl; omega
      have ha0 : ∀ W, (Op.stringOp .add (⟨#[104, 97, 115, 40]⟩) c.name).run Tryz.prog W = .ok (.string (⟨#[104, 97, 115, 40]⟩ ++ c.name)) W := fun W => run_string_add_sum W _ _ (by show 4 + c.name.size ≤ _; omega)
      have ha1 : ∀ W, (Op.stringOp .add (⟨#[104, 97, 115, 40]⟩ ++ c.name) ⟨#[41]⟩).run Tryz.prog W = .ok (.string (⟨#[104, 97, 115, 40]⟩ ++ c.name ++ ⟨#[41]⟩)) W := fun W => run_string_add_sum W _ _ (by simp only [ByteArray.size_append]; show 4 + c.name.size + 1 ≤ _; omega)
      have HFIN : Hid ((cdT c).size ≤ 200000 * cdN c) := by show _ ≤ _; rw [HT.out, HNE.out]; omega
      clear hop0 htx hnu hnm hS hns hws
      go_enter Tryz.func31, Tryz.ntmps31
      go_upto_region 1 with fail
      rw [← HEwb.out]
      go_wp2_with fail
      refine (HNW.out wb).mono ?_
      rintro e w5 ⟨rfl, rfl⟩
      obtain ⟨wb, rfl⟩ : ∃ x, x = w5 := ⟨_, rfl⟩
      go_wp2_with fail
      refine (HTW.out wb).mono ?_
      rintro e w5 ⟨rfl, rfl⟩
      obtain ⟨wb, rfl⟩ : ∃ x, x = w5 := ⟨_, rfl⟩
      go_wp2_with fail
      go_ret
      exact ⟨by rw [HT.out]; rfl, HFIN.out, HBwb.out⟩
  have n11 := hgrp
  clear hgrp
  by_cases hgrp : c.op = 12 ∨ c.op = 13 ∨ c.op = 14
  case pos =>
    rcases hgrp with hop0 | hop0 | hop0
    all_goals
      first | have t8 : (c.op == 8) = true := by rw [hop0]; rfl | have t8 : (c.op == 8) = false := by rw [hop0]; rfl
      first | have t9 : (c.op == 9) = true := by rw [hop0]; rfl | have t9 : (c.op == 9) = false := by rw [hop0]; rfl
      first | have t10 : (c.op == 10) = true := by rw [hop0]; rfl | have t10 : (c.op == 10) = false := by rw [hop0]; rfl
      first | have t11 : (c.op == 11) = true := by rw [hop0]; rfl | have t11 : (c.op == 11) = false := by rw [hop0]; rfl
      have uuC : uC c.op = false := by rw [hop0]; decide
      have uuT : uT c.op = false := by rw [hop0]; decide
      have uuM : uM c.op = false := by rw [hop0]; decide
      have uuV : uV c.op = true := by rw [hop0]; decide
      have HNW : Hid (∀ W, Calls Tryz.prog 70 #[.int .i64 c.op] W fun e w' => e = .returned (.string ⟨#[]⟩) ∧ w' = W) := fun W => by have := HN0.out W; rw [uuC, if_neg (by decide)] at this; exact this
      have HTW : Hid (∀ W, Calls Tryz.prog 71 #[.int .i64 c.op] W fun e w' => e = .returned (.string ⟨#[]⟩) ∧ w' = W) := fun W => by have := HT0.out W; rw [uuT, if_neg (by decide)] at this; exact this
      have HSG : Hid (∀ W, Calls Tryz.prog 73 #[.int .i64 c.op] W fun e w' => e = .returned (.string wd0) ∧ w' = W) := fun W => by have := HS0.out W; rw [uuV, if_pos rfl] at this; exact this
      have HT : Hid (cdT c = ⟨#[46]⟩ ++ c.name ++ ⟨#[32]⟩ ++ wd0 ++ ⟨#[32]⟩ ++ txS c.val) := by show _ = _; rw [HTE.out, HW0.out, if_neg (by rw [uuC]; decide), if_neg (by rw [uuT]; decide), if_neg (by rw [uuM]; decide), if_neg (show ¬ c.op = 11 by omega), if_pos uuV]
      clear uuC uuT uuM uuV
      have hns := hnm (by rw [hop0]; decide)
      have hzb := HKwb.out.lt
      clear hop0 htx hnu hnm
      go_enter Tryz.func31, Tryz.ntmps31
      go_upto_region 1 with fail
      rw [← HEwb.out]
      go_wp2_with fail
      refine (HNW.out wb).mono ?_
      rintro e w5 ⟨rfl, rfl⟩
      obtain ⟨wb, rfl⟩ : ∃ x, x = w5 := ⟨_, rfl⟩
      go_wp2_with fail
      refine (HTW.out wb).mono ?_
      rintro e w5 ⟨rfl, rfl⟩
      obtain ⟨wb, rfl⟩ : ∃ x, x = w5 := ⟨_, rfl⟩
      go_wp2_with fail
      refine (HTXV.out _ HBwb.out).mono ?_
      rintro e w5 ⟨rfl, hsz, hb5⟩
      have HB5 : Hid (Below wb.heap.size wb w5) := hb5
      have HK5 := Lib.hid (HKwb.out.below hb5 hzb)
      clear hb5 x0 x1 x2 x3 x4 x5 x6 x7 x8 x9
      have z0 := HK5.out.cell 0
      have z1 := HK5.out.cell 1
      obtain ⟨Q, hQ⟩ : ∃ Q, txS c.val = Q := ⟨_, rfl⟩
      rw [hQ] at hsz HT ⊢
      have hS : (⟨#[46]⟩ ++ c.name ++ ⟨#[32]⟩ ++ wd0 ++ ⟨#[32]⟩ ++ Q : ByteArray).size ≤ 200000 := by simp only [ByteArray.size_append]; have : (⟨#[46]⟩ : ByteArray).size = 1 := rfl; have : (⟨#[32]⟩ : ByteArray).size = 1 := rfl; omega
      have HFIN : Hid ((cdT c).size ≤ 200000 * cdN c) := by show _ ≤ _; rw [HT.out, HNE.out]; omega
      have ha0 : ∀ W, (Op.stringOp .add (⟨#[46]⟩) c.name).run Tryz.prog W = .ok (.string (⟨#[46]⟩ ++ c.name)) W := fun W => run_string_add_sum W _ _ (by have : (⟨#[46]⟩ : ByteArray).size = 1 := rfl; have : (⟨#[32]⟩ : ByteArray).size = 1 := rfl; omega)
      have ha1 : ∀ W, (Op.stringOp .add (⟨#[46]⟩ ++ c.name) ⟨#[32]⟩).run Tryz.prog W = .ok (.string (⟨#[46]⟩ ++ c.name ++ ⟨#[32]⟩)) W := fun W => run_string_add_sum W _ _ (by simp only [ByteArray.size_append]; have : (⟨#[46]⟩ : ByteArray).size = 1 := rfl; have : (⟨#[32]⟩ : ByteArray).size = 1 := rfl; omega)
      have ha2 : ∀ W, (Op.stringOp .add (⟨#[46]⟩ ++ c.name ++ ⟨#[32]⟩) wd0).run Tryz.prog W = .ok (.string (⟨#[46]⟩ ++ c.name ++ ⟨#[32]⟩ ++ wd0)) W := fun W => run_string_add_sum W _ _ (by simp only [ByteArray.size_append]; have : (⟨#[46]⟩ : ByteArray).size = 1 := rfl; have : (⟨#[32]⟩ : ByteArray).size = 1 := rfl; omega)
      have ha3 : ∀ W, (Op.stringOp .add (⟨#[46]⟩ ++ c.name ++ ⟨#[32]⟩ ++ wd0) ⟨#[32]⟩).run Tryz.prog W = .ok (.string (⟨#[46]⟩ ++ c.name ++ ⟨#[32]⟩ ++ wd0 ++ ⟨#[32]⟩)) W := fun W => run_string_add_sum W _ _ (by simp only [ByteArray.size_append]; have : (⟨#[46]⟩ : ByteArray).size = 1 := rfl; have : (⟨#[32]⟩ : ByteArray).size = 1 := rfl; omega)
      have ha4 : ∀ W, (Op.stringOp .add (⟨#[46]⟩ ++ c.name ++ ⟨#[32]⟩ ++ wd0 ++ ⟨#[32]⟩) Q).run Tryz.prog W = .ok (.string (⟨#[46]⟩ ++ c.name ++ ⟨#[32]⟩ ++ wd0 ++ ⟨#[32]⟩ ++ Q)) W := fun W => run_string_add_sum W _ _ (by simp only [ByteArray.size_append]; have : (⟨#[46]⟩ : ByteArray).size = 1 := rfl; have : (⟨#[32]⟩ : ByteArray).size = 1 := rfl; omega)
      clear hQ hS hsz hns hws
      go_upto_region 23 with fail
      go_region_held3 (fun w' => w'.cell? ⟨w.heap.size, 0, none⟩ = some (.int .i64 c.op) ∧ w'.cell? ⟨w.heap.size, 1, none⟩ = some (.string c.name))
        (exact ⟨z0, z1⟩)
        (first | (go_at_call 73; refine (HSG.out _).mono ?_; rintro e w6 ⟨rfl, rfl⟩))
      all_goals
        go_wp2_with fail
        go_ret
        exact ⟨by rw [HT.out]; rfl, HFIN.out, by first | exact HBwb.out.trans (HB5.out.mono HBwb.out.size) | exact (HBwb.out.trans (HB5.out.mono HBwb.out.size)).drew⟩
  have n12 := hgrp
  clear hgrp
  by_cases hgrp : c.op = 8
  case pos =>
    have hop0 := hgrp
    clear hgrp
    all_goals
      first | have t8 : (c.op == 8) = true := by rw [hop0]; rfl | have t8 : (c.op == 8) = false := by rw [hop0]; rfl
      first | have t9 : (c.op == 9) = true := by rw [hop0]; rfl | have t9 : (c.op == 9) = false := by rw [hop0]; rfl
      first | have t10 : (c.op == 10) = true := by rw [hop0]; rfl | have t10 : (c.op == 10) = false := by rw [hop0]; rfl
      first | have t11 : (c.op == 11) = true := by rw [hop0]; rfl | have t11 : (c.op == 11) = false := by rw [hop0]; rfl
      have uuC : uC c.op = false := by rw [hop0]; decide
      have uuT : uT c.op = false := by rw [hop0]; decide
      have uuM : uM c.op = false := by rw [hop0]; decide
      have uuV : uV c.op = false := by rw [hop0]; decide
      have HNW : Hid (∀ W, Calls Tryz.prog 70 #[.int .i64 c.op] W fun e w' => e = .returned (.string ⟨#[]⟩) ∧ w' = W) := fun W => by have := HN0.out W; rw [uuC, if_neg (by decide)] at this; exact this
      have HTW : Hid (∀ W, Calls Tryz.prog 71 #[.int .i64 c.op] W fun e w' => e = .returned (.string ⟨#[]⟩) ∧ w' = W) := fun W => by have := HT0.out W; rw [uuT, if_neg (by decide)] at this; exact this
      have HSG : Hid (∀ W, Calls Tryz.prog 73 #[.int .i64 c.op] W fun e w' => e = .returned (.string ⟨#[]⟩) ∧ w' = W) := fun W => by have := HS0.out W; rw [uuV, if_neg (by decide)] at this; exact this
      have HT : Hid (cdT c = wd0) := by show _ = _; rw [HTE.out, HW0.out, if_neg (by rw [uuC]; decide), if_neg (by rw [uuT]; decide), if_neg (by rw [uuM]; decide), if_neg (show ¬ c.op = 11 by omega), if_neg (by rw [uuV]; decide)]
      have hlit : wd0 = ⟨#[105, 115, 45, 112, 97, 103, 101]⟩ := by rw [← HW0.out, hop0]; rfl
      rw [hlit] at HT
      clear hlit
      clear uuC uuT uuM uuV
      have HFIN : Hid ((cdT c).size ≤ 200000 * cdN c) := by show _ ≤ _; rw [HT.out, HNE.out]; exact Nat.le_trans (by decide : 7 ≤ 200000) (by omega)
      clear hop0 htx hnu hnm hws
      go_enter Tryz.func31, Tryz.ntmps31
      go_upto_region 1 with fail
      rw [← HEwb.out]
      go_wp2_with fail
      refine (HNW.out wb).mono ?_
      rintro e w5 ⟨rfl, rfl⟩
      obtain ⟨wb, rfl⟩ : ∃ x, x = w5 := ⟨_, rfl⟩
      go_wp2_with fail
      refine (HTW.out wb).mono ?_
      rintro e w5 ⟨rfl, rfl⟩
      obtain ⟨wb, rfl⟩ : ∃ x, x = w5 := ⟨_, rfl⟩
      go_wp2_with fail
      go_ret
      exact ⟨by rw [HT.out]; rfl, HFIN.out, HBwb.out⟩
  have n8 := hgrp
  clear hgrp
  omega
end Go.Proofs.YtnlonleljbbgoaaGreatDoor
