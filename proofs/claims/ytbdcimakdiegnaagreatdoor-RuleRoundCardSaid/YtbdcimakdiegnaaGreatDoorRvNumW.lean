/-
  DERIVED. The walks of prop.plainNumber, number and prop.reader's number. Conditions: sizes; the table of powers of ten is laid. By an AI agent.
-/
import Derived.Test.YtbdcimakdiegnaaGreatDoorRvDays
namespace Go.Proofs.YtbdcimakdiegnaaGreatDoor
open Go.RowKit

theorem ba_eq {x y : ByteArray} : (x.toList == y.toList) = decide (x.data.toList = y.data.toList) := by
  rw [Lib.toList_data, Lib.toList_data, Bool.eq_iff_iff, beq_iff_eq, decide_eq_true_iff]

set_option maxHeartbeats 2000000 in
theorem plainNumber_any (x : ByteArray) (w : World) (_hs : x.size ≤ 400000) (hP : Pow w) :
    Calls Tryz.prog 121 #[.string x] w fun e w' => ∃ n', e = .returned (.tuple #[.int .i64 n', .bool (plN x.data.toList).isSome]) ∧ (∀ n, plN x.data.toList = some n → n' = n) ∧ Below w.heap.size w w' := by
  have PX := Lib.hid fun W => Tryz.strings_TrimPrefix x ⟨#[45]⟩ W
  obtain ⟨D, hD⟩ : ∃ D : ByteArray, D = ⟨(Lib.trimPrefix x.data.toList [45]).toArray⟩ := ⟨_, rfl⟩
  have hDl : D.data.toList = Lib.trimPrefix x.data.toList [45] := by rw [hD]
  have PX : Hid (∀ W, Calls Tryz.prog 104 #[.string x, .string ⟨#[45]⟩] W fun e w' => e = .returned (.string D) ∧ w' = W) := fun W => by
    have := PX.out W
    rw [show (⟨#[45]⟩ : ByteArray).data.toList = [45] from rfl, ← hD] at this
    exact this
  have hDz : D.size ≤ x.size := by
    rw [Lib.size_eq, Lib.size_eq, hDl]
    unfold Lib.trimPrefix
    split
    · rw [List.length_drop]; omega
    · exact Nat.le_refl _
  unfold plN
  rw [← hDl]
  cases hem : D.data.toList.isEmpty
  case true =>
    have e1 : D.toList.isEmpty = true := by rw [Lib.toList_data]; exact hem
    rw [if_pos (by simp)]
    clear hem hD hDl hP
    go_enter Tryz.func121, Tryz.ntmps121
    go_wp2_with fail
    refine (PX.out _).mono ?_
    rintro e w1 ⟨rfl, rfl⟩
    go_wp2_with fail
    go_ret2
    exact ⟨_, rfl, (fun n h => by cases h), Below.refl _ _⟩
  have e1 : D.toList.isEmpty = false := by rw [Lib.toList_data]; exact hem
  by_cases hl : 10 < D.data.toList.length
  · have i1 : (10 : Int) < (D.size : Int) := by rw [Lib.size_eq]; omega
    rw [decide_eq_true hl, if_pos (by simp)]
    clear hem hD hDl hP hl
    go_enter Tryz.func121, Tryz.ntmps121
    go_wp2_with fail
    refine (PX.out _).mono ?_
    rintro e w1 ⟨rfl, rfl⟩
    go_wp2_with fail
    go_ret2
    exact ⟨_, rfl, (fun n h => by cases h), Below.refl _ _⟩
  have i1 : ¬ (10 : Int) < (D.size : Int) := by rw [Lib.size_eq]; omega
  rw [decide_eq_false hl]
  have TD := fun W => trimDg_any D W (by omega)
  have hte := trimDg_nil D.data.toList
  obtain ⟨T, hT⟩ : ∃ T : ByteArray, T = ⟨(Lib.trimS D.data.toList dgs).toArray⟩ := ⟨_, rfl⟩
  rw [← hT] at TD hte
  have TD := Lib.hid TD
  cases hal : D.data.toList.all isDg
  case false =>
    rw [hal] at hte
    rw [if_pos (by simp)]
    clear hem hD hDl hP hl hT hal
    go_enter Tryz.func121, Tryz.ntmps121
    go_wp2_with fail
    refine (PX.out _).mono ?_
    rintro e w1 ⟨rfl, rfl⟩
    go_wp2_with fail
    refine (TD.out _).mono ?_
    rintro e w2 ⟨rfl, hb2⟩
    have HB2 := Lib.hid hb2
    clear hb2
    go_wp2_with fail
    go_ret2
    exact ⟨_, rfl, (fun n h => by cases h), HB2.out⟩
  rw [hal] at hte
  have hdl := hDl
  rw [hDl] at hal hem hl
  obtain ⟨n, ha, hn, hx⟩ := atoi_pl hal (by simpa using hem) (by omega)
  have hxz : x.size ≤ 18 := by rw [Lib.size_eq]; omega
  have AT := Lib.hid fun W => Tryz.strconv_Atoi x n hxz ha W
  have IT := Lib.hid fun W hP => itoaN_any n (by omega) (by omega) W hP
  have hcm := ba_eq (x := wd n) (y := x)
  have hcm2 : decide ((wd n).data.toList = x.data.toList) = decide (Lib.itoa n = x.data.toList) := rfl
  rw [hcm2] at hcm
  rw [ha, if_neg (by simp)]
  simp only [Option.getD_some]
  have HPW := Lib.hid hP
  have HW : Hid (wd n = wd n) := rfl
  obtain ⟨S, hS⟩ : ∃ S, S = wd n := ⟨_, rfl⟩
  rw [← hS] at hcm IT
  obtain ⟨q, hq⟩ : ∃ q, q = decide (Lib.itoa n = x.data.toList) := ⟨_, rfl⟩
  have hgo : (∃ m, (if Lib.itoa n = x.data.toList then some n else none) = m ∧ m.isSome = q ∧ ∀ k, m = some k → n = k) := by
    by_cases e : Lib.itoa n = x.data.toList
    · rw [hq, decide_eq_true e, if_pos e]
      exact ⟨_, rfl, rfl, fun k h => by injection h⟩
    · rw [hq, decide_eq_false e, if_neg e]
      exact ⟨_, rfl, rfl, fun k h => by cases h⟩
  rw [← hq] at hcm
  obtain ⟨m, hm, hmq, hmk⟩ := hgo
  rw [hm, hmq]
  have HMK := Lib.hid hmk
  clear hem hD hDl hP hl hT hal hdl ha hx hcm2 hS hq hm hmq hmk HW
  go_enter Tryz.func121, Tryz.ntmps121
  go_wp2_with fail
  refine (PX.out _).mono ?_
  rintro e w1 ⟨rfl, rfl⟩
  go_wp2_with fail
  refine (TD.out _).mono ?_
  rintro e w2 ⟨rfl, hb2⟩
  have HB2 := Lib.hid hb2
  clear hb2
  go_wp2_with fail
  refine (AT.out _).mono ?_
  rintro e w3 ⟨rfl, t, hw3⟩
  have HB3 : Hid (Below w1.heap.size w1 w3) := HB2.out.trans (by rw [hw3]; exact Joins.below_bytesWorld _ _ _ _ HB2.out.size)
  have HP3 := Lib.hid (HPW.out.below HB3.out)
  clear hw3
  go_wp2_with fail
  refine (IT.out _ HP3.out).mono ?_
  rintro e w4 ⟨rfl, hb4⟩
  have HB4 := Lib.hid (HB3.out.trans (hb4.mono HB3.out.size))
  clear hb4
  go_wp2_with fail
  go_ret2
  exact ⟨n, rfl, HMK.out, HB4.out⟩
set_option maxHeartbeats 1000000 in
theorem numberV_any (n : Int) (w : World) : Calls Tryz.prog 122 #[.int .i64 n] w fun e w' => e = .returned (vN (vI 2 n 0)) ∧ Below w.heap.size w w' := by
  go_enter Tryz.func122, Tryz.ntmps122
  go_wp2
  exact bodyPost_ret (v := vN (vI 2 n 0)) (by simp [results, Tryz.results122, go_sem, vN, vI, Vl.kind, Vl.int_, Vl.to_, Vl.text]) rfl ⟨rfl, (Below.refl _ _).alloc (Nat.le_refl _) _⟩

theorem Pow.gr {w w' : World} {rb a : Nat} {s : ByteArray} {bad far : Bool} (h : Pow w) (hr : RdM w rb s a bad far) (hg : w.grownBy w' (some rb)) : Pow w' := by
  have hn : Tryz.prog.globalNamed "internal/strconv.uint64pow10" = some 1 := by kernel_rfl
  have hc := h.cell hn 0 (by decide)
  have hne : 1 ≠ rb := fun e => by
    rw [e, hr.at_.1.1] at hc
    cases hc
  have hlt := World.block_lt_of_cell? w _ hc
  have hb := hg.block _ hlt (fun e => hne (by injection e))
  unfold Pow Lib.TabIs World.var? at h ⊢
  rw [hn] at h ⊢
  simp only [Option.bind_some] at h ⊢
  rw [hb]
  exact h
/-- where the digits begin -/
def numA (t : List UInt8) : Nat := if pre [45] t = true then 1 else 0
theorem numL_eq (t : List UInt8) : numL t = numA t + ((t.drop (numA t)).takeWhile isDg).length := by
  unfold numL numA
  cases pre [45] t
  · rw [if_neg (by decide), if_neg (by decide), List.drop_zero]; omega
  · rw [if_pos rfl, if_pos rfl]
/-- is a digit at a place -/
theorem dig_at {s : ByteArray} {b k : Nat} (hk : k ≤ ((rs s b).takeWhile isDg).length) :
    (k < ((rs s b).takeWhile isDg).length ∧ ∃ h : b + k < s.size, (48 : Int) ≤ ((s[b + k]'h).toNat : Int) ∧ ((s[b + k]'h).toNat : Int) ≤ 57)
    ∨ (¬ k < ((rs s b).takeWhile isDg).length ∧ s.size ≤ b + k)
    ∨ (¬ k < ((rs s b).takeWhile isDg).length ∧ ∃ h : b + k < s.size, ¬ (48 : Int) ≤ ((s[b + k]'h).toNat : Int))
    ∨ (¬ k < ((rs s b).takeWhile isDg).length ∧ ∃ h : b + k < s.size, (48 : Int) ≤ ((s[b + k]'h).toNat : Int) ∧ ¬ ((s[b + k]'h).toNat : Int) ≤ 57) := by
  have hiff := tw_at (p := isDg) (l := rs s b) hk
  rw [rs_drop] at hiff
  rcases Nat.lt_or_ge (b + k) s.size with hb | hb
  · rw [rs_at hb] at hiff
    have hd := isDg_iff (s[b + k]'hb)
    by_cases hc : isDg (s[b + k]'hb) = true
    · have h1 := hd.1 hc
      exact .inl ⟨hiff.2 ⟨_, _, rfl, hc⟩, hb, by omega, by omega⟩
    · have hn : ¬ k < ((rs s b).takeWhile isDg).length := fun h => by
        obtain ⟨c, r, e, hcc⟩ := hiff.1 h
        injection e with e1 e2
        rw [e1] at hc
        exact hc hcc
      by_cases h48 : (48 : Int) ≤ ((s[b + k]'hb).toNat : Int)
      · refine .inr (.inr (.inr ⟨hn, hb, h48, fun h57 => hc (hd.2 ⟨by omega, by omega⟩)⟩))
      · exact .inr (.inr (.inl ⟨hn, hb, h48⟩))
  · refine .inr (.inl ⟨fun h => ?_, hb⟩)
    rw [rs_end hb] at hiff
    obtain ⟨c, r, e, _⟩ := hiff.1 h
    cases e
theorem num_le (s : ByteArray) (b : Nat) (hb : b ≤ s.size) : b + ((rs s b).takeWhile isDg).length ≤ s.size := by
  have := tw_le (p := isDg) (rs s b)
  rw [rs_len] at this
  omega

set_option maxHeartbeats 4000000 in
set_option maxRecDepth 100000 in
theorem number_any (rb : Nat) (s : ByteArray) (a : Nat) (far : Bool) (w : World) (h : RdM w rb s a false far) (ha : a ≤ s.size) (hs : s.size ≤ 400000) (hP : Pow w) :
    Calls Tryz.prog 94 #[.pointer (some ⟨rb, 0, none⟩)] w fun e w' => ∃ x, e = .returned (vN x) ∧ RdOut1 (rdNum (rs s a)) rb s far w x w' := by
  have hlt := Blk.lt h
  obtain ⟨X, hX, hr, hK, hg, hz⟩ := start5 h
  have HX := Lib.hid hX
  have HR := Lib.hid hr
  have HK := Lib.hid hK
  have HG := Lib.hid hg
  have HPW := Lib.hid hP
  have H := Lib.hid h
  have hne : w.heap.size ≠ rb := by omega
  obtain ⟨b, hb⟩ : ∃ b, b = a + numA (rs s a) := ⟨_, rfl⟩
  have hbs : b ≤ s.size := by
    rw [hb]
    unfold numA
    cases hq : pre [45] (rs s a)
    · simpa using ha
    · rw [if_pos rfl]; exact rs_pre hq ha
  have hTK : Hid (∀ W, RdM W rb s a false far → Calls Tryz.prog 88 #[.pointer (some ⟨rb, 0, none⟩), .string ⟨#[45]⟩] W fun e w' => ∃ q, e = .returned (.bool q) ∧ RdM w' rb s b false far ∧ W.grownBy w' (some rb)) := fun W hW => by
    rw [hb]
    unfold numA
    cases hq : pre [45] (rs s a)
    · refine (take_no rb s ⟨#[45]⟩ a false far W hW ha hs hq).mono ?_
      rintro e w' ⟨rfl, n, rfl⟩
      exact ⟨_, rfl, hW, gr_drewN _ _ _⟩
    · refine (take_yes rb s ⟨#[45]⟩ a false far W hW ha hs hq).mono ?_
      rintro e w' ⟨rfl, h1, h2⟩
      exact ⟨_, rfl, h1, h2⟩
  obtain ⟨L, hL⟩ : ∃ L, L = ((rs s b).takeWhile isDg).length := ⟨_, rfl⟩
  have hbL : b + L ≤ s.size := by rw [hL]; exact num_le s b hbs
  have hnl : numL (rs s a) = b + L - a := by
    rw [numL_eq, rs_drop, ← hb, ← hL]
    omega
  have hab : a ≤ b := by omega
  have HDG : Hid (∀ k, k ≤ L → _) := fun k hk => dig_at (s := s) (b := b) (k := k) (by rw [← hL]; exact hk)
  have ho : rdNum (rs s a) = (plN (s.extract a (b + L)).data.toList).map fun n => (vI 2 n 0, rs s (b + L), false) := by
    unfold rdNum
    rw [hnl, rs_drop, ← rs_cut, show a + (b + L - a) = b + L by omega]
  obtain ⟨x, hx⟩ : ∃ x, x = s.extract a (b + L) := ⟨_, rfl⟩
  have hxz : x.size ≤ 400000 := by
    rw [hx, ext_size s a (b + L) (by omega) hbL]; omega
  rw [← hx] at ho
  have PL := Lib.hid fun W hP => plainNumber_any x W hxz hP
  obtain ⟨m, hm⟩ : ∃ m, m = plN x.data.toList := ⟨_, rfl⟩
  rw [← hm] at PL ho
  have HO := Lib.hid ho
  have HXE := Lib.hid hx
  have HL := Lib.hid hL
  clear h hX hr hK hg hP hb hL hnl ho hx hm
  go_enter Tryz.func94, Tryz.ntmps94
  go_upto_region 1 with fail
  rw [← HX.out]
  obtain ⟨⟨_, x1, _, _⟩, _⟩ := HR.out.at_
  go_wp2_with fail
  refine (hTK.out X HR.out).mono ?_
  rintro e w1 ⟨q, rfl, hr1, hg1⟩
  have HR1 := Lib.hid hr1
  have HK1 := Lib.hid (blk_gr HK.out hg1 hne)
  have HG1 := Lib.hid (gr_trans HG.out hg1)
  clear hr1 hg1 x1
  have hb0 : (0 : Int) ≤ (b : Int) := by omega
  have HRK : Hid (∃ n, w1 = w1.drewN n) := ⟨0, rfl⟩
  clear HRK
  go_wp2_with fail
  go_loopg [] L (fun gg wr => ∃ k : Nat, k + gg = L ∧ Hid (RdM wr rb s (b + k) false far) ∧ Hid (Blk wr w.heap.size 24 zV5) ∧ Hid (w.grownBy wr (some rb)))
  case atStart => exact ⟨0, by omega, HR1, HK1, HG1⟩
  case round =>
    obtain ⟨k, hkg, HRr, HKr, HGr⟩ := hrel
    obtain ⟨⟨c0, c1, c2, _⟩, f1, f2, _⟩ := HRr.out.at_
    obtain ⟨p, hp⟩ : ∃ p, p = b + k := ⟨_, rfl⟩
    rw [← hp] at c1
    have i0 : (0 : Int) ≤ (p : Int) := by omega
    have hpz : (p : Int) ≤ (s.size : Int) := by omega
    have ways := HDG.out k (by omega)
    rw [← HL.out] at ways
    rw [← hp] at ways
    have HPE := Lib.hid hp
    clear hp
    go_upto_region 3 with fail
    go_cut [45] (fun s45 wc => ∃ q4 : Bool, s45 = .bool q4 ∧ Hid (q4 = decide (k < L)) ∧ ∃ n, wc = wr.drewN n)
    case first =>
      rcases ways with ⟨h1, h2, h3, h4⟩ | ⟨h1, h2⟩ | ⟨h1, h2, h3⟩ | ⟨h1, h2, h3, h4⟩
      · have j1 : (p : Int) < (s.size : Int) := by omega
        have j2 : decide ((p : Int) < (s.size : Int)) = true := decide_eq_true j1
        have j3 : decide ((48 : Int) ≤ ((s[p].toNat : Int))) = true := decide_eq_true h3
        have j4 : decide (((s[p].toNat : Int)) ≤ 57) = true := decide_eq_true h4
        go_quiet (fail)
        go_wp2_with fail
        go_meet
        exact ⟨_, rfl, (decide_eq_true h1).symm, _, rfl⟩
      · have j2 : decide ((p : Int) < (s.size : Int)) = false := decide_eq_false (by omega)
        have j5 : decide (p < s.size) = false := decide_eq_false (by omega)
        go_quiet (fail)
        go_wp2_with fail
        go_meet
        exact ⟨_, rfl, (decide_eq_false h1).symm, _, rfl⟩
      · have j1 : (p : Int) < (s.size : Int) := by omega
        have j2 : decide ((p : Int) < (s.size : Int)) = true := decide_eq_true j1
        have j3 : decide ((48 : Int) ≤ ((s[p].toNat : Int))) = false := decide_eq_false (by omega)
        go_quiet (fail)
        go_wp2_with fail
        go_meet
        exact ⟨_, rfl, (decide_eq_false h1).symm, _, rfl⟩
      · have j1 : (p : Int) < (s.size : Int) := by omega
        have j2 : decide ((p : Int) < (s.size : Int)) = true := decide_eq_true j1
        have j3 : decide ((48 : Int) ≤ ((s[p].toNat : Int))) = true := decide_eq_true h3
        have j4 : decide (((s[p].toNat : Int)) ≤ 57) = false := decide_eq_false (by omega)
        go_quiet (fail)
        go_wp2_with fail
        go_meet
        exact ⟨_, rfl, (decide_eq_false h1).symm, _, rfl⟩
    case rest =>
    obtain ⟨q4, rfl, HQ4, nd, rfl⟩ := hcut
    have HRd : Hid (RdM (wr.drewN nd) rb s (b + k) false far) := HRr.out
    have HKd : Hid (Blk (wr.drewN nd) w.heap.size 24 zV5) := HKr.out
    have HGd := Lib.hid (gr_trans HGr.out (gr_drewN wr nd _))
    generalize wr.drewN nd = wd at HRd HKd HGd ⊢
    clear c0 c1 c2 f1 f2 ways HRr HKr HGr
    obtain ⟨⟨c0, c1, c2, _⟩, f1, f2, _⟩ := HRd.out.at_
    cases q4
    case true =>
      have hk : k < L := of_decide_eq_true HQ4.out.symm
      rw [← HPE.out] at c1
      have HV : Hid (RdM (wd.setCell ⟨rb, 1, none⟩ (.int .i64 ((p : Int) + 1))) rb s (b + (k + 1)) false far) := by
        have := HRd.out.go (b + (k + 1))
        rw [show ((b + (k + 1) : Nat) : Int) = (p : Int) + 1 by rw [HPE.out]; omega] at this
        exact this
      have HKV := Lib.hid (HKd.out.far (p := ⟨rb, 1, none⟩) hne (.int .i64 ((p : Int) + 1)))
      have HGV := Lib.hid (gr_set HGd.out 1 (.int .i64 ((p : Int) + 1)))
      go_wp2_with fail
      go_roundg (L - (k + 1))
      case measure => omega
      case rel => exact ⟨k + 1, by omega, HV, HKV, HGV⟩
    case false =>
      have hk : ¬ k < L := of_decide_eq_false HQ4.out.symm
      have hkL : k = L := by omega
      have HR2 : Hid (RdM wd rb s p false far) := by
        show RdM _ _ _ _ _ _
        rw [HPE.out]; exact HRd.out
      rw [← HPE.out] at c1
      have HPL : Hid (p = b + L) := by
        show _ = _
        rw [HPE.out, hkL]
      have PL2 : Hid (∀ W, Pow W → Calls Tryz.prog 121 #[.string (s.extract a p)] W fun e w' => ∃ n', e = .returned (.tuple #[.int .i64 n', .bool m.isSome]) ∧ (∀ n, m = some n → n' = n) ∧ Below W.heap.size W w') := fun W hW => by
        have := PL.out W hW
        rw [HXE.out, ← HPL.out] at this
        exact this
      have hlt1 := Blk.lt HR2.out
      have i1 : (0 : Int) ≤ (a : Int) := by omega
      have i2 : (a : Int) ≤ (p : Int) := by have := HPL.out; omega
      have hPd : Pow wd := HPW.out.gr H.out HGd.out
      have HPD := Lib.hid (hPd.below (w' := wd.drew) (Below.refl _ _).drew)
      have d : wd.cell? ⟨rb, 0, none⟩ = some (.string s) ∧ wd.cell? ⟨rb, 1, none⟩ = some (.int .i64 (p : Int)) := ⟨c0, c1⟩
      have d' : wd.drew.cell? ⟨rb, 0, none⟩ = some (.string s) ∧ wd.drew.cell? ⟨rb, 1, none⟩ = some (.int .i64 (p : Int)) := ⟨c0, c1⟩
      clear hk hPd hkL
      go_wp2_with fail
      go_cut [4, 5] (fun s4 s5 wc => ∃ n', s4 = .int .i64 n' ∧ s5 = .bool m.isSome ∧ Hid (∀ n, m = some n → n' = n) ∧ Hid (Below wd.heap.size wd wc))
      case first =>
        go_region_held3 (fun w' => w'.cell? ⟨rb, 0, none⟩ = some (.string s) ∧ w'.cell? ⟨rb, 1, none⟩ = some (.int .i64 (p : Int)))
          (first | with_reducible exact d | with_reducible exact d' | with_reducible exact t1)
          (first | (go_at_call 121; refine (PL2.out _ HPD.out).mono ?_; rintro e w2 ⟨n', rfl, hn', hb1⟩; have hbw : Below wd.heap.size wd w2 := (Below.refl wd.heap.size wd).drew.trans hb1; have t1 : w2.cell? ⟨rb, 0, none⟩ = some (.string s) ∧ w2.cell? ⟨rb, 1, none⟩ = some (.int .i64 (p : Int)) := ⟨(hbw.cell (p := ⟨rb, 0, none⟩) hlt1).trans c0, (hbw.cell (p := ⟨rb, 1, none⟩) hlt1).trans c1⟩; have HB2 := Lib.hid hbw; have HN := Lib.hid hn'; clear hb1 hbw hn'))
        all_goals
          go_wp2_with fail
          go_meet
          exact ⟨_, rfl, rfl, HN, HB2⟩
      case rest =>
      obtain ⟨n', rfl, rfl, HN, HB2⟩ := hcut
      have HR3 := Lib.hid (HR2.out.below HB2.out)
      have HK3 := Lib.hid (HKd.out.below HB2.out HKd.out.lt)
      have HG3 := Lib.hid (gr_below HGd.out HB2.out)
      clear d d' c0 c1 c2 f1 f2
      obtain ⟨⟨_, _, c2, _⟩, _, f2, _⟩ := HR3.out.at_
      obtain ⟨q2, hq2⟩ : ∃ q, q = m.isSome := ⟨_, rfl⟩
      rw [← hq2]
      have HQ2 := Lib.hid hq2
      have HK4 := Lib.hid (HK3.out.far (p := ⟨rb, 2, none⟩) hne (.bool (!q2)))
      have HR4 := Lib.hid (HR3.out.bads (!q2))
      have HG4 := Lib.hid (gr_set HG3.out 2 (.bool (!q2)))
      clear hq2
      go_wp2_with fail
      refine (numberV_any n' _).mono ?_
      rintro e w5 ⟨rfl, hb5⟩
      have HR5 := Lib.hid (HR4.out.below hb5)
      have HK5 := Lib.hid (HK4.out.below hb5 HK4.out.lt)
      have HG5 := Lib.hid (gr_below HG4.out hb5)
      have e5 := fun i => HK5.out.cell i
      have f5 := fun i => HK5.out.frozen i
      clear hb5
      dsimp only [vN, vI, Vl.kind, Vl.int_, Vl.to_, Vl.text]
      go_wp2_with fail
      obtain ⟨⟨r0, r1, r2, r3, r4⟩, gF, kF, _, _⟩ := fin5 HG5.out hlt HK5.out (.int .i64 2) (.int .i64 n') (.int .i64 0) (.string ⟨#[]⟩) (.slice none 0 0) _ rfl
      refine bodyPost_ret (v := vN (vI 2 n' 0)) (by simp [results, Tryz.results94, go_sem, r0, r1, r2, r3, r4, vN, vI, Vl.kind, Vl.int_, Vl.to_, Vl.text]) rfl ⟨_, rfl, gF, rfl, p, !q2, far, kF _ _ HR5.out, by omega, ?_⟩
      rw [HO.out]
      cases m with
      | none => rw [HQ2.out]; rfl
      | some n =>
        have := HN.out n rfl
        subst this
        refine ⟨by rw [HQ2.out]; rfl, by simp, by rw [HPL.out], rfl⟩
end Go.Proofs.YtbdcimakdiegnaaGreatDoor
