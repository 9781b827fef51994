/-
  DERIVED. The walk of prop.reader's item. Conditions: sizes; tables are laid. By an AI agent.
-/
import Derived.Test.YtbdcimakdiegnaaGreatDoorRvItem
namespace Go.Proofs.YtbdcimakdiegnaaGreatDoor
open Go.RowKit

set_option maxHeartbeats 4000000 in
set_option maxRecDepth 100000 in
theorem item_any (rb : Nat) (s : ByteArray) (a : Nat) (far : Bool) (m : Int) (w : World) (h : RdM w rb s a false far) (ha : a ≤ s.size) (hs : s.size ≤ 400000) (hm : En m w) :
    Calls Tryz.prog 119 #[.pointer (some ⟨rb, 0, none⟩)] w fun e w' => ∃ x, e = .returned (vN x) ∧ RdOut1 (rdItem (rs s a)) rb s far w x w' := by
  have hrb := Blk.lt h
  obtain ⟨X, hX, hr, hK, hg, hz⟩ := start5 h
  have HV := Lib.hid (show VR m w rb s a far X from ⟨hr, hK, hg, hm.gr h hg⟩)
  have HX := Lib.hid hX
  obtain ⟨o, ho⟩ : ∃ o, o = rdItem (rs s a) := ⟨_, rfl⟩
  rw [← ho]
  unfold rdItem at ho
  clear h hX hr hK hg hm
  cases q1 : pre [91, 91] (rs s a)
  case true =>
    have Q1 : Hid (pre (⟨#[91, 91]⟩ : ByteArray).data.toList (rs s a) = true) := q1
    rw [q1, if_pos rfl] at ho
    have HO := Lib.hid ho
    clear ho q1
    go_enter Tryz.func119, Tryz.ntmps119
    go_upto_region 1 with fail
    rw [← HX.out]
    go_wp2_with fail
    refine (has_any rb s ⟨#[91, 91]⟩ a false far X HV.out.rd ha hs true Q1.out).mono ?_
    rintro e wz ⟨rfl, nz, rfl⟩
    have HV1 := Lib.hid (HV.out.drewN nz)
    generalize X.drewN nz = w1 at HV1 ⊢
    go_wp2_with fail
    refine (link_any rb s a far m w1 HV1.out.rd ha hs HV1.out.en.ml).mono ?_
    rintro e w9 ⟨x, rfl, ho9⟩
    have HO9 := Lib.hid ho9
    have HK9 := Lib.hid (blk_gr HV1.out.bk ho9.gr (show w.heap.size ≠ rb by omega))
    have e9 := fun i => HK9.out.cell i
    have f9 := fun i => HK9.out.frozen i
    clear ho9
    unfold vN
    go_wp2_with fail
    obtain ⟨⟨r0, r1, r2, r3, r4⟩, hOut⟩ := HO9.out.via HV1.out.gr hrb HV1.out.bk _ rfl
    refine bodyPost_ret (v := vN x) (by simp [results, Tryz.results119, go_sem, r0, r1, r2, r3, r4, vN]) rfl ⟨_, rfl, ?_⟩
    rw [HO.out]
    exact hOut
  case false =>
  have Q1 : Hid (pre (⟨#[91, 91]⟩ : ByteArray).data.toList (rs s a) = false) := q1
  rw [q1, if_neg (by decide)] at ho
  clear q1
  cases q2 : pre [91] (rs s a)
  case true =>
    have Q2 : Hid (pre (⟨#[91]⟩ : ByteArray).data.toList (rs s a) = true) := q2
    rw [q2, if_pos rfl] at ho
    have HO := Lib.hid ho
    clear ho q2
    go_enter Tryz.func119, Tryz.ntmps119
    go_upto_region 1 with fail
    rw [← HX.out]
    go_wp2_with fail
    refine (has_any rb s ⟨#[91, 91]⟩ a false far X HV.out.rd ha hs false Q1.out).mono ?_
    rintro e wz ⟨rfl, nz, rfl⟩
    have HV1 := Lib.hid (HV.out.drewN nz)
    generalize X.drewN nz = w1 at HV1 ⊢
    go_wp2_with fail
    refine (has_any rb s ⟨#[91]⟩ a false far w1 HV1.out.rd ha hs true Q2.out).mono ?_
    rintro e wz ⟨rfl, nz, rfl⟩
    have HV2 := Lib.hid (HV1.out.drewN nz)
    generalize w1.drewN nz = w2 at HV2 ⊢
    have c2 := Blk.cell HV2.out.rd 2
    have f2 := Blk.frozen HV2.out.rd 2
    have HKb := Lib.hid (HV2.out.bk.far (p := ⟨rb, 2, none⟩) (show w.heap.size ≠ rb by omega) (.bool true))
    have HRb := Lib.hid (HV2.out.rd.bads true)
    have HGb := Lib.hid (gr_set HV2.out.gr 2 (.bool true))
    have eb := fun i => HKb.out.cell i
    have fb := fun i => HKb.out.frozen i
    go_wp2_with fail
    obtain ⟨⟨r0, r1, r2, r3, r4⟩, gF, kF, _, _⟩ := fin5 HGb.out hrb HKb.out (.int .i64 0) (.int .i64 0) (.int .i64 0) (.string ⟨#[]⟩) (.slice none 0 0) _ rfl
    refine bodyPost_ret (v := vN (vI 0 0 0)) (by simp [results, Tryz.results119, go_sem, r0, r1, r2, r3, r4, vN, vI, Vl.kind, Vl.int_, Vl.to_, Vl.text]) rfl ⟨_, rfl, gF, rfl, a, true, far, kF _ _ HRb.out, ha, ?_⟩
    rw [HO.out]
  case false =>
  have Q2 : Hid (pre (⟨#[91]⟩ : ByteArray).data.toList (rs s a) = false) := q2
  have HQ2 := Lib.hid q2
  rw [q2, if_neg (by decide)] at ho
  have HO := Lib.hid ho
  clear ho q2
  go_enter Tryz.func119, Tryz.ntmps119
  go_upto_region 1 with fail
  rw [← HX.out]
  go_wp2_with fail
  refine (has_any rb s ⟨#[91, 91]⟩ a false far X HV.out.rd ha hs false Q1.out).mono ?_
  rintro e wz ⟨rfl, nz, rfl⟩
  have HV1 := Lib.hid (HV.out.drewN nz)
  generalize X.drewN nz = w1 at HV1 ⊢
  go_wp2_with fail
  refine (has_any rb s ⟨#[91]⟩ a false far w1 HV1.out.rd ha hs false Q2.out).mono ?_
  rintro e wz ⟨rfl, nz, rfl⟩
  have HV2 := Lib.hid (HV1.out.drewN nz)
  generalize w1.drewN nz = w2 at HV2 ⊢
  go_wp2_with fail
  refine (value_one rb s a far m w2 HV2.out.rd ha hs HV2.out.en HQ2.out).mono ?_
  rintro e w9 ⟨x, rfl, ho9⟩
  have HO9 := Lib.hid ho9
  have HK9 := Lib.hid (blk_gr HV2.out.bk ho9.gr (show w.heap.size ≠ rb by omega))
  have e9 := fun i => HK9.out.cell i
  have f9 := fun i => HK9.out.frozen i
  clear ho9
  unfold vN
  go_wp2_with fail
  obtain ⟨⟨r0, r1, r2, r3, r4⟩, hOut⟩ := HO9.out.via HV2.out.gr hrb HV2.out.bk _ rfl
  refine bodyPost_ret (v := vN x) (by simp [results, Tryz.results119, go_sem, r0, r1, r2, r3, r4, vN]) rfl ⟨_, rfl, ?_⟩
  rw [HO.out]
  exact hOut
end Go.Proofs.YtbdcimakdiegnaaGreatDoor
