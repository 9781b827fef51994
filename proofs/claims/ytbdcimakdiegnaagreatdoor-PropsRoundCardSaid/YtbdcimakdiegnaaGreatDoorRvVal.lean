/-
  DERIVED. The walk of prop.reader's value. Conditions: sizes; tables are laid. By an AI agent.
-/
import Derived.Test.YtbdcimakdiegnaaGreatDoorRvList
namespace Go.Proofs.YtbdcimakdiegnaaGreatDoor
open Go.RowKit

set_option maxHeartbeats 2000000 in
set_option maxRecDepth 100000 in
theorem value_any (rb : Nat) (s : ByteArray) (a : Nat) (far : Bool) (m : Int) (w : World) (h : RdM w rb s a false far) (ha : a ≤ s.size) (hs : s.size ≤ 400000) (hm : En m w) :
    Calls Tryz.prog 50 #[.pointer (some ⟨rb, 0, none⟩)] w fun e w' => ∃ v : Vl × Value, e = .returned (AV v) ∧ RdOut2 (rdVal (rs s a)) rb s far w v w' := by
  cases q0 : pre [91] (rs s a)
  case false =>
    unfold rdVal
    rw [q0, if_neg (by decide)]
    refine (value_one rb s a far m w h ha hs hm q0).mono ?_
    rintro e w' ⟨x, rfl, ho⟩
    exact ⟨(x, .slice none 0 0), rfl, ho.two⟩
  case true =>
  obtain ⟨r, hr0⟩ := pre_eq q0
  have Q1 : Hid (pre (⟨#[121, 101, 115]⟩ : ByteArray).data.toList (rs s a) = false) := by
    show pre [121, 101, 115] _ = _
    rw [hr0]; rfl
  have Q2 : Hid (pre (⟨#[110, 111]⟩ : ByteArray).data.toList (rs s a) = false) := by
    show pre [110, 111] _ = _
    rw [hr0]; rfl
  have Q3 : Hid (pre (⟨#[34]⟩ : ByteArray).data.toList (rs s a) = false) := by
    show pre [34] _ = _
    rw [hr0]; rfl
  have Q91 : Hid (pre (⟨#[91]⟩ : ByteArray).data.toList (rs s a) = true) := q0
  have hat : a + 1 ≤ s.size := rs_pre q0 ha
  have hrb := Blk.lt h
  obtain ⟨X, hX, hr, hK, hg, hz⟩ := start5 h
  have HV := Lib.hid (show VR m w rb s a far X from ⟨hr, hK, hg, hm.gr h hg⟩)
  have HX := Lib.hid hX
  obtain ⟨o, ho⟩ : ∃ o, o = rdVal (rs s a) := ⟨_, rfl⟩
  rw [← ho]
  unfold rdVal at ho
  rw [q0, if_pos rfl] at ho
  clear h hX hr hK hg hm q0 hr0
  cases q2 : pre [91, 91] (rs s a)
  case false =>
    have Q9 : Hid (pre (⟨#[91, 91]⟩ : ByteArray).data.toList (rs s a) = false) := q2
    rw [q2, if_neg (by simp), rs_drop] at ho
    have HO := Lib.hid ho
    clear ho q2
    go_enter Tryz.func50, Tryz.ntmps50
    go_upto_region 1 with fail
    rw [← HX.out]
    go_wp2_with fail
    refine (take_no rb s ⟨#[121, 101, 115]⟩ a false far X HV.out.rd ha hs Q1.out).mono ?_
    rintro e wz ⟨rfl, nz, rfl⟩
    have HV1 := Lib.hid (HV.out.drewN nz)
    generalize X.drewN nz = w1 at HV1 ⊢
    go_wp2_with fail
    refine (take_no rb s ⟨#[110, 111]⟩ a false far w1 HV1.out.rd ha hs Q2.out).mono ?_
    rintro e wz ⟨rfl, nz, rfl⟩
    have HV2 := Lib.hid (HV1.out.drewN nz)
    generalize w1.drewN nz = w2 at HV2 ⊢
    go_wp2_with fail
    refine (take_no rb s ⟨#[34]⟩ a false far w2 HV2.out.rd ha hs Q3.out).mono ?_
    rintro e wz ⟨rfl, nz, rfl⟩
    have HV3 := Lib.hid (HV2.out.drewN nz)
    generalize w2.drewN nz = w3 at HV3 ⊢
    go_wp2_with fail
    refine (has_any rb s ⟨#[91, 91]⟩ a false far w3 HV3.out.rd ha hs false Q9.out).mono ?_
    rintro e wz ⟨rfl, nz, rfl⟩
    have HV4 := Lib.hid (HV3.out.drewN nz)
    generalize w3.drewN nz = w4 at HV4 ⊢
    go_wp2_with fail
    refine (take_yes rb s ⟨#[91]⟩ a false far w4 HV4.out.rd ha hs Q91.out).mono ?_
    rintro e w5 ⟨rfl, hry, hgy⟩
    have HV5 : Hid (VR m w rb s (a + 1) far w5) := HV4.out.step hrb hgy hry
    clear hry hgy
    go_wp2_with fail
    refine (list_any rb s (a + 1) far m w5 HV5.out.rd hat hs HV5.out.en).mono ?_
    rintro e w9 ⟨⟨⟨kx, ix, tx, sx, lx⟩, vx⟩, rfl, ho9⟩
    obtain ⟨Ax, nx, cx, rfl⟩ := ho9.mem.slice
    have HO9 := Lib.hid ho9
    have HK9 := Lib.hid (blk_gr HV5.out.bk ho9.gr (show w.heap.size ≠ rb by omega))
    have e9 := fun i => HK9.out.cell i
    have f9 := fun i => HK9.out.frozen i
    clear ho9
    dsimp only [AV, Vl.kind, Vl.int_, Vl.to_, Vl.text]
    go_wp2_with fail
    obtain ⟨⟨r0, r1, r2, r3, r4⟩, hOut⟩ := HO9.out.via HV5.out.gr hrb HV5.out.bk.lt HV5.out.bk _ rfl
    dsimp only [Vl.kind, Vl.int_, Vl.to_, Vl.text] at r0 r1 r2 r3 r4
    refine bodyPost_ret (v := AV (.mk kx ix tx sx lx, .slice Ax nx cx)) (by simp [results, Tryz.results50, go_sem, r0, r1, r2, r3, r4, AV, Vl.kind, Vl.int_, Vl.to_, Vl.text]) rfl ⟨_, rfl, ?_⟩
    rw [HO.out]
    exact hOut
  case true =>
  have Q9 : Hid (pre (⟨#[91, 91]⟩ : ByteArray).data.toList (rs s a) = true) := q2
  cases q3 : pre [91, 91, 91] (rs s a)
  case true =>
    have Q10 : Hid (pre (⟨#[91, 91, 91]⟩ : ByteArray).data.toList (rs s a) = true) := q3
    rw [q2, q3, if_neg (by simp), rs_drop] at ho
    have HO := Lib.hid ho
    clear ho q2 q3
    go_enter Tryz.func50, Tryz.ntmps50
    go_upto_region 1 with fail
    rw [← HX.out]
    go_wp2_with fail
    refine (take_no rb s ⟨#[121, 101, 115]⟩ a false far X HV.out.rd ha hs Q1.out).mono ?_
    rintro e wz ⟨rfl, nz, rfl⟩
    have HV1 := Lib.hid (HV.out.drewN nz)
    generalize X.drewN nz = w1 at HV1 ⊢
    go_wp2_with fail
    refine (take_no rb s ⟨#[110, 111]⟩ a false far w1 HV1.out.rd ha hs Q2.out).mono ?_
    rintro e wz ⟨rfl, nz, rfl⟩
    have HV2 := Lib.hid (HV1.out.drewN nz)
    generalize w1.drewN nz = w2 at HV2 ⊢
    go_wp2_with fail
    refine (take_no rb s ⟨#[34]⟩ a false far w2 HV2.out.rd ha hs Q3.out).mono ?_
    rintro e wz ⟨rfl, nz, rfl⟩
    have HV3 := Lib.hid (HV2.out.drewN nz)
    generalize w2.drewN nz = w3 at HV3 ⊢
    go_wp2_with fail
    refine (has_any rb s ⟨#[91, 91]⟩ a false far w3 HV3.out.rd ha hs true Q9.out).mono ?_
    rintro e wz ⟨rfl, nz, rfl⟩
    have HVa := Lib.hid (HV3.out.drewN nz)
    generalize w3.drewN nz = wa at HVa ⊢
    go_wp2_with fail
    refine (has_any rb s ⟨#[91, 91, 91]⟩ a false far wa HVa.out.rd ha hs true Q10.out).mono ?_
    rintro e wz ⟨rfl, nz, rfl⟩
    have HV4 := Lib.hid (HVa.out.drewN nz)
    generalize wa.drewN nz = w4 at HV4 ⊢
    go_wp2_with fail
    refine (take_yes rb s ⟨#[91]⟩ a false far w4 HV4.out.rd ha hs Q91.out).mono ?_
    rintro e w5 ⟨rfl, hry, hgy⟩
    have HV5 : Hid (VR m w rb s (a + 1) far w5) := HV4.out.step hrb hgy hry
    clear hry hgy
    go_wp2_with fail
    refine (list_any rb s (a + 1) far m w5 HV5.out.rd hat hs HV5.out.en).mono ?_
    rintro e w9 ⟨⟨⟨kx, ix, tx, sx, lx⟩, vx⟩, rfl, ho9⟩
    obtain ⟨Ax, nx, cx, rfl⟩ := ho9.mem.slice
    have HO9 := Lib.hid ho9
    have HK9 := Lib.hid (blk_gr HV5.out.bk ho9.gr (show w.heap.size ≠ rb by omega))
    have e9 := fun i => HK9.out.cell i
    have f9 := fun i => HK9.out.frozen i
    clear ho9
    dsimp only [AV, Vl.kind, Vl.int_, Vl.to_, Vl.text]
    go_wp2_with fail
    obtain ⟨⟨r0, r1, r2, r3, r4⟩, hOut⟩ := HO9.out.via HV5.out.gr hrb HV5.out.bk.lt HV5.out.bk _ rfl
    dsimp only [Vl.kind, Vl.int_, Vl.to_, Vl.text] at r0 r1 r2 r3 r4
    refine bodyPost_ret (v := AV (.mk kx ix tx sx lx, .slice Ax nx cx)) (by simp [results, Tryz.results50, go_sem, r0, r1, r2, r3, r4, AV, Vl.kind, Vl.int_, Vl.to_, Vl.text]) rfl ⟨_, rfl, ?_⟩
    rw [HO.out]
    exact hOut
  case false =>
  have Q10 : Hid (pre (⟨#[91, 91, 91]⟩ : ByteArray).data.toList (rs s a) = false) := q3
  rw [q2, q3, if_pos (by simp)] at ho
  have HO := Lib.hid ho
  clear ho q2 q3
  go_enter Tryz.func50, Tryz.ntmps50
  go_upto_region 1 with fail
  rw [← HX.out]
  go_wp2_with fail
  refine (take_no rb s ⟨#[121, 101, 115]⟩ a false far X HV.out.rd ha hs Q1.out).mono ?_
  rintro e wz ⟨rfl, nz, rfl⟩
  have HV1 := Lib.hid (HV.out.drewN nz)
  generalize X.drewN nz = w1 at HV1 ⊢
  go_wp2_with fail
  refine (take_no rb s ⟨#[110, 111]⟩ a false far w1 HV1.out.rd ha hs Q2.out).mono ?_
  rintro e wz ⟨rfl, nz, rfl⟩
  have HV2 := Lib.hid (HV1.out.drewN nz)
  generalize w1.drewN nz = w2 at HV2 ⊢
  go_wp2_with fail
  refine (take_no rb s ⟨#[34]⟩ a false far w2 HV2.out.rd ha hs Q3.out).mono ?_
  rintro e wz ⟨rfl, nz, rfl⟩
  have HV3 := Lib.hid (HV2.out.drewN nz)
  generalize w2.drewN nz = w3 at HV3 ⊢
  go_wp2_with fail
  refine (has_any rb s ⟨#[91, 91]⟩ a false far w3 HV3.out.rd ha hs true Q9.out).mono ?_
  rintro e wz ⟨rfl, nz, rfl⟩
  have HVa := Lib.hid (HV3.out.drewN nz)
  generalize w3.drewN nz = wa at HVa ⊢
  go_wp2_with fail
  refine (has_any rb s ⟨#[91, 91, 91]⟩ a false far wa HVa.out.rd ha hs false Q10.out).mono ?_
  rintro e wz ⟨rfl, nz, rfl⟩
  have HV4 := Lib.hid (HVa.out.drewN nz)
  generalize wa.drewN nz = w4 at HV4 ⊢
  go_wp2_with fail
  refine (link_any rb s a far m w4 HV4.out.rd ha hs HV4.out.en.ml).mono ?_
  rintro e w9 ⟨x, rfl, ho9⟩
  have HO9 := Lib.hid ho9
  have HK9 := Lib.hid (blk_gr HV4.out.bk ho9.gr (show w.heap.size ≠ rb by omega))
  have e9 := fun i => HK9.out.cell i
  have f9 := fun i => HK9.out.frozen i
  clear ho9
  unfold vN
  go_wp2_with fail
  obtain ⟨⟨r0, r1, r2, r3, r4⟩, hOut⟩ := HO9.out.via HV4.out.gr hrb HV4.out.bk _ rfl
  refine bodyPost_ret (v := AV (x, .slice none 0 0)) (by simp [results, Tryz.results50, go_sem, r0, r1, r2, r3, r4, AV]) rfl ⟨_, rfl, ?_⟩
  rw [HO.out]
  exact hOut.two
end Go.Proofs.YtbdcimakdiegnaaGreatDoor
