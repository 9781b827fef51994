/-
  DERIVED. The walk of the reference's StampedError: octets typed. Conditions: sizes. By an AI agent.
-/
import Derived.Test.YtinllchioeldbaaGreatDoorCa22
import Derived.Test.YtinllchioeldbaaGreatDoorCa08
namespace Go.Proofs.YtinllchioeldbaaGreatDoor
open Go.RowKit

set_option maxHeartbeats 4000000 in
set_option maxRecDepth 100000 in
theorem stamped_k4 (o : COp) (As Ai : Option Addr) (ns cs ni ci : Nat) (w : World) (B : Nat) (hB : B ≤ w.heap.size) (h : RC1 w B ⟨o, .slice As ns cs, .slice Ai ni ci⟩) (hk : o.kind = 4) :
    Calls Tryz.prog 7 #[CA ⟨o, .slice As ns cs, .slice Ai ni ci⟩] w fun e w' => e = .returned (.int .i64 (cE o)) ∧ Below w.heap.size w w' := by
  obtain ⟨hs, ⟨d, hv⟩, hci⟩ := h
  dsimp only at hs hv hci
  obtain ⟨hn, _, hn8⟩ := hs.len
  have H1 := Lib.hid fun W => stampRange_any o.st W
  have HR := Lib.hid fun a b c W => inRangeO_any a b c W
  have HZ : Hid (∀ W, Below w.heap.size w W → Calls Tryz.prog 22 #[AV (o.val, .slice Ai ni ci)] W fun e w' => e = .returned (.bool (noV o.val)) ∧ Below W.heap.size W w') := fun W hW => zero_any o.val Ai ni ci W B (Nat.le_trans hB hW.size) ⟨d, hv.below (hW.mono hB)⟩
  obtain ⟨E, hE⟩ : ∃ E, E = cE o := ⟨_, rfl⟩
  rw [← hE]
  unfold cE cFormB aftZ at hE
  rw [← hn, hk] at hE
  obtain ⟨s, hs1⟩ : ∃ q, q = stOk o.st := ⟨_, rfl⟩
  obtain ⟨p, hp1⟩ : ∃ q, q = outI o.id 1 1000000 := ⟨_, rfl⟩
  obtain ⟨nv, hnv⟩ : ∃ q, q = noV o.val := ⟨_, rfl⟩
  have HP : Hid (∀ W, Calls Tryz.prog 21 #[.int .i64 o.id, .int .i64 1, .int .i64 1000000] W fun e w' => e = .returned (.bool (!p)) ∧ w' = W) := fun W => by rw [hp1]; exact HR.out _ _ _ W
  rw [← hs1, ← hp1, ← hnv] at hE
  rw [← hs1] at H1
  rw [← hnv] at HZ
  clear hs1 hp1 hnv
  have HTB : Hid (¬ ((500 : Int) < (o.oct.size : Int)) → ∀ W, Calls Tryz.prog 24 #[.string o.oct] W fun e w' => e = .returned (.bool (ctl o.oct)) ∧ W = w') := fun h W => below_any o.oct W (by omega)
  have H5 := Lib.hid fun W => goodSpot_any o.aft o.st W
  have HEM : o.oct.toList.isEmpty = decide ((o.oct.size : Int) < 1) := by
    rw [ByteArray.toList_eq, Bool.eq_iff_iff]
    simp only [decide_eq_true_eq, List.isEmpty_iff]
    rw [← List.length_eq_zero_iff, show o.oct.data.toList.length = o.oct.size from by simp]
    omega
  unfold cTyE aftZ at hE
  obtain ⟨r, hr⟩ : ∃ q, q = sptOk o.aft o.st := ⟨_, rfl⟩
  obtain ⟨ct, hct⟩ : ∃ q, q = ctl o.oct := ⟨_, rfl⟩
  rw [← hr, ← hct] at hE
  rw [← hr] at H5
  rw [← hct] at HTB
  clear hr hct hs hv hn hci
  obtain ⟨⟨t0, t1⟩, k, id, pa, le, ⟨⟨a0, a1⟩, a2⟩, oc, sp, nm, ⟨vk, vi, vt, vs, vl⟩⟩ := o
  obtain rfl : k = 4 := hk
  dsimp only [CA, stA, AV, Vl.kind, Vl.int_, Vl.to_, Vl.text, Vl.items] at H1 HZ HP hE HTB H5 HEM ⊢
  obtain ⟨q1, g1⟩ : ∃ q, (pa != 0) = q := ⟨_, rfl⟩
  obtain ⟨q2, g2⟩ : ∃ q, (le != 0) = q := ⟨_, rfl⟩
  obtain ⟨z0, g30⟩ : ∃ q, (a0 == 0) = q := ⟨_, rfl⟩
  obtain ⟨z1, g31⟩ : ∃ q, (a1 == 0) = q := ⟨_, rfl⟩
  obtain ⟨z2, g32⟩ : ∃ q, (a2 == 0) = q := ⟨_, rfl⟩
  obtain ⟨q4, g4⟩ : ∃ q, oc.toList.isEmpty = q := ⟨_, rfl⟩
  obtain ⟨q5, g5⟩ : ∃ q, decide (0 < (ns : Int)) = q := ⟨_, rfl⟩
  obtain ⟨q6, g6⟩ : ∃ q, nm.toList.isEmpty = q := ⟨_, rfl⟩
  have HEM' : decide ((oc.size : Int) < 1) = q4 := by rw [← HEM]; exact g4
  have g5' : decide (0 < ns) = q5 := by rw [← g5]; simp
  rw [g1, g2, g30, g31, g32, g4, g5, g6] at hE
  simp only [show ((4 : Int) == 1) = false from rfl, show ((4 : Int) == 2) = false from rfl, show ((4 : Int) == 4) = true from rfl, show ((4 : Int) == 5) = false from rfl, show ((4 : Int) == 6) = false from rfl, show ((4 : Int) != 1) = true from rfl, show ((4 : Int) != 4) = false from rfl, show ((4 : Int) != 5) = true from rfl, show ((4 : Int) != 6) = true from rfl, show outI 4 1 6 = false from rfl, Bool.false_or, Bool.or_false, Bool.not_false, Bool.false_and, Bool.true_and, Bool.and_false, Bool.false_eq_true, if_false, if_true] at hE
  have HE0 := Lib.hid hE
  clear hE
  have HR6 : Hid (∀ W, Calls Tryz.prog 21 #[.int .i64 4, .int .i64 1, .int .i64 6] W fun e w' => e = .returned (.bool true) ∧ w' = W) := fun W => HR.out 4 1 6 W
  go_enter Tryz.func7, Tryz.ntmps7
  go_upto_region 1 with fail
  have KX := Blk.new w 33 #[.int .i64 t0, .int .i64 t1, .int .i64 4, .int .i64 id, .int .i64 pa, .int .i64 le, .int .i64 a0, .int .i64 a1, .int .i64 a2, .string oc, .slice As ns cs, .string nm, .int .i64 vk, .int .i64 vi, .int .i64 vt, .string vs, .slice Ai ni ci]
  have hbX : Below w.heap.size w (w.alloc (.cells #[.int .i64 t0, .int .i64 t1, .int .i64 4, .int .i64 id, .int .i64 pa, .int .i64 le, .int .i64 a0, .int .i64 a1, .int .i64 a2, .string oc, .slice As ns cs, .string nm, .int .i64 vk, .int .i64 vi, .int .i64 vt, .string vs, .slice Ai ni ci] 33)) := (Below.refl _ _).alloc (Nat.le_refl _) _
  generalize (w.alloc (.cells #[.int .i64 t0, .int .i64 t1, .int .i64 4, .int .i64 id, .int .i64 pa, .int .i64 le, .int .i64 a0, .int .i64 a1, .int .i64 a2, .string oc, .slice As ns cs, .string nm, .int .i64 vk, .int .i64 vi, .int .i64 vt, .string vs, .slice Ai ni ci] 33)) = X at KX hbX ⊢
  have x0 : X.cell? ⟨w.heap.size, 0, none⟩ = some (.int .i64 t0) := KX.cell 0
  have x1 : X.cell? ⟨w.heap.size, 1, none⟩ = some (.int .i64 t1) := KX.cell 1
  have x2 : X.cell? ⟨w.heap.size, 2, none⟩ = some (.int .i64 4) := KX.cell 2
  have x3 : X.cell? ⟨w.heap.size, 3, none⟩ = some (.int .i64 id) := KX.cell 3
  have x4 : X.cell? ⟨w.heap.size, 4, none⟩ = some (.int .i64 pa) := KX.cell 4
  have x5 : X.cell? ⟨w.heap.size, 5, none⟩ = some (.int .i64 le) := KX.cell 5
  have x6 : X.cell? ⟨w.heap.size, 6, none⟩ = some (.int .i64 a0) := KX.cell 6
  have x7 : X.cell? ⟨w.heap.size, 7, none⟩ = some (.int .i64 a1) := KX.cell 7
  have x8 : X.cell? ⟨w.heap.size, 8, none⟩ = some (.int .i64 a2) := KX.cell 8
  have x9 : X.cell? ⟨w.heap.size, 9, none⟩ = some (.string oc) := KX.cell 9
  have x10 : X.cell? ⟨w.heap.size, 10, none⟩ = some (.slice As ns cs) := KX.cell 10
  have x11 : X.cell? ⟨w.heap.size, 11, none⟩ = some (.string nm) := KX.cell 11
  have x12 : X.cell? ⟨w.heap.size, 12, none⟩ = some (.int .i64 vk) := KX.cell 12
  have x13 : X.cell? ⟨w.heap.size, 13, none⟩ = some (.int .i64 vi) := KX.cell 13
  have x14 : X.cell? ⟨w.heap.size, 14, none⟩ = some (.int .i64 vt) := KX.cell 14
  have x15 : X.cell? ⟨w.heap.size, 15, none⟩ = some (.string vs) := KX.cell 15
  have x16 : X.cell? ⟨w.heap.size, 16, none⟩ = some (.slice Ai ni ci) := KX.cell 16
  have HKX := Lib.hid KX
  have HBX := Lib.hid hbX
  clear KX hbX HR
  go_wp2_with fail
  refine (H1.out _).mono ?_
  rintro e w1 ⟨rfl, hb1⟩
  have K1 := HKX.out.below hb1 HKX.out.lt
  have HB1 : Hid (Below w.heap.size w w1) := HBX.out.trans (hb1.mono HBX.out.size)
  clear x0 x1 x2 x3 x4 x5 x6 x7 x8 x9 x10 x11 x12 x13 x14 x15 x16 hb1
  cases s
  case false =>
    have HV := Lib.hid (HE0.out.trans (if_pos rfl))
    go_wp2_with fail
    go_ret
    exact ⟨by rw [HV.out]; rfl, HB1.out⟩
  have HE1 := Lib.hid (HE0.out.trans (if_neg (by decide)))
  clear HE0 HKX HBX
  have x0 : w1.cell? ⟨w.heap.size, 0, none⟩ = some (.int .i64 t0) := K1.cell 0
  have x1 : w1.cell? ⟨w.heap.size, 1, none⟩ = some (.int .i64 t1) := K1.cell 1
  have x2 : w1.cell? ⟨w.heap.size, 2, none⟩ = some (.int .i64 4) := K1.cell 2
  have x3 : w1.cell? ⟨w.heap.size, 3, none⟩ = some (.int .i64 id) := K1.cell 3
  have x4 : w1.cell? ⟨w.heap.size, 4, none⟩ = some (.int .i64 pa) := K1.cell 4
  have x5 : w1.cell? ⟨w.heap.size, 5, none⟩ = some (.int .i64 le) := K1.cell 5
  have x6 : w1.cell? ⟨w.heap.size, 6, none⟩ = some (.int .i64 a0) := K1.cell 6
  have x7 : w1.cell? ⟨w.heap.size, 7, none⟩ = some (.int .i64 a1) := K1.cell 7
  have x8 : w1.cell? ⟨w.heap.size, 8, none⟩ = some (.int .i64 a2) := K1.cell 8
  have x9 : w1.cell? ⟨w.heap.size, 9, none⟩ = some (.string oc) := K1.cell 9
  have x10 : w1.cell? ⟨w.heap.size, 10, none⟩ = some (.slice As ns cs) := K1.cell 10
  have x11 : w1.cell? ⟨w.heap.size, 11, none⟩ = some (.string nm) := K1.cell 11
  have x12 : w1.cell? ⟨w.heap.size, 12, none⟩ = some (.int .i64 vk) := K1.cell 12
  have x13 : w1.cell? ⟨w.heap.size, 13, none⟩ = some (.int .i64 vi) := K1.cell 13
  have x14 : w1.cell? ⟨w.heap.size, 14, none⟩ = some (.int .i64 vt) := K1.cell 14
  have x15 : w1.cell? ⟨w.heap.size, 15, none⟩ = some (.string vs) := K1.cell 15
  have x16 : w1.cell? ⟨w.heap.size, 16, none⟩ = some (.slice Ai ni ci) := K1.cell 16
  have HK1 := Lib.hid K1
  clear K1
  go_wp2_with fail
  refine (HR6.out _).mono ?_
  rintro e w2 ⟨rfl, hw2⟩
  obtain rfl : w1 = w2 := hw2.symm
  go_upto_region 7 with fail
  go_cut [90] (fun s90 wc => s90 = .bool ((q1 || q2) || (q5 || (!q6 || !nv))) ∧ Hid (Below w.heap.size w wc) ∧ Hid (Blk wc w.heap.size 33 #[.int .i64 t0, .int .i64 t1, .int .i64 4, .int .i64 id, .int .i64 pa, .int .i64 le, .int .i64 a0, .int .i64 a1, .int .i64 a2, .string oc, .slice As ns cs, .string nm, .int .i64 vk, .int .i64 vi, .int .i64 vt, .string vs, .slice Ai ni ci]))
  case first =>
    go_wp2_with (go_at_call 22; refine (HZ.out _ HB1.out).mono ?_; rintro e w3 ⟨rfl, hb3⟩; have HB3 : Hid (Below w.heap.size w w3) := HB1.out.trans (hb3.mono HB1.out.size); have K3 := Lib.hid (HK1.out.below hb3 HK1.out.lt); clear hb3)
    all_goals
      go_meet
      exact ⟨by simp_all, by first | exact ⟨HB3, K3⟩ | exact ⟨HB1, HK1⟩⟩
  case rest =>
  clear x0 x1 x2 x3 x4 x5 x6 x7 x8 x9 x10 x11 x12 x13 x14 x15 x16
  obtain ⟨rfl, HB2, HK2⟩ := hcut
  obtain ⟨F, eF⟩ : ∃ q, ((q1 || q2) || (q5 || (!q6 || !nv))) = q := ⟨_, rfl⟩
  rw [eF] at HE1
  rw [eF]
  have HF := Lib.hid eF
  clear eF HB1 HK1 HZ H1 HR6
  cases F
  case true =>
    have HV := Lib.hid (HE1.out.trans (if_pos rfl))
    go_wp2_with fail
    go_ret
    exact ⟨by rw [HV.out]; rfl, HB2.out⟩
  have HE2 := Lib.hid (HE1.out.trans (if_neg (by decide)))
  clear HE1
  have x0 : wc.cell? ⟨w.heap.size, 0, none⟩ = some (.int .i64 t0) := HK2.out.cell 0
  have x1 : wc.cell? ⟨w.heap.size, 1, none⟩ = some (.int .i64 t1) := HK2.out.cell 1
  have x2 : wc.cell? ⟨w.heap.size, 2, none⟩ = some (.int .i64 4) := HK2.out.cell 2
  have x3 : wc.cell? ⟨w.heap.size, 3, none⟩ = some (.int .i64 id) := HK2.out.cell 3
  have x4 : wc.cell? ⟨w.heap.size, 4, none⟩ = some (.int .i64 pa) := HK2.out.cell 4
  have x5 : wc.cell? ⟨w.heap.size, 5, none⟩ = some (.int .i64 le) := HK2.out.cell 5
  have x6 : wc.cell? ⟨w.heap.size, 6, none⟩ = some (.int .i64 a0) := HK2.out.cell 6
  have x7 : wc.cell? ⟨w.heap.size, 7, none⟩ = some (.int .i64 a1) := HK2.out.cell 7
  have x8 : wc.cell? ⟨w.heap.size, 8, none⟩ = some (.int .i64 a2) := HK2.out.cell 8
  have x9 : wc.cell? ⟨w.heap.size, 9, none⟩ = some (.string oc) := HK2.out.cell 9
  have x10 : wc.cell? ⟨w.heap.size, 10, none⟩ = some (.slice As ns cs) := HK2.out.cell 10
  have x11 : wc.cell? ⟨w.heap.size, 11, none⟩ = some (.string nm) := HK2.out.cell 11
  have x12 : wc.cell? ⟨w.heap.size, 12, none⟩ = some (.int .i64 vk) := HK2.out.cell 12
  have x13 : wc.cell? ⟨w.heap.size, 13, none⟩ = some (.int .i64 vi) := HK2.out.cell 13
  have x14 : wc.cell? ⟨w.heap.size, 14, none⟩ = some (.int .i64 vt) := HK2.out.cell 14
  have x15 : wc.cell? ⟨w.heap.size, 15, none⟩ = some (.string vs) := HK2.out.cell 15
  have x16 : wc.cell? ⟨w.heap.size, 16, none⟩ = some (.slice Ai ni ci) := HK2.out.cell 16
  go_wp2_with fail
  refine (HP.out _).mono ?_
  rintro e w3 ⟨rfl, hw3⟩
  obtain rfl : wc = w3 := hw3.symm
  cases p
  case true =>
    have HV := Lib.hid (HE2.out.trans (if_pos rfl))
    go_wp2_with fail
    go_ret
    exact ⟨by rw [HV.out]; rfl, HB2.out⟩
  have HE3 := Lib.hid (HE2.out.trans (if_neg (by decide)))
  clear HE2
  clear HF
  cases q4
  case true =>
    have HV := Lib.hid (HE3.out.trans (if_pos (by simp)))
    go_wp2_with fail
    go_ret
    exact ⟨by rw [HV.out]; rfl, HB2.out⟩
  by_cases hbig : (500 : Int) < (oc.size : Int)
  · have HV := Lib.hid (HE3.out.trans (if_pos (by simp [hbig])))
    go_wp2_with fail
    go_ret
    exact ⟨by rw [HV.out]; rfl, HB2.out⟩
  have HE4 := Lib.hid (HE3.out.trans (if_neg (by simp [hbig])))
  have HTC := Lib.hid (HTB.out (by omega))
  clear HE3 HTB
  go_wp2_with fail
  refine (HTC.out _).mono ?_
  rintro e w4 ⟨rfl, hw4⟩
  obtain rfl : wc = w4 := hw4
  cases ct
  case true =>
    have HV := Lib.hid (HE4.out.trans (if_pos rfl))
    go_wp2_with fail
    go_ret
    exact ⟨by rw [HV.out]; rfl, HB2.out⟩
  have HE5 := Lib.hid (HE4.out.trans (if_neg (by decide)))
  clear HE4
  go_upto_region 25 with fail
  go_cut [163] (fun s163 wd => s163 = .bool (!(z0 && z1 && z2) && !r) ∧ Hid (Below w.heap.size w wd))
  case first =>
    cases z0 <;> cases z1 <;> cases z2
    all_goals
      go_wp2_with (go_at_call 25; refine (H5.out _).mono ?_; rintro e w5 ⟨rfl, hb5⟩; have HB5 : Hid (Below w.heap.size w w5) := HB2.out.trans (hb5.mono HB2.out.size); clear hb5)
      go_meet
      exact ⟨by simp, by first | exact HB5 | exact HB2⟩
  case rest =>
  obtain ⟨rfl, HB6⟩ := hcut
  obtain ⟨b1, eb1⟩ : ∃ q, (!(z0 && z1 && z2) && !r) = q := ⟨_, rfl⟩
  rw [eb1] at HE5
  rw [eb1]
  clear eb1
  cases b1
  case true =>
    have HV := Lib.hid (HE5.out.trans (if_pos rfl))
    go_wp2_with fail
    go_ret
    exact ⟨by rw [HV.out]; rfl, HB6.out⟩
  have HV := Lib.hid (HE5.out.trans (if_neg (by decide)))
  go_wp2_with fail
  go_ret
  exact ⟨by rw [HV.out]; rfl, HB6.out⟩
end Go.Proofs.YtinllchioeldbaaGreatDoor
