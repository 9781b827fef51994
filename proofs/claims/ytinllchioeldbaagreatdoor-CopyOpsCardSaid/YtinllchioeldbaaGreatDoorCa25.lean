/-
  DERIVED. The walk of the reference's StampedError: kinds 3 and 6. Conditions: sizes.
  By an AI agent.
-/
import Derived.Test.YtinllchioeldbaaGreatDoorCa22
import Derived.Test.YtinllchioeldbaaGreatDoorCa09
namespace Go.Proofs.YtinllchioeldbaaGreatDoor
open Go.RowKit

set_option maxHeartbeats 4000000 in
set_option maxRecDepth 100000 in
theorem stamped_k3 (o : COp) (As Ai : Option Addr) (ns cs ni ci : Nat) (w : World) (B : Nat) (hB : B ≤ w.heap.size) (h : RC1 w B ⟨o, .slice As ns cs, .slice Ai ni ci⟩) (hk : o.kind = 3) :
    Calls Tryz.prog 7 #[CA ⟨o, .slice As ns cs, .slice Ai ni ci⟩] w fun e w' => e = .returned (.int .i64 (cE o)) ∧ Below w.heap.size w w' := by
  obtain ⟨hs, ⟨d, hv⟩, hci⟩ := h
  dsimp only at hs hv hci
  obtain ⟨hn, _, hn8⟩ := hs.len
  have H1 := Lib.hid fun W => stampRange_any o.st W
  have HR := Lib.hid fun a b c W => inRangeO_any a b c W
  have HZ : Hid (∀ W, Below w.heap.size w W → Calls Tryz.prog 22 #[AV (o.val, .slice Ai ni ci)] W fun e w' => e = .returned (.bool (noV o.val)) ∧ Below W.heap.size W w') := fun W hW => zero_any o.val Ai ni ci W B (Nat.le_trans hB hW.size) ⟨d, hv.below (hW.mono hB)⟩
  obtain ⟨E, hE⟩ : ∃ E, E = cE o := ⟨_, rfl⟩
  rw [← hE]
  unfold cE cFormB aftZ at hE
  rw [← hn, hk] at hE
  obtain ⟨s, hs1⟩ : ∃ q, q = stOk o.st := ⟨_, rfl⟩
  obtain ⟨p, hp1⟩ : ∃ q, q = outI o.id 1 1000000 := ⟨_, rfl⟩
  obtain ⟨nv, hnv⟩ : ∃ q, q = noV o.val := ⟨_, rfl⟩
  have HP : Hid (∀ W, Calls Tryz.prog 21 #[.int .i64 o.id, .int .i64 1, .int .i64 1000000] W fun e w' => e = .returned (.bool (!p)) ∧ w' = W) := fun W => by rw [hp1]; exact HR.out _ _ _ W
  rw [← hs1, ← hp1, ← hnv] at hE
  rw [← hs1] at H1
  rw [← hnv] at HZ
  clear hs1 hp1 hnv
  clear hs hv hn hci
  obtain ⟨⟨t0, t1⟩, k, id, pa, le, ⟨⟨a0, a1⟩, a2⟩, oc, sp, nm, ⟨vk, vi, vt, vs, vl⟩⟩ := o
  obtain rfl : k = 3 := hk
  dsimp only [CA, stA, AV, Vl.kind, Vl.int_, Vl.to_, Vl.text, Vl.items] at H1 HZ HP hE ⊢
  obtain ⟨q1, g1⟩ : ∃ q, (pa != 0) = q := ⟨_, rfl⟩
  obtain ⟨q2, g2⟩ : ∃ q, (le != 0) = q := ⟨_, rfl⟩
  obtain ⟨z0, g30⟩ : ∃ q, (a0 == 0) = q := ⟨_, rfl⟩
  obtain ⟨z1, g31⟩ : ∃ q, (a1 == 0) = q := ⟨_, rfl⟩
  obtain ⟨z2, g32⟩ : ∃ q, (a2 == 0) = q := ⟨_, rfl⟩
  obtain ⟨q4, g4⟩ : ∃ q, oc.toList.isEmpty = q := ⟨_, rfl⟩
  obtain ⟨q5, g5⟩ : ∃ q, decide (0 < (ns : Int)) = q := ⟨_, rfl⟩
  obtain ⟨q6, g6⟩ : ∃ q, nm.toList.isEmpty = q := ⟨_, rfl⟩
  have g5' : decide (0 < ns) = q5 := by rw [← g5]; simp
  rw [g1, g2, g30, g31, g32, g4, g5, g6] at hE
  simp only [show ((3 : Int) == 1) = false from rfl, show ((3 : Int) == 2) = false from rfl, show ((3 : Int) == 4) = false from rfl, show ((3 : Int) == 5) = false from rfl, show ((3 : Int) == 6) = false from rfl, show ((3 : Int) != 1) = true from rfl, show ((3 : Int) != 4) = true from rfl, show ((3 : Int) != 5) = true from rfl, show ((3 : Int) != 6) = true from rfl, show outI 3 1 6 = false from rfl, Bool.or_false, Bool.not_false, Bool.true_and, Bool.and_true, Bool.false_eq_true, if_false] at hE
  have HE0 := Lib.hid hE
  clear hE
  have HR6 : Hid (∀ W, Calls Tryz.prog 21 #[.int .i64 3, .int .i64 1, .int .i64 6] W fun e w' => e = .returned (.bool true) ∧ w' = W) := fun W => HR.out 3 1 6 W
  go_enter Tryz.func7, Tryz.ntmps7
  go_upto_region 1 with fail
  have KX := Blk.new w 33 #[.int .i64 t0, .int .i64 t1, .int .i64 3, .int .i64 id, .int .i64 pa, .int .i64 le, .int .i64 a0, .int .i64 a1, .int .i64 a2, .string oc, .slice As ns cs, .string nm, .int .i64 vk, .int .i64 vi, .int .i64 vt, .string vs, .slice Ai ni ci]
  have hbX : Below w.heap.size w (w.alloc (.cells #[.int .i64 t0, .int .i64 t1, .int .i64 3, .int .i64 id, .int .i64 pa, .int .i64 le, .int .i64 a0, .int .i64 a1, .int .i64 a2, .string oc, .slice As ns cs, .string nm, .int .i64 vk, .int .i64 vi, .int .i64 vt, .string vs, .slice Ai ni ci] 33)) := (Below.refl _ _).alloc (Nat.le_refl _) _
  generalize (w.alloc (.cells #[.int .i64 t0, .int .i64 t1, .int .i64 3, .int .i64 id, .int .i64 pa, .int .i64 le, .int .i64 a0, .int .i64 a1, .int .i64 a2, .string oc, .slice As ns cs, .string nm, .int .i64 vk, .int .i64 vi, .int .i64 vt, .string vs, .slice Ai ni ci] 33)) = X at KX hbX ⊢
  have x0 : X.cell? ⟨w.heap.size, 0, none⟩ = some (.int .i64 t0) := KX.cell 0
  have x1 : X.cell? ⟨w.heap.size, 1, none⟩ = some (.int .i64 t1) := KX.cell 1
  have x2 : X.cell? ⟨w.heap.size, 2, none⟩ = some (.int .i64 3) := KX.cell 2
  have x3 : X.cell? ⟨w.heap.size, 3, none⟩ = some (.int .i64 id) := KX.cell 3
  have x4 : X.cell? ⟨w.heap.size, 4, none⟩ = some (.int .i64 pa) := KX.cell 4
  have x5 : X.cell? ⟨w.heap.size, 5, none⟩ = some (.int .i64 le) := KX.cell 5
  have x6 : X.cell? ⟨w.heap.size, 6, none⟩ = some (.int .i64 a0) := KX.cell 6
  have x7 : X.cell? ⟨w.heap.size, 7, none⟩ = some (.int .i64 a1) := KX.cell 7
  have x8 : X.cell? ⟨w.heap.size, 8, none⟩ = some (.int .i64 a2) := KX.cell 8
  have x9 : X.cell? ⟨w.heap.size, 9, none⟩ = some (.string oc) := KX.cell 9
  have x10 : X.cell? ⟨w.heap.size, 10, none⟩ = some (.slice As ns cs) := KX.cell 10
  have x11 : X.cell? ⟨w.heap.size, 11, none⟩ = some (.string nm) := KX.cell 11
  have x12 : X.cell? ⟨w.heap.size, 12, none⟩ = some (.int .i64 vk) := KX.cell 12
  have x13 : X.cell? ⟨w.heap.size, 13, none⟩ = some (.int .i64 vi) := KX.cell 13
  have x14 : X.cell? ⟨w.heap.size, 14, none⟩ = some (.int .i64 vt) := KX.cell 14
  have x15 : X.cell? ⟨w.heap.size, 15, none⟩ = some (.string vs) := KX.cell 15
  have x16 : X.cell? ⟨w.heap.size, 16, none⟩ = some (.slice Ai ni ci) := KX.cell 16
  have HKX := Lib.hid KX
  have HBX := Lib.hid hbX
  clear KX hbX HR
  go_wp2_with fail
  refine (H1.out _).mono ?_
  rintro e w1 ⟨rfl, hb1⟩
  have K1 := HKX.out.below hb1 HKX.out.lt
  have HB1 : Hid (Below w.heap.size w w1) := HBX.out.trans (hb1.mono HBX.out.size)
  clear x0 x1 x2 x3 x4 x5 x6 x7 x8 x9 x10 x11 x12 x13 x14 x15 x16 hb1
  cases s
  case false =>
    have HV := Lib.hid (HE0.out.trans (if_pos rfl))
    go_wp2_with fail
    go_ret
    exact ⟨by rw [HV.out]; rfl, HB1.out⟩
  have HE1 := Lib.hid (HE0.out.trans (if_neg (by decide)))
  clear HE0 HKX HBX
  have x0 : w1.cell? ⟨w.heap.size, 0, none⟩ = some (.int .i64 t0) := K1.cell 0
  have x1 : w1.cell? ⟨w.heap.size, 1, none⟩ = some (.int .i64 t1) := K1.cell 1
  have x2 : w1.cell? ⟨w.heap.size, 2, none⟩ = some (.int .i64 3) := K1.cell 2
  have x3 : w1.cell? ⟨w.heap.size, 3, none⟩ = some (.int .i64 id) := K1.cell 3
  have x4 : w1.cell? ⟨w.heap.size, 4, none⟩ = some (.int .i64 pa) := K1.cell 4
  have x5 : w1.cell? ⟨w.heap.size, 5, none⟩ = some (.int .i64 le) := K1.cell 5
  have x6 : w1.cell? ⟨w.heap.size, 6, none⟩ = some (.int .i64 a0) := K1.cell 6
  have x7 : w1.cell? ⟨w.heap.size, 7, none⟩ = some (.int .i64 a1) := K1.cell 7
  have x8 : w1.cell? ⟨w.heap.size, 8, none⟩ = some (.int .i64 a2) := K1.cell 8
  have x9 : w1.cell? ⟨w.heap.size, 9, none⟩ = some (.string oc) := K1.cell 9
  have x10 : w1.cell? ⟨w.heap.size, 10, none⟩ = some (.slice As ns cs) := K1.cell 10
  have x11 : w1.cell? ⟨w.heap.size, 11, none⟩ = some (.string nm) := K1.cell 11
  have x12 : w1.cell? ⟨w.heap.size, 12, none⟩ = some (.int .i64 vk) := K1.cell 12
  have x13 : w1.cell? ⟨w.heap.size, 13, none⟩ = some (.int .i64 vi) := K1.cell 13
  have x14 : w1.cell? ⟨w.heap.size, 14, none⟩ = some (.int .i64 vt) := K1.cell 14
  have x15 : w1.cell? ⟨w.heap.size, 15, none⟩ = some (.string vs) := K1.cell 15
  have x16 : w1.cell? ⟨w.heap.size, 16, none⟩ = some (.slice Ai ni ci) := K1.cell 16
  have HK1 := Lib.hid K1
  clear K1
  go_wp2_with fail
  refine (HR6.out _).mono ?_
  rintro e w2 ⟨rfl, hw2⟩
  obtain rfl : w1 = w2 := hw2.symm
  go_upto_region 7 with fail
  go_cut [90] (fun s90 wc => s90 = .bool ((q1 || q2) || (!(z0 && z1 && z2) || (!q4 || (q5 || (!q6 || !nv))))) ∧ Hid (Below w.heap.size w wc) ∧ Hid (Blk wc w.heap.size 33 #[.int .i64 t0, .int .i64 t1, .int .i64 3, .int .i64 id, .int .i64 pa, .int .i64 le, .int .i64 a0, .int .i64 a1, .int .i64 a2, .string oc, .slice As ns cs, .string nm, .int .i64 vk, .int .i64 vi, .int .i64 vt, .string vs, .slice Ai ni ci]))
  case first =>
    go_wp2_with (go_at_call 22; refine (HZ.out _ HB1.out).mono ?_; rintro e w3 ⟨rfl, hb3⟩; have HB3 : Hid (Below w.heap.size w w3) := HB1.out.trans (hb3.mono HB1.out.size); have K3 := Lib.hid (HK1.out.below hb3 HK1.out.lt); clear hb3)
    all_goals
      go_meet
      exact ⟨by simp_all, by first | exact ⟨HB3, K3⟩ | exact ⟨HB1, HK1⟩⟩
  case rest =>
  clear x0 x1 x2 x3 x4 x5 x6 x7 x8 x9 x10 x11 x12 x13 x14 x15 x16
  obtain ⟨rfl, HB2, HK2⟩ := hcut
  obtain ⟨F, eF⟩ : ∃ q, ((q1 || q2) || (!(z0 && z1 && z2) || (!q4 || (q5 || (!q6 || !nv))))) = q := ⟨_, rfl⟩
  rw [eF] at HE1
  rw [eF]
  have HF := Lib.hid eF
  clear eF HB1 HK1 HZ H1 HR6
  cases F
  case true =>
    have HV := Lib.hid (HE1.out.trans (if_pos rfl))
    go_wp2_with fail
    go_ret
    exact ⟨by rw [HV.out]; rfl, HB2.out⟩
  have HE2 := Lib.hid (HE1.out.trans (if_neg (by decide)))
  clear HE1
  have x0 : wc.cell? ⟨w.heap.size, 0, none⟩ = some (.int .i64 t0) := HK2.out.cell 0
  have x1 : wc.cell? ⟨w.heap.size, 1, none⟩ = some (.int .i64 t1) := HK2.out.cell 1
  have x2 : wc.cell? ⟨w.heap.size, 2, none⟩ = some (.int .i64 3) := HK2.out.cell 2
  have x3 : wc.cell? ⟨w.heap.size, 3, none⟩ = some (.int .i64 id) := HK2.out.cell 3
  have x4 : wc.cell? ⟨w.heap.size, 4, none⟩ = some (.int .i64 pa) := HK2.out.cell 4
  have x5 : wc.cell? ⟨w.heap.size, 5, none⟩ = some (.int .i64 le) := HK2.out.cell 5
  have x6 : wc.cell? ⟨w.heap.size, 6, none⟩ = some (.int .i64 a0) := HK2.out.cell 6
  have x7 : wc.cell? ⟨w.heap.size, 7, none⟩ = some (.int .i64 a1) := HK2.out.cell 7
  have x8 : wc.cell? ⟨w.heap.size, 8, none⟩ = some (.int .i64 a2) := HK2.out.cell 8
  have x9 : wc.cell? ⟨w.heap.size, 9, none⟩ = some (.string oc) := HK2.out.cell 9
  have x10 : wc.cell? ⟨w.heap.size, 10, none⟩ = some (.slice As ns cs) := HK2.out.cell 10
  have x11 : wc.cell? ⟨w.heap.size, 11, none⟩ = some (.string nm) := HK2.out.cell 11
  have x12 : wc.cell? ⟨w.heap.size, 12, none⟩ = some (.int .i64 vk) := HK2.out.cell 12
  have x13 : wc.cell? ⟨w.heap.size, 13, none⟩ = some (.int .i64 vi) := HK2.out.cell 13
  have x14 : wc.cell? ⟨w.heap.size, 14, none⟩ = some (.int .i64 vt) := HK2.out.cell 14
  have x15 : wc.cell? ⟨w.heap.size, 15, none⟩ = some (.string vs) := HK2.out.cell 15
  have x16 : wc.cell? ⟨w.heap.size, 16, none⟩ = some (.slice Ai ni ci) := HK2.out.cell 16
  go_wp2_with fail
  refine (HP.out _).mono ?_
  rintro e w3 ⟨rfl, hw3⟩
  obtain rfl : wc = w3 := hw3.symm
  cases p
  case true =>
    have HV := Lib.hid (HE2.out.trans (if_pos rfl))
    go_wp2_with fail
    go_ret
    exact ⟨by rw [HV.out]; rfl, HB2.out⟩
  have HE3 := Lib.hid (HE2.out.trans (if_neg (by decide)))
  clear HE2
  have HV := HE3
  go_wp2_with fail
  go_ret
  exact ⟨by rw [HV.out]; rfl, HB2.out⟩

set_option maxHeartbeats 4000000 in
set_option maxRecDepth 100000 in
theorem stamped_k6 (o : COp) (As Ai : Option Addr) (ns cs ni ci : Nat) (w : World) (B : Nat) (hB : B ≤ w.heap.size) (h : RC1 w B ⟨o, .slice As ns cs, .slice Ai ni ci⟩) (hk : o.kind = 6) :
    Calls Tryz.prog 7 #[CA ⟨o, .slice As ns cs, .slice Ai ni ci⟩] w fun e w' => e = .returned (.int .i64 (cE o)) ∧ Below w.heap.size w w' := by
  obtain ⟨hs, ⟨d, hv⟩, hci⟩ := h
  dsimp only at hs hv hci
  obtain ⟨hn, _, hn8⟩ := hs.len
  have H1 := Lib.hid fun W => stampRange_any o.st W
  have HR := Lib.hid fun a b c W => inRangeO_any a b c W
  have HZ : Hid (∀ W, Below w.heap.size w W → Calls Tryz.prog 22 #[AV (o.val, .slice Ai ni ci)] W fun e w' => e = .returned (.bool (noV o.val)) ∧ Below W.heap.size W w') := fun W hW => zero_any o.val Ai ni ci W B (Nat.le_trans hB hW.size) ⟨d, hv.below (hW.mono hB)⟩
  obtain ⟨E, hE⟩ : ∃ E, E = cE o := ⟨_, rfl⟩
  rw [← hE]
  unfold cE cFormB aftZ at hE
  rw [← hn, hk] at hE
  obtain ⟨s, hs1⟩ : ∃ q, q = stOk o.st := ⟨_, rfl⟩
  obtain ⟨p, hp1⟩ : ∃ q, q = outI o.id 1 1000000 := ⟨_, rfl⟩
  obtain ⟨nv, hnv⟩ : ∃ q, q = noV o.val := ⟨_, rfl⟩
  have HP : Hid (∀ W, Calls Tryz.prog 21 #[.int .i64 o.id, .int .i64 1, .int .i64 1000000] W fun e w' => e = .returned (.bool (!p)) ∧ w' = W) := fun W => by rw [hp1]; exact HR.out _ _ _ W
  rw [← hs1, ← hp1, ← hnv] at hE
  rw [← hs1] at H1
  rw [← hnv] at HZ
  clear hs1 hp1 hnv
  unfold cSpE at hE
  have H7 := Lib.hid fun W => checkName_any o.name W
  have H8 : Hid (∀ W, Below w.heap.size w W → Calls Tryz.prog 19 #[AV (o.val, .slice Ai ni ci)] W fun e w' => e = .returned (.int .i64 (vErr o.val)) ∧ Below W.heap.size W w') := fun W hW => checkValue_any d (o.val, .slice Ai ni ci) W B (Nat.le_trans hB hW.size) (hv.below (hW.mono hB))
  obtain ⟨c4, hc4⟩ : ∃ q, q = nmErr o.name := ⟨_, rfl⟩
  obtain ⟨c5, hc5⟩ : ∃ q, q = vErr o.val := ⟨_, rfl⟩
  rw [← hc4, ← hc5] at hE
  rw [← hc4] at H7
  rw [← hc5] at H8
  clear hc4 hc5 hs hv hn hci
  obtain ⟨⟨t0, t1⟩, k, id, pa, le, ⟨⟨a0, a1⟩, a2⟩, oc, sp, nm, ⟨vk, vi, vt, vs, vl⟩⟩ := o
  obtain rfl : k = 6 := hk
  dsimp only [CA, stA, AV, Vl.kind, Vl.int_, Vl.to_, Vl.text, Vl.items] at H1 HZ HP hE H7 H8 ⊢
  obtain ⟨q1, g1⟩ : ∃ q, (pa != 0) = q := ⟨_, rfl⟩
  obtain ⟨q2, g2⟩ : ∃ q, (le != 0) = q := ⟨_, rfl⟩
  obtain ⟨z0, g30⟩ : ∃ q, (a0 == 0) = q := ⟨_, rfl⟩
  obtain ⟨z1, g31⟩ : ∃ q, (a1 == 0) = q := ⟨_, rfl⟩
  obtain ⟨z2, g32⟩ : ∃ q, (a2 == 0) = q := ⟨_, rfl⟩
  obtain ⟨q4, g4⟩ : ∃ q, oc.toList.isEmpty = q := ⟨_, rfl⟩
  obtain ⟨q5, g5⟩ : ∃ q, decide (0 < (ns : Int)) = q := ⟨_, rfl⟩
  obtain ⟨q6, g6⟩ : ∃ q, nm.toList.isEmpty = q := ⟨_, rfl⟩
  have g5' : decide (0 < ns) = q5 := by rw [← g5]; simp
  rw [g1, g2, g30, g31, g32, g4, g5, g6] at hE
  simp only [show ((6 : Int) == 1) = false from rfl, show ((6 : Int) == 2) = false from rfl, show ((6 : Int) == 4) = false from rfl, show ((6 : Int) == 5) = false from rfl, show ((6 : Int) == 6) = true from rfl, show ((6 : Int) != 1) = true from rfl, show ((6 : Int) != 4) = true from rfl, show ((6 : Int) != 5) = true from rfl, show ((6 : Int) != 6) = false from rfl, show outI 6 1 6 = false from rfl, Bool.or_false, Bool.not_false, Bool.false_and, Bool.true_and, Bool.and_true, Bool.false_eq_true, if_false, if_true] at hE
  have HE0 := Lib.hid hE
  clear hE
  have HR6 : Hid (∀ W, Calls Tryz.prog 21 #[.int .i64 6, .int .i64 1, .int .i64 6] W fun e w' => e = .returned (.bool true) ∧ w' = W) := fun W => HR.out 6 1 6 W
  go_enter Tryz.func7, Tryz.ntmps7
  go_upto_region 1 with fail
  have KX := Blk.new w 33 #[.int .i64 t0, .int .i64 t1, .int .i64 6, .int .i64 id, .int .i64 pa, .int .i64 le, .int .i64 a0, .int .i64 a1, .int .i64 a2, .string oc, .slice As ns cs, .string nm, .int .i64 vk, .int .i64 vi, .int .i64 vt, .string vs, .slice Ai ni ci]
  have hbX : Below w.heap.size w (w.alloc (.cells #[.int .i64 t0, .int .i64 t1, .int .i64 6, .int .i64 id, .int .i64 pa, .int .i64 le, .int .i64 a0, .int .i64 a1, .int .i64 a2, .string oc, .slice As ns cs, .string nm, .int .i64 vk, .int .i64 vi, .int .i64 vt, .string vs, .slice Ai ni ci] 33)) := (Below.refl _ _).alloc (Nat.le_refl _) _
  generalize (w.alloc (.cells #[.int .i64 t0, .int .i64 t1, .int .i64 6, .int .i64 id, .int .i64 pa, .int .i64 le, .int .i64 a0, .int .i64 a1, .int .i64 a2, .string oc, .slice As ns cs, .string nm, .int .i64 vk, .int .i64 vi, .int .i64 vt, .string vs, .slice Ai ni ci] 33)) = X at KX hbX ⊢
  have x0 : X.cell? ⟨w.heap.size, 0, none⟩ = some (.int .i64 t0) := KX.cell 0
  have x1 : X.cell? ⟨w.heap.size, 1, none⟩ = some (.int .i64 t1) := KX.cell 1
  have x2 : X.cell? ⟨w.heap.size, 2, none⟩ = some (.int .i64 6) := KX.cell 2
  have x3 : X.cell? ⟨w.heap.size, 3, none⟩ = some (.int .i64 id) := KX.cell 3
  have x4 : X.cell? ⟨w.heap.size, 4, none⟩ = some (.int .i64 pa) := KX.cell 4
  have x5 : X.cell? ⟨w.heap.size, 5, none⟩ = some (.int .i64 le) := KX.cell 5
  have x6 : X.cell? ⟨w.heap.size, 6, none⟩ = some (.int .i64 a0) := KX.cell 6
  have x7 : X.cell? ⟨w.heap.size, 7, none⟩ = some (.int .i64 a1) := KX.cell 7
  have x8 : X.cell? ⟨w.heap.size, 8, none⟩ = some (.int .i64 a2) := KX.cell 8
  have x9 : X.cell? ⟨w.heap.size, 9, none⟩ = some (.string oc) := KX.cell 9
  have x10 : X.cell? ⟨w.heap.size, 10, none⟩ = some (.slice As ns cs) := KX.cell 10
  have x11 : X.cell? ⟨w.heap.size, 11, none⟩ = some (.string nm) := KX.cell 11
  have x12 : X.cell? ⟨w.heap.size, 12, none⟩ = some (.int .i64 vk) := KX.cell 12
  have x13 : X.cell? ⟨w.heap.size, 13, none⟩ = some (.int .i64 vi) := KX.cell 13
  have x14 : X.cell? ⟨w.heap.size, 14, none⟩ = some (.int .i64 vt) := KX.cell 14
  have x15 : X.cell? ⟨w.heap.size, 15, none⟩ = some (.string vs) := KX.cell 15
  have x16 : X.cell? ⟨w.heap.size, 16, none⟩ = some (.slice Ai ni ci) := KX.cell 16
  have HKX := Lib.hid KX
  have HBX := Lib.hid hbX
  clear KX hbX HR
  go_wp2_with fail
  refine (H1.out _).mono ?_
  rintro e w1 ⟨rfl, hb1⟩
  have K1 := HKX.out.below hb1 HKX.out.lt
  have HB1 : Hid (Below w.heap.size w w1) := HBX.out.trans (hb1.mono HBX.out.size)
  clear x0 x1 x2 x3 x4 x5 x6 x7 x8 x9 x10 x11 x12 x13 x14 x15 x16 hb1
  cases s
  case false =>
    have HV := Lib.hid (HE0.out.trans (if_pos rfl))
    go_wp2_with fail
    go_ret
    exact ⟨by rw [HV.out]; rfl, HB1.out⟩
  have HE1 := Lib.hid (HE0.out.trans (if_neg (by decide)))
  clear HE0 HKX HBX
  have x0 : w1.cell? ⟨w.heap.size, 0, none⟩ = some (.int .i64 t0) := K1.cell 0
  have x1 : w1.cell? ⟨w.heap.size, 1, none⟩ = some (.int .i64 t1) := K1.cell 1
  have x2 : w1.cell? ⟨w.heap.size, 2, none⟩ = some (.int .i64 6) := K1.cell 2
  have x3 : w1.cell? ⟨w.heap.size, 3, none⟩ = some (.int .i64 id) := K1.cell 3
  have x4 : w1.cell? ⟨w.heap.size, 4, none⟩ = some (.int .i64 pa) := K1.cell 4
  have x5 : w1.cell? ⟨w.heap.size, 5, none⟩ = some (.int .i64 le) := K1.cell 5
  have x6 : w1.cell? ⟨w.heap.size, 6, none⟩ = some (.int .i64 a0) := K1.cell 6
  have x7 : w1.cell? ⟨w.heap.size, 7, none⟩ = some (.int .i64 a1) := K1.cell 7
  have x8 : w1.cell? ⟨w.heap.size, 8, none⟩ = some (.int .i64 a2) := K1.cell 8
  have x9 : w1.cell? ⟨w.heap.size, 9, none⟩ = some (.string oc) := K1.cell 9
  have x10 : w1.cell? ⟨w.heap.size, 10, none⟩ = some (.slice As ns cs) := K1.cell 10
  have x11 : w1.cell? ⟨w.heap.size, 11, none⟩ = some (.string nm) := K1.cell 11
  have x12 : w1.cell? ⟨w.heap.size, 12, none⟩ = some (.int .i64 vk) := K1.cell 12
  have x13 : w1.cell? ⟨w.heap.size, 13, none⟩ = some (.int .i64 vi) := K1.cell 13
  have x14 : w1.cell? ⟨w.heap.size, 14, none⟩ = some (.int .i64 vt) := K1.cell 14
  have x15 : w1.cell? ⟨w.heap.size, 15, none⟩ = some (.string vs) := K1.cell 15
  have x16 : w1.cell? ⟨w.heap.size, 16, none⟩ = some (.slice Ai ni ci) := K1.cell 16
  have HK1 := Lib.hid K1
  clear K1
  go_wp2_with fail
  refine (HR6.out _).mono ?_
  rintro e w2 ⟨rfl, hw2⟩
  obtain rfl : w1 = w2 := hw2.symm
  go_upto_region 7 with fail
  go_cut [90] (fun s90 wc => s90 = .bool ((q1 || q2) || (!(z0 && z1 && z2) || (!q4 || q5))) ∧ Hid (Below w.heap.size w wc) ∧ Hid (Blk wc w.heap.size 33 #[.int .i64 t0, .int .i64 t1, .int .i64 6, .int .i64 id, .int .i64 pa, .int .i64 le, .int .i64 a0, .int .i64 a1, .int .i64 a2, .string oc, .slice As ns cs, .string nm, .int .i64 vk, .int .i64 vi, .int .i64 vt, .string vs, .slice Ai ni ci]))
  case first =>
    go_wp2_with (go_at_call 22; refine (HZ.out _ HB1.out).mono ?_; rintro e w3 ⟨rfl, hb3⟩; have HB3 : Hid (Below w.heap.size w w3) := HB1.out.trans (hb3.mono HB1.out.size); have K3 := Lib.hid (HK1.out.below hb3 HK1.out.lt); clear hb3)
    all_goals
      go_meet
      exact ⟨by simp_all, by first | exact ⟨HB3, K3⟩ | exact ⟨HB1, HK1⟩⟩
  case rest =>
  clear x0 x1 x2 x3 x4 x5 x6 x7 x8 x9 x10 x11 x12 x13 x14 x15 x16
  obtain ⟨rfl, HB2, HK2⟩ := hcut
  obtain ⟨F, eF⟩ : ∃ q, ((q1 || q2) || (!(z0 && z1 && z2) || (!q4 || q5))) = q := ⟨_, rfl⟩
  rw [eF] at HE1
  rw [eF]
  have HF := Lib.hid eF
  clear eF HB1 HK1 HZ H1 HR6
  cases F
  case true =>
    have HV := Lib.hid (HE1.out.trans (if_pos rfl))
    go_wp2_with fail
    go_ret
    exact ⟨by rw [HV.out]; rfl, HB2.out⟩
  have HE2 := Lib.hid (HE1.out.trans (if_neg (by decide)))
  clear HE1
  have x0 : wc.cell? ⟨w.heap.size, 0, none⟩ = some (.int .i64 t0) := HK2.out.cell 0
  have x1 : wc.cell? ⟨w.heap.size, 1, none⟩ = some (.int .i64 t1) := HK2.out.cell 1
  have x2 : wc.cell? ⟨w.heap.size, 2, none⟩ = some (.int .i64 6) := HK2.out.cell 2
  have x3 : wc.cell? ⟨w.heap.size, 3, none⟩ = some (.int .i64 id) := HK2.out.cell 3
  have x4 : wc.cell? ⟨w.heap.size, 4, none⟩ = some (.int .i64 pa) := HK2.out.cell 4
  have x5 : wc.cell? ⟨w.heap.size, 5, none⟩ = some (.int .i64 le) := HK2.out.cell 5
  have x6 : wc.cell? ⟨w.heap.size, 6, none⟩ = some (.int .i64 a0) := HK2.out.cell 6
  have x7 : wc.cell? ⟨w.heap.size, 7, none⟩ = some (.int .i64 a1) := HK2.out.cell 7
  have x8 : wc.cell? ⟨w.heap.size, 8, none⟩ = some (.int .i64 a2) := HK2.out.cell 8
  have x9 : wc.cell? ⟨w.heap.size, 9, none⟩ = some (.string oc) := HK2.out.cell 9
  have x10 : wc.cell? ⟨w.heap.size, 10, none⟩ = some (.slice As ns cs) := HK2.out.cell 10
  have x11 : wc.cell? ⟨w.heap.size, 11, none⟩ = some (.string nm) := HK2.out.cell 11
  have x12 : wc.cell? ⟨w.heap.size, 12, none⟩ = some (.int .i64 vk) := HK2.out.cell 12
  have x13 : wc.cell? ⟨w.heap.size, 13, none⟩ = some (.int .i64 vi) := HK2.out.cell 13
  have x14 : wc.cell? ⟨w.heap.size, 14, none⟩ = some (.int .i64 vt) := HK2.out.cell 14
  have x15 : wc.cell? ⟨w.heap.size, 15, none⟩ = some (.string vs) := HK2.out.cell 15
  have x16 : wc.cell? ⟨w.heap.size, 16, none⟩ = some (.slice Ai ni ci) := HK2.out.cell 16
  go_wp2_with fail
  refine (HP.out _).mono ?_
  rintro e w3 ⟨rfl, hw3⟩
  obtain rfl : wc = w3 := hw3.symm
  cases p
  case true =>
    have HV := Lib.hid (HE2.out.trans (if_pos rfl))
    go_wp2_with fail
    go_ret
    exact ⟨by rw [HV.out]; rfl, HB2.out⟩
  have HE3 := Lib.hid (HE2.out.trans (if_neg (by decide)))
  clear HE2
  go_wp2_with fail
  refine (H7.out _).mono ?_
  rintro e w4 ⟨rfl, hw4⟩
  obtain rfl : wc = w4 := hw4.symm
  by_cases c0 : c4 = 0
  case neg =>
    have HV := Lib.hid (HE3.out.trans (if_pos c0))
    have hsn : (c4 != 0) = true := by simpa using c0
    clear c0
    go_wp2_with fail
    go_ret
    exact ⟨by rw [HV.out]; rfl, HB2.out⟩
  subst c0
  have HV := Lib.hid (HE3.out.trans (if_neg (fun h => h rfl)))
  go_wp2_with fail
  refine (H8.out _ HB2.out).mono ?_
  rintro e w5 ⟨rfl, hb5⟩
  have HB5 : Hid (Below w.heap.size w w5) := HB2.out.trans (hb5.mono HB2.out.size)
  clear hb5
  go_wp2_with fail
  go_ret
  exact ⟨by rw [HV.out]; rfl, HB5.out⟩
end Go.Proofs.YtinllchioeldbaaGreatDoor
