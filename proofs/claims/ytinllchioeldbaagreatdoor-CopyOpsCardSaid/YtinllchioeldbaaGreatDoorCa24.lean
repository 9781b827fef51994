/-
  DERIVED. The walk of the reference's StampedError: octets erased. Conditions: sizes. By an AI agent.
-/
import Derived.Test.YtinllchioeldbaaGreatDoorCa22
import Derived.Test.YtinllchioeldbaaGreatDoorCa21
namespace Go.Proofs.YtinllchioeldbaaGreatDoor
open Go.RowKit

set_option maxHeartbeats 4000000 in
set_option maxRecDepth 100000 in
theorem stamped_k5 (o : COp) (As Ai : Option Addr) (ns cs ni ci : Nat) (w : World) (B : Nat) (hB : B ≤ w.heap.size) (h : RC1 w B ⟨o, .slice As ns cs, .slice Ai ni ci⟩) (hk : o.kind = 5) :
    Calls Tryz.prog 7 #[CA ⟨o, .slice As ns cs, .slice Ai ni ci⟩] w fun e w' => e = .returned (.int .i64 (cE o)) ∧ Below w.heap.size w w' := by
  obtain ⟨hs, ⟨d, hv⟩, hci⟩ := h
  dsimp only at hs hv hci
  obtain ⟨hn, _, hn8⟩ := hs.len
  have H1 := Lib.hid fun W => stampRange_any o.st W
  have HR := Lib.hid fun a b c W => inRangeO_any a b c W
  have HZ : Hid (∀ W, Below w.heap.size w W → Calls Tryz.prog 22 #[AV (o.val, .slice Ai ni ci)] W fun e w' => e = .returned (.bool (noV o.val)) ∧ Below W.heap.size W w') := fun W hW => zero_any o.val Ai ni ci W B (Nat.le_trans hB hW.size) ⟨d, hv.below (hW.mono hB)⟩
  obtain ⟨E, hE⟩ : ∃ E, E = cE o := ⟨_, rfl⟩
  rw [← hE]
  unfold cE cFormB aftZ at hE
  rw [← hn, hk] at hE
  obtain ⟨s, hs1⟩ : ∃ q, q = stOk o.st := ⟨_, rfl⟩
  obtain ⟨p, hp1⟩ : ∃ q, q = outI o.id 1 1000000 := ⟨_, rfl⟩
  obtain ⟨nv, hnv⟩ : ∃ q, q = noV o.val := ⟨_, rfl⟩
  have HP : Hid (∀ W, Calls Tryz.prog 21 #[.int .i64 o.id, .int .i64 1, .int .i64 1000000] W fun e w' => e = .returned (.bool (!p)) ∧ w' = W) := fun W => by rw [hp1]; exact HR.out _ _ _ W
  rw [← hs1, ← hp1, ← hnv] at hE
  rw [← hs1] at H1
  rw [← hnv] at HZ
  clear hs1 hp1 hnv
  have HG := Lib.hid fun x W => goodSpot_any x o.st W
  have HC := Lib.hid fun x y W => spotBefore_any x y W
  have E1 : Hid ((o.spots.any fun x => !sptOk x o.st) = true → cErE o = 15) := fun h => if_pos h
  have E2 : Hid ((o.spots.any fun x => !sptOk x o.st) = false → (((ns : Int) == 0) || decide ((500 : Int) < (ns : Int))) = true → cErE o = 4) := fun h h' => (if_neg (by rw [h]; decide)).trans (if_pos (by rw [← hn]; exact h'))
  have E3 : Hid ((o.spots.any fun x => !sptOk x o.st) = false → (((ns : Int) == 0) || decide ((500 : Int) < (ns : Int))) = false → sptUp o.spots = false → cErE o = 5) := fun h h' h2 => (if_neg (by rw [h]; decide)).trans ((if_neg (by rw [← hn, h']; decide)).trans (if_pos h2))
  have E4 : Hid ((o.spots.any fun x => !sptOk x o.st) = false → (((ns : Int) == 0) || decide ((500 : Int) < (ns : Int))) = false → sptUp o.spots = true → cErE o = 0) := fun h h' h2 => (if_neg (by rw [h]; decide)).trans ((if_neg (by rw [← hn, h']; decide)).trans (if_neg (by rw [h2]; decide)))
  obtain ⟨V, hV⟩ : ∃ V, V = cErE o := ⟨_, rfl⟩
  rw [← hV] at E1 E2 E3 E4 hE
  have HS := Lib.hid hs
  have HN := Lib.hid hn
  clear hV hs hn hv hci
  obtain ⟨⟨t0, t1⟩, k, id, pa, le, ⟨⟨a0, a1⟩, a2⟩, oc, L, nm, ⟨vk, vi, vt, vs, vl⟩⟩ := o
  obtain rfl : k = 5 := hk
  dsimp only [CA, stA, AV, Vl.kind, Vl.int_, Vl.to_, Vl.text, Vl.items] at H1 HZ HP hE HG E1 E2 E3 E4 HS HN ⊢
  obtain ⟨q1, g1⟩ : ∃ q, (pa != 0) = q := ⟨_, rfl⟩
  obtain ⟨q2, g2⟩ : ∃ q, (le != 0) = q := ⟨_, rfl⟩
  obtain ⟨z0, g30⟩ : ∃ q, (a0 == 0) = q := ⟨_, rfl⟩
  obtain ⟨z1, g31⟩ : ∃ q, (a1 == 0) = q := ⟨_, rfl⟩
  obtain ⟨z2, g32⟩ : ∃ q, (a2 == 0) = q := ⟨_, rfl⟩
  obtain ⟨q4, g4⟩ : ∃ q, oc.toList.isEmpty = q := ⟨_, rfl⟩
  obtain ⟨q5, g5⟩ : ∃ q, decide (0 < (ns : Int)) = q := ⟨_, rfl⟩
  obtain ⟨q6, g6⟩ : ∃ q, nm.toList.isEmpty = q := ⟨_, rfl⟩
  have g5' : decide (0 < ns) = q5 := by rw [← g5]; simp
  rw [g1, g2, g30, g31, g32, g4, g5, g6] at hE
  simp only [show ((5 : Int) == 1) = false from rfl, show ((5 : Int) == 2) = false from rfl, show ((5 : Int) == 4) = false from rfl, show ((5 : Int) == 5) = true from rfl, show ((5 : Int) == 6) = false from rfl, show ((5 : Int) != 1) = true from rfl, show ((5 : Int) != 4) = true from rfl, show ((5 : Int) != 5) = false from rfl, show ((5 : Int) != 6) = true from rfl, show outI 5 1 6 = false from rfl, Bool.false_or, Bool.or_false, Bool.not_false, Bool.false_and, Bool.true_and, Bool.and_true, Bool.false_eq_true, if_false, if_true] at hE
  have HE0 := Lib.hid hE
  clear hE
  have HR6 : Hid (∀ W, Calls Tryz.prog 21 #[.int .i64 5, .int .i64 1, .int .i64 6] W fun e w' => e = .returned (.bool true) ∧ w' = W) := fun W => HR.out 5 1 6 W
  go_enter Tryz.func7, Tryz.ntmps7
  go_upto_region 1 with fail
  have KX := Blk.new w 33 #[.int .i64 t0, .int .i64 t1, .int .i64 5, .int .i64 id, .int .i64 pa, .int .i64 le, .int .i64 a0, .int .i64 a1, .int .i64 a2, .string oc, .slice As ns cs, .string nm, .int .i64 vk, .int .i64 vi, .int .i64 vt, .string vs, .slice Ai ni ci]
  have hbX : Below w.heap.size w (w.alloc (.cells #[.int .i64 t0, .int .i64 t1, .int .i64 5, .int .i64 id, .int .i64 pa, .int .i64 le, .int .i64 a0, .int .i64 a1, .int .i64 a2, .string oc, .slice As ns cs, .string nm, .int .i64 vk, .int .i64 vi, .int .i64 vt, .string vs, .slice Ai ni ci] 33)) := (Below.refl _ _).alloc (Nat.le_refl _) _
  generalize (w.alloc (.cells #[.int .i64 t0, .int .i64 t1, .int .i64 5, .int .i64 id, .int .i64 pa, .int .i64 le, .int .i64 a0, .int .i64 a1, .int .i64 a2, .string oc, .slice As ns cs, .string nm, .int .i64 vk, .int .i64 vi, .int .i64 vt, .string vs, .slice Ai ni ci] 33)) = X at KX hbX ⊢
  have x0 : X.cell? ⟨w.heap.size, 0, none⟩ = some (.int .i64 t0) := KX.cell 0
  have x1 : X.cell? ⟨w.heap.size, 1, none⟩ = some (.int .i64 t1) := KX.cell 1
  have x2 : X.cell? ⟨w.heap.size, 2, none⟩ = some (.int .i64 5) := KX.cell 2
  have x3 : X.cell? ⟨w.heap.size, 3, none⟩ = some (.int .i64 id) := KX.cell 3
  have x4 : X.cell? ⟨w.heap.size, 4, none⟩ = some (.int .i64 pa) := KX.cell 4
  have x5 : X.cell? ⟨w.heap.size, 5, none⟩ = some (.int .i64 le) := KX.cell 5
  have x6 : X.cell? ⟨w.heap.size, 6, none⟩ = some (.int .i64 a0) := KX.cell 6
  have x7 : X.cell? ⟨w.heap.size, 7, none⟩ = some (.int .i64 a1) := KX.cell 7
  have x8 : X.cell? ⟨w.heap.size, 8, none⟩ = some (.int .i64 a2) := KX.cell 8
  have x9 : X.cell? ⟨w.heap.size, 9, none⟩ = some (.string oc) := KX.cell 9
  have x10 : X.cell? ⟨w.heap.size, 10, none⟩ = some (.slice As ns cs) := KX.cell 10
  have x11 : X.cell? ⟨w.heap.size, 11, none⟩ = some (.string nm) := KX.cell 11
  have x12 : X.cell? ⟨w.heap.size, 12, none⟩ = some (.int .i64 vk) := KX.cell 12
  have x13 : X.cell? ⟨w.heap.size, 13, none⟩ = some (.int .i64 vi) := KX.cell 13
  have x14 : X.cell? ⟨w.heap.size, 14, none⟩ = some (.int .i64 vt) := KX.cell 14
  have x15 : X.cell? ⟨w.heap.size, 15, none⟩ = some (.string vs) := KX.cell 15
  have x16 : X.cell? ⟨w.heap.size, 16, none⟩ = some (.slice Ai ni ci) := KX.cell 16
  have HKX := Lib.hid KX
  have HBX := Lib.hid hbX
  clear KX hbX HR
  go_wp2_with fail
  refine (H1.out _).mono ?_
  rintro e w1 ⟨rfl, hb1⟩
  have K1 := HKX.out.below hb1 HKX.out.lt
  have HB1 : Hid (Below w.heap.size w w1) := HBX.out.trans (hb1.mono HBX.out.size)
  clear x0 x1 x2 x3 x4 x5 x6 x7 x8 x9 x10 x11 x12 x13 x14 x15 x16 hb1
  cases s
  case false =>
    have HV := Lib.hid (HE0.out.trans (if_pos rfl))
    go_wp2_with fail
    go_ret
    exact ⟨by rw [HV.out]; rfl, HB1.out⟩
  have HE1 := Lib.hid (HE0.out.trans (if_neg (by decide)))
  clear HE0 HKX HBX
  have x0 : w1.cell? ⟨w.heap.size, 0, none⟩ = some (.int .i64 t0) := K1.cell 0
  have x1 : w1.cell? ⟨w.heap.size, 1, none⟩ = some (.int .i64 t1) := K1.cell 1
  have x2 : w1.cell? ⟨w.heap.size, 2, none⟩ = some (.int .i64 5) := K1.cell 2
  have x3 : w1.cell? ⟨w.heap.size, 3, none⟩ = some (.int .i64 id) := K1.cell 3
  have x4 : w1.cell? ⟨w.heap.size, 4, none⟩ = some (.int .i64 pa) := K1.cell 4
  have x5 : w1.cell? ⟨w.heap.size, 5, none⟩ = some (.int .i64 le) := K1.cell 5
  have x6 : w1.cell? ⟨w.heap.size, 6, none⟩ = some (.int .i64 a0) := K1.cell 6
  have x7 : w1.cell? ⟨w.heap.size, 7, none⟩ = some (.int .i64 a1) := K1.cell 7
  have x8 : w1.cell? ⟨w.heap.size, 8, none⟩ = some (.int .i64 a2) := K1.cell 8
  have x9 : w1.cell? ⟨w.heap.size, 9, none⟩ = some (.string oc) := K1.cell 9
  have x10 : w1.cell? ⟨w.heap.size, 10, none⟩ = some (.slice As ns cs) := K1.cell 10
  have x11 : w1.cell? ⟨w.heap.size, 11, none⟩ = some (.string nm) := K1.cell 11
  have x12 : w1.cell? ⟨w.heap.size, 12, none⟩ = some (.int .i64 vk) := K1.cell 12
  have x13 : w1.cell? ⟨w.heap.size, 13, none⟩ = some (.int .i64 vi) := K1.cell 13
  have x14 : w1.cell? ⟨w.heap.size, 14, none⟩ = some (.int .i64 vt) := K1.cell 14
  have x15 : w1.cell? ⟨w.heap.size, 15, none⟩ = some (.string vs) := K1.cell 15
  have x16 : w1.cell? ⟨w.heap.size, 16, none⟩ = some (.slice Ai ni ci) := K1.cell 16
  have HK1 := Lib.hid K1
  clear K1
  go_wp2_with fail
  refine (HR6.out _).mono ?_
  rintro e w2 ⟨rfl, hw2⟩
  obtain rfl : w1 = w2 := hw2.symm
  go_upto_region 7 with fail
  go_cut [90] (fun s90 wc => s90 = .bool ((q1 || q2) || (!(z0 && z1 && z2) || (!q4 || (!q6 || !nv)))) ∧ Hid (Below w.heap.size w wc) ∧ Hid (Blk wc w.heap.size 33 #[.int .i64 t0, .int .i64 t1, .int .i64 5, .int .i64 id, .int .i64 pa, .int .i64 le, .int .i64 a0, .int .i64 a1, .int .i64 a2, .string oc, .slice As ns cs, .string nm, .int .i64 vk, .int .i64 vi, .int .i64 vt, .string vs, .slice Ai ni ci]))
  case first =>
    go_wp2_with (go_at_call 22; refine (HZ.out _ HB1.out).mono ?_; rintro e w3 ⟨rfl, hb3⟩; have HB3 : Hid (Below w.heap.size w w3) := HB1.out.trans (hb3.mono HB1.out.size); have K3 := Lib.hid (HK1.out.below hb3 HK1.out.lt); clear hb3)
    all_goals
      go_meet
      exact ⟨by simp_all, by first | exact ⟨HB3, K3⟩ | exact ⟨HB1, HK1⟩⟩
  case rest =>
  clear x0 x1 x2 x3 x4 x5 x6 x7 x8 x9 x10 x11 x12 x13 x14 x15 x16
  obtain ⟨rfl, HB2, HK2⟩ := hcut
  obtain ⟨F, eF⟩ : ∃ q, ((q1 || q2) || (!(z0 && z1 && z2) || (!q4 || (!q6 || !nv)))) = q := ⟨_, rfl⟩
  rw [eF] at HE1
  rw [eF]
  have HF := Lib.hid eF
  clear eF HB1 HK1 HZ H1 HR6
  cases F
  case true =>
    have HV := Lib.hid (HE1.out.trans (if_pos rfl))
    go_wp2_with fail
    go_ret
    exact ⟨by rw [HV.out]; rfl, HB2.out⟩
  have HE2 := Lib.hid (HE1.out.trans (if_neg (by decide)))
  clear HE1
  have x0 : wc.cell? ⟨w.heap.size, 0, none⟩ = some (.int .i64 t0) := HK2.out.cell 0
  have x1 : wc.cell? ⟨w.heap.size, 1, none⟩ = some (.int .i64 t1) := HK2.out.cell 1
  have x2 : wc.cell? ⟨w.heap.size, 2, none⟩ = some (.int .i64 5) := HK2.out.cell 2
  have x3 : wc.cell? ⟨w.heap.size, 3, none⟩ = some (.int .i64 id) := HK2.out.cell 3
  have x4 : wc.cell? ⟨w.heap.size, 4, none⟩ = some (.int .i64 pa) := HK2.out.cell 4
  have x5 : wc.cell? ⟨w.heap.size, 5, none⟩ = some (.int .i64 le) := HK2.out.cell 5
  have x6 : wc.cell? ⟨w.heap.size, 6, none⟩ = some (.int .i64 a0) := HK2.out.cell 6
  have x7 : wc.cell? ⟨w.heap.size, 7, none⟩ = some (.int .i64 a1) := HK2.out.cell 7
  have x8 : wc.cell? ⟨w.heap.size, 8, none⟩ = some (.int .i64 a2) := HK2.out.cell 8
  have x9 : wc.cell? ⟨w.heap.size, 9, none⟩ = some (.string oc) := HK2.out.cell 9
  have x10 : wc.cell? ⟨w.heap.size, 10, none⟩ = some (.slice As ns cs) := HK2.out.cell 10
  have x11 : wc.cell? ⟨w.heap.size, 11, none⟩ = some (.string nm) := HK2.out.cell 11
  have x12 : wc.cell? ⟨w.heap.size, 12, none⟩ = some (.int .i64 vk) := HK2.out.cell 12
  have x13 : wc.cell? ⟨w.heap.size, 13, none⟩ = some (.int .i64 vi) := HK2.out.cell 13
  have x14 : wc.cell? ⟨w.heap.size, 14, none⟩ = some (.int .i64 vt) := HK2.out.cell 14
  have x15 : wc.cell? ⟨w.heap.size, 15, none⟩ = some (.string vs) := HK2.out.cell 15
  have x16 : wc.cell? ⟨w.heap.size, 16, none⟩ = some (.slice Ai ni ci) := HK2.out.cell 16
  go_wp2_with fail
  refine (HP.out _).mono ?_
  rintro e w3 ⟨rfl, hw3⟩
  obtain rfl : wc = w3 := hw3.symm
  cases p
  case true =>
    have HV := Lib.hid (HE2.out.trans (if_pos rfl))
    go_wp2_with fail
    go_ret
    exact ⟨by rw [HV.out]; rfl, HB2.out⟩
  have HE3 := Lib.hid (HE2.out.trans (if_neg (by decide)))
  clear HE2
  clear HF HP g1 g2 g30 g31 g32 g4 g5 g5' g6
  go_upto_region 28 with fail
  clear x0 x1 x2 x3 x4 x5 x6 x7 x8 x9 x11 x12 x13 x14 x15 x16
  have hzX := HK2.out.lt
  go_wp2_with fail
  go_loopg [181] ns (fun gg s9 wr => ∃ q : Nat, q + gg = ns ∧ s9 = .int .i64 (q : Int) ∧ Hid (Below wc.heap.size wc wr) ∧ Hid (∀ x ∈ L.take q, sptOk x ⟨t0, t1⟩ = true))
  case atStart => exact ⟨0, by omega, rfl, Below.refl _ _, fun x hx => by simp at hx⟩
  case round =>
    obtain ⟨q, hqg, rfl, hbel, hall⟩ := hrel
    have KR := HK2.out.below hbel.out hzX
    have HBR : Hid (Below w.heap.size w wr) := HB2.out.trans (hbel.out.mono HB2.out.size)
    by_cases hq : q < ns
    · obtain ⟨x, hx⟩ : ∃ x, L[q]? = some x := ⟨_, List.getElem?_eq_getElem (by have := HN.out; omega)⟩
      obtain ⟨b, off, rfl, hbb, u0, u1, u2⟩ := HS.out.at_ hx
      have g0 := (HBR.out.cell (p := ⟨b, off + q * 3, none⟩) (by show b < _; omega)).trans u0
      have g1 := (HBR.out.cell (p := ⟨b, off + q * 3 + 1, none⟩) (by show b < _; omega)).trans u1
      have g2 := (HBR.out.cell (p := ⟨b, off + q * 3 + 2, none⟩) (by show b < _; omega)).trans u2
      have y0 : wr.cell? ⟨w.heap.size, 0, none⟩ = some (.int .i64 t0) := KR.cell 0
      have y1 : wr.cell? ⟨w.heap.size, 1, none⟩ = some (.int .i64 t1) := KR.cell 1
      have hzr := KR.lt
      have HRX := Lib.hid fun W => HG.out x W
      have HT2 : Hid (L.take (q + 1) = L.take q ++ [x]) := by show _ = _; rw [List.take_add_one, hx]; rfl
      have HX := Lib.hid hx
      obtain ⟨⟨x0, x1⟩, x2⟩ := x
      dsimp only [spA, stA] at HRX g0 g1 g2
      obtain ⟨r, hr⟩ : ∃ r, r = sptOk ⟨⟨x0, x1⟩, x2⟩ ⟨t0, t1⟩ := ⟨_, rfl⟩
      rw [← hr] at HRX
      have HRR := Lib.hid hr
      have j0 : (q : Int) < (ns : Int) := by omega
      have hal : Below wc.heap.size wc (wr.alloc (.cells #[.int .i64 x0, .int .i64 x1, .int .i64 x2] 27)) := hbel.out.alloc hbel.out.size _
      have HAL := Lib.hid hal
      clear hr u0 u1 u2 hx KR hal
      go_wp2_with fail
      refine (HRX.out _).mono ?_
      rintro e w2 ⟨rfl, hb2⟩
      have HBW : Hid (Below wc.heap.size wc w2) := HAL.out.trans (hb2.mono HAL.out.size)
      clear hb2
      cases r
      case false =>
        have HV := Lib.hid (HE3.out.trans (E1.out (List.any_eq_true.2 ⟨_, List.mem_of_getElem? HX.out, by rw [← HRR.out]; rfl⟩)))
        go_wp2_with fail
        go_ret
        exact ⟨by rw [HV.out]; rfl, HB2.out.trans (HBW.out.mono HB2.out.size)⟩
      case true =>
        go_wp2_with fail
        go_roundg (ns - (q + 1))
        case measure => omega
        case rel => exact ⟨q + 1, by omega, by go_num, HBW, fun z hz => by
          rw [HT2.out] at hz
          rcases List.mem_append.1 hz with hz | hz
          · exact hall.out z hz
          · rw [List.mem_singleton] at hz
            subst hz
            exact HRR.out.symm⟩
    · obtain rfl : q = ns := by omega
      have hany : (L.any fun x => !sptOk x ⟨t0, t1⟩) = false := by
        rw [List.any_eq_false]
        intro x hx
        rw [List.take_of_length_le (by rw [← HN.out]; exact Nat.le_refl _)] at hall
        rw [hall.out x hx]
        decide
      have F2 := Lib.hid fun h => HE3.out.trans (E2.out hany h)
      have F3 := Lib.hid fun h h' => HE3.out.trans (E3.out hany h h')
      have F4 := Lib.hid fun h h' => HE3.out.trans (E4.out hany h h')
      have y10 : wr.cell? ⟨w.heap.size, 10, none⟩ = some (.slice As q cs) := KR.cell 10
      have HKR := Lib.hid KR
      have hzr := KR.lt
      clear hany hall E1 E2 E3 E4 KR HE3
      by_cases hz : q = 0
      · have HV := Lib.hid (F2.out (by rw [hz]; rfl))
        have hz1 : (q : Int) < 1 := by omega
        clear F2 F3 F4 hz
        go_wp2_with fail
        go_ret
        exact ⟨by rw [HV.out]; rfl, HBR.out⟩
      have hz' : ((q : Int) == 0) = false := by rw [beq_eq_false_iff_ne]; omega
      have hz1 : ¬ (q : Int) < 1 := by omega
      have hq0 : 0 < q := by omega
      clear hz
      by_cases hbig : (500 : Int) < (q : Int)
      · have HV := Lib.hid (F2.out (by rw [decide_eq_true hbig, Bool.or_true]))
        clear F2 F3 F4
        go_wp2_with fail
        go_ret
        exact ⟨by rw [HV.out]; rfl, HBR.out⟩
      have F5 := Lib.hid (F3.out (by rw [hz', decide_eq_false hbig]; rfl))
      have F6 := Lib.hid (F4.out (by rw [hz', decide_eq_false hbig]; rfl))
      clear F2 F3 F4
      obtain ⟨W1, hW1⟩ : ∃ W1, W1 = wr := ⟨_, rfl⟩
      rw [← hW1] at HBR HKR hzr y10 ⊢
      clear hbel hW1
      go_wp2_with fail
      go_loopg [204] q (fun gg s5 wr => ∃ i : Nat, i + gg = q ∧ s5 = .int .i64 (i : Int) ∧ Hid (Below W1.heap.size W1 wr) ∧ Hid (∀ j a b, j + 1 < i → L[j]? = some a → L[j + 1]? = some b → sptLt a b = true))
      case atStart => exact ⟨0, by omega, rfl, Below.refl _ _, fun j a b h => absurd h (by omega)⟩
      case round =>
        obtain ⟨i, hig, rfl, hbel, hup⟩ := hrel
        have KR := HKR.out.below hbel.out hzr
        have HBQ : Hid (Below w.heap.size w wr) := HBR.out.trans (hbel.out.mono HBR.out.size)
        have y10' : wr.cell? ⟨w.heap.size, 10, none⟩ = some (.slice As q cs) := KR.cell 10
        by_cases hi : i < q
        · have i0 : (i : Int) < (q : Int) := by omega
          rcases Nat.eq_zero_or_pos i with hi0 | hi0
          · subst hi0
            have jz : ¬ (0 : Int) < ((0 : Nat) : Int) := by omega
            go_wp2_with fail
            go_quiet (fail)
            go_wp2_with fail
            go_roundg (q - 1)
            case measure => omega
            case rel => exact ⟨1, by omega, rfl, bdrew hbel.out _, fun j a b h => absurd h (by omega)⟩
          obtain ⟨j, hj⟩ : ∃ j, i = j + 1 := ⟨i - 1, by omega⟩
          obtain ⟨x, hx⟩ : ∃ x, L[j]? = some x := ⟨_, List.getElem?_eq_getElem (by have := HN.out; omega)⟩
          obtain ⟨z, hz⟩ : ∃ z, L[i]? = some z := ⟨_, List.getElem?_eq_getElem (by have := HN.out; omega)⟩
          obtain ⟨b, off, eA, hbb, u0, u1, u2⟩ := HS.out.at_ hx
          obtain ⟨b', off', eA', _, v0, v1, v2⟩ := HS.out.at_ hz
          obtain ⟨rfl, rfl⟩ : b = b' ∧ off = off' := by rw [eA] at eA'; injection eA' with e; injection e with e1 e2; exact ⟨e1, e2⟩
          subst eA
          have HCX := Lib.hid fun W => HC.out x z W
          obtain ⟨r, hr⟩ : ∃ r, r = sptLt x z := ⟨_, rfl⟩
          rw [← hr] at HCX
          have HRR := Lib.hid hr
          have HX := Lib.hid hx
          have HZZ := Lib.hid (hj ▸ hz : L[j + 1]? = some z)
          obtain ⟨⟨x0, x1⟩, x2⟩ := x
          obtain ⟨⟨z0, z1⟩, z2⟩ := z
          dsimp only [spA, stA] at HCX u0 u1 u2 v0 v1 v2
          have d0 : wr.cell? ⟨w.heap.size, 10, none⟩ = some (.slice (some ⟨b, off, none⟩) q cs) := KR.cell 10
          have d1 : wr.cell? ⟨b, off + j * 3, none⟩ = some (.int .i64 x0) := (HBQ.out.cell (p := ⟨b, off + j * 3, none⟩) (by show b < _; omega)).trans u0
          have d2 : wr.cell? ⟨b, off + j * 3 + 1, none⟩ = some (.int .i64 x1) := (HBQ.out.cell (p := ⟨b, off + j * 3 + 1, none⟩) (by show b < _; omega)).trans u1
          have d3 : wr.cell? ⟨b, off + j * 3 + 2, none⟩ = some (.int .i64 x2) := (HBQ.out.cell (p := ⟨b, off + j * 3 + 2, none⟩) (by show b < _; omega)).trans u2
          have d4 : wr.cell? ⟨b, off + i * 3, none⟩ = some (.int .i64 z0) := (HBQ.out.cell (p := ⟨b, off + i * 3, none⟩) (by show b < _; omega)).trans v0
          have d5 : wr.cell? ⟨b, off + i * 3 + 1, none⟩ = some (.int .i64 z1) := (HBQ.out.cell (p := ⟨b, off + i * 3 + 1, none⟩) (by show b < _; omega)).trans v1
          have d6 : wr.cell? ⟨b, off + i * 3 + 2, none⟩ = some (.int .i64 z2) := (HBQ.out.cell (p := ⟨b, off + i * 3 + 2, none⟩) (by show b < _; omega)).trans v2
          have e0 : wr.drew.cell? ⟨w.heap.size, 10, none⟩ = some (.slice (some ⟨b, off, none⟩) q cs) := d0
          have e1 : wr.drew.cell? ⟨b, off + j * 3, none⟩ = some (.int .i64 x0) := d1
          have e2 : wr.drew.cell? ⟨b, off + j * 3 + 1, none⟩ = some (.int .i64 x1) := d2
          have e3 : wr.drew.cell? ⟨b, off + j * 3 + 2, none⟩ = some (.int .i64 x2) := d3
          have e4 : wr.drew.cell? ⟨b, off + i * 3, none⟩ = some (.int .i64 z0) := d4
          have e5 : wr.drew.cell? ⟨b, off + i * 3 + 1, none⟩ = some (.int .i64 z1) := d5
          have e6 : wr.drew.cell? ⟨b, off + i * 3 + 2, none⟩ = some (.int .i64 z2) := d6
          have j0 : (j : Int) < (q : Int) := by omega
          have i1 : (0 : Int) ≤ (i : Int) := by omega
          have i2 : (0 : Int) < (i : Int) := by omega
          have i3 : decide ((0 : Int) < (i : Int)) = true := by simpa using i2
          have j1 : (0 : Int) ≤ (j : Int) := by omega
          have jw : IntKind.i64.wrap ((i : Int) - 1) = (j : Int) := by rw [IntWalk.i64_in _ (by omega)]; omega
          have hzw : w.heap.size < wr.heap.size := KR.lt
          have hbw : b < wr.heap.size := by omega
          have HJ := Lib.hid hj
          have HI := Lib.hid hi
          clear hr hj hi u0 u1 u2 v0 v1 v2 hx hz KR y10' HG HC
          go_wp2_with fail
          go_region_held3 (fun w' => w'.cell? ⟨w.heap.size, 10, none⟩ = some (.slice (some ⟨b, off, none⟩) q cs) ∧ w'.cell? ⟨b, off + j * 3, none⟩ = some (.int .i64 x0) ∧ w'.cell? ⟨b, off + j * 3 + 1, none⟩ = some (.int .i64 x1) ∧ w'.cell? ⟨b, off + j * 3 + 2, none⟩ = some (.int .i64 x2) ∧ w'.cell? ⟨b, off + i * 3, none⟩ = some (.int .i64 z0) ∧ w'.cell? ⟨b, off + i * 3 + 1, none⟩ = some (.int .i64 z1) ∧ w'.cell? ⟨b, off + i * 3 + 2, none⟩ = some (.int .i64 z2))
            (first | with_reducible exact ⟨d0, d1, d2, d3, d4, d5, d6⟩ | with_reducible exact ⟨e0, e1, e2, e3, e4, e5, e6⟩ | with_reducible exact ⟨t0, t1, t2, t3, t4, t5, t6⟩)
            (first | (go_at_call 26; refine (HCX.out wr.drew).mono ?_; rintro e w2 ⟨rfl, hb2⟩; have HBW : Hid (Below W1.heap.size W1 w2) := hbel.out.drew.trans (hb2.mono hbel.out.size); have t0 : w2.cell? ⟨w.heap.size, 10, none⟩ = some (.slice (some ⟨b, off, none⟩) q cs) := (hb2.cell (p := ⟨w.heap.size, 10, none⟩) (by show _ < wr.heap.size; omega)).trans e0; have t1 : w2.cell? ⟨b, off + j * 3, none⟩ = some (.int .i64 x0) := (hb2.cell (p := ⟨b, off + j * 3, none⟩) (by show _ < wr.heap.size; omega)).trans e1; have t2 : w2.cell? ⟨b, off + j * 3 + 1, none⟩ = some (.int .i64 x1) := (hb2.cell (p := ⟨b, off + j * 3 + 1, none⟩) (by show _ < wr.heap.size; omega)).trans e2; have t3 : w2.cell? ⟨b, off + j * 3 + 2, none⟩ = some (.int .i64 x2) := (hb2.cell (p := ⟨b, off + j * 3 + 2, none⟩) (by show _ < wr.heap.size; omega)).trans e3; have t4 : w2.cell? ⟨b, off + i * 3, none⟩ = some (.int .i64 z0) := (hb2.cell (p := ⟨b, off + i * 3, none⟩) (by show _ < wr.heap.size; omega)).trans e4; have t5 : w2.cell? ⟨b, off + i * 3 + 1, none⟩ = some (.int .i64 z1) := (hb2.cell (p := ⟨b, off + i * 3 + 1, none⟩) (by show _ < wr.heap.size; omega)).trans e5; have t6 : w2.cell? ⟨b, off + i * 3 + 2, none⟩ = some (.int .i64 z2) := (hb2.cell (p := ⟨b, off + i * 3 + 2, none⟩) (by show _ < wr.heap.size; omega)).trans e6; clear hb2))
          cases r
          case false =>
            have HV := Lib.hid (F5.out (sptUp_bad HX.out HZZ.out HRR.out.symm))
            go_wp2_with fail
            go_ret
            exact ⟨by rw [HV.out]; rfl, HBR.out.trans (HBW.out.mono HBR.out.size)⟩
          case true =>
            go_wp2_with fail
            have hi' := HI.out
            go_roundg (q - (i + 1))
            case measure => omega
            case rel => exact ⟨i + 1, by omega, by go_num, HBW, fun j' a b h' ha hb => by
              by_cases e : j' + 1 < i
              · exact hup.out j' a b e ha hb
              · have hj' := HJ.out
                obtain rfl : j' = j := by omega
                obtain rfl := Option.some.inj (ha.symm.trans HX.out)
                obtain rfl := Option.some.inj (hb.symm.trans HZZ.out)
                exact HRR.out.symm⟩
        · have hup' : sptUp L = true := sptUp_all fun j a b ha hb => hup.out j a b (by
            have := (List.getElem?_eq_some_iff.1 hb).1
            have := HN.out
            omega) ha hb
          have HV := Lib.hid (F6.out hup')
          clear hup' KR
          go_wp2_with fail
          go_ret
          exact ⟨by rw [HV.out]; rfl, HBQ.out⟩
end Go.Proofs.YtinllchioeldbaaGreatDoor
