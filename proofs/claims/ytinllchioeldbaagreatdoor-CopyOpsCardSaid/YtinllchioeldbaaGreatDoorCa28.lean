/-
  DERIVED. The walk of copy.OpsText. Conditions: the table of powers of ten is laid.
  By an AI agent.
-/
import Derived.Test.YtinllchioeldbaaGreatDoorCa24
import Derived.Test.YtinllchioeldbaaGreatDoorCa30
import Derived.Test.YtinllchioeldbaaGreatDoorCa31
import Derived.Test.YtinllchioeldbaaGreatDoorCa11
import Derived.Test.YtinllchioeldbaaGreatDoorCa26
import Derived.Deep.LoopGhost
import Derived.Deep.DeepCutAuto
namespace Go.Proofs.YtinllchioeldbaaGreatDoor
open Go.RowKit

set_option maxHeartbeats 8000000 in
set_option maxRecDepth 100000 in
theorem opsText_any (l : List COp) (A : Option Addr) (n c : Nat) (w : World) (B : Nat) (hB : B ≤ w.heap.size) (h : RCs w B (.slice A n c) l) (hP : Pow w) :
    Calls Tryz.prog 8 #[.slice A n c] w fun e w' => e = .returned (.tuple #[.string (opsX l), .int .i64 (opsE l)]) ∧ Below w.heap.size w w' := by
  obtain ⟨hn, hnc, hn8⟩ := h.len
  have HN := Lib.hid hn
  have HS := Lib.hid h
  have HP := Lib.hid hP
  clear h hP hn
  by_cases hl : 4000 < n
  · have E0 : opsE l = 4 := opsE_long (by have := HN.out; omega)
    have E1 : opsX l = ⟨#[]⟩ := if_neg (by rw [E0]; decide)
    rw [E0, E1]
    have j0 : (4000 : Int) < (n : Int) := by omega
    clear E0 E1
    go_enter Tryz.func8, Tryz.ntmps8
    go_wp2_with fail
    go_ret2
    exact ⟨rfl, Below.refl _ _⟩
  have hl1 : n ≤ 4000 := by omega
  have HE1 : Hid (fE l ≠ 0 → opsE l = fE l) := fun e => opsE_bad (by have := HN.out; omega) e
  have HE2 : Hid (fE l = 0 → opsE l = if 400000 < (opsT l).size then 4 else 0) := fun e => opsE_ok (by have := HN.out; omega) e
  have HX0 : Hid (opsE l ≠ 0 → opsX l = ⟨#[]⟩) := fun e => if_neg e
  have HX1 : Hid (opsE l = 0 → opsX l = opsT l) := fun e => if_pos e
  obtain ⟨RX, hRX⟩ : ∃ R, R = opsX l := ⟨_, rfl⟩
  obtain ⟨RE, hRE⟩ : ∃ R, R = opsE l := ⟨_, rfl⟩
  rw [← hRX, ← hRE]
  rw [← hRX, ← hRE] at HX0 HX1
  rw [← hRE] at HE1 HE2
  clear hRX hRE hl
  have j0 : ¬ ((4000 : Int) < (n : Int)) := by omega
  go_enter Tryz.func8, Tryz.ntmps8
  go_upto_region 4 with fail
  have hb1 : w.heap.size < w.heap.size + 1 := by omega
  have KG := Blk.new w 54 #[.pointer none, .slice none 0 0]
  have HG0 : Hid (Below w.heap.size w (w.alloc (.cells #[.pointer none, .slice none 0 0] 54))) := (Below.refl _ _).alloc (Nat.le_refl _) _
  have hz0 : (w.alloc (.cells #[.pointer none, .slice none 0 0] 54)).heap.size = w.heap.size + 1 := Array.size_push _
  have HB0 : Hid (Bld w.heap.size (w.heap.size + 1) (Lib.strCells (opsT (l.take 0))) (w.alloc (.cells #[.pointer none, .slice none 0 0] 54))) := Bld.fresh (by omega) KG
  have HZ0 := Lib.hid hz0
  clear KG hz0
  generalize (w.alloc (.cells #[.pointer none, .slice none 0 0] 54)) = W0 at HG0 HB0 HZ0 ⊢
  go_wp2_with fail
  go_loopg [13] n (fun gg s13 wr => ∃ q : Nat, q + gg = n ∧ s13 = .int .i64 (q : Int) ∧ Hid (Below w.heap.size w wr) ∧ w.heap.size + 1 ≤ wr.heap.size ∧ Hid (Bld w.heap.size (w.heap.size + 1) (Lib.strCells (opsT (l.take q))) wr) ∧ Hid (∀ x ∈ l.take q, cE x = 0) ∧ (opsT (l.take q)).size ≤ q * 1000000)
  case atStart => exact ⟨0, by omega, rfl, HG0, by rw [HZ0.out]; omega, HB0, fun x hx => by simp at hx, by rw [opsT_zero]; show 0 ≤ _; omega⟩
  case round =>
    obtain ⟨q, hqg, rfl, HBR, hzr, HBL, HAL, hsz⟩ := hrel
    by_cases hq : q < n
    · obtain ⟨o, ho⟩ : ∃ o, l[q]? = some o := ⟨_, List.getElem?_eq_getElem (by have := HN.out; omega)⟩
      obtain ⟨b, off, As, ns, cs, Ai, ni, ci, rfl, hbb, u, hr1⟩ := HS.out.at_ ho
      have HRC : Hid (RC1 wr B ⟨o, .slice As ns cs, .slice Ai ni ci⟩) := hr1.below (HBR.out.mono hB)
      have HO := Lib.hid ho
      have HTK : Hid (opsT (l.take (q + 1)) = opsT (l.take q) ++ opTx o) := opsT_take ho
      have HALL : Hid (cE o = 0 → ∀ x ∈ l.take (q + 1), cE x = 0) := fun e x hx => by
        rw [List.take_add_one, HO.out] at hx
        rcases List.mem_append.1 hx with hx | hx
        · exact HAL.out x hx
        · simp at hx
          subst hx
          exact e
      have HBAD : Hid (cE o ≠ 0 → fE l = cE o) := fun e => fE_at HAL.out HO.out e
      have HOK : Hid (cE o = 0 → OkO o) := fun e => cE_ok e
      obtain ⟨E, hE⟩ : ∃ E, E = cE o := ⟨_, rfl⟩
      have HCH : Hid (∀ W, Below wr.heap.size wr W → Calls Tryz.prog 6 #[CA ⟨o, .slice As ns cs, .slice Ai ni ci⟩] W fun e w' => e = .returned (.int .i64 E) ∧ Below W.heap.size W w') := fun W hW => by
        rw [hE]
        exact checkOp_any ⟨o, .slice As ns cs, .slice Ai ni ci⟩ W B (Nat.le_trans hB (Nat.le_trans HBR.out.size hW.size)) (HRC.out.below (hW.mono (Nat.le_trans hB HBR.out.size)))
      obtain ⟨TX, hTX⟩ : ∃ T, T = opTx o := ⟨_, rfl⟩
      have HOT : Hid (E = 0 → ∀ W, Below wr.heap.size wr W → Calls Tryz.prog 28 #[CA ⟨o, .slice As ns cs, .slice Ai ni ci⟩] W fun e w' => e = .returned (.string TX) ∧ TX.size ≤ 1000000 ∧ Below W.heap.size W w') := fun e W hW => by
        rw [hTX]
        exact opText_any ⟨o, .slice As ns cs, .slice Ai ni ci⟩ W B (Nat.le_trans hB (Nat.le_trans HBR.out.size hW.size)) (HRC.out.below (hW.mono (Nat.le_trans hB HBR.out.size))) (HOK.out (hE ▸ e)) (HP.out.below (HBR.out.trans (hW.mono HBR.out.size)))
      rw [← hE] at HALL HBAD
      rw [← hTX] at HTK
      obtain ⟨⟨t0, t1⟩, kk, id, pa, le, ⟨⟨a0, a1⟩, a2⟩, oc, sp, nm, ⟨vk, vi, vt, vs, vl⟩⟩ := o
      dsimp only [CA, Vl.kind, Vl.int_, Vl.to_, Vl.text, Vl.items] at HCH HOT
      clear hE hTX HOK hr1 HRC
      have g0 : wr.cell? ⟨b, off + q * 17, none⟩ = some (.int .i64 t0) := (HBR.out.cell (p := ⟨b, off + q * 17 + 0, none⟩) (by show b < _; omega)).trans (u 0 _ rfl)
      have g1 : wr.cell? ⟨b, off + q * 17 + 1, none⟩ = some (.int .i64 t1) := (HBR.out.cell (p := ⟨b, off + q * 17 + 1, none⟩) (by show b < _; omega)).trans (u 1 _ rfl)
      have g2 : wr.cell? ⟨b, off + q * 17 + 2, none⟩ = some (.int .i64 kk) := (HBR.out.cell (p := ⟨b, off + q * 17 + 2, none⟩) (by show b < _; omega)).trans (u 2 _ rfl)
      have g3 : wr.cell? ⟨b, off + q * 17 + 3, none⟩ = some (.int .i64 id) := (HBR.out.cell (p := ⟨b, off + q * 17 + 3, none⟩) (by show b < _; omega)).trans (u 3 _ rfl)
      have g4 : wr.cell? ⟨b, off + q * 17 + 4, none⟩ = some (.int .i64 pa) := (HBR.out.cell (p := ⟨b, off + q * 17 + 4, none⟩) (by show b < _; omega)).trans (u 4 _ rfl)
      have g5 : wr.cell? ⟨b, off + q * 17 + 5, none⟩ = some (.int .i64 le) := (HBR.out.cell (p := ⟨b, off + q * 17 + 5, none⟩) (by show b < _; omega)).trans (u 5 _ rfl)
      have g6 : wr.cell? ⟨b, off + q * 17 + 6, none⟩ = some (.int .i64 a0) := (HBR.out.cell (p := ⟨b, off + q * 17 + 6, none⟩) (by show b < _; omega)).trans (u 6 _ rfl)
      have g7 : wr.cell? ⟨b, off + q * 17 + 7, none⟩ = some (.int .i64 a1) := (HBR.out.cell (p := ⟨b, off + q * 17 + 7, none⟩) (by show b < _; omega)).trans (u 7 _ rfl)
      have g8 : wr.cell? ⟨b, off + q * 17 + 8, none⟩ = some (.int .i64 a2) := (HBR.out.cell (p := ⟨b, off + q * 17 + 8, none⟩) (by show b < _; omega)).trans (u 8 _ rfl)
      have g9 : wr.cell? ⟨b, off + q * 17 + 9, none⟩ = some (.string oc) := (HBR.out.cell (p := ⟨b, off + q * 17 + 9, none⟩) (by show b < _; omega)).trans (u 9 _ rfl)
      have g10 : wr.cell? ⟨b, off + q * 17 + 10, none⟩ = some (.slice As ns cs) := (HBR.out.cell (p := ⟨b, off + q * 17 + 10, none⟩) (by show b < _; omega)).trans (u 10 _ rfl)
      have g11 : wr.cell? ⟨b, off + q * 17 + 11, none⟩ = some (.string nm) := (HBR.out.cell (p := ⟨b, off + q * 17 + 11, none⟩) (by show b < _; omega)).trans (u 11 _ rfl)
      have g12 : wr.cell? ⟨b, off + q * 17 + 12, none⟩ = some (.int .i64 vk) := (HBR.out.cell (p := ⟨b, off + q * 17 + 12, none⟩) (by show b < _; omega)).trans (u 12 _ rfl)
      have g13 : wr.cell? ⟨b, off + q * 17 + 13, none⟩ = some (.int .i64 vi) := (HBR.out.cell (p := ⟨b, off + q * 17 + 13, none⟩) (by show b < _; omega)).trans (u 13 _ rfl)
      have g14 : wr.cell? ⟨b, off + q * 17 + 14, none⟩ = some (.int .i64 vt) := (HBR.out.cell (p := ⟨b, off + q * 17 + 14, none⟩) (by show b < _; omega)).trans (u 14 _ rfl)
      have g15 : wr.cell? ⟨b, off + q * 17 + 15, none⟩ = some (.string vs) := (HBR.out.cell (p := ⟨b, off + q * 17 + 15, none⟩) (by show b < _; omega)).trans (u 15 _ rfl)
      have g16 : wr.cell? ⟨b, off + q * 17 + 16, none⟩ = some (.slice Ai ni ci) := (HBR.out.cell (p := ⟨b, off + q * 17 + 16, none⟩) (by show b < _; omega)).trans (u 16 _ rfl)
      have j1 : (q : Int) < (n : Int) := by omega
      clear ho
      go_upto_region 6 with fail
      go_cut [6] (fun s6 wx => s6 = .pointer (some ⟨wr.heap.size, 0, none⟩) ∧ Hid (Blk wx wr.heap.size 33 #[.int .i64 t0, .int .i64 t1, .int .i64 kk, .int .i64 id, .int .i64 pa, .int .i64 le, .int .i64 a0, .int .i64 a1, .int .i64 a2, .string oc, .slice As ns cs, .string nm, .int .i64 vk, .int .i64 vi, .int .i64 vt, .string vs, .slice Ai ni ci] ∧ Below wr.heap.size wr wx))
      case first =>
        as_aux_lemma =>
        have KA := Blk.new wr 33 #[.int .i64 t0, .int .i64 t1, .int .i64 kk, .int .i64 id, .int .i64 pa, .int .i64 le, .int .i64 a0, .int .i64 a1, .int .i64 a2, .string oc, .slice As ns cs, .string nm, .int .i64 vk, .int .i64 vi, .int .i64 vt, .string vs, .slice Ai ni ci]
        have HKA := Lib.hid (And.intro KA ((Below.refl _ _).alloc (Nat.le_refl _) _ : Below wr.heap.size wr (wr.alloc (.cells #[.int .i64 t0, .int .i64 t1, .int .i64 kk, .int .i64 id, .int .i64 pa, .int .i64 le, .int .i64 a0, .int .i64 a1, .int .i64 a2, .string oc, .slice As ns cs, .string nm, .int .i64 vk, .int .i64 vi, .int .i64 vt, .string vs, .slice Ai ni ci] 33))))
        clear u KA HCH HOT HBL HTK HALL HBAD
        go_wp2_with fail
        go_meet
        exact ⟨rfl, HKA⟩
      case rest =>
      obtain ⟨rfl, hka, ha⟩ := hcut
      have HKA := Lib.hid hka
      have HA := Lib.hid ha
      have x0 : wc.cell? ⟨wr.heap.size, 0, none⟩ = some (.int .i64 t0) := hka.cell 0
      have x1 : wc.cell? ⟨wr.heap.size, 1, none⟩ = some (.int .i64 t1) := hka.cell 1
      have x2 : wc.cell? ⟨wr.heap.size, 2, none⟩ = some (.int .i64 kk) := hka.cell 2
      have x3 : wc.cell? ⟨wr.heap.size, 3, none⟩ = some (.int .i64 id) := hka.cell 3
      have x4 : wc.cell? ⟨wr.heap.size, 4, none⟩ = some (.int .i64 pa) := hka.cell 4
      have x5 : wc.cell? ⟨wr.heap.size, 5, none⟩ = some (.int .i64 le) := hka.cell 5
      have x6 : wc.cell? ⟨wr.heap.size, 6, none⟩ = some (.int .i64 a0) := hka.cell 6
      have x7 : wc.cell? ⟨wr.heap.size, 7, none⟩ = some (.int .i64 a1) := hka.cell 7
      have x8 : wc.cell? ⟨wr.heap.size, 8, none⟩ = some (.int .i64 a2) := hka.cell 8
      have x9 : wc.cell? ⟨wr.heap.size, 9, none⟩ = some (.string oc) := hka.cell 9
      have x10 : wc.cell? ⟨wr.heap.size, 10, none⟩ = some (.slice As ns cs) := hka.cell 10
      have x11 : wc.cell? ⟨wr.heap.size, 11, none⟩ = some (.string nm) := hka.cell 11
      have x12 : wc.cell? ⟨wr.heap.size, 12, none⟩ = some (.int .i64 vk) := hka.cell 12
      have x13 : wc.cell? ⟨wr.heap.size, 13, none⟩ = some (.int .i64 vi) := hka.cell 13
      have x14 : wc.cell? ⟨wr.heap.size, 14, none⟩ = some (.int .i64 vt) := hka.cell 14
      have x15 : wc.cell? ⟨wr.heap.size, 15, none⟩ = some (.string vs) := hka.cell 15
      have x16 : wc.cell? ⟨wr.heap.size, 16, none⟩ = some (.slice Ai ni ci) := hka.cell 16
      clear u hka ha g0 g1 g2 g3 g4 g5 g6 g7 g8 g9 g10 g11 g12 g13 g14 g15 g16
      as_aux_lemma =>
      go_wp2_with fail
      refine (HCH.out _ HA.out).mono ?_
      rintro e w2 ⟨rfl, hb2⟩
      have HB2 : Hid (Below wr.heap.size wr w2) := HA.out.trans (hb2.mono HA.out.size)
      have K2 := HKA.out.below hb2 HKA.out.lt
      have y0 : w2.cell? ⟨wr.heap.size, 0, none⟩ = some (.int .i64 t0) := K2.cell 0
      have y1 : w2.cell? ⟨wr.heap.size, 1, none⟩ = some (.int .i64 t1) := K2.cell 1
      have y2 : w2.cell? ⟨wr.heap.size, 2, none⟩ = some (.int .i64 kk) := K2.cell 2
      have y3 : w2.cell? ⟨wr.heap.size, 3, none⟩ = some (.int .i64 id) := K2.cell 3
      have y4 : w2.cell? ⟨wr.heap.size, 4, none⟩ = some (.int .i64 pa) := K2.cell 4
      have y5 : w2.cell? ⟨wr.heap.size, 5, none⟩ = some (.int .i64 le) := K2.cell 5
      have y6 : w2.cell? ⟨wr.heap.size, 6, none⟩ = some (.int .i64 a0) := K2.cell 6
      have y7 : w2.cell? ⟨wr.heap.size, 7, none⟩ = some (.int .i64 a1) := K2.cell 7
      have y8 : w2.cell? ⟨wr.heap.size, 8, none⟩ = some (.int .i64 a2) := K2.cell 8
      have y9 : w2.cell? ⟨wr.heap.size, 9, none⟩ = some (.string oc) := K2.cell 9
      have y10 : w2.cell? ⟨wr.heap.size, 10, none⟩ = some (.slice As ns cs) := K2.cell 10
      have y11 : w2.cell? ⟨wr.heap.size, 11, none⟩ = some (.string nm) := K2.cell 11
      have y12 : w2.cell? ⟨wr.heap.size, 12, none⟩ = some (.int .i64 vk) := K2.cell 12
      have y13 : w2.cell? ⟨wr.heap.size, 13, none⟩ = some (.int .i64 vi) := K2.cell 13
      have y14 : w2.cell? ⟨wr.heap.size, 14, none⟩ = some (.int .i64 vt) := K2.cell 14
      have y15 : w2.cell? ⟨wr.heap.size, 15, none⟩ = some (.string vs) := K2.cell 15
      have y16 : w2.cell? ⟨wr.heap.size, 16, none⟩ = some (.slice Ai ni ci) := K2.cell 16
      have HL2 : Hid (Bld w.heap.size (w.heap.size + 1) (Lib.strCells (opsT (l.take q))) w2) := Bld.below HBL.out HB2.out
      have hz2 : w.heap.size + 1 ≤ w2.heap.size := Nat.le_trans hzr HB2.out.size
      have HW2 : Hid (Below w.heap.size w w2) := HBR.out.trans (HB2.out.mono HBR.out.size)
      clear K2 hb2 x0 x1 x2 x3 x4 x5 x6 x7 x8 x9 x10 x11 x12 x13 x14 x15 x16
      by_cases hE0 : E = 0
      · as_aux_lemma =>
          subst hE0
          have HOT2 := Lib.hid (HOT.out rfl)
          have HALL2 := Lib.hid (HALL.out rfl)
          clear HOT HALL HBAD
          go_wp2_with fail
          refine (HOT2.out w2 HB2.out).mono ?_
          rintro e w3 ⟨rfl, hts, hb3⟩
          have HL3 : Hid (Bld w.heap.size (w.heap.size + 1) (Lib.strCells (opsT (l.take q))) w3) := Bld.below HL2.out hb3
          have hz3 : w.heap.size + 1 ≤ w3.heap.size := Nat.le_trans hz2 hb3.size
          have HW3 : Hid (Below w.heap.size w w3) := HW2.out.trans (hb3.mono HW2.out.size)
          have HWS := Lib.hid (writeString_any w.heap.size (w.heap.size + 1) _ TX w3 HL3.out (by rw [Lib.strCells_length]; omega) hz3)
          clear hb3 y0 y1 y2 y3 y4 y5 y6 y7 y8 y9 y10 y11 y12 y13 y14 y15 y16
          go_wp2_with fail
          refine HWS.out.mono ?_
          rintro e w4 ⟨rfl, hl4, hk4⟩
          have HW4 : Hid (Below w.heap.size w w4) := HW3.out.trans hk4.1
          have hz4 : w.heap.size + 1 ≤ w4.heap.size := Nat.le_trans hz3 hk4.1.size
          have HL4 : Hid (Bld w.heap.size (w.heap.size + 1) (Lib.strCells (opsT (l.take (q + 1)))) w4) := by
            show Bld _ _ _ _
            rw [HTK.out, strCells_app2]
            exact hl4
          have HSZ : (opsT (l.take (q + 1))).size ≤ (q + 1) * 1000000 := by
            rw [HTK.out, ByteArray.size_append]
            omega
          clear hl4 hk4
          go_wp2_with fail
          go_roundg (n - (q + 1))
          case measure => omega
          case rel => exact ⟨q + 1, by omega, by go_num, HW4, hz4, HL4, HALL2.out, HSZ⟩
      · as_aux_lemma =>
          have e1 := HBAD.out hE0
          have e2 := HE1.out (by rw [e1]; exact hE0)
          rw [e1] at e2
          have e3 := HX0.out (by rw [e2]; exact hE0)
          subst e2 e3
          clear e1
          go_wp2_with fail
          go_ret2
          exact ⟨rfl, HW2.out⟩
    · as_aux_lemma =>
        obtain rfl : q = n := by omega
        have ht : l.take q = l := List.take_of_length_le (by rw [← HN.out]; exact Nat.le_refl _)
        rw [ht] at HBL HAL hsz
        have e1 := HE2.out (fE_ok HAL.out)
        have HLN := Lib.hid (lenB_any _ _ _ wr HBL.out)
        have HST := Lib.hid (string_any _ _ _ wr HBL.out)
        rw [Lib.strCells_length] at HLN
        obtain ⟨T, hT⟩ : ∃ T, T = opsT l := ⟨_, rfl⟩
        rw [← hT] at HLN HST HX1 e1
        clear hT
        by_cases h4 : 400000 < T.size
        · rw [if_pos h4] at e1
          have e3 := HX0.out (by rw [e1]; decide)
          subst e1 e3
          have j4 : (400000 : Int) < (T.size : Int) := by omega
          go_wp2_with fail
          refine HLN.out.mono ?_
          rintro e w2 ⟨rfl, rfl⟩
          go_wp2_with fail
          go_ret2
          exact ⟨rfl, HBR.out⟩
        · rw [if_neg h4] at e1
          have e3 := HX1.out e1
          subst e1 e3
          have j4 : ¬ ((400000 : Int) < (RX.size : Int)) := by omega
          go_wp2_with fail
          refine HLN.out.mono ?_
          rintro e w2 ⟨rfl, rfl⟩
          go_wp2_with fail
          refine HST.out.mono ?_
          rintro e w3 ⟨rfl, hb3⟩
          have HW3 : Hid (Below w.heap.size w w3) := HBR.out.trans hb3
          clear hb3
          go_wp2_with fail
          go_ret2
          exact ⟨rfl, HW3.out⟩
end Go.Proofs.YtinllchioeldbaaGreatDoor
