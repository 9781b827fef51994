/-
  DERIVED. The walk of the reference's OpsString. Conditions: the operations are right; tables are laid.
  By an AI agent.
-/
import Derived.Test.YtinllchioeldbaaGreatDoorCa21
import Derived.Test.YtinllchioeldbaaGreatDoorCa20
import Derived.Test.YtinllchioeldbaaGreatDoorCa13
import Derived.Deep.LoopGhost
import Derived.Deep.RegionHeld3
import Derived.Deep.DeepCutAuto
import Derived.Deep.CutBlock
namespace Go.Proofs.YtinllchioeldbaaGreatDoor
open Go.RowKit

theorem le32 {n : Int} (h : 0 ≤ n ∧ n ≤ 1000000000) : 0 ≤ n ∧ n ≤ 4294967296 := by omega
theorem sp_sz {a b c : Int} (ha : 0 ≤ a ∧ a ≤ 1000000000) (hb : 0 ≤ b ∧ b ≤ 1000000000) (hc : 0 ≤ c ∧ c ≤ 1000000000) : (wd a ++ ⟨#[32]⟩ ++ wd b ++ ⟨#[32]⟩ ++ wd c).size ≤ 65 := by
  have := wd_sz ha
  have := wd_sz hb
  have := wd_sz hc
  simp only [ByteArray.size_append]
  show _ + 1 + _ + 1 + _ ≤ _
  omega
set_option maxHeartbeats 16000000 in
set_option maxRecDepth 100000 in
theorem opsString_any (l : List COp) (A : Option Addr) (n c : Nat) (w : World) (B : Nat) (hB : B ≤ w.heap.size) (h : RCs w B (.slice A n c) l) (hP : Pow w) (hW : OpW w) (hl : n ≤ 4000) (hok : ∀ o ∈ l, OkO o) :
    Calls Tryz.prog 10 #[.slice A n c] w fun e w' => e = .returned (.string (opsT l)) ∧ (opsT l).size ≤ 4000000000 ∧ Below w.heap.size w w' := by
  obtain ⟨hn, hnc, hn8⟩ := h.len
  have HN := Lib.hid hn
  have HS := Lib.hid h
  have HP := Lib.hid hP
  have HW := Lib.hid hW
  have HOKL := Lib.hid hok
  have HSP1 : Hid ((⟨#[32]⟩ : ByteArray).size = 1) := rfl
  clear h hP hn hW hok
  go_enter Tryz.func10, Tryz.ntmps10
  go_wp2_with fail
  go_loopg [3, 13] n (fun gg s3 s13 wr => ∃ q : Nat, q + gg = n ∧ s13 = .int .i64 (q : Int) ∧ Hid (wr.ownsRow w.heap.size 9 1 s3 q (((l.take q).map opTx).map .string)) ∧ Hid (Below w.heap.size w wr) ∧ (opsT (l.take q)).size ≤ q * 1000000)
  case atStart => exact ⟨0, by omega, rfl, World.ownsRow_nil _ _ _ _, Below.refl _ _, by rw [opsT_zero]; show 0 ≤ _; omega⟩
  case round =>
    obtain ⟨q, hqg, rfl, HOW, HBR, hsz⟩ := hrel
    by_cases hq : q < n
    · obtain ⟨O, ho⟩ : ∃ o, l[q]? = some o := ⟨_, List.getElem?_eq_getElem (by have := HN.out; omega)⟩
      obtain ⟨b, off, As, ns, cs, Ai, ni, ci, rfl, hbb, u, hr1⟩ := HS.out.at_ ho
      have hrw : RC1 wr B ⟨O, .slice As ns cs, .slice Ai ni ci⟩ := hr1.below (HBR.out.mono hB)
      have ok := HOKL.out O (List.mem_of_getElem? ho)
      have HTK : Hid (opsT (l.take (q + 1)) = opsT (l.take q) ++ opTx O) := opsT_take ho
      have HMP : Hid (((l.take (q + 1)).map opTx).map Value.string = ((l.take q).map opTx).map .string ++ [.string (opTx O)]) := take_str opTx ho
      obtain ⟨LV, hLV⟩ : ∃ L, L = ((l.take q).map opTx).map Value.string := ⟨_, rfl⟩
      rw [← hLV] at HOW HMP
      clear hLV
      obtain ⟨gb, ofw, cw, hw1, hgb, hw2⟩ := (HW.out.below HBR.out).at_
      have hgl := World.block_lt_of_cell? wr _ hw1
      have HR1 : Hid (O.kind = 1 → _) := fun e => rs_k1 (o := O) e
      have HR2 : Hid (O.kind = 2 → _) := fun e => rs_k2 (o := O) e
      have HR3 : Hid (O.kind = 3 → _) := fun e => rs_k3 (o := O) e
      have HR4 : Hid (O.kind = 4 → _) := fun e => rs_k4 (o := O) e
      have HR5 : Hid (O.kind = 5 → _) := fun e => rs_k5 (o := O) e
      have HR6 : Hid (O.kind = 6 → _) := fun e => rs_k6 (o := O) e
      have hpj := preW_join O
      have HSZ6 : Hid ((txS O.val).size ≤ 100000 → (joinB (wds O) bSp).size ≤ 900000) := fun e => wds_size ok fun _ => e
      have HSZ : Hid (O.kind ≠ 6 → (joinB (wds O) bSp).size ≤ 900000) := fun e => wds_size ok fun f => absurd f e
      have HOKP := Lib.hid ok.p
      have HOKX := Lib.hid ok.x
      have HOKA := Lib.hid ok.a
      have HOKS := Lib.hid ok.s
      have HOKV := Lib.hid ok.v
      have HT := Lib.hid fun W => told_wd O.st.time ok.t.1 (Int.le_trans ok.t.2 (by decide)) W
      have HC := Lib.hid fun W => told_wd O.st.cp ok.c.1 (Int.le_trans ok.c.2 (by decide)) W
      have HD := Lib.hid fun W => told_wd O.id ok.i.1 (Int.le_trans ok.i.2 (by decide)) W
      have z0 := wd_sz ok.t
      have z1 := wd_sz ok.c
      have z2 := wd_sz ok.i
      have z3 := kdW_size O.kind
      have hkk := ok.k
      have HTX0 : Hid (∀ W, Below wr.heap.size wr W → Calls Tryz.prog 34 #[AV (O.val, .slice Ai ni ci)] W fun e w' => e = .returned (.tuple #[.string (txS O.val), .int .i64 (vErr O.val)]) ∧ (txS O.val).size ≤ 100000 ∧ Below W.heap.size W w') := fun W hW =>
        text_any O.val Ai ni ci W B (Nat.le_trans hB (Nat.le_trans HBR.out.size hW.size)) (hrw.2.1.below (hW.mono (Nat.le_trans hB HBR.out.size))) (HP.out.below (HBR.out.trans (hW.mono HBR.out.size)))
      have HSS : Hid (RSp wr B (.slice As ns cs) O.spots) := hrw.1
      have HNS : Hid (ns = O.spots.length) := hrw.1.len.1
      have hns8 := hrw.1.len.2.1
      have hns9 := hrw.1.len.2.2
      have HOX : Hid (opTx O = joinB (wds O) bSp ++ ⟨#[10]⟩) := rfl
      obtain ⟨R, hR⟩ : ∃ R, R = joinB (wds O) bSp := ⟨_, rfl⟩
      obtain ⟨P, hPP⟩ : ∃ P, P = joinB (preW O) bSp := ⟨_, rfl⟩
      obtain ⟨KW, hKW⟩ : ∃ K, K = kdW O.kind := ⟨_, rfl⟩
      have HPJ := Lib.hid hPP
      rw [← hR] at HR1 HR2 HR3 HR4 HR5 HR6 HSZ6 HSZ HOX
      rw [← hPP] at HR1 HR2 HR3 HR4 HR6 hpj
      rw [← hKW] at hpj z3
      obtain ⟨OT, hOT⟩ : ∃ T, T = opTx O := ⟨_, rfl⟩
      rw [← hOT] at HTK HMP HOX
      obtain ⟨PL, hPL⟩ : ∃ T, T = preW O := ⟨_, rfl⟩
      have HPN : Hid (PL ≠ []) := by rw [hPL]; exact preW_ne O
      rw [← hPL] at HPJ HR5
      clear ok hR hPP hOT hrw hr1 ho hPL
      obtain ⟨⟨t0, t1⟩, kk, id, pa, le, ⟨⟨a0, a1⟩, a2⟩, oc, sp, nm, ⟨vk, vi, vt, vs, vl⟩⟩ := O
      obtain ⟨k0, rfl⟩ : ∃ k0 : Nat, kk = (k0 : Int) := ⟨kk.toNat, by dsimp only at hkk; omega⟩
      have hk1 : 1 ≤ k0 := by dsimp only at hkk; omega
      have hk6 : k0 ≤ 6 := by dsimp only at hkk; omega
      have hw3 : wr.cell? ⟨gb, ofw + k0, none⟩ = some (.string KW) := by rw [hKW]; exact hw2 k0 hk1 hk6
      dsimp only [AV, Vl.kind, Vl.int_, Vl.to_, Vl.text, Vl.items] at HR1 HR2 HR3 HR4 HR5 HR6 HSZ6 HSZ HOKP HOKX HOKA HOKS HOKV HT HC HD z0 z1 z2 z3 HTX0 HSS HNS hns8 hns9 hpj
      obtain ⟨T0, e0⟩ : ∃ S, S = wd t0 := ⟨_, rfl⟩
      obtain ⟨T1, e1⟩ : ∃ S, S = wd t1 := ⟨_, rfl⟩
      obtain ⟨T3, e3⟩ : ∃ S, S = wd id := ⟨_, rfl⟩
      rw [← e0, ← e1, ← e3] at hpj
      rw [← e0] at HT z0
      rw [← e1] at HC z1
      rw [← e3] at HD z2
      clear e0 e1 e3 hKW hw2 hkk
      have g0 : wr.cell? ⟨b, off + q * 17, none⟩ = some (.int .i64 t0) := (HBR.out.cell (p := ⟨b, off + q * 17 + 0, none⟩) (by show b < _; omega)).trans (u 0 _ rfl)
      have g1 : wr.cell? ⟨b, off + q * 17 + 1, none⟩ = some (.int .i64 t1) := (HBR.out.cell (p := ⟨b, off + q * 17 + 1, none⟩) (by show b < _; omega)).trans (u 1 _ rfl)
      have g2 : wr.cell? ⟨b, off + q * 17 + 2, none⟩ = some (.int .i64 (k0 : Int)) := (HBR.out.cell (p := ⟨b, off + q * 17 + 2, none⟩) (by show b < _; omega)).trans (u 2 _ rfl)
      have g3 : wr.cell? ⟨b, off + q * 17 + 3, none⟩ = some (.int .i64 id) := (HBR.out.cell (p := ⟨b, off + q * 17 + 3, none⟩) (by show b < _; omega)).trans (u 3 _ rfl)
      have g4 : wr.cell? ⟨b, off + q * 17 + 4, none⟩ = some (.int .i64 pa) := (HBR.out.cell (p := ⟨b, off + q * 17 + 4, none⟩) (by show b < _; omega)).trans (u 4 _ rfl)
      have g5 : wr.cell? ⟨b, off + q * 17 + 5, none⟩ = some (.int .i64 le) := (HBR.out.cell (p := ⟨b, off + q * 17 + 5, none⟩) (by show b < _; omega)).trans (u 5 _ rfl)
      have g6 : wr.cell? ⟨b, off + q * 17 + 6, none⟩ = some (.int .i64 a0) := (HBR.out.cell (p := ⟨b, off + q * 17 + 6, none⟩) (by show b < _; omega)).trans (u 6 _ rfl)
      have g7 : wr.cell? ⟨b, off + q * 17 + 7, none⟩ = some (.int .i64 a1) := (HBR.out.cell (p := ⟨b, off + q * 17 + 7, none⟩) (by show b < _; omega)).trans (u 7 _ rfl)
      have g8 : wr.cell? ⟨b, off + q * 17 + 8, none⟩ = some (.int .i64 a2) := (HBR.out.cell (p := ⟨b, off + q * 17 + 8, none⟩) (by show b < _; omega)).trans (u 8 _ rfl)
      have g9 : wr.cell? ⟨b, off + q * 17 + 9, none⟩ = some (.string oc) := (HBR.out.cell (p := ⟨b, off + q * 17 + 9, none⟩) (by show b < _; omega)).trans (u 9 _ rfl)
      have g10 : wr.cell? ⟨b, off + q * 17 + 10, none⟩ = some (.slice As ns cs) := (HBR.out.cell (p := ⟨b, off + q * 17 + 10, none⟩) (by show b < _; omega)).trans (u 10 _ rfl)
      have g11 : wr.cell? ⟨b, off + q * 17 + 11, none⟩ = some (.string nm) := (HBR.out.cell (p := ⟨b, off + q * 17 + 11, none⟩) (by show b < _; omega)).trans (u 11 _ rfl)
      have g12 : wr.cell? ⟨b, off + q * 17 + 12, none⟩ = some (.int .i64 vk) := (HBR.out.cell (p := ⟨b, off + q * 17 + 12, none⟩) (by show b < _; omega)).trans (u 12 _ rfl)
      have g13 : wr.cell? ⟨b, off + q * 17 + 13, none⟩ = some (.int .i64 vi) := (HBR.out.cell (p := ⟨b, off + q * 17 + 13, none⟩) (by show b < _; omega)).trans (u 13 _ rfl)
      have g14 : wr.cell? ⟨b, off + q * 17 + 14, none⟩ = some (.int .i64 vt) := (HBR.out.cell (p := ⟨b, off + q * 17 + 14, none⟩) (by show b < _; omega)).trans (u 14 _ rfl)
      have g15 : wr.cell? ⟨b, off + q * 17 + 15, none⟩ = some (.string vs) := (HBR.out.cell (p := ⟨b, off + q * 17 + 15, none⟩) (by show b < _; omega)).trans (u 15 _ rfl)
      have g16 : wr.cell? ⟨b, off + q * 17 + 16, none⟩ = some (.slice Ai ni ci) := (HBR.out.cell (p := ⟨b, off + q * 17 + 16, none⟩) (by show b < _; omega)).trans (u 16 _ rfl)
      have j1 : (q : Int) < (n : Int) := by omega
      have HPE := Lib.hid hpj
      clear hpj
      go_upto_region 4 with fail
      go_cut [5] (fun s5 wx => ∃ gc : Nat, s5 = .pointer (some ⟨gc, 0, none⟩) ∧ Hid (Blk wx gc 33 #[.int .i64 t0, .int .i64 t1, .int .i64 (k0 : Int), .int .i64 id, .int .i64 pa, .int .i64 le, .int .i64 a0, .int .i64 a1, .int .i64 a2, .string oc, .slice As ns cs, .string nm, .int .i64 vk, .int .i64 vi, .int .i64 vt, .string vs, .slice Ai ni ci]) ∧ Hid (Below wr.heap.size wr wx))
      case first =>
        as_aux_lemma =>
        have KA := Blk.new wr 33 #[.int .i64 t0, .int .i64 t1, .int .i64 (k0 : Int), .int .i64 id, .int .i64 pa, .int .i64 le, .int .i64 a0, .int .i64 a1, .int .i64 a2, .string oc, .slice As ns cs, .string nm, .int .i64 vk, .int .i64 vi, .int .i64 vt, .string vs, .slice Ai ni ci]
        have HKA := Lib.hid KA
        have HAL : Hid (Below wr.heap.size wr (wr.alloc (.cells #[.int .i64 t0, .int .i64 t1, .int .i64 (k0 : Int), .int .i64 id, .int .i64 pa, .int .i64 le, .int .i64 a0, .int .i64 a1, .int .i64 a2, .string oc, .slice As ns cs, .string nm, .int .i64 vk, .int .i64 vi, .int .i64 vt, .string vs, .slice Ai ni ci] 33))) := (Below.refl _ _).alloc (Nat.le_refl _) _
        clear u KA HT HC HD HTX0
        go_wp2_with fail
        go_meet
        exact ⟨_, rfl, HKA, HAL⟩
      case rest =>
      obtain ⟨gc, rfl, hka, ha⟩ := hcut
      obtain ⟨X, rfl⟩ : ∃ X, X = wc := ⟨_, rfl⟩
      clear u g0 g1 g2 g3 g4 g5 g6 g7 g8 g9 g10 g11 g12 g13 g14 g15 g16
      go_upto_region 5 with fail
      go_cut [6] (fun s6 wx => s6 = .string P ∧ Hid (Below X.heap.size X wx))
      case first =>
        as_aux_lemma =>
        have HKX := hka
        have HW1 := Lib.hid ((ha.out.cell hgl).trans hw1)
        have HW2 := Lib.hid ((ha.out.cell (p := ⟨gb, ofw + k0, none⟩) hgb).trans hw3)
        have hzX := hka.out.lt
        have hzr := ha.out.size
        have hzg : 0 < X.heap.size := Nat.lt_of_lt_of_le hgl hzr
        have hzb : gb < X.heap.size := Nat.lt_of_lt_of_le hgb hzr
        have j2 : (0 : Int) ≤ (k0 : Int) := by omega
        have j3 : (k0 : Int) < 7 := by omega
        clear hw1 hw3 hka ha
        have ha0 : ∀ W, (Op.stringOp .add (T0) (⟨#[32]⟩)).run Tryz.prog W = .ok (.string ((T0) ++ (⟨#[32]⟩))) W := fun W => run_string_add_sum W _ _ (by simp only [HSP1.out]; omega)
        have ha1 : ∀ W, (Op.stringOp .add (T0 ++ ⟨#[32]⟩) (T1)).run Tryz.prog W = .ok (.string ((T0 ++ ⟨#[32]⟩) ++ (T1))) W := fun W => run_string_add_sum W _ _ (by simp only [ByteArray.size_append, HSP1.out]; omega)
        have ha2 : ∀ W, (Op.stringOp .add (T0 ++ ⟨#[32]⟩ ++ T1) (⟨#[32]⟩)).run Tryz.prog W = .ok (.string ((T0 ++ ⟨#[32]⟩ ++ T1) ++ (⟨#[32]⟩))) W := fun W => run_string_add_sum W _ _ (by simp only [ByteArray.size_append, HSP1.out]; omega)
        have ha3 : ∀ W, (Op.stringOp .add (T0 ++ ⟨#[32]⟩ ++ T1 ++ ⟨#[32]⟩) (KW)).run Tryz.prog W = .ok (.string ((T0 ++ ⟨#[32]⟩ ++ T1 ++ ⟨#[32]⟩) ++ (KW))) W := fun W => run_string_add_sum W _ _ (by simp only [ByteArray.size_append, HSP1.out]; omega)
        have ha4 : ∀ W, (Op.stringOp .add (T0 ++ ⟨#[32]⟩ ++ T1 ++ ⟨#[32]⟩ ++ KW) (⟨#[32]⟩)).run Tryz.prog W = .ok (.string ((T0 ++ ⟨#[32]⟩ ++ T1 ++ ⟨#[32]⟩ ++ KW) ++ (⟨#[32]⟩))) W := fun W => run_string_add_sum W _ _ (by simp only [ByteArray.size_append, HSP1.out]; omega)
        have ha5 : ∀ W, (Op.stringOp .add (T0 ++ ⟨#[32]⟩ ++ T1 ++ ⟨#[32]⟩ ++ KW ++ ⟨#[32]⟩) (T3)).run Tryz.prog W = .ok (.string ((T0 ++ ⟨#[32]⟩ ++ T1 ++ ⟨#[32]⟩ ++ KW ++ ⟨#[32]⟩) ++ (T3))) W := fun W => run_string_add_sum W _ _ (by simp only [ByteArray.size_append, HSP1.out]; omega)
        have HSOF : Hid (∀ W, Below X.heap.size X W → W.cell? ⟨gc, 0, none⟩ = some (.int .i64 t0) ∧ W.cell? ⟨gc, 1, none⟩ = some (.int .i64 t1) ∧ W.cell? ⟨gc, 2, none⟩ = some (.int .i64 (k0 : Int)) ∧ W.cell? ⟨gc, 3, none⟩ = some (.int .i64 id) ∧ W.cell? ⟨0, 0, none⟩ = some (.slice (some ⟨gb, ofw, none⟩) 7 cw) ∧ W.cell? ⟨gb, ofw + k0, none⟩ = some (.string KW)) := fun W h => ⟨(h.cell (p := ⟨gc, 0, none⟩) hzX).trans (HKX.out.cell 0), (h.cell (p := ⟨gc, 1, none⟩) hzX).trans (HKX.out.cell 1), (h.cell (p := ⟨gc, 2, none⟩) hzX).trans (HKX.out.cell 2), (h.cell (p := ⟨gc, 3, none⟩) hzX).trans (HKX.out.cell 3), (h.cell (p := ⟨0, 0, none⟩) hzg).trans HW1.out, (h.cell (p := ⟨gb, ofw + k0, none⟩) hzb).trans HW2.out⟩
        have HBT : Hid (∀ W W', Below X.heap.size X W → Below W.heap.size W W' → Below X.heap.size X W') := fun W W' h h' => h.trans (h'.mono h.size)
        have HB0 : Hid (Below X.heap.size X X.drew) := (Below.refl X.heap.size X).drew
        go_region_held3 (fun w' => w'.cell? ⟨gc, 0, none⟩ = some (.int .i64 t0) ∧ w'.cell? ⟨gc, 1, none⟩ = some (.int .i64 t1) ∧ w'.cell? ⟨gc, 2, none⟩ = some (.int .i64 (k0 : Int)) ∧ w'.cell? ⟨gc, 3, none⟩ = some (.int .i64 id) ∧ w'.cell? ⟨0, 0, none⟩ = some (.slice (some ⟨gb, ofw, none⟩) 7 cw) ∧ w'.cell? ⟨gb, ofw + k0, none⟩ = some (.string KW))
          ((refine HSOF.out _ ?_; first | with_reducible exact HB3.out | with_reducible exact HB2.out | with_reducible exact HB1.out | with_reducible exact HB0.out))
          (first | (go_at_call_of 31 (Value.int .i64 t0); refine (HT.out X.drew).mono ?_; rintro e w1 ⟨rfl, hb1⟩; have HB1 := Lib.hid (HBT.out _ _ HB0.out hb1); clear hb1) | (go_at_call_of 31 (Value.int .i64 t1); refine (HC.out w1).mono ?_; rintro e w2 ⟨rfl, hb2⟩; have HB2 := Lib.hid (HBT.out _ _ HB1.out hb2); clear hb2) | (go_at_call_of 31 (Value.int .i64 id); refine (HD.out w2).mono ?_; rintro e w3 ⟨rfl, hb3⟩; have HB3 := Lib.hid (HBT.out _ _ HB2.out hb3); clear hb3))
        all_goals
          go_wp2_with fail
          go_meet
          exact ⟨by rw [HPE.out]; rfl, HB3.out⟩
      case rest =>
      obtain ⟨rfl, hbx⟩ := hcut
      have hka2 := hka.out.below hbx.out hka.out.lt
      have HBWX' : Hid (Below wr.heap.size wr wc) := ha.out.trans (hbx.out.mono ha.out.size)
      clear hw1 hw3 hgl hgb hbx ha hka HT HC HD
      obtain ⟨X, rfl⟩ : ∃ X, X = wc := ⟨_, rfl⟩
      have HKX := Lib.hid hka2
      have HBWX := HBWX'
      have hzX := hka2.lt
      have hzr := HBWX.out.size
      have HSSX : Hid (RSp X B (.slice As ns cs) sp) := HSS.out.below (HBWX.out.mono (Nat.le_trans hB HBR.out.size))
      have hBX : B ≤ X.heap.size := Nat.le_trans hB (Nat.le_trans HBR.out.size hzr)
      have hPs : P.size ≤ 100 := by
        rw [HPE.out]
        simp only [ByteArray.size_append]
        show _ + 1 + _ + 1 + _ + 1 + _ ≤ _
        omega
      have y2 : X.cell? ⟨gc, 2, none⟩ = some (.int .i64 (k0 : Int)) := hka2.cell 2
      clear HSS HBWX' hka2
      have HSS := HSSX
      clear HSSX
      go_upto_block 2 with fail
      go_cut [6] (fun s6 wx => s6 = .string R ∧ Hid (Below X.heap.size X wx) ∧ Hid (R.size ≤ 900000))
      case first =>
        rcases (show k0 = 1 ∨ k0 = 2 ∨ k0 = 3 ∨ k0 = 4 ∨ k0 = 5 ∨ k0 = 6 by omega) with rfl | rfl | rfl | rfl | rfl | rfl
        · as_aux_lemma =>
          have HTA := Lib.hid fun W => told_wd pa (HOKP.out (.inl rfl)).1.1 (Int.le_trans (HOKP.out (.inl rfl)).1.2 (by decide)) W
          have HTB := Lib.hid fun W => told_wd le (HOKP.out (.inl rfl)).2.1 (Int.le_trans (HOKP.out (.inl rfl)).2.2 (by decide)) W
          have z4 := wd_sz (HOKP.out (.inl rfl)).1
          have z5 := wd_sz (HOKP.out (.inl rfl)).2
          have HR := Lib.hid (HR1.out rfl)
          obtain ⟨PA, e4⟩ : ∃ S, S = wd pa := ⟨_, rfl⟩
          obtain ⟨LE, e5⟩ : ∃ S, S = wd le := ⟨_, rfl⟩
          rw [← e4] at HTA z4
          rw [← e5] at HTB z5
          rw [← e4, ← e5] at HR
          clear e4 e5
          have HTQ := Lib.hid fun W => quotedR_any oc W (Nat.le_trans (HOKX.out (.inl rfl)).1 (by decide))
          have z6 := quoS_ok (HOKX.out (.inl rfl)).1
          obtain ⟨Q, e6⟩ : ∃ S, S = quoS oc := ⟨_, rfl⟩
          rw [← e6] at HTQ z6 HR
          clear e6
          have ha0 : ∀ W, (Op.stringOp .add (⟨#[32]⟩) (PA)).run Tryz.prog W = .ok (.string ((⟨#[32]⟩) ++ (PA))) W := fun W => run_string_add_sum W _ _ (by simp only [HSP1.out]; omega)
          have ha1 : ∀ W, (Op.stringOp .add (⟨#[32]⟩ ++ PA) (⟨#[32]⟩)).run Tryz.prog W = .ok (.string ((⟨#[32]⟩ ++ PA) ++ (⟨#[32]⟩))) W := fun W => run_string_add_sum W _ _ (by simp only [ByteArray.size_append, HSP1.out]; omega)
          have ha2 : ∀ W, (Op.stringOp .add (⟨#[32]⟩ ++ PA ++ ⟨#[32]⟩) (LE)).run Tryz.prog W = .ok (.string ((⟨#[32]⟩ ++ PA ++ ⟨#[32]⟩) ++ (LE))) W := fun W => run_string_add_sum W _ _ (by simp only [ByteArray.size_append, HSP1.out]; omega)
          have ha3 : ∀ W, (Op.stringOp .add (⟨#[32]⟩ ++ PA ++ ⟨#[32]⟩ ++ LE) (⟨#[32]⟩)).run Tryz.prog W = .ok (.string ((⟨#[32]⟩ ++ PA ++ ⟨#[32]⟩ ++ LE) ++ (⟨#[32]⟩))) W := fun W => run_string_add_sum W _ _ (by simp only [ByteArray.size_append, HSP1.out]; omega)
          have ha4 : ∀ W, (Op.stringOp .add (⟨#[32]⟩ ++ PA ++ ⟨#[32]⟩ ++ LE ++ ⟨#[32]⟩) (Q)).run Tryz.prog W = .ok (.string ((⟨#[32]⟩ ++ PA ++ ⟨#[32]⟩ ++ LE ++ ⟨#[32]⟩) ++ (Q))) W := fun W => run_string_add_sum W _ _ (by simp only [ByteArray.size_append, HSP1.out]; omega)
          have hb : ∀ W, (Op.stringOp .add P (⟨#[32]⟩ ++ PA ++ ⟨#[32]⟩ ++ LE ++ ⟨#[32]⟩ ++ Q)).run Tryz.prog W = .ok (.string (P ++ (⟨#[32]⟩ ++ PA ++ ⟨#[32]⟩ ++ LE ++ ⟨#[32]⟩ ++ Q))) W := fun W => run_string_add_sum W _ _ (by simp only [ByteArray.size_append, HSP1.out]; omega)
          go_upto_region 8 with fail
          have HSOF : Hid (∀ W, Below X.heap.size X W → W.cell? ⟨gc, 4, none⟩ = some (.int .i64 pa) ∧ W.cell? ⟨gc, 5, none⟩ = some (.int .i64 le) ∧ W.cell? ⟨gc, 9, none⟩ = some (.string oc)) := fun W h => ⟨(h.cell (p := ⟨gc, 4, none⟩) hzX).trans (HKX.out.cell 4), (h.cell (p := ⟨gc, 5, none⟩) hzX).trans (HKX.out.cell 5), (h.cell (p := ⟨gc, 9, none⟩) hzX).trans (HKX.out.cell 9)⟩
          have HBT : Hid (∀ W W', Below X.heap.size X W → Below W.heap.size W W' → Below X.heap.size X W') := fun W W' h h' => h.trans (h'.mono h.size)
          have HB0 : Hid (Below X.heap.size X X.drew) := (Below.refl X.heap.size X).drew
          go_region_held3 (fun w' => w'.cell? ⟨gc, 4, none⟩ = some (.int .i64 pa) ∧ w'.cell? ⟨gc, 5, none⟩ = some (.int .i64 le) ∧ w'.cell? ⟨gc, 9, none⟩ = some (.string oc))
            ((refine HSOF.out _ ?_; first | with_reducible exact HB3.out | with_reducible exact HB2.out | with_reducible exact HB1.out | with_reducible exact HB0.out))
            (first | (go_at_call_of 31 (Value.int .i64 pa); refine (HTA.out X.drew).mono ?_; rintro e w1 ⟨rfl, hb1⟩; have HB1 := Lib.hid (HBT.out _ _ HB0.out hb1); clear hb1) | (go_at_call_of 31 (Value.int .i64 le); refine (HTB.out w1).mono ?_; rintro e w2 ⟨rfl, hb2⟩; have HB2 := Lib.hid (HBT.out _ _ HB1.out hb2); clear hb2) | (go_at_call 32; refine (HTQ.out w2).mono ?_; rintro e w3 ⟨rfl, hb3⟩; have HB3 := Lib.hid (HBT.out _ _ HB2.out hb3); clear hb3))
          all_goals
            go_wp2_with fail
            go_meet
            exact ⟨by rw [HR.out]; rfl, HB3.out, HSZ.out (by decide)⟩
        · as_aux_lemma =>
          have HTA := Lib.hid fun W => told_wd pa (HOKP.out (.inr rfl)).1.1 (Int.le_trans (HOKP.out (.inr rfl)).1.2 (by decide)) W
          have HTB := Lib.hid fun W => told_wd le (HOKP.out (.inr rfl)).2.1 (Int.le_trans (HOKP.out (.inr rfl)).2.2 (by decide)) W
          have z4 := wd_sz (HOKP.out (.inr rfl)).1
          have z5 := wd_sz (HOKP.out (.inr rfl)).2
          have HR := Lib.hid (HR2.out rfl)
          obtain ⟨PA, e4⟩ : ∃ S, S = wd pa := ⟨_, rfl⟩
          obtain ⟨LE, e5⟩ : ∃ S, S = wd le := ⟨_, rfl⟩
          rw [← e4] at HTA z4
          rw [← e5] at HTB z5
          rw [← e4, ← e5] at HR
          clear e4 e5
          have ha0 : ∀ W, (Op.stringOp .add (⟨#[32]⟩) (PA)).run Tryz.prog W = .ok (.string ((⟨#[32]⟩) ++ (PA))) W := fun W => run_string_add_sum W _ _ (by simp only [HSP1.out]; omega)
          have ha1 : ∀ W, (Op.stringOp .add (⟨#[32]⟩ ++ PA) (⟨#[32]⟩)).run Tryz.prog W = .ok (.string ((⟨#[32]⟩ ++ PA) ++ (⟨#[32]⟩))) W := fun W => run_string_add_sum W _ _ (by simp only [ByteArray.size_append, HSP1.out]; omega)
          have ha2 : ∀ W, (Op.stringOp .add (⟨#[32]⟩ ++ PA ++ ⟨#[32]⟩) (LE)).run Tryz.prog W = .ok (.string ((⟨#[32]⟩ ++ PA ++ ⟨#[32]⟩) ++ (LE))) W := fun W => run_string_add_sum W _ _ (by simp only [ByteArray.size_append, HSP1.out]; omega)
          have hb : ∀ W, (Op.stringOp .add P (⟨#[32]⟩ ++ PA ++ ⟨#[32]⟩ ++ LE)).run Tryz.prog W = .ok (.string (P ++ (⟨#[32]⟩ ++ PA ++ ⟨#[32]⟩ ++ LE))) W := fun W => run_string_add_sum W _ _ (by simp only [ByteArray.size_append, HSP1.out]; omega)
          go_upto_region 10 with fail
          have HSOF : Hid (∀ W, Below X.heap.size X W → W.cell? ⟨gc, 4, none⟩ = some (.int .i64 pa) ∧ W.cell? ⟨gc, 5, none⟩ = some (.int .i64 le)) := fun W h => ⟨(h.cell (p := ⟨gc, 4, none⟩) hzX).trans (HKX.out.cell 4), (h.cell (p := ⟨gc, 5, none⟩) hzX).trans (HKX.out.cell 5)⟩
          have HBT : Hid (∀ W W', Below X.heap.size X W → Below W.heap.size W W' → Below X.heap.size X W') := fun W W' h h' => h.trans (h'.mono h.size)
          have HB0 : Hid (Below X.heap.size X X.drew) := (Below.refl X.heap.size X).drew
          go_region_held3 (fun w' => w'.cell? ⟨gc, 4, none⟩ = some (.int .i64 pa) ∧ w'.cell? ⟨gc, 5, none⟩ = some (.int .i64 le))
            ((refine HSOF.out _ ?_; first | with_reducible exact HB2.out | with_reducible exact HB1.out | with_reducible exact HB0.out))
            (first | (go_at_call_of 31 (Value.int .i64 pa); refine (HTA.out X.drew).mono ?_; rintro e w1 ⟨rfl, hb1⟩; have HB1 := Lib.hid (HBT.out _ _ HB0.out hb1); clear hb1) | (go_at_call_of 31 (Value.int .i64 le); refine (HTB.out w1).mono ?_; rintro e w2 ⟨rfl, hb2⟩; have HB2 := Lib.hid (HBT.out _ _ HB1.out hb2); clear hb2))
          all_goals
            go_wp2_with fail
            go_meet
            exact ⟨by rw [HR.out]; rfl, HB2.out, HSZ.out (by decide)⟩
        · as_aux_lemma =>
          have HR := HR3.out rfl
          go_wp2_with fail
          go_meet
          exact ⟨by rw [HR], Below.refl _ _, HSZ.out (by decide)⟩
        · as_aux_lemma =>
          have HTA := Lib.hid fun W => spotText_any ⟨⟨a0, a1⟩, a2⟩ W (le32 (HOKA.out rfl a0 (by simp [spN]))) (le32 (HOKA.out rfl a1 (by simp [spN]))) (le32 (HOKA.out rfl a2 (by simp [spN])))
          dsimp only [spA] at HTA
          have z4 := sp_sz (HOKA.out rfl a0 (by simp [spN])) (HOKA.out rfl a1 (by simp [spN])) (HOKA.out rfl a2 (by simp [spN]))
          have HR := Lib.hid (HR4.out rfl)
          obtain ⟨S, e4⟩ : ∃ S, S = wd a0 ++ ⟨#[32]⟩ ++ wd a1 ++ ⟨#[32]⟩ ++ wd a2 := ⟨_, rfl⟩
          rw [← e4] at HTA z4
          rw [show wd a0 ++ bSp ++ wd a1 ++ bSp ++ wd a2 = S from e4.symm] at HR
          have HTQ := Lib.hid fun W => quotedR_any oc W (Nat.le_trans (HOKX.out (.inr rfl)).1 (by decide))
          have z6 := quoS_ok (HOKX.out (.inr rfl)).1
          obtain ⟨Q, e6⟩ : ∃ S, S = quoS oc := ⟨_, rfl⟩
          rw [← e6] at HTQ z6 HR
          clear e4 e6
          have ha0 : ∀ W, (Op.stringOp .add (⟨#[32]⟩) (S)).run Tryz.prog W = .ok (.string ((⟨#[32]⟩) ++ (S))) W := fun W => run_string_add_sum W _ _ (by simp only [HSP1.out]; omega)
          have ha1 : ∀ W, (Op.stringOp .add (⟨#[32]⟩ ++ S) (⟨#[32]⟩)).run Tryz.prog W = .ok (.string ((⟨#[32]⟩ ++ S) ++ (⟨#[32]⟩))) W := fun W => run_string_add_sum W _ _ (by simp only [ByteArray.size_append, HSP1.out]; omega)
          have ha2 : ∀ W, (Op.stringOp .add (⟨#[32]⟩ ++ S ++ ⟨#[32]⟩) (Q)).run Tryz.prog W = .ok (.string ((⟨#[32]⟩ ++ S ++ ⟨#[32]⟩) ++ (Q))) W := fun W => run_string_add_sum W _ _ (by simp only [ByteArray.size_append, HSP1.out]; omega)
          have hb : ∀ W, (Op.stringOp .add P (⟨#[32]⟩ ++ S ++ ⟨#[32]⟩ ++ Q)).run Tryz.prog W = .ok (.string (P ++ (⟨#[32]⟩ ++ S ++ ⟨#[32]⟩ ++ Q))) W := fun W => run_string_add_sum W _ _ (by simp only [ByteArray.size_append, HSP1.out]; omega)
          go_upto_region 12 with fail
          have HSOF : Hid (∀ W, Below X.heap.size X W → W.cell? ⟨gc, 6, none⟩ = some (.int .i64 a0) ∧ W.cell? ⟨gc, 7, none⟩ = some (.int .i64 a1) ∧ W.cell? ⟨gc, 8, none⟩ = some (.int .i64 a2) ∧ W.cell? ⟨gc, 9, none⟩ = some (.string oc)) := fun W h => ⟨(h.cell (p := ⟨gc, 6, none⟩) hzX).trans (HKX.out.cell 6), (h.cell (p := ⟨gc, 7, none⟩) hzX).trans (HKX.out.cell 7), (h.cell (p := ⟨gc, 8, none⟩) hzX).trans (HKX.out.cell 8), (h.cell (p := ⟨gc, 9, none⟩) hzX).trans (HKX.out.cell 9)⟩
          have HBT : Hid (∀ W W', Below X.heap.size X W → Below W.heap.size W W' → Below X.heap.size X W') := fun W W' h h' => h.trans (h'.mono h.size)
          have HB0 : Hid (Below X.heap.size X X.drew) := (Below.refl X.heap.size X).drew
          go_region_held3 (fun w' => w'.cell? ⟨gc, 6, none⟩ = some (.int .i64 a0) ∧ w'.cell? ⟨gc, 7, none⟩ = some (.int .i64 a1) ∧ w'.cell? ⟨gc, 8, none⟩ = some (.int .i64 a2) ∧ w'.cell? ⟨gc, 9, none⟩ = some (.string oc))
            ((refine HSOF.out _ ?_; first | with_reducible exact HB2.out | with_reducible exact HB1.out | with_reducible exact HB0.out))
            (first | (go_at_call 33; refine (HTA.out X.drew).mono ?_; rintro e w1 ⟨rfl, hb1⟩; have HB1 := Lib.hid (HBT.out _ _ HB0.out hb1); clear hb1) | (go_at_call 32; refine (HTQ.out w1).mono ?_; rintro e w2 ⟨rfl, hb2⟩; have HB2 := Lib.hid (HBT.out _ _ HB1.out hb2); clear hb2))
          all_goals
            go_wp2_with fail
            go_meet
            exact ⟨by rw [HR.out]; rfl, HB2.out, HSZ.out (by decide)⟩
        · as_aux_lemma =>
          have HR := Lib.hid (HR5.out rfl)
          have hn5 : ns ≤ 500 := by have := HNS.out; have := (HOKS.out rfl).1; omega
          have y10 : X.cell? ⟨gc, 10, none⟩ = some (.slice As ns cs) := HKX.out.cell 10
          go_wp2_with fail
          go_loopg [6, 90] ns (fun gg s6 s90 wr => ∃ i : Nat, ∃ Z : ByteArray, i + gg = ns ∧ s90 = .int .i64 (i : Int) ∧ s6 = .string Z ∧ Hid (Z = joinB (PL ++ (sp.take i).flatMap (fun x => (spN x).map wd)) bSp) ∧ Z.size ≤ 1000 + i * 100 ∧ Hid (Below X.heap.size X wr))
          case atStart => exact ⟨0, P, by omega, rfl, rfl, by show P = _; rw [HPJ.out]; simp, by omega, Below.refl _ _⟩
          case round =>
            obtain ⟨i, Z, hig, rfl, rfl, hZ, hzz, hbx⟩ := hrel
            by_cases hi : i < ns
            · obtain ⟨x, hx⟩ : ∃ x, sp[i]? = some x := ⟨_, List.getElem?_eq_getElem (by have := HNS.out; omega)⟩
              obtain ⟨b2, off2, rfl, hbb2, u0, u1, u2⟩ := HSS.out.at_ hx
              have hxb := (HOKS.out rfl).2 x (List.mem_of_getElem? hx)
              have g0 := (hbx.out.cell (p := ⟨b2, off2 + i * 3, none⟩) (by show b2 < _; omega)).trans u0
              have g1 := (hbx.out.cell (p := ⟨b2, off2 + i * 3 + 1, none⟩) (by show b2 < _; omega)).trans u1
              have g2 := (hbx.out.cell (p := ⟨b2, off2 + i * 3 + 2, none⟩) (by show b2 < _; omega)).trans u2
              have HST : Hid (joinB (PL ++ (sp.take (i + 1)).flatMap (fun x => (spN x).map wd)) bSp = joinB (PL ++ (sp.take i).flatMap (fun x => (spN x).map wd)) bSp ++ (bSp ++ (wd x.st.time ++ bSp ++ wd x.st.cp ++ bSp ++ wd x.at_))) := by
                show _ = _
                exact rs_spot HPN.out hx
              obtain ⟨⟨x0, x1⟩, x2⟩ := x
              have HTA := Lib.hid fun W => spotText_any ⟨⟨x0, x1⟩, x2⟩ W (le32 (hxb x0 (by simp [spN]))) (le32 (hxb x1 (by simp [spN]))) (le32 (hxb x2 (by simp [spN])))
              have z4 := sp_sz (hxb x0 (by simp [spN])) (hxb x1 (by simp [spN])) (hxb x2 (by simp [spN]))
              dsimp only [spA] at HTA HST g0 g1 g2
              obtain ⟨S, e4⟩ : ∃ S, S = wd x0 ++ ⟨#[32]⟩ ++ wd x1 ++ ⟨#[32]⟩ ++ wd x2 := ⟨_, rfl⟩
              rw [show wd x0 ++ bSp ++ wd x1 ++ bSp ++ wd x2 = S from e4.symm] at HST
              rw [← e4] at HTA z4
              have j0 : (i : Int) < (ns : Int) := by omega
              have ha0 : ∀ W, (Op.stringOp .add ⟨#[32]⟩ S).run Tryz.prog W = .ok (.string (⟨#[32]⟩ ++ S)) W := fun W => run_string_add_sum W _ _ (by simp only [HSP1.out]; omega)
              have ha1 : ∀ W, (Op.stringOp .add Z (⟨#[32]⟩ ++ S)).run Tryz.prog W = .ok (.string (Z ++ (⟨#[32]⟩ ++ S))) W := fun W => run_string_add_sum W _ _ (by simp only [ByteArray.size_append, HSP1.out]; omega)
              have HAX : Hid (Below X.heap.size X (wr.alloc (.cells #[.int .i64 x0, .int .i64 x1, .int .i64 x2] 27))) := hbx.out.alloc hbx.out.size _
              clear e4 u0 u1 u2 hx hxb
              go_wp2_with fail
              refine (HTA.out _).mono ?_
              rintro e w2 ⟨rfl, hb2⟩
              have HB2 : Hid (Below X.heap.size X w2) := HAX.out.trans (hb2.mono HAX.out.size)
              clear hb2
              go_wp2_with fail
              go_roundg (ns - (i + 1))
              case measure => omega
              case rel => exact ⟨i + 1, _, by omega, by go_num, rfl, by show _ = _; rw [HST.out, hZ.out]; rfl, by simp only [ByteArray.size_append, HSP1.out]; omega, HB2⟩
            · obtain rfl : i = ns := by omega
              have ht : sp.take i = sp := List.take_of_length_le (by rw [← HNS.out]; exact Nat.le_refl _)
              rw [ht] at hZ
              have hz2 : Z = R := by rw [hZ.out, HR.out]
              go_wp2_with fail
              go_meet
              exact ⟨by rw [hz2], hbx.out, HSZ.out (by decide)⟩
        · as_aux_lemma =>
          have HR := Lib.hid (HR6.out rfl)
          have HTX := Lib.hid (HTX0.out X HBWX.out)
          have z4 := (HOKV.out rfl).1
          obtain ⟨T, e4⟩ : ∃ S, S = txS (Vl.mk vk vi vt vs vl) := ⟨_, rfl⟩
          obtain ⟨E, e5⟩ : ∃ S, S = vErr (Vl.mk vk vi vt vs vl) := ⟨_, rfl⟩
          rw [← e4, ← e5] at HTX
          rw [← e4] at HR
          have HS6 : Hid (T.size ≤ 100000 → R.size ≤ 900000) := fun h => HSZ6.out (by rw [← e4]; exact h)
          clear e4 e5
          have y12 : X.cell? ⟨gc, 12, none⟩ = some (.int .i64 vk) := HKX.out.cell 12
          have y13 : X.cell? ⟨gc, 13, none⟩ = some (.int .i64 vi) := HKX.out.cell 13
          have y14 : X.cell? ⟨gc, 14, none⟩ = some (.int .i64 vt) := HKX.out.cell 14
          have y15 : X.cell? ⟨gc, 15, none⟩ = some (.string vs) := HKX.out.cell 15
          have y16 : X.cell? ⟨gc, 16, none⟩ = some (.slice Ai ni ci) := HKX.out.cell 16
          go_wp2_with fail
          refine HTX.out.mono ?_
          rintro e w2 ⟨rfl, hts, hb2⟩
          have HB2 := Lib.hid hb2
          have y11 : w2.cell? ⟨gc, 11, none⟩ = some (.string nm) := (hb2.cell (p := ⟨gc, 11, none⟩) hzX).trans (HKX.out.cell 11)
          have HSR := Lib.hid (HS6.out hts)
          have ha0 : ∀ W, (Op.stringOp .add ⟨#[32]⟩ nm).run Tryz.prog W = .ok (.string (⟨#[32]⟩ ++ nm)) W := fun W => run_string_add_sum W _ _ (by simp only [HSP1.out]; omega)
          have ha1 : ∀ W, (Op.stringOp .add (⟨#[32]⟩ ++ nm) ⟨#[32]⟩).run Tryz.prog W = .ok (.string (⟨#[32]⟩ ++ nm ++ ⟨#[32]⟩)) W := fun W => run_string_add_sum W _ _ (by simp only [ByteArray.size_append, HSP1.out]; omega)
          have ha2 : ∀ W, (Op.stringOp .add (⟨#[32]⟩ ++ nm ++ ⟨#[32]⟩) T).run Tryz.prog W = .ok (.string (⟨#[32]⟩ ++ nm ++ ⟨#[32]⟩ ++ T)) W := fun W => run_string_add_sum W _ _ (by simp only [ByteArray.size_append, HSP1.out]; omega)
          have ha3 : ∀ W, (Op.stringOp .add P (⟨#[32]⟩ ++ nm ++ ⟨#[32]⟩ ++ T)).run Tryz.prog W = .ok (.string (P ++ (⟨#[32]⟩ ++ nm ++ ⟨#[32]⟩ ++ T))) W := fun W => run_string_add_sum W _ _ (by simp only [ByteArray.size_append, HSP1.out]; omega)
          clear hb2 hts
          go_wp2_with fail
          go_meet
          exact ⟨by rw [HR.out]; rfl, HB2.out, HSR.out⟩
      case rest =>
      obtain ⟨rfl, hbx, hrs⟩ := hcut
      obtain ⟨Y, rfl⟩ : ∃ Y, Y = wc := ⟨_, rfl⟩
      as_aux_lemma =>
      have HBY : Hid (Below wr.heap.size wr Y) := HBWX.out.trans (hbx.out.mono HBWX.out.size)
      have hro := hrs.out
      have HLF : Hid ((⟨#[10]⟩ : ByteArray).size = 1) := rfl
      have ha0 : ∀ W, (Op.stringOp .add R ⟨#[10]⟩).run Tryz.prog W = .ok (.string (R ++ ⟨#[10]⟩)) W := fun W => run_string_add_sum W _ _ (by simp only [HLF.out]; omega)
      have hosz : OT.size ≤ 1000000 := by
        rw [HOX.out, ByteArray.size_append]
        show _ + 1 ≤ _
        omega
      obtain ⟨i0, hi, hi0, hi1, hi2⟩ := info_parts str_info
      have hov := own_below HOW.out HBY.out
      obtain ⟨A3, c3, rfl, _⟩ := own_reads hov
      have HS5 : Hid (Below Y.heap.size Y (Y.alloc (.cells #[.string OT] 9))) := (Below.refl _ _).alloc (Nat.le_refl _) _
      have HOA := Lib.hid (own_below hov HS5.out)
      have HRD := Lib.hid (row_one Y OT)
      have HONE : Hid (∀ u ∈ [Value.string OT], u.oneCell' = true) := str_one OT
      have hwy : w.heap.size ≤ Y.heap.size := Nat.le_trans HBR.out.size HBY.out.size
      have hwa : w.heap.size ≤ (Y.alloc (.cells #[.string OT] 9)).heap.size := Nat.le_trans hwy HS5.out.size
      have HOT := Lib.hid HOX.out.symm
      have ha1 : ∀ W, (Op.stringOp .add R ⟨#[10]⟩).run Tryz.prog W = .ok (.string OT) W := fun W => by rw [ha0 W, HOT.out]
      clear hov ha0 hbx hrs
      go_wp2_with (at_builtin; refine wpList_append_any _ rfl _ _ 62 rfl w.heap.size 9 i0 (.string .empty) 1 16 Tryz.underlying62 hi hi0 hi1 hi2 rfl (by decide) _ q _ rfl HOA.out (Y.heap.size + 1) (some ⟨Y.heap.size, 0, none⟩) 1 1 [.string OT] rfl HRD.out HONE.out (by unfold maxLen; omega) (by omega) hwa ?_)
      intro v7 w7 hown7 hg7 hv7
      have HO7 := Lib.hid hown7
      have HG7 : Hid (Below w.heap.size w w7) := ((HBR.out.trans (HBY.out.mono HBR.out.size)).alloc hwy _).grown hg7 hwa (fun g hg => (own_block_lt HOA.out g hg).1)
      clear hown7 hg7 hv7
      go_wp2_with fail
      go_roundg (n - (q + 1))
      case measure => omega
      case rel => exact ⟨q + 1, by omega, by go_num, by show World.ownsRow _ _ _ _ _ _ _; rw [HMP.out]; exact HO7.out, HG7, by rw [HTK.out, ByteArray.size_append]; omega⟩
    · as_aux_lemma =>
      obtain rfl : q = n := by omega
      have ht : l.take q = l := List.take_of_length_le (by rw [← HN.out]; exact Nat.le_refl _)
      rw [ht] at HOW hsz
      have HJ := Lib.hid (join_own (l.map opTx) ⟨#[]⟩ wr w.heap.size q _ HOW.out (by rw [List.length_map]; exact HN.out) (by omega) (by show (opsT l).size ≤ _; omega))
      obtain ⟨T, hT⟩ : ∃ T, T = opsT l := ⟨_, rfl⟩
      rw [show joinB (l.map opTx) ⟨#[]⟩ = T from hT.symm] at HJ
      have HT := Lib.hid hT
      have hs2 : T.size ≤ 4000000000 := by rw [hT]; omega
      clear hT
      go_wp2_with fail
      refine HJ.out.mono ?_
      rintro e wy ⟨rfl, hby⟩
      have HBY : Hid (Below w.heap.size w wy) := HBR.out.trans (hby.mono HBR.out.size)
      clear hby
      go_wp2_with fail
      go_ret
      exact ⟨by rw [HT.out]; rfl, by rw [← HT.out]; exact hs2, HBY.out⟩
end Go.Proofs.YtinllchioeldbaaGreatDoor
