/-
  DERIVED. The walk of the law TopUndone. Conditions: sizes.
  By an AI agent.
-/
import Derived.Test.YtmkicfjcgbfaaaaGreatTa12
import Derived.Test.YtmkicfjcgbfaaaaGreatTb04
import Derived.Test.YtmkicfjcgbfaaaaGreatTb07
import Derived.Test.YtmkicfjcgbfaaaaGreatTb08
namespace Go.Proofs.YtmkicfjcgbfaaaaGreat
open Go.RowKit

theorem RBX.of {w : World} {B : Nat} {v : Value} {l : List Bl} (h : RB w B v l) : RBX w (· < B) v l := by
  obtain ⟨A, n, c, M, h1, h2, h3, h4, h5, h6⟩ := h
  exact ⟨A, n, c, M, h1, h2, h3, h4, RdX.of h5, fun x hx => ⟨RInX.of (h6 x hx).1, RPrX.of (h6 x hx).2⟩⟩
theorem RBX.rb {w : World} {S : Nat → Prop} {v : Value} {l : List Bl} (h : RBX w S v l) (hS : ∀ b, S b → b < w.heap.size) : RB w w.heap.size v l := h.reads hS
set_option maxRecDepth 100000 in
set_option maxHeartbeats 4000000 in
theorem tuLaw_bad (l : List Bl) (f : Int → Option Int) (hf : DepOk l f) (A : Option Addr) (n c : Nat) (ov : Value) (w : World) (h : RB w w.heap.size (.slice A n c) l) (hne : baseE l f ≠ 0) :
    Calls Tryz.prog 6 #[.slice A n c, ov] w fun e w' => e = .returned (.bool true) ∧ Below w.heap.size w w' := by
  have HAW := Lib.hid (awakeTree_any w)
  have HCH := Lib.hid fun W (hW : Below w.heap.size w W) => new_bad l f hf A n c W w.heap.size hW.size (h.below hW) hne
  obtain ⟨er, her⟩ : ∃ er, er = baseE l f := ⟨_, rfl⟩
  rw [← her] at HCH hne
  have h0' : (er != 0) = true := by simpa using hne
  clear her hne h
  go_enter Tryz.func6, Tryz.ntmps6
  go_wp2_with fail
  refine HAW.out.mono ?_
  rintro e w1 ⟨rfl, hb1⟩
  have HB1 := Lib.hid hb1
  clear hb1
  go_wp2_with fail
  refine (HCH.out w1 HB1.out).mono ?_
  rintro e w2 ⟨rfl, hb2⟩
  have HB2 : Hid (Below w.heap.size w w2) := HB1.out.trans (hb2.mono HB1.out.size)
  clear hb2
  go_wp2_with fail
  go_ret
  exact ⟨rfl, HB2.out⟩
set_option maxRecDepth 100000 in
set_option maxHeartbeats 16000000 in
theorem tuLaw_good (l : List Bl) (f : Int → Option Int) (hf : DepOk l f) (A : Option Addr) (n c : Nat) (ol : List Opn) (Ao : Option Addr) (no co : Nat) (w : World) (h : RB w w.heap.size (.slice A n c) l) (ho : ROs w w.heap.size (.slice Ao no co) ol) (h0 : baseE l f = 0) (m : Nat) (hm : m = min no 40) :
    Calls Tryz.prog 6 #[.slice A n c, .slice Ao no co] w fun e w' => e = .returned (.bool true) ∧ Below w.heap.size w w' := by
  have HAW := Lib.hid (awakeTree_any w)
  have G := good_of h0 hf
  have HCH := Lib.hid fun W (hW : Below w.heap.size w W) => new_any l f G A n c W w.heap.size hW.size (h.below hW)
  have hnol := ho.len
  have HNO : Hid (no = ol.length) := hnol.1
  have hnb : no * 144 ≤ 140737488351232 := hnol.2.2
  have hnc : no ≤ co := hnol.2.1
  have HO := Lib.hid ho
  have HRB0 := Lib.hid h
  have HM := Lib.hid hm
  have hmin : min (no : Int) 40 = (m : Int) := by omega
  have hmn : m ≤ no := by omega
  have hm30 : m ≤ 40 := by omega
  clear h0 G h ho hnol hm hf
  go_enter Tryz.func6, Tryz.ntmps6
  go_wp2_with fail
  refine HAW.out.mono ?_
  rintro e w1 ⟨rfl, hb1⟩
  have HB1 := Lib.hid hb1
  clear hb1
  go_wp2_with fail
  refine (HCH.out w1 HB1.out).mono ?_
  rintro e w6 ⟨gh, gn0, rfl, hh6, hgh6, hgn6, hb6⟩
  have HB6 : Hid (Below w.heap.size w w6) := HB1.out.trans (hb6.mono HB1.out.size)
  have hghw : w.heap.size ≤ gh := Nat.le_trans HB1.out.size hgh6
  have HH6 := Lib.hid hh6
  have HGN6 : Hid (w.heap.size ≤ gn0) := Nat.le_trans HB1.out.size hgn6
  have HRX6 : Hid (RBX w6 (HS w6 gh gn0) (.slice A n c) (applL l [])) := ((RBX.of HRB0.out).keep (w' := w6) fun p hp => HB6.out.cell hp).weak fun b hb => by
    have hb : b < w.heap.size := hb
    have := HB6.out.size
    have := HGN6.out
    exact ⟨by omega, by omega, by omega⟩
  clear hh6 hgh6 hgn6 hb6
  go_wp2_with fail
  go_loopg [7, 8, 35] m (fun gg s7 s8 s35 wr => ∃ (k : Nat) (os : List Opn) (gn : Nat) (A9 : Option Addr) (n9 c9 dn : Nat), k + gg = m ∧ s7 = .slice A9 n9 c9 ∧ s8 = .int .i64 (dn : Int) ∧ s35 = .int .i64 (k : Int) ∧ dn ≤ k ∧ Hid (dn = os.length) ∧ Hid (HistM wr gh gn l os dn) ∧ Hid (RBX wr (HS wr gh gn) (.slice A9 n9 c9) (applL l os)) ∧ Hid (w.heap.size ≤ gn) ∧ Hid (Below w.heap.size w wr))
  case atStart => exact ⟨0, [], gn0, A, n, c, 0, by omega, rfl, rfl, rfl, Nat.le_refl _, rfl, HH6, HRX6, HGN6, HB6⟩
  case round =>
    obtain ⟨k, os, gn, A9, n9, c9, dn, hkg, rfl, rfl, rfl, hdk, hdn, hhist, hrb, hgn, hbel⟩ := hrel
    obtain ⟨W1, rfl⟩ : ∃ W1, W1 = wr := ⟨_, rfl⟩
    by_cases hk : k < m
    · obtain ⟨o, hko⟩ : ∃ o, ol[k]? = some o := ⟨_, List.getElem?_eq_getElem (by have := HNO.out; omega)⟩
      obtain ⟨b, off, Av, nv, cv, rfl, hbb, hc, hrv, hoi⟩ := (HO.out.below hbel.out).at_ hko
      have HRV : Hid (RV W1 w.heap.size (.slice Av nv cv) o.val.items) := hrv
      have HOI := Lib.hid hoi
      obtain ⟨ok, oi, op, oa, of, ot, ox, on, ⟨vk, vi, vt, vs, vl⟩⟩ := o
      have g0 : W1.cell? ⟨b, off + k * 13, none⟩ = some (.int .i64 ok) := hc 0 _ rfl
      have g1 : W1.cell? ⟨b, off + k * 13 + 1, none⟩ = some (.int .i64 oi) := hc 1 _ rfl
      have g2 : W1.cell? ⟨b, off + k * 13 + 2, none⟩ = some (.int .i64 op) := hc 2 _ rfl
      have g3 : W1.cell? ⟨b, off + k * 13 + 3, none⟩ = some (.int .i64 oa) := hc 3 _ rfl
      have g4 : W1.cell? ⟨b, off + k * 13 + 4, none⟩ = some (.int .i64 of) := hc 4 _ rfl
      have g5 : W1.cell? ⟨b, off + k * 13 + 5, none⟩ = some (.int .i64 ot) := hc 5 _ rfl
      have g6 : W1.cell? ⟨b, off + k * 13 + 6, none⟩ = some (.string ox) := hc 6 _ rfl
      have g7 : W1.cell? ⟨b, off + k * 13 + 7, none⟩ = some (.string on) := hc 7 _ rfl
      have g8 : W1.cell? ⟨b, off + k * 13 + 8, none⟩ = some (.int .i64 vk) := hc 8 _ rfl
      have g9 : W1.cell? ⟨b, off + k * 13 + 9, none⟩ = some (.int .i64 vi) := hc 9 _ rfl
      have g10 : W1.cell? ⟨b, off + k * 13 + 10, none⟩ = some (.int .i64 vt) := hc 10 _ rfl
      have g11 : W1.cell? ⟨b, off + k * 13 + 11, none⟩ = some (.string vs) := hc 11 _ rfl
      have g12 : W1.cell? ⟨b, off + k * 13 + 12, none⟩ = some (.slice Av nv cv) := hc 12 _ rfl
      have j0 : (0 : Int) ≤ (k : Int) := by omega
      have j1 : (k : Int) < (m : Int) := by omega
      obtain ⟨wa, hwa⟩ : ∃ wa, wa = W1.alloc (.cells #[.int .i64 ok, .int .i64 oi, .int .i64 op, .int .i64 oa, .int .i64 of, .int .i64 ot, .string ox, .string on, .int .i64 vk, .int .i64 vi, .int .i64 vt, .string vs, .slice Av nv cv] 31) := ⟨_, rfl⟩
      have hal : Below W1.heap.size W1 wa := by rw [hwa]; exact (Below.refl _ _).alloc (Nat.le_refl _) _
      have P0 : Hid (Blk wa W1.heap.size 31 #[.int .i64 ok, .int .i64 oi, .int .i64 op, .int .i64 oa, .int .i64 of, .int .i64 ot, .string ox, .string on, .int .i64 vk, .int .i64 vi, .int .i64 vt, .string vs, .slice Av nv cv]) := by rw [hwa]; exact Blk.new _ _ _
      have hz1 : w.heap.size ≤ W1.heap.size := hbel.out.size
      have HBA : Hid (Below w.heap.size w wa) := hbel.out.trans (hal.mono hz1)
      have hhl := hhist.out.lt
      have hza : W1.heap.size < wa.heap.size := by rw [hwa]; simp
      have HHA := Lib.hid (hhist.out.below hal)
      have HRA : Hid (RBX wa (HS wa gh gn) (.slice A9 n9 c9) (applL l os)) := (hrb.out.keep (w' := wa) fun p hp => hal.cell hp.1).weak fun b hb => ⟨by have := hb.1; omega, hb.2⟩
      have HVA : Hid (RV wa w.heap.size (.slice Av nv cv) vl) := HRV.out.below (hal.mono hz1)
      have htk : os.take dn = os := by rw [hdn.out, List.take_length]
      have HWA := Lib.hid hwa
      obtain ⟨f9, G9⟩ := hhist.out.now
      have HGN := Lib.hid hgn.out
      have hgnw : w.heap.size ≤ gn := hgn.out
      have HDO := Lib.hid (do_any wa gh gn l os dn HHA.out (by omega) f9 G9 ⟨ok, oi, op, oa, of, ot, ox, on, ⟨vk, vi, vt, vs, vl⟩⟩ HOI.out Av nv cv ((RVX.of HVA.out).weak fun b hb => by
        have hb : b < w.heap.size := hb
        exact ⟨by omega, by omega⟩))
      rw [htk] at G9 HDO
      have HG9 := Lib.hid G9
      dsimp only [AO, Vl.kind, Vl.int_, Vl.to_, Vl.text, Vl.items] at HDO
      unfold Do1R at HDO
      obtain ⟨L, hL⟩ : ∃ L, L = applL l os := ⟨_, rfl⟩
      have HLL := Lib.hid hL
      rw [← hL] at HG9 HDO HRA
      obtain ⟨er, her⟩ : ∃ er, er = opErr L f9 ⟨ok, oi, op, oa, of, ot, ox, on, ⟨vk, vi, vt, vs, vl⟩⟩ := ⟨_, rfl⟩
      have HER := Lib.hid her
      rw [← her] at HDO
      have HTK := Lib.hid htk
      have HHL := Lib.hid hhl
      have hza' := hza
      clear hko hbb hc hrv hoi hwa hal hL her G9 htk hhl
      go_upto_region 11 with fail
      rw [← HWA.out]
      clear g0 g1 g2 g3 g4 g5 g6 g7 g8 g9 g10 g11 g12
      have e0 := fun i => P0.out.cell i
      go_wp2_with fail
      refine HDO.out.mono ?_
      rintro e w11 (⟨hne, rfl, hb⟩ | ⟨rfl, rfl, gn', hh11, hgn', hk11⟩)
      · have HB11 : Hid (Below w.heap.size w w11) := HBA.out.trans (hb.mono HBA.out.size)
        have HH11 := Lib.hid (HHA.out.below hb)
        have HR11 : Hid (RBX w11 (HS w11 gh gn) (.slice A9 n9 c9) (applL l os)) := by
          have := (HRA.out.keep (w' := w11) fun p hp => hb.cell hp.1).weak (S' := HS w11 gh gn) fun b hb' => ⟨Nat.lt_of_lt_of_le hb'.1 hb.size, hb'.2⟩
          rw [HLL.out] at this
          exact this
        have h0' : (er != 0) = true := by simpa using hne
        clear hne hb e0
        go_wp2_with fail
        go_roundg (m - (k + 1))
        case measure => omega
        case rel => exact ⟨k + 1, os, gn, A9, n9, c9, dn, by omega, rfl, rfl, by go_num, by omega, hdn, HH11, HR11, HGN, HB11⟩
      · have hhl := HHL.out
        have HB11' : Below w.heap.size wa w11 := hk11.below (by omega) fun i hi e => by
          have e : i = gh := e
          omega
        have HB11 : Hid (Below w.heap.size w w11) := HBA.out.trans HB11'
        have P11 := Lib.hid (hk11.blk P0.out (fun e => by have e : W1.heap.size = gh := e; omega))
        have hz11 : wa.heap.size ≤ w11.heap.size := hk11.size
        have HR11 : Hid (RBX w11 (fun b => b < wa.heap.size ∧ b ≠ gh ∧ b ≠ gn) (.slice A9 n9 c9) L) := hk11.rbx HRA.out fun b hb => ⟨hb.1, hb.2.1⟩
        have HV11 : Hid (RV w11 w11.heap.size (.slice Av nv cv) vl) := (HVA.out.below HB11').more HB11.out.size
        have HRB11 : Hid (RB w11 w11.heap.size (.slice A9 n9 c9) L) := HR11.out.reads fun b hb => Nat.lt_of_lt_of_le hb.1 hz11
        have HH11 := Lib.hid hh11
        have hgn11 := hh11.lt.2
        have hgn11a : wa.heap.size ≤ gn' := hgn'
        have he0 := HER.out.symm
        have HAP := Lib.hid (applyTop_any L f9 HG9.out A9 n9 c9 ⟨ok, oi, op, oa, of, ot, ox, on, ⟨vk, vi, vt, vs, vl⟩⟩ Av nv cv w11 w11.heap.size (Nat.le_refl _) HRB11.out HOI.out HV11.out he0)
        have HIN := Lib.hid fun W (hW : Below w11.heap.size w11 W) => inverseTop_any L f9 HG9.out A9 n9 c9 ⟨ok, oi, op, oa, of, ot, ox, on, ⟨vk, vi, vt, vs, vl⟩⟩ Av nv cv W w11.heap.size hW.size (HRB11.out.below hW) HOI.out (HV11.out.below hW) he0
        obtain ⟨f1, hf1, G1⟩ := HG9.out.applied he0
        have hlb := fun he => lead_back HG9.out he0 he G1
        have hio : OI (invO L ⟨ok, oi, op, oa, of, ot, ox, on, ⟨vk, vi, vt, vs, vl⟩⟩).1 := oi_inv HG9.out HOI.out he0
        obtain ⟨L', hL'⟩ : ∃ L', L' = applied L ⟨ok, oi, op, oa, of, ot, ox, on, ⟨vk, vi, vt, vs, vl⟩⟩ := ⟨_, rfl⟩
        have HAL : Hid (applL l (os ++ [(⟨ok, oi, op, oa, of, ot, ox, on, ⟨vk, vi, vt, vs, vl⟩⟩ : Opn)]) = L') := by
          show _ = _
          rw [applL_app, hL', HLL.out]; rfl
        rw [← hL'] at HAP G1 hlb
        obtain ⟨IV, hIV⟩ : ∃ IV, IV = invO L ⟨ok, oi, op, oa, of, ot, ox, on, ⟨vk, vi, vt, vs, vl⟩⟩ := ⟨_, rfl⟩
        rw [← hIV] at HIN hlb hio
        obtain ⟨⟨ik, ii, ip, ia, if_, it, ix, im, ⟨jk, ji, jt, js, jl⟩⟩, ie⟩ := IV
        unfold ApplyR at HAP
        unfold InvR at HIN
        dsimp only [AO, Vl.kind, Vl.int_, Vl.to_, Vl.text, Vl.items] at HAP HIN hio hlb
        have HLB := Lib.hid hlb
        have HIO := Lib.hid hio
        have HG1 := Lib.hid G1
        clear hIV hL' hlb hio G1 hf1 he0 hh11 hgn' hk11 HB11' e0 hhl
        have e0 := fun i => P11.out.cell i
        go_wp2_with fail
        refine HAP.out.mono ?_
        rintro e w12 ⟨⟨g12, cap12, n12, M12, rfl, hml, hmm, hrow, hg12⟩, hb⟩
        have HB12 : Hid (Below w11.heap.size w11 w12) := hb
        have P12 := Lib.hid (P11.out.below hb P11.out.lt)
        have HX12 : Hid (RBX w12 (fun b => w11.heap.size ≤ b ∧ b < w12.heap.size) (.slice (some ⟨g12, 0, none⟩) n12 cap12) L') := by
          have hlt := hrow.lt
          have := hrow.rbx
          rw [hml, hmm] at this
          refine this.weak fun b hb => ?_
          rcases hb with e | e
          · rw [e]; exact ⟨hg12, hlt⟩
          · exact ⟨e.2, e.1.1⟩
        clear hb e0 hml hmm hrow hg12
        have e0 := fun i => P12.out.cell i
        go_wp2_with fail
        refine (HIN.out w12 HB12.out).mono ?_
        rintro e w13 ⟨⟨A14, n14, c14, rfl, hrv⟩, hb⟩
        obtain ⟨w14, hw14⟩ : ∃ w14, w14 = w13.alloc (.cells #[.int .i64 ik, .int .i64 ii, .int .i64 ip, .int .i64 ia, .int .i64 if_, .int .i64 it, .string ix, .string im, .int .i64 jk, .int .i64 ji, .int .i64 jt, .string js, .slice A14 n14 c14] 31) := ⟨_, rfl⟩
        have hal : Below w13.heap.size w13 w14 := by rw [hw14]; exact (Below.refl _ _).alloc (Nat.le_refl _) _
        have HB1214 : Hid (Below w12.heap.size w12 w14) := hb.trans (hal.mono hb.size)
        have P14 := Lib.hid (P12.out.below HB1214.out P12.out.lt)
        have Q14 : Hid (Blk w14 w13.heap.size 31 #[.int .i64 ik, .int .i64 ii, .int .i64 ip, .int .i64 ia, .int .i64 if_, .int .i64 it, .string ix, .string im, .int .i64 jk, .int .i64 ji, .int .i64 jt, .string js, .slice A14 n14 c14]) := by rw [hw14]; exact Blk.new _ _ _
        have HV14 : Hid (RV w14 w14.heap.size (.slice A14 n14 c14) jl) := ((hrv.reads (B := w13.heap.size) fun b hb => hb.2).below hal).more hal.size
        have HW14 := Lib.hid hw14
        have HB14 : Hid (Below w11.heap.size w11 w14) := HB12.out.trans (HB1214.out.mono HB12.out.size)
        have HRB14 : Hid (RB w14 w14.heap.size (.slice (some ⟨g12, 0, none⟩) n12 cap12) L') := ((HX12.out.reads (B := w12.heap.size) fun b hb => hb.2).below HB1214.out).more HB1214.out.size
        have HNEXT : Hid (∀ W, Below w14.heap.size w14 W → HistM W gh gn' l (os ++ [(⟨ok, oi, op, oa, of, ot, ox, on, ⟨vk, vi, vt, vs, vl⟩⟩ : Opn)]) (dn + 1) ∧ RBX W (HS W gh gn') (.slice (some ⟨g12, 0, none⟩) n12 cap12) (applL l (os ++ [(⟨ok, oi, op, oa, of, ot, ox, on, ⟨vk, vi, vt, vs, vl⟩⟩ : Opn)])) ∧ Below w.heap.size w W) := fun W hW => by
          have hbw : Below w11.heap.size w11 W := HB14.out.trans (hW.mono HB14.out.size)
          have hbx : Below w12.heap.size w12 W := HB1214.out.trans (hW.mono HB1214.out.size)
          refine ⟨?_, ?_, HB11.out.trans (hbw.mono HB11.out.size)⟩
          · have := HH11.out.below hbw
            rw [HTK.out] at this
            exact this
          · rw [HAL.out]
            refine (HX12.out.keep (w' := W) fun p hp => hbx.cell hp.2).weak fun b hb => ⟨by have := hb.2; have := hbx.size; omega, by have := hb.1; have := HHL.out; omega, by have := hb.1; omega⟩
        have HDN1 : Hid (dn + 1 = (os ++ [(⟨ok, oi, op, oa, of, ot, ox, on, ⟨vk, vi, vt, vs, vl⟩⟩ : Opn)]).length) := by show _ = _; rw [List.length_append, hdn.out]; rfl
        have HGN' : Hid (w.heap.size ≤ gn') := by show _ ≤ _; omega
        clear hb e0 hrv hal hw14
        by_cases hie : ie = 0
        · subst hie
          obtain ⟨hb0, hb1⟩ := HLB.out rfl
          have HAW2 := Lib.hid (applyTop_any L' f1 HG1.out (some ⟨g12, 0, none⟩) n12 cap12 ⟨ik, ii, ip, ia, if_, it, ix, im, ⟨jk, ji, jt, js, jl⟩⟩ A14 n14 c14 w14 w14.heap.size (Nat.le_refl _) HRB14.out HIO.out HV14.out hb0)
          rw [hb1] at HAW2
          unfold ApplyR at HAW2
          dsimp only [AO, Vl.kind, Vl.int_, Vl.to_, Vl.text, Vl.items] at HAW2
          clear hb0 hb1
          go_upto_region 16 with fail
          rw [← HW14.out]
          have e1 := fun i => Q14.out.cell i
          go_wp2_with fail
          refine HAW2.out.mono ?_
          rintro e w15 ⟨⟨g15, cap15, n15, M15, rfl, hml, hmm, hrow, hg15⟩, hb⟩
          have HB15 := Lib.hid hb
          have HR15 : Hid (RB w15 w15.heap.size (.slice (some ⟨g15, 0, none⟩) n15 cap15) L) := by
            have := hrow.rb
            rw [hml, hmm] at this
            exact this
          have hbn : Below w11.heap.size w11 w15 := HB14.out.trans (hb.mono HB14.out.size)
          have HSM := Lib.hid (same_any L L (some ⟨g15, 0, none⟩) A9 n15 cap15 n9 c9 w15 w15.heap.size (Nat.le_refl _) HR15.out ((HRB11.out.below hbn).more hbn.size))
          rw [sameBs_refl] at HSM
          clear hb e1 hml hmm hrow hg15 hbn
          go_wp2_with fail
          refine HSM.out.mono ?_
          rintro e w16 ⟨rfl, hb⟩
          have HB16 : Hid (Below w14.heap.size w14 w16) := HB15.out.trans (hb.mono HB15.out.size)
          obtain ⟨hq1, hq2, hq3⟩ := HNEXT.out w16 HB16.out
          have HQ1 := Lib.hid hq1
          have HQ2 := Lib.hid hq2
          have HQ3 := Lib.hid hq3
          clear hb hq1 hq2 hq3
          go_wp2_with fail
          go_roundg (m - (k + 1))
          case measure => omega
          case rel => exact ⟨k + 1, os ++ [(⟨ok, oi, op, oa, of, ot, ox, on, ⟨vk, vi, vt, vs, vl⟩⟩ : Opn)], gn', some ⟨g12, 0, none⟩, n12, cap12, dn + 1, by omega, rfl, by go_num, by go_num, by omega, HDN1, HQ1, HQ2, HGN', HQ3⟩
        · have hie' : (ie == 0) = false := by simpa using hie
          obtain ⟨hq1, hq2, hq3⟩ := HNEXT.out w14 (Below.refl _ _)
          have HQ1 := Lib.hid hq1
          have HQ2 := Lib.hid hq2
          have HQ3 := Lib.hid hq3
          clear hq1 hq2 hq3 hie
          go_upto_region 16 with fail
          rw [← HW14.out]
          go_wp2_with fail
          go_roundg (m - (k + 1))
          case measure => omega
          case rel => exact ⟨k + 1, os ++ [(⟨ok, oi, op, oa, of, ot, ox, on, ⟨vk, vi, vt, vs, vl⟩⟩ : Opn)], gn', some ⟨g12, 0, none⟩, n12, cap12, dn + 1, by omega, rfl, by go_num, by go_num, by omega, HDN1, HQ1, HQ2, HGN', HQ3⟩
    · obtain rfl : k = m := by omega
      have HBS := Lib.hid (histBase_any W1 gh gn l os dn hhist.out)
      have htk : os.take dn = os := by rw [hdn.out, List.take_length]
      rw [htk] at HBS
      unfold CopyBaseS at HBS
      have hz1 : w.heap.size ≤ W1.heap.size := hbel.out.size
      have hd0 : (0 : Int) ≤ (dn : Int) := by omega
      clear htk
      go_wp2_with fail
      refine HBS.out.mono ?_
      rintro e w2 ⟨g2, n2, M2, rfl, hl2, hm2, hg2, hr2, hb2⟩
      have HB2 := Lib.hid hb2
      have HR2 : Hid (RB w2 w2.heap.size (.slice (some ⟨g2, 0, none⟩) n2 n2) (applL l os)) := by
        have := hr2.rb
        rw [hl2, hm2] at this
        exact this
      have HSM := Lib.hid (same_any (applL l os) (applL l os) (some ⟨g2, 0, none⟩) A9 n2 n2 n9 c9 w2 w2.heap.size (Nat.le_refl _) HR2.out (((hrb.out.reads (B := W1.heap.size) fun b hb => hb.1).below hb2).more hb2.size))
      rw [sameBs_refl] at HSM
      clear hb2 hl2 hm2 hg2 hr2
      go_wp2_with fail
      refine HSM.out.mono ?_
      rintro e w3 ⟨rfl, hb⟩
      have HB3 : Hid (Below W1.heap.size W1 w3) := HB2.out.trans (hb.mono HB2.out.size)
      have HBW3 : Hid (Below w.heap.size w w3) := hbel.out.trans (HB3.out.mono hz1)
      have HH3 : Hid (HistM w3 gh gn l os (dn - 0)) := hhist.out.below HB3.out
      have HX3 : Hid (RBX w3 (HS w3 gh gn) (.slice A9 n9 c9) (applL l os)) := (hrb.out.keep (w' := w3) fun p hp => HB3.out.cell hp.1).weak fun b hb => ⟨Nat.lt_of_lt_of_le hb.1 HB3.out.size, hb.2⟩
      clear hb
      go_wp2_with fail
      go_loopg [97] dn (fun gg s97 wr => ∃ (j gn2 : Nat), j + gg = dn ∧ s97 = .int .i64 (j : Int) ∧ Hid (HistM wr gh gn2 l os (dn - j)) ∧ Hid (RBX wr (HS wr gh gn2) (.slice A9 n9 c9) (applL l os)) ∧ Hid (w.heap.size ≤ gn2) ∧ Hid (Below w.heap.size w wr))
      case atStart => exact ⟨0, gn, by omega, rfl, HH3, HX3, hgn, HBW3⟩
      case round =>
        obtain ⟨j, gn2, hjg, rfl, hh, hx, hg2, hb⟩ := hrel
        obtain ⟨W2, rfl⟩ : ∃ W2, W2 = wr := ⟨_, rfl⟩
        by_cases hj : j < dn
        · obtain ⟨d', hd'⟩ : ∃ d', dn - j = d' + 1 := ⟨dn - j - 1, by omega⟩
          have hh' := hh.out
          rw [hd'] at hh'
          have HUN := Lib.hid (undo_any W2 gh gn2 l os d' hh')
          unfold BackR at HUN
          have hz2 : w.heap.size ≤ W2.heap.size := hb.out.size
          have j0 : (0 : Int) ≤ (j : Int) := by omega
          have j1 : (j : Int) < (dn : Int) := by omega
          have hdj : d' = dn - (j + 1) := by omega
          have HDJ := Lib.hid hdj
          clear hh' hd' hdj
          go_wp2_with fail
          refine HUN.out.mono ?_
          rintro e w4 ⟨gn3, rfl, hh4, hg4, hk4⟩
          rw [HDJ.out] at hh4
          have HH4 := Lib.hid hh4
          have HX4 : Hid (RBX w4 (HS w4 gh gn3) (.slice A9 n9 c9) (applL l os)) := (hk4.rbx hx.out fun b hb => ⟨hb.1, hb.2.1⟩).weak fun b hb => ⟨Nat.lt_of_lt_of_le hb.1 hk4.size, hb.2.1, by have := hb.1; omega⟩
          have HB4 : Hid (Below w.heap.size w w4) := hb.out.trans (hk4.below hz2 fun i hi e => by have e : i = gh := e; omega)
          have HG4 : Hid (w.heap.size ≤ gn3) := Nat.le_trans hz2 hg4
          clear hh4 hg4 hk4
          go_wp2_with fail
          go_roundg (dn - (j + 1))
          case measure => omega
          case rel => exact ⟨j + 1, gn3, by omega, by go_num, HH4, HX4, HG4, HB4⟩
        · obtain rfl : j = dn := by omega
          have hh' := hh.out
          rw [Nat.sub_self] at hh'
          have HUN := Lib.hid (undo_no W2 gh gn2 l os hh')
          have HH2 := Lib.hid hh'
          have HBS := Lib.hid (histBase_any W2 gh gn2 l os 0 hh')
          have hz2 : w.heap.size ≤ W2.heap.size := hb.out.size
          have h00 : applL l (os.take 0) = l := rfl
          rw [h00] at HBS
          unfold CopyBaseS at HBS
          clear hh' h00
          go_wp2_with fail
          refine HUN.out.mono ?_
          rintro e w4 ⟨rfl, hw⟩
          rw [hw]
          clear hw
          go_wp2_with fail
          refine HBS.out.mono ?_
          rintro e w5 ⟨g5, n5, M5, rfl, hl5, hm5, hg5, hr5, hb5⟩
          have HB5 := Lib.hid hb5
          have HR5 : Hid (RB w5 w5.heap.size (.slice (some ⟨g5, 0, none⟩) n5 n5) l) := by
            have := hr5.rb
            rw [hl5, hm5] at this
            exact this
          have hbw5 : Below w.heap.size w w5 := hb.out.trans (hb5.mono hz2)
          have HSM := Lib.hid (same_any l l (some ⟨g5, 0, none⟩) A n5 n5 n c w5 w5.heap.size (Nat.le_refl _) HR5.out ((HRB0.out.below hbw5).more hbw5.size))
          rw [sameBs_refl] at HSM
          clear hb5 hl5 hm5 hg5 hr5 hbw5
          go_wp2_with fail
          refine HSM.out.mono ?_
          rintro e w6 ⟨rfl, hb6⟩
          have HB6 : Hid (Below W2.heap.size W2 w6) := HB5.out.trans (hb6.mono HB5.out.size)
          have HBW6 : Hid (Below w.heap.size w w6) := hb.out.trans (HB6.out.mono hz2)
          have HH6 := Lib.hid (HH2.out.below HB6.out)
          have HX6 : Hid (RBX w6 (HS w6 gh gn2) (.slice A9 n9 c9) (applL l os)) := (hx.out.keep (w' := w6) fun p hp => HB6.out.cell hp.1).weak fun b hb => ⟨Nat.lt_of_lt_of_le hb.1 HB6.out.size, hb.2⟩
          clear hb6
          go_wp2_with fail
          go_loopg [113] j (fun gg s113 wr => ∃ (i gn3 : Nat), i + gg = j ∧ s113 = .int .i64 (i : Int) ∧ Hid (HistM wr gh gn3 l os i) ∧ Hid (RBX wr (HS wr gh gn3) (.slice A9 n9 c9) (applL l os)) ∧ Hid (w.heap.size ≤ gn3) ∧ Hid (Below w.heap.size w wr))
          case atStart => exact ⟨0, gn2, by omega, rfl, HH6, HX6, hg2, HBW6⟩
          case round =>
            obtain ⟨i, gn3, hig, rfl, hh3, hx3, hg3, hb3⟩ := hrel
            obtain ⟨W3, rfl⟩ : ∃ W3, W3 = wr := ⟨_, rfl⟩
            have hz3 : w.heap.size ≤ W3.heap.size := hb3.out.size
            have hne3 := hh3.out.ne
            by_cases hi : i < j
            · have HRE := Lib.hid (redo_any W3 gh gn3 l os i hh3.out (by have := hdn.out; omega))
              unfold OnR at HRE
              have j0 : (0 : Int) ≤ (i : Int) := by omega
              have j1 : (i : Int) < (j : Int) := by omega
              go_wp2_with fail
              refine HRE.out.mono ?_
              rintro e w7 ⟨gn4, rfl, hh7, hg7, hk7⟩
              have HH7 := Lib.hid hh7
              have HX7 : Hid (RBX w7 (HS w7 gh gn4) (.slice A9 n9 c9) (applL l os)) := (hk7.rbx hx3.out fun b hb => ⟨hb.1, fun e => by
                rcases e with e | e
                · exact hb.2.1 e
                · exact hb.2.2 e⟩).weak fun b hb => ⟨Nat.lt_of_lt_of_le hb.1 hk7.size, hb.2.1, by
                have := hb.1
                rcases hg7 with e | e
                · rw [e]; exact hb.2.2
                · omega⟩
              have hg3' := hg3.out
              have HB7 : Hid (Below w.heap.size w w7) := hb3.out.trans (hk7.below hz3 fun i hi e => by
                have e : i = gh ∨ i = gn3 := e
                omega)
              have HG7 : Hid (w.heap.size ≤ gn4) := by show _ ≤ _; omega
              clear hh7 hg7 hk7
              go_wp2_with fail
              go_roundg (j - (i + 1))
              case measure => omega
              case rel => exact ⟨i + 1, gn4, by omega, by go_num, HH7, HX7, HG7, HB7⟩
            · obtain rfl : i = j := by omega
              have HRE := Lib.hid (redo_no W3 gh gn3 l os i hh3.out hdn.out)
              have HH3 := Lib.hid hh3.out
              go_wp2_with fail
              refine HRE.out.mono ?_
              rintro e w7 ⟨rfl, hb7⟩
              have HB7 := Lib.hid hb7
              have HBS := Lib.hid (histBase_any w7 gh gn3 l os i (HH3.out.below hb7))
              have htk : os.take i = os := by rw [hdn.out, List.take_length]
              rw [htk] at HBS
              unfold CopyBaseS at HBS
              clear hb7 htk
              go_wp2_with fail
              refine HBS.out.mono ?_
              rintro e w8 ⟨g8, n8, M8, rfl, hl8, hm8, hg8, hr8, hb8⟩
              have HB8 : Hid (Below W3.heap.size W3 w8) := HB7.out.trans (hb8.mono HB7.out.size)
              have HR8 : Hid (RB w8 w8.heap.size (.slice (some ⟨g8, 0, none⟩) n8 n8) (applL l os)) := by
                have := hr8.rb
                rw [hl8, hm8] at this
                exact this
              have HSM := Lib.hid (same_any (applL l os) (applL l os) (some ⟨g8, 0, none⟩) A9 n8 n8 n9 c9 w8 w8.heap.size (Nat.le_refl _) HR8.out (((hx3.out.reads (B := W3.heap.size) fun b hb => hb.1).below HB8.out).more HB8.out.size))
              rw [sameBs_refl] at HSM
              clear hb8 hl8 hm8 hg8 hr8
              go_wp2_with fail
              refine HSM.out.mono ?_
              rintro e w9 ⟨rfl, hb9⟩
              have HB9 : Hid (Below w.heap.size w w9) := hb3.out.trans ((HB8.out.trans (hb9.mono HB8.out.size)).mono hz3)
              clear hb9
              go_wp2_with fail
              go_ret
              exact ⟨rfl, HB9.out⟩
/-- the law, for every base and all operations -/
theorem tuLaw_any (l : List Bl) (f : Int → Option Int) (hf : DepOk l f) (A : Option Addr) (n c : Nat) (os : List Opn) (Ao : Option Addr) (no co : Nat) (w : World) (h : RB w w.heap.size (.slice A n c) l) (ho : ROs w w.heap.size (.slice Ao no co) os) :
    Calls Tryz.prog 6 #[.slice A n c, .slice Ao no co] w fun e w' => e = .returned (.bool true) ∧ Below w.heap.size w w' := by
  by_cases h0 : baseE l f = 0
  · exact tuLaw_good l f hf A n c os Ao no co w h ho h0 _ rfl
  · exact tuLaw_bad l f hf A n c _ w h h0
end Go.Proofs.YtmkicfjcgbfaaaaGreat
