/-
  DERIVED. The walk of the law TreeOps. Conditions: sizes.
  By an AI agent.
-/
import Derived.Test.YtackphgnkdpgnaaGreatTj30
import Derived.Test.YtackphgnkdpgnaaGreatTj33
import Derived.Test.YtackphgnkdpgnaaGreatTj38
import Derived.Test.YtackphgnkdpgnaaGreatTj41
import Derived.Test.YtackphgnkdpgnaaGreatTj42
namespace Go.Proofs.YtackphgnkdpgnaaGreat
open Go.RowKit

/-- what tree.All leaves, seen from the law: the place kb where it stopped (or all operations), the error er, the number n7 and the base -/
structure AllFin (w' : World) (l : List Bl) (os : List Opn) (no kb n7 : Nat) (er : Int) (A : Option Addr) (n c : Nat) : Prop where
  le : kb ≤ no
  ok : ∀ (k : Nat) (o : Opn), k < kb → os[k]? = some o → ∃ f, Good (applL l (os.take k)) f ∧ opErr (applL l (os.take k)) f o = 0
  bad : kb < no → er ≠ 0 ∧ n7 = kb ∧ n = 0 ∧ ∃ o f, os[kb]? = some o ∧ Good (applL l (os.take kb)) f ∧ opErr (applL l (os.take kb)) f o = er
  fin : kb = no → er = 0 ∧ n7 = 0 ∧ RB w' w'.heap.size (.slice A n c) (applL l os)
theorem allTop_fin (l : List Bl) (f : Int → Option Int) (G : Good l f) (A : Option Addr) (n c : Nat) (os : List Opn) (Ao : Option Addr) (no co : Nat) (w : World) (B : Nat) (hB : B ≤ w.heap.size) (h : RB w B (.slice A n c) l) (ho : ROs w B (.slice Ao no co) os) :
    Calls Tryz.prog 5 #[.slice A n c, .slice Ao no co] w fun e w' => (∃ A6 n6 c6 n7 kb er, e = .returned (.tuple #[.slice A6 n6 c6, .int .i64 (n7 : Nat), .int .i64 er]) ∧ AllFin w' l os no kb n7 er A6 n6 c6) ∧ Below w.heap.size w w' := by
  have hno : no = os.length := ho.len.1
  refine (allTop_any l f G A n c os Ao no co w B hB h ho).mono ?_
  rintro e w' ⟨hcase, hg⟩
  refine ⟨?_, below_grown hg⟩
  rcases hcase with ⟨k, er, h1, ⟨o, fb, h2, h3, h4, h5⟩, rfl⟩ | ⟨h1, g', cap', n', M, rfl, h2, h3, h4, _⟩
  · have hk : k < os.length := (List.getElem?_eq_some_iff.1 h2).1
    refine ⟨none, 0, 0, k, k, er, rfl, by omega, fun j o' hj ho' => ?_, fun _ => ⟨h5, rfl, rfl, o, fb, h2, h3, h4⟩, fun e => by omega⟩
    have := h1 j o' (by rw [List.getElem?_take, if_pos hj]; exact ho')
    rw [List.take_take, Nat.min_eq_left (Nat.le_of_lt hj)] at this
    exact this
  · refine ⟨some ⟨g', 0, none⟩, n', cap', 0, no, 0, rfl, Nat.le_refl _, fun j o' _ ho' => h1 j o' ho', fun e => by omega, fun _ => ⟨rfl, rfl, ?_⟩⟩
    have := h4.rb
    rw [h2, h3] at this
    exact this
set_option maxRecDepth 100000 in
set_option maxHeartbeats 8000000 in
theorem law_bad (l : List Bl) (f : Int → Option Int) (hf : DepOk l f) (A : Option Addr) (n c : Nat) (ov : Value) (w : World) (h : RB w w.heap.size (.slice A n c) l) (hne : baseE l f ≠ 0) :
    Calls Tryz.prog 3 #[.slice A n c, ov] w fun e w' => e = .returned (.bool true) ∧ Below w.heap.size w w' := by
  have HBE := Lib.hid (baseError_any l f A n c w w.heap.size (Nat.le_refl _) h hf)
  have HAL := Lib.hid fun W (hW : Below w.heap.size w W) => allTop_bad l f hf A n c ov W w.heap.size hW.size (h.below hW) hne
  obtain ⟨er, her⟩ : ∃ er, er = baseE l f := ⟨_, rfl⟩
  rw [← her] at HBE HAL hne
  have h0' : (er != 0) = true := by simpa using hne
  clear her hne h
  go_enter Tryz.func3, Tryz.ntmps3
  go_wp2_with fail
  refine HBE.out.mono ?_
  rintro e w1 ⟨rfl, hb1⟩
  have HB1 := Lib.hid hb1
  clear hb1
  go_wp2_with fail
  refine (HAL.out w1 HB1.out).mono ?_
  rintro e w2 ⟨rfl, hb2⟩
  have HB2 : Hid (Below w.heap.size w w2) := HB1.out.trans (hb2.mono HB1.out.size)
  clear hb2
  go_wp2_with fail
  go_ret
  exact ⟨rfl, HB2.out⟩
set_option maxRecDepth 100000 in
set_option maxHeartbeats 16000000 in
theorem law_good (l : List Bl) (f : Int → Option Int) (hf : DepOk l f) (A : Option Addr) (n c : Nat) (os : List Opn) (Ao : Option Addr) (no co : Nat) (w : World) (h : RB w w.heap.size (.slice A n c) l) (ho : ROs w w.heap.size (.slice Ao no co) os) (h0 : baseE l f = 0) (m : Nat) (hm : m = min no 30) :
    Calls Tryz.prog 3 #[.slice A n c, .slice Ao no co] w fun e w' => e = .returned (.bool true) ∧ Below w.heap.size w w' := by
  have HBE := Lib.hid (baseError_any l f A n c w w.heap.size (Nat.le_refl _) h hf)
  rw [h0] at HBE
  have G := good_of h0 hf
  have HAL := Lib.hid fun W (hW : Below w.heap.size w W) => allTop_fin l f G A n c os Ao no co W w.heap.size hW.size (h.below hW) (ho.below hW)
  have hnol := ho.len
  have HNO : Hid (no = os.length) := hnol.1
  have hnb : no * 144 ≤ 140737488351232 := hnol.2.2
  have hnc : no ≤ co := hnol.2.1
  have HO := Lib.hid ho
  have HRB0 := Lib.hid h
  have HG := Lib.hid G
  have HM := Lib.hid hm
  have hmin : min (no : Int) 30 = (m : Int) := by omega
  have hmn : m ≤ no := by omega
  have hm30 : m ≤ 30 := by omega
  clear h0 G h ho hnol hm hf
  go_enter Tryz.func3, Tryz.ntmps3
  go_wp2_with fail
  refine HBE.out.mono ?_
  rintro e w1 ⟨rfl, hb1⟩
  have HB1 := Lib.hid hb1
  clear hb1
  go_wp2_with fail
  refine (HAL.out w1 HB1.out).mono ?_
  rintro e w6 ⟨⟨A6, n6, c6, n7, kb, er, rfl, hfin⟩, hb6⟩
  have HB6 : Hid (Below w.heap.size w w6) := HB1.out.trans (hb6.mono HB1.out.size)
  have HFIN := Lib.hid hfin
  clear hb6 hfin
  go_wp2_with fail
  go_loopg [9, 49] m (fun gg s9 s49 wr => ∃ (k : Nat) (A9 : Option Addr) (n9 c9 : Nat), k + gg = m ∧ s9 = .slice A9 n9 c9 ∧ s49 = .int .i64 (k : Int) ∧ k ≤ kb ∧ Hid (RB wr wr.heap.size (.slice A9 n9 c9) (applL l (os.take k))) ∧ Hid (Below w6.heap.size w6 wr))
  case atStart => exact ⟨0, A, n, c, by omega, rfl, rfl, Nat.zero_le _, (HRB0.out.below HB6.out).more HB6.out.size, Below.refl _ _⟩
  case round =>
    obtain ⟨k, A9, n9, c9, hkg, rfl, rfl, hkb, hrb, hbel⟩ := hrel
    obtain ⟨W1, rfl⟩ : ∃ W1, W1 = wr := ⟨_, rfl⟩
    have HBW : Hid (Below w.heap.size w W1) := HB6.out.trans (hbel.out.mono HB6.out.size)
    by_cases hk : k < m
    · obtain ⟨o, hko⟩ : ∃ o, os[k]? = some o := ⟨_, List.getElem?_eq_getElem (by have := HNO.out; omega)⟩
      obtain ⟨b, off, Av, nv, cv, rfl, hbb, hc, hrv, hoi⟩ := (HO.out.below HBW.out).at_ hko
      have HRV : Hid (RV W1 W1.heap.size (.slice Av nv cv) o.val.items) := hrv.more HBW.out.size
      have HOI := Lib.hid hoi
      have HSN : Hid (applL l (os.take (k + 1)) = applied (applL l (os.take k)) o) := applL_snoc hko
      obtain ⟨L, hL⟩ : ∃ L, L = applL l (os.take k) := ⟨_, rfl⟩
      have HLL := Lib.hid hL
      rw [← hL] at hrb HSN
      have HKO := Lib.hid hko
      obtain ⟨ok, oi, op, oa, of, ot, ox, on, ⟨vk, vi, vt, vs, vl⟩⟩ := o
      have g0 : W1.cell? ⟨b, off + k * 13, none⟩ = some (.int .i64 ok) := hc 0 _ rfl
      have g1 : W1.cell? ⟨b, off + k * 13 + 1, none⟩ = some (.int .i64 oi) := hc 1 _ rfl
      have g2 : W1.cell? ⟨b, off + k * 13 + 2, none⟩ = some (.int .i64 op) := hc 2 _ rfl
      have g3 : W1.cell? ⟨b, off + k * 13 + 3, none⟩ = some (.int .i64 oa) := hc 3 _ rfl
      have g4 : W1.cell? ⟨b, off + k * 13 + 4, none⟩ = some (.int .i64 of) := hc 4 _ rfl
      have g5 : W1.cell? ⟨b, off + k * 13 + 5, none⟩ = some (.int .i64 ot) := hc 5 _ rfl
      have g6 : W1.cell? ⟨b, off + k * 13 + 6, none⟩ = some (.string ox) := hc 6 _ rfl
      have g7 : W1.cell? ⟨b, off + k * 13 + 7, none⟩ = some (.string on) := hc 7 _ rfl
      have g8 : W1.cell? ⟨b, off + k * 13 + 8, none⟩ = some (.int .i64 vk) := hc 8 _ rfl
      have g9 : W1.cell? ⟨b, off + k * 13 + 9, none⟩ = some (.int .i64 vi) := hc 9 _ rfl
      have g10 : W1.cell? ⟨b, off + k * 13 + 10, none⟩ = some (.int .i64 vt) := hc 10 _ rfl
      have g11 : W1.cell? ⟨b, off + k * 13 + 11, none⟩ = some (.string vs) := hc 11 _ rfl
      have g12 : W1.cell? ⟨b, off + k * 13 + 12, none⟩ = some (.slice Av nv cv) := hc 12 _ rfl
      have j0 : (0 : Int) ≤ (k : Int) := by omega
      have j1 : (k : Int) < (m : Int) := by omega
      obtain ⟨wa, hwa⟩ : ∃ wa, wa = W1.alloc (.cells #[.int .i64 ok, .int .i64 oi, .int .i64 op, .int .i64 oa, .int .i64 of, .int .i64 ot, .string ox, .string on, .int .i64 vk, .int .i64 vi, .int .i64 vt, .string vs, .slice Av nv cv] 32) := ⟨_, rfl⟩
      have hal : Below W1.heap.size W1 wa := by rw [hwa]; exact (Below.refl _ _).alloc (Nat.le_refl _) _
      have P0 : Hid (Blk wa W1.heap.size 32 #[.int .i64 ok, .int .i64 oi, .int .i64 op, .int .i64 oa, .int .i64 of, .int .i64 ot, .string ox, .string on, .int .i64 vk, .int .i64 vi, .int .i64 vt, .string vs, .slice Av nv cv]) := by rw [hwa]; exact Blk.new _ _ _
      have HBA : Hid (Below w6.heap.size w6 wa) := hbel.out.trans (hal.mono hbel.out.size)
      have HRA : Hid (RB wa wa.heap.size (.slice A9 n9 c9) L) := (hrb.out.below hal).more hal.size
      have HVA : Hid (RV wa wa.heap.size (.slice Av nv cv) vl) := (HRV.out.below hal).more hal.size
      have HWA := Lib.hid hwa
      clear hko hbb hc hrv hoi hL hwa hal
      by_cases hlt : k < kb
      · obtain ⟨f, G, he⟩ := HFIN.out.ok k _ hlt HKO.out
        rw [← HLL.out] at G he
        have HOE := Lib.hid fun W (hW : Below wa.heap.size wa W) => opError_any L f G A9 n9 c9 ⟨ok, oi, op, oa, of, ot, ox, on, ⟨vk, vi, vt, vs, vl⟩⟩ Av nv cv W wa.heap.size hW.size (HRA.out.below hW) HOI.out (HVA.out.below hW)
        have HAP := Lib.hid fun W (hW : Below wa.heap.size wa W) => applyTop_any L f G A9 n9 c9 ⟨ok, oi, op, oa, of, ot, ox, on, ⟨vk, vi, vt, vs, vl⟩⟩ Av nv cv W wa.heap.size hW.size (HRA.out.below hW) HOI.out (HVA.out.below hW) he
        have HIV := Lib.hid fun W (hW : Below wa.heap.size wa W) => inverseTop_any L f G A9 n9 c9 ⟨ok, oi, op, oa, of, ot, ox, on, ⟨vk, vi, vt, vs, vl⟩⟩ Av nv cv W wa.heap.size hW.size (HRA.out.below hW) HOI.out (HVA.out.below hW) he
        have HIO := Lib.hid fun W (hW : Below wa.heap.size wa W) => inverseOf_any L f G A9 n9 c9 ⟨ok, oi, op, oa, of, ot, ox, on, ⟨vk, vi, vt, vs, vl⟩⟩ Av nv cv W wa.heap.size hW.size (HRA.out.below hW) HOI.out he
        have HAR := Lib.hid fun W (hW : Below wa.heap.size wa W) => appliedR_any L f G A9 n9 c9 ⟨ok, oi, op, oa, of, ot, ox, on, ⟨vk, vi, vt, vs, vl⟩⟩ Av nv cv W wa.heap.size hW.size (HRA.out.below hW) (HVA.out.below hW) HOI.out he
        rw [he] at HOE
        obtain ⟨L', hL'⟩ : ∃ L', L' = applied L ⟨ok, oi, op, oa, of, ot, ox, on, ⟨vk, vi, vt, vs, vl⟩⟩ := ⟨_, rfl⟩
        obtain ⟨IV, hIV⟩ : ∃ IV, IV = invO L ⟨ok, oi, op, oa, of, ot, ox, on, ⟨vk, vi, vt, vs, vl⟩⟩ := ⟨_, rfl⟩
        rw [← hL'] at HAP HAR HSN
        rw [← hIV] at HIV HIO
        obtain ⟨⟨ik, ii, ip, ia, if_, it, ix, im, ⟨jk, ji, jt, js, jl⟩⟩, ie⟩ := IV
        unfold InvR at HIV HIO
        unfold ApplyR at HAP
        unfold ApplR at HAR
        dsimp only [AO, Vl.kind, Vl.int_, Vl.to_, Vl.text, Vl.items] at HOE HAP HIV HIO HAR
        clear G he hL' hIV
        go_upto_region 9 with fail
        rw [← HWA.out]
        clear g0 g1 g2 g3 g4 g5 g6 g7 g8 g9 g10 g11 g12
        have e0 := fun i => P0.out.cell i
        go_wp2_with fail
        refine (HOE.out wa (Below.refl _ _)).mono ?_
        rintro e w12 ⟨rfl, hb⟩
        have HB12 := Lib.hid hb
        have P12 := Lib.hid (P0.out.below hb P0.out.lt)
        clear hb e0
        have e0 := fun i => P12.out.cell i
        go_wp2_with fail
        refine (HAP.out w12 HB12.out).mono ?_
        rintro e w13 ⟨⟨g13, cap13, n13, M13, rfl, hml, hmm, hrow, _⟩, hb⟩
        have HB13 : Hid (Below wa.heap.size wa w13) := HB12.out.trans (hb.mono HB12.out.size)
        have P13 := Lib.hid (P12.out.below hb P12.out.lt)
        have HR13 : Hid (RB w13 w13.heap.size (.slice (some ⟨g13, 0, none⟩) n13 cap13) L') := by
          have := hrow.rb
          rw [hml, hmm] at this
          exact this
        clear hb e0 hml hmm hrow
        have e0 := fun i => P13.out.cell i
        go_wp2_with fail
        refine (HIV.out w13 HB13.out).mono ?_
        rintro e w14 ⟨⟨A14, n14, c14, rfl, hrv⟩, hb⟩
        obtain ⟨w15, hw15⟩ : ∃ w15, w15 = w14.alloc (.cells #[.int .i64 ik, .int .i64 ii, .int .i64 ip, .int .i64 ia, .int .i64 if_, .int .i64 it, .string ix, .string im, .int .i64 jk, .int .i64 ji, .int .i64 jt, .string js, .slice A14 n14 c14] 32) := ⟨_, rfl⟩
        have hal : Below w14.heap.size w14 w15 := by rw [hw15]; exact (Below.refl _ _).alloc (Nat.le_refl _) _
        have HB1315 : Hid (Below w13.heap.size w13 w15) := hb.trans (hal.mono hb.size)
        have HB15 : Hid (Below wa.heap.size wa w15) := HB13.out.trans (HB1315.out.mono HB13.out.size)
        have P15 := Lib.hid (P13.out.below HB1315.out P13.out.lt)
        have Q15 : Hid (Blk w15 w14.heap.size 32 #[.int .i64 ik, .int .i64 ii, .int .i64 ip, .int .i64 ia, .int .i64 if_, .int .i64 it, .string ix, .string im, .int .i64 jk, .int .i64 ji, .int .i64 jt, .string js, .slice A14 n14 c14]) := by rw [hw15]; exact Blk.new _ _ _
        have HV15 : Hid (RV w15 w15.heap.size (.slice A14 n14 c14) jl) := ((hrv.reads (B := w14.heap.size) fun b hb => hb.2).below hal).more hal.size
        have HW15 := Lib.hid hw15
        clear hb e0 hrv hal hw15
        go_upto_region 12 with fail
        rw [← HW15.out]
        have e0 := fun i => P15.out.cell i
        go_wp2_with fail
        refine (HIO.out w15 HB15.out).mono ?_
        rintro e w16 ⟨⟨A16, n16, c16, rfl, hrv⟩, hb⟩
        obtain ⟨w17, hw17⟩ : ∃ w17, w17 = w16.alloc (.cells #[.int .i64 ik, .int .i64 ii, .int .i64 ip, .int .i64 ia, .int .i64 if_, .int .i64 it, .string ix, .string im, .int .i64 jk, .int .i64 ji, .int .i64 jt, .string js, .slice A16 n16 c16] 32) := ⟨_, rfl⟩
        have hal : Below w16.heap.size w16 w17 := by rw [hw17]; exact (Below.refl _ _).alloc (Nat.le_refl _) _
        have HB1517 : Hid (Below w15.heap.size w15 w17) := hb.trans (hal.mono hb.size)
        have HB17 : Hid (Below wa.heap.size wa w17) := HB15.out.trans (HB1517.out.mono HB15.out.size)
        have P17 := Lib.hid (P15.out.below HB1517.out P15.out.lt)
        have Q17 := Lib.hid (Q15.out.below HB1517.out Q15.out.lt)
        have U17 : Hid (Blk w17 w16.heap.size 32 #[.int .i64 ik, .int .i64 ii, .int .i64 ip, .int .i64 ia, .int .i64 if_, .int .i64 it, .string ix, .string im, .int .i64 jk, .int .i64 ji, .int .i64 jt, .string js, .slice A16 n16 c16]) := by rw [hw17]; exact Blk.new _ _ _
        have HV17 : Hid (RV w17 w17.heap.size (.slice A16 n16 c16) jl) := ((hrv.reads (B := w16.heap.size) fun b hb => hb.2).below hal).more hal.size
        have HW17 := Lib.hid hw17
        clear hb e0 hrv hal hw17
        go_upto_region 15 with fail
        rw [← HW17.out]
        have e0 := fun i => P17.out.cell i
        go_wp2_with fail
        refine (HAR.out w17 HB17.out).mono ?_
        rintro e w18 ⟨A18, n18, c18, rfl, hr18, hb⟩
        have HB1318 : Hid (Below w13.heap.size w13 w18) := (HB1315.out.trans (HB1517.out.mono HB1315.out.size)).trans (hb.mono (HB1315.out.trans (HB1517.out.mono HB1315.out.size)).size)
        have HB18 : Hid (Below wa.heap.size wa w18) := HB17.out.trans (hb.mono HB17.out.size)
        have P18 := Lib.hid (P17.out.below hb P17.out.lt)
        have Q18 := Lib.hid (Q17.out.below hb Q17.out.lt)
        have U18 := Lib.hid (U17.out.below hb U17.out.lt)
        have HV18a : Hid (RV w18 w18.heap.size (.slice A14 n14 c14) jl) := ((HV15.out.below HB1517.out).more HB1517.out.size |>.below hb).more hb.size
        have HV18b : Hid (RV w18 w18.heap.size (.slice A16 n16 c16) jl) := (HV17.out.below hb).more hb.size
        have HSB := Lib.hid (sameBase_any L' L' (some ⟨g13, 0, none⟩) A18 n13 cap13 n18 c18 w18 w18.heap.size (Nat.le_refl _) ((HR13.out.below HB1318.out).more HB1318.out.size) hr18)
        rw [sameBs_refl] at HSB
        clear hb e0 hr18
        go_wp2_with fail
        refine HSB.out.mono ?_
        rintro e w19 ⟨rfl, hb⟩
        have HB19 : Hid (Below wa.heap.size wa w19) := HB18.out.trans (hb.mono HB18.out.size)
        have P19 := Lib.hid (P18.out.below hb P18.out.lt)
        have Q19 := Lib.hid (Q18.out.below hb Q18.out.lt)
        have U19 := Lib.hid (U18.out.below hb U18.out.lt)
        have HSO := Lib.hid (sameOp_any ⟨ik, ii, ip, ia, if_, it, ix, im, ⟨jk, ji, jt, js, jl⟩⟩ A14 A16 n14 c14 n16 c16 w19 w19.heap.size (Nat.le_refl _) ((HV18a.out.below hb).more hb.size) ((HV18b.out.below hb).more hb.size))
        dsimp only [AO, Vl.kind, Vl.int_, Vl.to_, Vl.text] at HSO
        clear hb
        have e1 := fun i => Q19.out.cell i
        have e2 := fun i => U19.out.cell i
        go_wp2_with fail
        refine HSO.out.mono ?_
        rintro e w20 ⟨rfl, hb⟩
        have HB20 : Hid (Below wa.heap.size wa w20) := HB19.out.trans (hb.mono HB19.out.size)
        have P20 := Lib.hid (P19.out.below hb P19.out.lt)
        clear hb e1 e2
        have e0 := fun i => P20.out.cell i
        go_wp2_with fail
        refine (HAR.out w20 HB20.out).mono ?_
        rintro e w21 ⟨A21, n21, c21, rfl, hr21, hb⟩
        have HB21 : Hid (Below w6.heap.size w6 w21) := HBA.out.trans ((HB20.out.trans (hb.mono HB20.out.size)).mono HBA.out.size)
        have HR21 : Hid (RB w21 w21.heap.size (.slice A21 n21 c21) (applL l (os.take (k + 1)))) := by
          show RB _ _ _ _
          rw [HSN.out]
          exact hr21
        clear hb e0 hr21
        go_wp2_with fail
        go_roundg (m - (k + 1))
        case measure => omega
        case rel => exact ⟨k + 1, A21, n21, c21, by omega, rfl, by go_num, hlt, HR21, HB21⟩
      · obtain rfl : k = kb := by omega
        obtain ⟨hne, hn7, hn6, o2, f, ho2, G, he⟩ := HFIN.out.bad (by omega)
        have : o2 = ⟨ok, oi, op, oa, of, ot, ox, on, ⟨vk, vi, vt, vs, vl⟩⟩ := by
          rw [HKO.out] at ho2
          exact (Option.some.inj ho2).symm
        subst this
        rw [← HLL.out] at G he
        subst hn7 hn6
        have hne2 : opErr L f ⟨ok, oi, op, oa, of, ot, ox, on, ⟨vk, vi, vt, vs, vl⟩⟩ ≠ 0 := by rw [he]; exact hne
        have HOE := Lib.hid fun W (hW : Below wa.heap.size wa W) => opError_any L f G A9 n9 c9 ⟨ok, oi, op, oa, of, ot, ox, on, ⟨vk, vi, vt, vs, vl⟩⟩ Av nv cv W wa.heap.size hW.size (HRA.out.below hW) HOI.out (HVA.out.below hW)
        have HAP := Lib.hid fun W (hW : Below wa.heap.size wa W) => applyTop_bad L f G A9 n9 c9 ⟨ok, oi, op, oa, of, ot, ox, on, ⟨vk, vi, vt, vs, vl⟩⟩ Av nv cv W wa.heap.size hW.size (HRA.out.below hW) HOI.out (HVA.out.below hW) hne2
        have HIV := Lib.hid fun W (hW : Below wa.heap.size wa W) => inverseTop_no L f G A9 n9 c9 ⟨ok, oi, op, oa, of, ot, ox, on, ⟨vk, vi, vt, vs, vl⟩⟩ Av nv cv W wa.heap.size hW.size (HRA.out.below hW) HOI.out (HVA.out.below hW) hne2
        rw [he] at HOE HAP HIV
        unfold InvR at HIV
        dsimp only [AO, zO, zV, Vl.kind, Vl.int_, Vl.to_, Vl.text, Vl.items] at HOE HAP HIV
        have h0' : (er != 0) = true := by simpa using hne
        clear G he hne2 ho2 hne
        go_upto_region 9 with fail
        rw [← HWA.out]
        clear g0 g1 g2 g3 g4 g5 g6 g7 g8 g9 g10 g11 g12
        have e0 := fun i => P0.out.cell i
        go_wp2_with fail
        refine (HOE.out wa (Below.refl _ _)).mono ?_
        rintro e w12 ⟨rfl, hb⟩
        have HB12 := Lib.hid hb
        have P12 := Lib.hid (P0.out.below hb P0.out.lt)
        clear hb e0
        have e0 := fun i => P12.out.cell i
        go_wp2_with fail
        refine (HAP.out w12 HB12.out).mono ?_
        rintro e w13 ⟨rfl, hb⟩
        have HB13 : Hid (Below wa.heap.size wa w13) := HB12.out.trans (hb.mono HB12.out.size)
        have P13 := Lib.hid (P12.out.below hb P12.out.lt)
        clear hb e0
        have e0 := fun i => P13.out.cell i
        go_wp2_with fail
        refine (HIV.out w13 HB13.out).mono ?_
        rintro e w14 ⟨⟨A14, n14, c14, rfl, hrv⟩, hb⟩
        obtain ⟨w15, hw15⟩ : ∃ w15, w15 = w14.alloc (.cells #[.int .i64 0, .int .i64 0, .int .i64 0, .int .i64 0, .int .i64 0, .int .i64 0, .string ⟨#[]⟩, .string ⟨#[]⟩, .int .i64 0, .int .i64 0, .int .i64 0, .string ⟨#[]⟩, .slice A14 n14 c14] 32) := ⟨_, rfl⟩
        have hal : Below w14.heap.size w14 w15 := by rw [hw15]; exact (Below.refl _ _).alloc (Nat.le_refl _) _
        have HB15 : Hid (Below wa.heap.size wa w15) := HB13.out.trans ((hb.trans (hal.mono hb.size)).mono HB13.out.size)
        have Q15 : Hid (Blk w15 w14.heap.size 32 #[.int .i64 0, .int .i64 0, .int .i64 0, .int .i64 0, .int .i64 0, .int .i64 0, .string ⟨#[]⟩, .string ⟨#[]⟩, .int .i64 0, .int .i64 0, .int .i64 0, .string ⟨#[]⟩, .slice A14 n14 c14]) := by rw [hw15]; exact Blk.new _ _ _
        have hv15 : RV w15 w15.heap.size (.slice A14 n14 c14) [] := ((hrv.reads (B := w14.heap.size) fun b hb => hb.2).below hal).more hal.size
        have HSO := Lib.hid (sameOp_any zO A14 none n14 c14 0 0 w15 w15.heap.size (Nat.le_refl _) hv15 ((RVX.nil w15 (· < w15.heap.size)).reads fun b hb => hb))
        dsimp only [AO, zO, zV, Vl.kind, Vl.int_, Vl.to_, Vl.text] at HSO
        have HW15 := Lib.hid hw15
        clear hb e0 hrv hal hw15 hv15
        go_upto_region 12 with fail
        rw [← HW15.out]
        have e1 := fun i => Q15.out.cell i
        go_wp2_with fail
        refine HSO.out.mono ?_
        rintro e w16 ⟨rfl, hb⟩
        have HB16 : Hid (Below w.heap.size w w16) := (HB6.out.trans (HBA.out.mono HB6.out.size)).trans ((HB15.out.trans (hb.mono HB15.out.size)).mono (HB6.out.trans (HBA.out.mono HB6.out.size)).size)
        clear hb e1
        go_wp2_with fail
        go_ret
        exact ⟨rfl, HB16.out⟩
    · obtain rfl : k = m := by omega
      by_cases h30 : no ≤ 30
      · obtain rfl : k = no := by have := HM.out; omega
        have hkb2 : kb = k := by have := HFIN.out.le; omega
        subst hkb2
        obtain ⟨rfl, rfl, hr6⟩ := HFIN.out.fin rfl
        have hr9 := hrb.out
        rw [HNO.out, List.take_length] at hr9
        have HSB := Lib.hid (sameBase_any (applL l os) (applL l os) A6 A9 n6 c6 n9 c9 W1 W1.heap.size (Nat.le_refl _) ((hr6.below hbel.out).more hbel.out.size) hr9)
        rw [sameBs_refl] at HSB
        have z1 : ¬ (kb : Int) > 30 := by omega
        have z2 : (kb : Int) ≤ 30 := by omega
        clear hr6 hr9
        go_wp2_with fail
        refine HSB.out.mono ?_
        rintro e w8 ⟨rfl, hb⟩
        have HB8 : Hid (Below w.heap.size w w8) := HBW.out.trans (hb.mono HBW.out.size)
        clear hb
        go_wp2_with fail
        go_ret
        exact ⟨rfl, HB8.out⟩
      · have z1 : (no : Int) > 30 := by omega
        go_wp2_with fail
        go_ret
        exact ⟨rfl, HBW.out⟩
/-- the law, for every base and every operations -/
theorem law_any (l : List Bl) (f : Int → Option Int) (hf : DepOk l f) (A : Option Addr) (n c : Nat) (os : List Opn) (Ao : Option Addr) (no co : Nat) (w : World) (h : RB w w.heap.size (.slice A n c) l) (ho : ROs w w.heap.size (.slice Ao no co) os) :
    Calls Tryz.prog 3 #[.slice A n c, .slice Ao no co] w fun e w' => e = .returned (.bool true) ∧ Below w.heap.size w w' := by
  by_cases h0 : baseE l f = 0
  · exact law_good l f hf A n c os Ao no co w h ho h0 _ rfl
  · exact law_bad l f hf A n c _ w h h0
end Go.Proofs.YtackphgnkdpgnaaGreat
