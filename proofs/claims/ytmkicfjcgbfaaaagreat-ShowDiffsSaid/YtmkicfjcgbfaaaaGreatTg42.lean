/-
  DERIVED. The walk of the reference's Applied, kind 2. Conditions: sizes; an operation without error.
  By an AI agent.
-/
import Derived.Test.YtmkicfjcgbfaaaaGreatTg35
namespace Go.Proofs.YtmkicfjcgbfaaaaGreat
open Go.RowKit

set_option maxRecDepth 100000 in
set_option maxHeartbeats 8000000 in
/-- the reference's Applied, kind 2 -/
theorem appliedR2 (l : List Bl) (f : Int → Option Int) (G : Good l f) (A : Option Addr) (n c : Nat) (o : Opn) (hk : o.kind = 2) (Av : Option Addr) (nv cv : Nat) (w : World) (B : Nat) (hB : B ≤ w.heap.size) (h : RB w B (.slice A n c) l) (hv : RV w B (.slice Av nv cv) o.val.items) (hoi : OI o) (he : opErr l f o = 0) :
    Calls Tryz.prog 22 #[.slice A n c, AO (o, .slice Av nv cv)] w (ApplR (applied l o) w) := by
  obtain ⟨p, x, hx, hxi, h0, q, y, hy, hyi⟩ : ∃ (p : Nat) (x : Bl), l[p]? = some x ∧ x.id = o.id ∧ x.id ≠ 0 ∧ ∃ (q : Nat) (y : Bl), l[q]? = some y ∧ y.id = x.parent := by
    cases G.op_facts he with
    | ins h => omega
    | rem h p x hx hxi h0 hks q y hy hyi hin => exact ⟨p, x, hx, hxi, h0, q, y, hy, hyi⟩
    | mov h => omega
    | edit h => omega
    | set h => omega
  have hpx : posOf l o.id = (p : Int) := by rw [← hxi]; exact posOf_of G.kids.rise hx
  have hpy : posOf l x.parent = (q : Int) := by rw [← hyi]; exact posOf_of G.kids.rise hy
  have HX := Lib.hid hx
  have HY := Lib.hid hy
  have HXI := Lib.hid hxi
  have HYI := Lib.hid hyi
  have HPX := Lib.hid hpx
  have HPY := Lib.hid hpy
  have HKFF := Lib.hid (G.kids.few y (List.mem_of_getElem? hy))
  have HAPP := Lib.hid (applied_rem (l := l) G.kids hk (List.mem_of_getElem? hx) hxi)
  have hn0 : 0 < n := by
    obtain ⟨r, hr, _⟩ := G.kids.root
    have := (List.getElem?_eq_some_iff.1 hr).1
    have := h.len.1
    omega
  have hn1 : n ≤ 2000 := by have := G.kids.short; have := h.len.1; omega
  obtain ⟨wa, hwa⟩ : ∃ wa, wa = w.alloc (.cells (opC o (.slice Av nv cv)) 31) := ⟨_, rfl⟩
  have HBA : Hid (Below w.heap.size w wa) := by rw [hwa]; exact (Below.refl _ _).alloc (Nat.le_refl _) _
  have P0 : Hid (Blk wa w.heap.size 31 (opC o (.slice Av nv cv))) := by rw [hwa]; exact Blk.new _ _ _
  have HZA : Hid (wa.heap.size = w.heap.size + 1) := by show _ = _; rw [hwa]; simp
  have HCO := Lib.hid (copied_any l A n c wa B (Nat.le_trans hB HBA.out.size) (h.below (HBA.out.mono hB)) hn0 (by omega))
  have HRI : Hid (Rise l ∧ IdsIn l) := ⟨G.kids.rise, G.kids.ids⟩
  have HLN : Hid (n = l.length) := h.len.1
  have HV := Lib.hid hv
  have HOI := Lib.hid hoi
  have HWA := Lib.hid hwa
  obtain ⟨ip, hip⟩ : ∃ ip, ip = posOf l o.id := ⟨_, rfl⟩
  obtain ⟨pp, hpp⟩ : ∃ pp, pp = posOf l o.parent := ⟨_, rfl⟩
  have HIP := Lib.hid hip
  have HPP := Lib.hid hpp
  have HK := Lib.hid hk
  obtain ⟨ok, oi, op, oa, of, ot, ox, on, ⟨vk, vi, vt, vs, vl⟩⟩ := o
  have hk : ok = 2 := HK.out
  subst hk
  dsimp only [AO, opC, Vl.kind, Vl.int_, Vl.to_, Vl.text, Vl.items] at P0 HWA HV HIP HPP ⊢
  clear hx hy hxi hyi hpx hpy G h hv hoi he hwa hip hpp hn0 HK
  go_enter Tryz.func22, Tryz.ntmps22
  go_upto_region 1 with fail
  rw [← HWA.out]
  go_wp2_with fail
  refine HCO.out.mono ?_
  rintro e w1 ⟨g1, cap1, n1, M1, rfl, hml1, hm1, hg1, hr1, hb1⟩
  have HB1 : Hid (Below w.heap.size w w1) := HBA.out.trans (hb1.mono HBA.out.size)
  have HG1 : Hid (w.heap.size < g1) := by show _ < _; have := HZA.out; omega
  have P1 := Lib.hid (P0.out.below hb1 P0.out.lt)
  have HML := Lib.hid hml1
  have HMM := Lib.hid hm1
  have HR1 := Lib.hid hr1
  have HAT : Hid (∀ id W, Below w1.heap.size w1 W → Calls Tryz.prog 71 #[.slice (some ⟨g1, 0, none⟩) n1 cap1, .int .i64 id] W fun e w' => e = .returned (.int .i64 (posOf l id)) ∧ Below w1.heap.size w1 w') := fun id W hW => by
    have := at_any (M1.map Prod.fst) (some ⟨g1, 0, none⟩) M1.length cap1 id W W.heap.size (Nat.le_refl _) ((HR1.out.below hW).rb)
    rw [HML.out, HMM.out] at this
    exact this.mono fun e w' h => ⟨h.1, hW.trans (h.2.mono hW.size)⟩
  have KS : Hid (∀ W, Below w1.heap.size w1 W → ∀ i, W.cell? ⟨w.heap.size, i, none⟩ = (#[.int .i64 2, .int .i64 oi, .int .i64 op, .int .i64 oa, .int .i64 of, .int .i64 ot, .string ox, .string on, .int .i64 vk, .int .i64 vi, .int .i64 vt, .string vs, .slice Av nv cv] : Array Value)[i]?) := fun W hW => fun i => (P1.out.below hW P1.out.lt).cell i
  have HAI := Lib.hid (HAT.out oi)
  have HAP := Lib.hid (HAT.out op)
  rw [← HIP.out] at HAI
  rw [← HPP.out] at HAP
  have e0 := KS.out w1 (Below.refl _ _)
  clear hml1 hm1 hg1 hr1 hb1
  go_upto_region 2 with fail
  go_cut [6, 7] (fun s6 s7 wd => s6 = .int .i64 ip ∧ s7 = .int .i64 pp ∧ Hid (Below w1.heap.size w1 wd))
  case first =>
    go_region_with (first
      | (go_at_call 71; (with_reducible refine Calls.mono (HAI.out _ ?hb) ?_); (case hb => first | exact HB9.out | with_reducible exact (Below.refl _ _).drew | with_reducible exact Below.refl _ _ | exact (Below.refl _ _).drew); rintro e w9 ⟨rfl, hb9⟩; have HB9 := Lib.hid hb9; have r0 := KS.out w9 hb9; clear hb9)
      | (go_at_call 71; (with_reducible refine Calls.mono (HAP.out _ ?hb) ?_); (case hb => first | exact HB9.out | with_reducible exact (Below.refl _ _).drew | with_reducible exact Below.refl _ _ | exact (Below.refl _ _).drew); rintro e w9 ⟨rfl, hb9⟩; have HB9 := Lib.hid hb9; have r0 := KS.out w9 hb9; clear hb9))
    all_goals
      go_wp2_with fail
      go_meet
      exact ⟨rfl, rfl, HB9⟩
  case rest =>
  obtain ⟨rfl, rfl, hbd⟩ := hcut
  obtain ⟨w2, rfl⟩ : ∃ w2, w2 = wc := ⟨_, rfl⟩
  have HB2 : Hid (Below w.heap.size w w2) := HB1.out.trans (hbd.out.mono HB1.out.size)
  have HR2 := Lib.hid (HR1.out.below hbd.out)
  have HKS := Lib.hid fun W (hW : Below w2.heap.size w2 W) => KS.out W (hbd.out.trans (hW.mono hbd.out.size))
  have HHAT : Hid (∀ id W, Below w2.heap.size w2 W → Calls Tryz.prog 71 #[.slice (some ⟨g1, 0, none⟩) n1 cap1, .int .i64 id] W fun e w' => e = .returned (.int .i64 (posOf l id)) ∧ Below w2.heap.size w2 w') := fun id W hW => by
    have := at_any (M1.map Prod.fst) (some ⟨g1, 0, none⟩) M1.length cap1 id W W.heap.size (Nat.le_refl _) ((HR2.out.below hW).rb)
    rw [HML.out, HMM.out] at this
    exact this.mono fun e w' h => ⟨h.1, hW.trans (h.2.mono hW.size)⟩
  have hzz := HB2.out.size
  have hg2 := HR2.out.lt
  have hg1 := HG1.out
  have HRR : Hid (Rise (M1.map Prod.fst)) := by show Rise _; rw [HMM.out]; exact HRI.out.1
  clear e0
  have e0 := HKS.out w2 (Below.refl _ _)
  have hipp : ip = (p : Int) := HIP.out.trans HPX.out
  subst hipp
  obtain ⟨xk, hxk, hxe⟩ := row_at HMM.out HX.out
  subst hxe
  obtain ⟨yk, hyk, hye⟩ := row_at HMM.out HY.out
  subst hye
  obtain ⟨⟨xid, xpar, xks, xtx, xps⟩, xkv, xpv⟩ := xk
  have hpl : p < n1 := by have := (List.getElem?_eq_some_iff.1 hxk).1; have := HML.out; omega
  have hql : q < n1 := by have := (List.getElem?_eq_some_iff.1 hyk).1; have := HML.out; omega
  have HXK := Lib.hid hxk
  have HYK := Lib.hid hyk
  have hxi : xid = oi := HXI.out
  have HQ := Lib.hid (HHAT.out xpar)
  rw [HPY.out] at HQ
  have i0 : (0 : Int) ≤ (p : Int) := by omega
  have i1 : (p : Int) < (n1 : Int) := by omega
  have i2 : (0 : Int) ≤ (q : Int) := by omega
  have i3 : (q : Int) < (n1 : Int) := by omega
  have x1 : w2.cell? ⟨g1, p * 5 + 1, none⟩ = some (.int .i64 xpar) := HR2.out.cell HXK.out rfl
  have HKF : Hid (yk.1.kids.length ≤ 500) := HKFF.out
  obtain ⟨⟨yid, ypar, yks, ytx, yps⟩, ykv, ypv⟩ := yk
  have hnby := HR2.out.nest _ (List.mem_of_getElem? HYK.out)
  have hky : RInX w2 _ ykv yks := hnby.1
  obtain ⟨Ak, nk, ck, rfl⟩ := (hky.reads (B := w2.heap.size) fun b hb => hb.1).slice
  have HKY := Lib.hid hky
  have HNK : Hid (nk = yks.length) := ((hky.reads (B := w2.heap.size) fun b hb => hb.1).len).1
  have HYID : Hid (yid = xpar) := HYI.out
  clear hxk hyk hxi hnby hky
  go_upto_region 13 with fail
  go_wp2_with fail
  refine (HQ.out w2 (Below.refl _ _)).mono ?_
  rintro e w3 ⟨rfl, hb3⟩
  have HW23 := Lib.hid hb3
  clear e0 hb3
  have e0 := HKS.out w3 HW23.out
  go_upto_region 14 with fail
  have HWO : Hid (∀ W, Below w3.heap.size w3 W → Calls Tryz.prog 76 #[.slice Ak nk ck, .int .i64 oi] W fun e w' => ∃ A n c, e = .returned (.slice A n c) ∧ RInX w' (fun b => w3.heap.size ≤ b ∧ b < w'.heap.size) (.slice A n c) (lessK yks oi) ∧ Below w3.heap.size w3 w') := fun W hW => by
    refine (without_any yks Ak nk ck oi W W.heap.size (Nat.le_refl _) (((HKY.out.keep fun p hp => HW23.out.cell hp.1).reads (B := w2.heap.size) fun b hb => hb.1).below (hW.mono HW23.out.size) |>.more (Nat.le_trans HW23.out.size hW.size)) (by have := HNK.out; have h5 : yks.length ≤ 500 := HKF.out; omega)).mono ?_
    rintro e w' ⟨⟨A, n, c, rfl, _, h1, _⟩, h2⟩
    exact ⟨A, n, c, rfl, h1.weak fun b hb => ⟨Nat.le_trans hW.size hb.1, hb.2⟩, hW.trans (h2.mono hW.size)⟩
  have HRW : Hid (∀ W, Below w3.heap.size w3 W → W.cell? ⟨g1, q * 5 + 2, none⟩ = some (.slice Ak nk ck) ∧ W.frozen? ⟨g1, q * 5 + 2, none⟩ = false ∧ ∀ i, W.cell? ⟨w.heap.size, i, none⟩ = (#[.int .i64 2, .int .i64 oi, .int .i64 op, .int .i64 oa, .int .i64 of, .int .i64 ot, .string ox, .string on, .int .i64 vk, .int .i64 vi, .int .i64 vt, .string vs, .slice Av nv cv] : Array Value)[i]?) := fun W hW =>
    have hr := HR2.out.below (HW23.out.trans (hW.mono HW23.out.size))
    ⟨hr.cell HYK.out rfl, hr.frozen _, HKS.out W (HW23.out.trans (hW.mono HW23.out.size))⟩
  have HFIN : Hid (∀ W A n c, Below w3.heap.size w3 W → RInX W (fun b => w3.heap.size ≤ b ∧ b < W.heap.size) (.slice A n c) (lessK yks oi) → RowB (W.setCell ⟨g1, q * 5 + 2, none⟩ (.slice A n c)) g1 cap1 (M1.set q (⟨yid, ypar, lessK yks oi, ytx, yps⟩, .slice A n c, ypv)) ∧ Below w.heap.size w (W.setCell ⟨g1, q * 5 + 2, none⟩ (.slice A n c)) ∧ Blk (W.setCell ⟨g1, q * 5 + 2, none⟩ (.slice A n c)) w.heap.size 31 #[.int .i64 2, .int .i64 oi, .int .i64 op, .int .i64 oa, .int .i64 of, .int .i64 ot, .string ox, .string on, .int .i64 vk, .int .i64 vi, .int .i64 vt, .string vs, .slice Av nv cv]) := fun W A n c hW hp => by
    have hb := HW23.out.trans (hW.mono HW23.out.size)
    have hr := HR2.out.below hb
    have hnb := hr.nest _ (List.mem_of_getElem? HYK.out)
    have hlt := HR2.out.lt
    have hsz := HW23.out.size
    refine ⟨hr.store HYK.out (j := 2) (u := .slice A n c) (y := (⟨yid, ypar, lessK yks oi, ytx, yps⟩, .slice A n c, ypv)) (by omega) rfl ⟨hp.weak fun b hb => ⟨hb.2, by omega⟩, hnb.2⟩, (HB2.out.trans (hb.mono HB2.out.size)).setCell (p := ⟨g1, q * 5 + 2, none⟩) (by show w.heap.size ≤ g1; omega) _, ?_⟩
    exact ((P1.out.below hbd.out P1.out.lt).below hb (Nat.lt_of_lt_of_le (P1.out.below hbd.out P1.out.lt).lt (Nat.le_refl _))).far (p := ⟨g1, q * 5 + 2, none⟩) (by show w.heap.size ≠ g1; omega) _
  obtain ⟨q0, q1, q2⟩ := HRW.out w3 (Below.refl _ _)
  go_cut [9] (fun s9 wd => s9 = .int .i64 (q : Int) ∧ ∃ kv, Hid (RowB wd g1 cap1 (M1.set q (⟨yid, ypar, lessK yks oi, ytx, yps⟩, kv, ypv))) ∧ Hid (Below w.heap.size w wd) ∧ Hid (Blk wd w.heap.size 31 #[.int .i64 2, .int .i64 oi, .int .i64 op, .int .i64 oa, .int .i64 of, .int .i64 ot, .string ox, .string on, .int .i64 vk, .int .i64 vi, .int .i64 vt, .string vs, .slice Av nv cv]))
  case first =>
    go_region_with (go_at_call 76; refine (HWO.out _ (by first | with_reducible exact (Below.refl _ _).drew | with_reducible exact Below.refl _ _ | exact (Below.refl _ _).drew)).mono ?_; rintro e w9 ⟨A8, n8, c8, rfl, hp9, hb9⟩; have HB9 := Lib.hid hb9; have HP9 := Lib.hid hp9; obtain ⟨r0, r1, r2⟩ := HRW.out w9 hb9; clear hb9 hp9)
    all_goals
      obtain ⟨hf9, hf10, hf11⟩ := HFIN.out _ A8 n8 c8 HB9.out HP9.out
      have HF9 := Lib.hid hf9
      have HF10 := Lib.hid hf10
      have HF11 := Lib.hid hf11
      clear q0 q1 q2 r0 r1 r2 e0 hf9 hf10 hf11
      go_wp2_with fail
      go_meet
      exact ⟨rfl, _, HF9, HF10, HF11⟩
  case rest =>
  obtain ⟨rfl, kv4, hr4, hb4, hp4⟩ := hcut
  obtain ⟨w4, rfl⟩ : ∃ w4, w4 = wc := ⟨_, rfl⟩
  clear q0 q1 q2 x1 e0
  have hrr : Rise (M1.map Prod.fst) := HRR.out
  have hm4 := map_upd hrr HYK.out (fun b => b.withKids (lessK b.kids oi)) kv4 ypv
  dsimp only [Bl.withKids] at hm4
  rw [HMM.out, HYID.out] at hm4
  obtain ⟨M4, hM4⟩ : ∃ M4, M4 = M1.set q (⟨yid, ypar, lessK yks oi, ytx, yps⟩, kv4, ypv) := ⟨_, rfl⟩
  have hl4 : M4.length = n1 := by rw [hM4, List.length_set]; exact HML.out
  have hm4 : M4.map Prod.fst = upd l xpar fun b => b.withKids (lessK b.kids oi) := by rw [hM4]; refine Eq.trans ?_ hm4; rw [HYID.out]
  rw [← hM4] at hr4
  obtain ⟨R, hrow, hrun⟩ := (hr4.out.below (Below.refl _ _).drew).rem (i := p) (by omega)
  rw [hl4] at hrun
  have HROW := Lib.hid hrow
  have hr3 : Rise (M4.map Prod.fst) := by rw [hm4]; exact HRI.out.1.upd fun b => rfl
  obtain ⟨x3, hx3, hx3i⟩ : ∃ x3, (M4.map Prod.fst)[p]? = some x3 ∧ x3.id = oi := by
    rw [hm4]
    refine ⟨_, upd_at HX.out, ?_⟩
    split <;> exact HXI.out
  have HM5 : Hid ((M4.take p ++ M4.drop (p + 1)).map Prod.fst = applied l ⟨2, oi, op, oa, of, ot, ox, on, ⟨vk, vi, vt, vs, vl⟩⟩) := by
    show _ = _
    rw [List.map_append, List.map_take, List.map_drop, ← filter_out hr3 hx3, hx3i, hm4, HAPP.out]
  have HL5 : Hid ((M4.take p ++ M4.drop (p + 1)).length = n1 - 1) := by
    show _ = _
    rw [List.length_append, List.length_take, List.length_drop]; omega
  have HFN : Hid (RB (w4.drew.setRow g1 R) (w4.drew.setRow g1 R).heap.size (.slice (some ⟨g1, 0, none⟩) (n1 - 1) cap1) (applied l ⟨2, oi, op, oa, of, ot, ox, on, ⟨vk, vi, vt, vs, vl⟩⟩) ∧ Below w.heap.size w (w4.drew.setRow g1 R)) := by
    have h := HROW.out.rb
    rw [HM5.out, HL5.out] at h
    refine ⟨h, (hb4.out.drew).trans ⟨rfl, rfl, rfl, by rw [setRow_size]; exact Nat.le_refl _, fun k hk => setRow_other _ _ _ _ (by omega)⟩⟩
  have hcl4 := hr4.out.len
  have HCAP : Hid (n1 ≤ cap1 ∧ cap1 ≤ maxLen) := ⟨by omega, hr4.out.room⟩
  have z1 : (p : Int) ≤ (n1 : Int) := by omega
  have z2 : (p : Int) ≤ (cap1 : Int) := by omega
  have z3 : (p : Int) + 1 ≤ (n1 : Int) := by omega
  have z4 : (n1 : Int) ≤ (cap1 : Int) := by omega
  have z5 : (p : Int) + 1 ≤ (cap1 : Int) := by omega
  clear hm4 hM4 hl4 hrow hr3 hx3 hx3i hrr hcl4
  have hn1x : n1 ≤ 2000 := by
    have h1 := HML.out
    have h2 := congrArg List.length HMM.out
    rw [List.length_map] at h2
    have := HLN.out
    omega
  have ww1 : IntKind.i64.wrap ((p : Int) + 1) = (p : Int) + 1 := IntWalk.i64_in _ (by omega)
  have ww2 : (0 : Int) ≤ (p : Int) + 1 := by omega
  have ww3 : ((p : Int) + 1).toNat = p + 1 := by omega
  by_cases hc : cap1 = p + 1
  · have HAPN : ∀ ty c0, (Builtin.append_ #[22, 22] ty #[.slice (some ⟨g1, 0, none⟩) p cap1, .slice (some ⟨g1, 0, none⟩) (n1 - (p + 1)) c0]).run Tryz.prog w4.drew = .ok (.slice (some ⟨g1, 0, none⟩) (n1 - 1) cap1) (w4.drew.setRow g1 R) := fun ty c0 => hrun ty c0 _ (by have := HCAP.out; omega)
    have e9 : n1 - (p + 1) = 0 := by have := HCAP.out; omega
    simp only [e9] at HAPN
    subst hc
    clear hrun e9 z2 z4 z5
    have z11 : (p : Int) ≤ (p : Int) + 1 := by omega
    have z12 : (n1 : Int) ≤ (p : Int) + 1 := by have := HCAP.out.1; omega
    have z13 : n1 - (p + 1) = 0 := by have := HCAP.out; omega
    go_upto_region 15 with fail
    go_region_law (refine step_append_runI rfl _ _ 22 22 rfl (.slice (some ⟨g1, 0, none⟩) p (p + 1)) (.slice (some ⟨g1, 0, none⟩) 0 0) (by simp [Act.eval, Act.put]) (by simp [Act.eval, Act.put]) (HAPN _ _) ?_)
    all_goals
      go_wp2_with fail
      go_ret
      exact ⟨some ⟨g1, 0, none⟩, n1 - 1, p + 1, rfl, HFN.out.1, HFN.out.2⟩
  · have HAPN : ∀ ty c0, (Builtin.append_ #[22, 22] ty #[.slice (some ⟨g1, 0, none⟩) p cap1, .slice (some ⟨g1, (p + 1) * 5, none⟩) (n1 - (p + 1)) c0]).run Tryz.prog w4.drew = .ok (.slice (some ⟨g1, 0, none⟩) (n1 - 1) cap1) (w4.drew.setRow g1 R) := fun ty c0 => hrun ty c0 _ (fun _ => rfl)
    clear hrun
    go_upto_region 15 with fail
    go_region_law (refine step_append_runI rfl _ _ 22 22 rfl (.slice (some ⟨g1, 0, none⟩) p cap1) (.slice (some ⟨g1, (p + 1) * 5, none⟩) (n1 - (p + 1)) (cap1 - (p + 1))) (by simp [Act.eval, Act.put]) (by simp [Act.eval, Act.put]) (HAPN _ _) ?_)
    all_goals
      go_wp2_with fail
      go_ret
      exact ⟨some ⟨g1, 0, none⟩, n1 - 1, cap1, rfl, HFN.out.1, HFN.out.2⟩
end Go.Proofs.YtmkicfjcgbfaaaaGreat
