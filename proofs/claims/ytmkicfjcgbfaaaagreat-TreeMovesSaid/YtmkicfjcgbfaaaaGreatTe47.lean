/-
  DERIVED. The walk of the reference's Applied, kind 2. Conditions: sizes; an operation without error.
  The reference's Applied, whatever the operation's kind. Conditions: sizes; an operation without error.
  Operations tried, on both sides: the walks of tree.tried, the reference's AllOf and tried. Conditions: sizes.
  The walk of tree.Split. Conditions: sizes.
  By an AI agent.
-/
import Derived.Test.YtmkicfjcgbfaaaaGreatTe36
import Derived.Test.YtmkicfjcgbfaaaaGreatTe39
import Derived.Test.YtmkicfjcgbfaaaaGreatTe40
import Derived.Test.YtmkicfjcgbfaaaaGreatTe44
import Derived.Test.YtmkicfjcgbfaaaaGreatTe41
import Derived.Test.YtmkicfjcgbfaaaaGreatTe34
import Derived.Test.YtmkicfjcgbfaaaaGreatTe42
import Derived.Test.YtmkicfjcgbfaaaaGreatTe43
import Derived.Test.YtmkicfjcgbfaaaaGreatTe31
namespace Go.Proofs.YtmkicfjcgbfaaaaGreat
open Go.RowKit

set_option maxRecDepth 100000 in
set_option maxHeartbeats 8000000 in
/-- the reference's Applied, kind 2 -/
theorem appliedR2 (l : List Bl) (f : Int → Option Int) (G : Good l f) (A : Option Addr) (n c : Nat) (o : Opn) (hk : o.kind = 2) (Av : Option Addr) (nv cv : Nat) (w : World) (B : Nat) (hB : B ≤ w.heap.size) (h : RB w B (.slice A n c) l) (hv : RV w B (.slice Av nv cv) o.val.items) (hoi : OI o) (he : opErr l f o = 0) :
    Calls Tryz.prog 22 #[.slice A n c, AO (o, .slice Av nv cv)] w (ApplR (applied l o) w) := by
  obtain ⟨p, x, hx, hxi, h0, q, y, hy, hyi⟩ : ∃ (p : Nat) (x : Bl), l[p]? = some x ∧ x.id = o.id ∧ x.id ≠ 0 ∧ ∃ (q : Nat) (y : Bl), l[q]? = some y ∧ y.id = x.parent := by
    cases G.op_facts he with
    | ins h => omega
    | rem h p x hx hxi h0 hks q y hy hyi hin => exact ⟨p, x, hx, hxi, h0, q, y, hy, hyi⟩
    | mov h => omega
    | edit h => omega
    | set h => omega
  have hpx : posOf l o.id = (p : Int) := by rw [← hxi]; exact posOf_of G.kids.rise hx
  have hpy : posOf l x.parent = (q : Int) := by rw [← hyi]; exact posOf_of G.kids.rise hy
  have HX := Lib.hid hx
  have HY := Lib.hid hy
  have HXI := Lib.hid hxi
  have HYI := Lib.hid hyi
  have HPX := Lib.hid hpx
  have HPY := Lib.hid hpy
  have HKFF := Lib.hid (G.kids.few y (List.mem_of_getElem? hy))
  have HAPP := Lib.hid (applied_rem (l := l) G.kids hk (List.mem_of_getElem? hx) hxi)
  have hn0 : 0 < n := by
    obtain ⟨r, hr, _⟩ := G.kids.root
    have := (List.getElem?_eq_some_iff.1 hr).1
    have := h.len.1
    omega
  have hn1 : n ≤ 2000 := by have := G.kids.short; have := h.len.1; omega
  obtain ⟨wa, hwa⟩ : ∃ wa, wa = w.alloc (.cells (opC o (.slice Av nv cv)) 31) := ⟨_, rfl⟩
  have HBA : Hid (Below w.heap.size w wa) := by rw [hwa]; exact (Below.refl _ _).alloc (Nat.le_refl _) _
  have P0 : Hid (Blk wa w.heap.size 31 (opC o (.slice Av nv cv))) := by rw [hwa]; exact Blk.new _ _ _
  have HZA : Hid (wa.heap.size = w.heap.size + 1) := by show _ = _; rw [hwa]; simp
  have HCO := Lib.hid (copied_any l A n c wa B (Nat.le_trans hB HBA.out.size) (h.below (HBA.out.mono hB)) hn0 (by omega))
  have HRI : Hid (Rise l ∧ IdsIn l) := ⟨G.kids.rise, G.kids.ids⟩
  have HLN : Hid (n = l.length) := h.len.1
  have HV := Lib.hid hv
  have HOI := Lib.hid hoi
  have HWA := Lib.hid hwa
  obtain ⟨ip, hip⟩ : ∃ ip, ip = posOf l o.id := ⟨_, rfl⟩
  obtain ⟨pp, hpp⟩ : ∃ pp, pp = posOf l o.parent := ⟨_, rfl⟩
  have HIP := Lib.hid hip
  have HPP := Lib.hid hpp
  have HK := Lib.hid hk
  obtain ⟨ok, oi, op, oa, of, ot, ox, on, ⟨vk, vi, vt, vs, vl⟩⟩ := o
  have hk : ok = 2 := HK.out
  subst hk
  dsimp only [AO, opC, Vl.kind, Vl.int_, Vl.to_, Vl.text, Vl.items] at P0 HWA HV HIP HPP ⊢
  clear hx hy hxi hyi hpx hpy G h hv hoi he hwa hip hpp hn0 HK
  go_enter Tryz.func22, Tryz.ntmps22
  go_upto_region 1 with fail
  rw [← HWA.out]
  go_wp2_with fail
  refine HCO.out.mono ?_
  rintro e w1 ⟨g1, cap1, n1, M1, rfl, hml1, hm1, hg1, hr1, hb1⟩
  have HB1 : Hid (Below w.heap.size w w1) := HBA.out.trans (hb1.mono HBA.out.size)
  have HG1 : Hid (w.heap.size < g1) := by show _ < _; have := HZA.out; omega
  have P1 := Lib.hid (P0.out.below hb1 P0.out.lt)
  have HML := Lib.hid hml1
  have HMM := Lib.hid hm1
  have HR1 := Lib.hid hr1
  have HAT : Hid (∀ id W, Below w1.heap.size w1 W → Calls Tryz.prog 71 #[.slice (some ⟨g1, 0, none⟩) n1 cap1, .int .i64 id] W fun e w' => e = .returned (.int .i64 (posOf l id)) ∧ Below w1.heap.size w1 w') := fun id W hW => by
    have := at_any (M1.map Prod.fst) (some ⟨g1, 0, none⟩) M1.length cap1 id W W.heap.size (Nat.le_refl _) ((HR1.out.below hW).rb)
    rw [HML.out, HMM.out] at this
    exact this.mono fun e w' h => ⟨h.1, hW.trans (h.2.mono hW.size)⟩
  have KS : Hid (∀ W, Below w1.heap.size w1 W → ∀ i, W.cell? ⟨w.heap.size, i, none⟩ = (#[.int .i64 2, .int .i64 oi, .int .i64 op, .int .i64 oa, .int .i64 of, .int .i64 ot, .string ox, .string on, .int .i64 vk, .int .i64 vi, .int .i64 vt, .string vs, .slice Av nv cv] : Array Value)[i]?) := fun W hW => fun i => (P1.out.below hW P1.out.lt).cell i
  have HAI := Lib.hid (HAT.out oi)
  have HAP := Lib.hid (HAT.out op)
  rw [← HIP.out] at HAI
  rw [← HPP.out] at HAP
  have e0 := KS.out w1 (Below.refl _ _)
  clear hml1 hm1 hg1 hr1 hb1
  go_upto_region 2 with fail
  go_cut [6, 7] (fun s6 s7 wd => s6 = .int .i64 ip ∧ s7 = .int .i64 pp ∧ Hid (Below w1.heap.size w1 wd))
  case first =>
    go_region_with (first
      | (go_at_call 71; (with_reducible refine Calls.mono (HAI.out _ ?hb) ?_); (case hb => first | exact HB9.out | with_reducible exact (Below.refl _ _).drew | with_reducible exact Below.refl _ _ | exact (Below.refl _ _).drew); rintro e w9 ⟨rfl, hb9⟩; have HB9 := Lib.hid hb9; have r0 := KS.out w9 hb9; clear hb9)
      | (go_at_call 71; (with_reducible refine Calls.mono (HAP.out _ ?hb) ?_); (case hb => first | exact HB9.out | with_reducible exact (Below.refl _ _).drew | with_reducible exact Below.refl _ _ | exact (Below.refl _ _).drew); rintro e w9 ⟨rfl, hb9⟩; have HB9 := Lib.hid hb9; have r0 := KS.out w9 hb9; clear hb9))
    all_goals
      go_wp2_with fail
      go_meet
      exact ⟨rfl, rfl, HB9⟩
  case rest =>
  obtain ⟨rfl, rfl, hbd⟩ := hcut
  obtain ⟨w2, rfl⟩ : ∃ w2, w2 = wc := ⟨_, rfl⟩
  have HB2 : Hid (Below w.heap.size w w2) := HB1.out.trans (hbd.out.mono HB1.out.size)
  have HR2 := Lib.hid (HR1.out.below hbd.out)
  have HKS := Lib.hid fun W (hW : Below w2.heap.size w2 W) => KS.out W (hbd.out.trans (hW.mono hbd.out.size))
  have HHAT : Hid (∀ id W, Below w2.heap.size w2 W → Calls Tryz.prog 71 #[.slice (some ⟨g1, 0, none⟩) n1 cap1, .int .i64 id] W fun e w' => e = .returned (.int .i64 (posOf l id)) ∧ Below w2.heap.size w2 w') := fun id W hW => by
    have := at_any (M1.map Prod.fst) (some ⟨g1, 0, none⟩) M1.length cap1 id W W.heap.size (Nat.le_refl _) ((HR2.out.below hW).rb)
    rw [HML.out, HMM.out] at this
    exact this.mono fun e w' h => ⟨h.1, hW.trans (h.2.mono hW.size)⟩
  have hzz := HB2.out.size
  have hg2 := HR2.out.lt
  have hg1 := HG1.out
  have HRR : Hid (Rise (M1.map Prod.fst)) := by show Rise _; rw [HMM.out]; exact HRI.out.1
  clear e0
  have e0 := HKS.out w2 (Below.refl _ _)
  have hipp : ip = (p : Int) := HIP.out.trans HPX.out
  subst hipp
  obtain ⟨xk, hxk, hxe⟩ := row_at HMM.out HX.out
  subst hxe
  obtain ⟨yk, hyk, hye⟩ := row_at HMM.out HY.out
  subst hye
  obtain ⟨⟨xid, xpar, xks, xtx, xps⟩, xkv, xpv⟩ := xk
  have hpl : p < n1 := by have := (List.getElem?_eq_some_iff.1 hxk).1; have := HML.out; omega
  have hql : q < n1 := by have := (List.getElem?_eq_some_iff.1 hyk).1; have := HML.out; omega
  have HXK := Lib.hid hxk
  have HYK := Lib.hid hyk
  have hxi : xid = oi := HXI.out
  have HQ := Lib.hid (HHAT.out xpar)
  rw [HPY.out] at HQ
  have i0 : (0 : Int) ≤ (p : Int) := by omega
  have i1 : (p : Int) < (n1 : Int) := by omega
  have i2 : (0 : Int) ≤ (q : Int) := by omega
  have i3 : (q : Int) < (n1 : Int) := by omega
  have x1 : w2.cell? ⟨g1, p * 5 + 1, none⟩ = some (.int .i64 xpar) := HR2.out.cell HXK.out rfl
  have HKF : Hid (yk.1.kids.length ≤ 500) := HKFF.out
  obtain ⟨⟨yid, ypar, yks, ytx, yps⟩, ykv, ypv⟩ := yk
  have hnby := HR2.out.nest _ (List.mem_of_getElem? HYK.out)
  have hky : RInX w2 _ ykv yks := hnby.1
  obtain ⟨Ak, nk, ck, rfl⟩ := (hky.reads (B := w2.heap.size) fun b hb => hb.1).slice
  have HKY := Lib.hid hky
  have HNK : Hid (nk = yks.length) := ((hky.reads (B := w2.heap.size) fun b hb => hb.1).len).1
  have HYID : Hid (yid = xpar) := HYI.out
  clear hxk hyk hxi hnby hky
  go_upto_region 13 with fail
  go_wp2_with fail
  refine (HQ.out w2 (Below.refl _ _)).mono ?_
  rintro e w3 ⟨rfl, hb3⟩
  have HW23 := Lib.hid hb3
  clear e0 hb3
  have e0 := HKS.out w3 HW23.out
  go_upto_region 14 with fail
  have HWO : Hid (∀ W, Below w3.heap.size w3 W → Calls Tryz.prog 76 #[.slice Ak nk ck, .int .i64 oi] W fun e w' => ∃ A n c, e = .returned (.slice A n c) ∧ RInX w' (fun b => w3.heap.size ≤ b ∧ b < w'.heap.size) (.slice A n c) (lessK yks oi) ∧ Below w3.heap.size w3 w') := fun W hW => by
    refine (without_any yks Ak nk ck oi W W.heap.size (Nat.le_refl _) (((HKY.out.keep fun p hp => HW23.out.cell hp.1).reads (B := w2.heap.size) fun b hb => hb.1).below (hW.mono HW23.out.size) |>.more (Nat.le_trans HW23.out.size hW.size)) (by have := HNK.out; have h5 : yks.length ≤ 500 := HKF.out; omega)).mono ?_
    rintro e w' ⟨⟨A, n, c, rfl, _, h1, _⟩, h2⟩
    exact ⟨A, n, c, rfl, h1.weak fun b hb => ⟨Nat.le_trans hW.size hb.1, hb.2⟩, hW.trans (h2.mono hW.size)⟩
  have HRW : Hid (∀ W, Below w3.heap.size w3 W → W.cell? ⟨g1, q * 5 + 2, none⟩ = some (.slice Ak nk ck) ∧ W.frozen? ⟨g1, q * 5 + 2, none⟩ = false ∧ ∀ i, W.cell? ⟨w.heap.size, i, none⟩ = (#[.int .i64 2, .int .i64 oi, .int .i64 op, .int .i64 oa, .int .i64 of, .int .i64 ot, .string ox, .string on, .int .i64 vk, .int .i64 vi, .int .i64 vt, .string vs, .slice Av nv cv] : Array Value)[i]?) := fun W hW =>
    have hr := HR2.out.below (HW23.out.trans (hW.mono HW23.out.size))
    ⟨hr.cell HYK.out rfl, hr.frozen _, HKS.out W (HW23.out.trans (hW.mono HW23.out.size))⟩
  have HFIN : Hid (∀ W A n c, Below w3.heap.size w3 W → RInX W (fun b => w3.heap.size ≤ b ∧ b < W.heap.size) (.slice A n c) (lessK yks oi) → RowB (W.setCell ⟨g1, q * 5 + 2, none⟩ (.slice A n c)) g1 cap1 (M1.set q (⟨yid, ypar, lessK yks oi, ytx, yps⟩, .slice A n c, ypv)) ∧ Below w.heap.size w (W.setCell ⟨g1, q * 5 + 2, none⟩ (.slice A n c)) ∧ Blk (W.setCell ⟨g1, q * 5 + 2, none⟩ (.slice A n c)) w.heap.size 31 #[.int .i64 2, .int .i64 oi, .int .i64 op, .int .i64 oa, .int .i64 of, .int .i64 ot, .string ox, .string on, .int .i64 vk, .int .i64 vi, .int .i64 vt, .string vs, .slice Av nv cv]) := fun W A n c hW hp => by
    have hb := HW23.out.trans (hW.mono HW23.out.size)
    have hr := HR2.out.below hb
    have hnb := hr.nest _ (List.mem_of_getElem? HYK.out)
    have hlt := HR2.out.lt
    have hsz := HW23.out.size
    refine ⟨hr.store HYK.out (j := 2) (u := .slice A n c) (y := (⟨yid, ypar, lessK yks oi, ytx, yps⟩, .slice A n c, ypv)) (by omega) rfl ⟨hp.weak fun b hb => ⟨hb.2, by omega⟩, hnb.2⟩, (HB2.out.trans (hb.mono HB2.out.size)).setCell (p := ⟨g1, q * 5 + 2, none⟩) (by show w.heap.size ≤ g1; omega) _, ?_⟩
    exact ((P1.out.below hbd.out P1.out.lt).below hb (Nat.lt_of_lt_of_le (P1.out.below hbd.out P1.out.lt).lt (Nat.le_refl _))).far (p := ⟨g1, q * 5 + 2, none⟩) (by show w.heap.size ≠ g1; omega) _
  obtain ⟨q0, q1, q2⟩ := HRW.out w3 (Below.refl _ _)
  go_cut [9] (fun s9 wd => s9 = .int .i64 (q : Int) ∧ ∃ kv, Hid (RowB wd g1 cap1 (M1.set q (⟨yid, ypar, lessK yks oi, ytx, yps⟩, kv, ypv))) ∧ Hid (Below w.heap.size w wd) ∧ Hid (Blk wd w.heap.size 31 #[.int .i64 2, .int .i64 oi, .int .i64 op, .int .i64 oa, .int .i64 of, .int .i64 ot, .string ox, .string on, .int .i64 vk, .int .i64 vi, .int .i64 vt, .string vs, .slice Av nv cv]))
  case first =>
    go_region_with (go_at_call 76; refine (HWO.out _ (by first | with_reducible exact (Below.refl _ _).drew | with_reducible exact Below.refl _ _ | exact (Below.refl _ _).drew)).mono ?_; rintro e w9 ⟨A8, n8, c8, rfl, hp9, hb9⟩; have HB9 := Lib.hid hb9; have HP9 := Lib.hid hp9; obtain ⟨r0, r1, r2⟩ := HRW.out w9 hb9; clear hb9 hp9)
    all_goals
      obtain ⟨hf9, hf10, hf11⟩ := HFIN.out _ A8 n8 c8 HB9.out HP9.out
      have HF9 := Lib.hid hf9
      have HF10 := Lib.hid hf10
      have HF11 := Lib.hid hf11
      clear q0 q1 q2 r0 r1 r2 e0 hf9 hf10 hf11
      go_wp2_with fail
      go_meet
      exact ⟨rfl, _, HF9, HF10, HF11⟩
  case rest =>
  obtain ⟨rfl, kv4, hr4, hb4, hp4⟩ := hcut
  obtain ⟨w4, rfl⟩ : ∃ w4, w4 = wc := ⟨_, rfl⟩
  clear q0 q1 q2 x1 e0
  have hrr : Rise (M1.map Prod.fst) := HRR.out
  have hm4 := map_upd hrr HYK.out (fun b => b.withKids (lessK b.kids oi)) kv4 ypv
  dsimp only [Bl.withKids] at hm4
  rw [HMM.out, HYID.out] at hm4
  obtain ⟨M4, hM4⟩ : ∃ M4, M4 = M1.set q (⟨yid, ypar, lessK yks oi, ytx, yps⟩, kv4, ypv) := ⟨_, rfl⟩
  have hl4 : M4.length = n1 := by rw [hM4, List.length_set]; exact HML.out
  have hm4 : M4.map Prod.fst = upd l xpar fun b => b.withKids (lessK b.kids oi) := by rw [hM4]; refine Eq.trans ?_ hm4; rw [HYID.out]
  rw [← hM4] at hr4
  obtain ⟨R, hrow, hrun⟩ := (hr4.out.below (Below.refl _ _).drew).rem (i := p) (by omega)
  rw [hl4] at hrun
  have HROW := Lib.hid hrow
  have hr3 : Rise (M4.map Prod.fst) := by rw [hm4]; exact HRI.out.1.upd fun b => rfl
  obtain ⟨x3, hx3, hx3i⟩ : ∃ x3, (M4.map Prod.fst)[p]? = some x3 ∧ x3.id = oi := by
    rw [hm4]
    refine ⟨_, upd_at HX.out, ?_⟩
    split <;> exact HXI.out
  have HM5 : Hid ((M4.take p ++ M4.drop (p + 1)).map Prod.fst = applied l ⟨2, oi, op, oa, of, ot, ox, on, ⟨vk, vi, vt, vs, vl⟩⟩) := by
    show _ = _
    rw [List.map_append, List.map_take, List.map_drop, ← filter_out hr3 hx3, hx3i, hm4, HAPP.out]
  have HL5 : Hid ((M4.take p ++ M4.drop (p + 1)).length = n1 - 1) := by
    show _ = _
    rw [List.length_append, List.length_take, List.length_drop]; omega
  have HFN : Hid (RB (w4.drew.setRow g1 R) (w4.drew.setRow g1 R).heap.size (.slice (some ⟨g1, 0, none⟩) (n1 - 1) cap1) (applied l ⟨2, oi, op, oa, of, ot, ox, on, ⟨vk, vi, vt, vs, vl⟩⟩) ∧ Below w.heap.size w (w4.drew.setRow g1 R)) := by
    have h := HROW.out.rb
    rw [HM5.out, HL5.out] at h
    refine ⟨h, (hb4.out.drew).trans ⟨rfl, rfl, rfl, by rw [setRow_size]; exact Nat.le_refl _, fun k hk => setRow_other _ _ _ _ (by omega)⟩⟩
  have hcl4 := hr4.out.len
  have HCAP : Hid (n1 ≤ cap1 ∧ cap1 ≤ maxLen) := ⟨by omega, hr4.out.room⟩
  have z1 : (p : Int) ≤ (n1 : Int) := by omega
  have z2 : (p : Int) ≤ (cap1 : Int) := by omega
  have z3 : (p : Int) + 1 ≤ (n1 : Int) := by omega
  have z4 : (n1 : Int) ≤ (cap1 : Int) := by omega
  have z5 : (p : Int) + 1 ≤ (cap1 : Int) := by omega
  clear hm4 hM4 hl4 hrow hr3 hx3 hx3i hrr hcl4
  have hn1x : n1 ≤ 2000 := by
    have h1 := HML.out
    have h2 := congrArg List.length HMM.out
    rw [List.length_map] at h2
    have := HLN.out
    omega
  have ww1 : IntKind.i64.wrap ((p : Int) + 1) = (p : Int) + 1 := IntWalk.i64_in _ (by omega)
  have ww2 : (0 : Int) ≤ (p : Int) + 1 := by omega
  have ww3 : ((p : Int) + 1).toNat = p + 1 := by omega
  by_cases hc : cap1 = p + 1
  · have HAPN : ∀ ty c0, (Builtin.append_ #[22, 22] ty #[.slice (some ⟨g1, 0, none⟩) p cap1, .slice (some ⟨g1, 0, none⟩) (n1 - (p + 1)) c0]).run Tryz.prog w4.drew = .ok (.slice (some ⟨g1, 0, none⟩) (n1 - 1) cap1) (w4.drew.setRow g1 R) := fun ty c0 => hrun ty c0 _ (by have := HCAP.out; omega)
    have e9 : n1 - (p + 1) = 0 := by have := HCAP.out; omega
    simp only [e9] at HAPN
    subst hc
    clear hrun e9 z2 z4 z5
    have z11 : (p : Int) ≤ (p : Int) + 1 := by omega
    have z12 : (n1 : Int) ≤ (p : Int) + 1 := by have := HCAP.out.1; omega
    have z13 : n1 - (p + 1) = 0 := by have := HCAP.out; omega
    go_upto_region 15 with fail
    go_region_law (refine step_append_runI rfl _ _ 22 22 rfl (.slice (some ⟨g1, 0, none⟩) p (p + 1)) (.slice (some ⟨g1, 0, none⟩) 0 0) (by simp [Act.eval, Act.put]) (by simp [Act.eval, Act.put]) (HAPN _ _) ?_)
    all_goals
      go_wp2_with fail
      go_ret
      exact ⟨some ⟨g1, 0, none⟩, n1 - 1, p + 1, rfl, HFN.out.1, HFN.out.2⟩
  · have HAPN : ∀ ty c0, (Builtin.append_ #[22, 22] ty #[.slice (some ⟨g1, 0, none⟩) p cap1, .slice (some ⟨g1, (p + 1) * 5, none⟩) (n1 - (p + 1)) c0]).run Tryz.prog w4.drew = .ok (.slice (some ⟨g1, 0, none⟩) (n1 - 1) cap1) (w4.drew.setRow g1 R) := fun ty c0 => hrun ty c0 _ (fun _ => rfl)
    clear hrun
    go_upto_region 15 with fail
    go_region_law (refine step_append_runI rfl _ _ 22 22 rfl (.slice (some ⟨g1, 0, none⟩) p cap1) (.slice (some ⟨g1, (p + 1) * 5, none⟩) (n1 - (p + 1)) (cap1 - (p + 1))) (by simp [Act.eval, Act.put]) (by simp [Act.eval, Act.put]) (HAPN _ _) ?_)
    all_goals
      go_wp2_with fail
      go_ret
      exact ⟨some ⟨g1, 0, none⟩, n1 - 1, cap1, rfl, HFN.out.1, HFN.out.2⟩
end Go.Proofs.YtmkicfjcgbfaaaaGreat
namespace Go.Proofs.YtmkicfjcgbfaaaaGreat
open Go.RowKit

/-- the reference's Applied -/
theorem appliedR_any (l : List Bl) (f : Int → Option Int) (G : Good l f) (A : Option Addr) (n c : Nat) (o : Opn) (Av : Option Addr) (nv cv : Nat) (w : World) (B : Nat) (hB : B ≤ w.heap.size) (h : RB w B (.slice A n c) l) (hv : RV w B (.slice Av nv cv) o.val.items) (hoi : OI o) (he : opErr l f o = 0) :
    Calls Tryz.prog 22 #[.slice A n c, AO (o, .slice Av nv cv)] w (ApplR (applied l o) w) := by
  cases G.op_facts he with
  | ins hk => exact appliedR1 l f G A n c o hk Av nv cv w B hB h hv hoi he
  | rem hk => exact appliedR2 l f G A n c o hk Av nv cv w B hB h hv hoi he
  | mov hk => exact appliedR3 l f G A n c o hk Av nv cv w B hB h hv hoi he
  | edit hk => exact appliedR4 l f G A n c o hk Av nv cv w B hB h hv hoi he
  | set hk => exact appliedR5 l f G A n c o hk Av nv cv w B hB h hv hoi he
end Go.Proofs.YtmkicfjcgbfaaaaGreat
namespace Go.Proofs.YtmkicfjcgbfaaaaGreat
open Go.RowKit

/-- operations tried one after another: no error, or the first one -/
def TryP (l : List Bl) (os : List Opn) (er : Int) : Prop := (OkAll l os ∧ er = 0) ∨ (er ≠ 0 ∧ ∃ k, OkAll l (os.take k) ∧ BadAt l os k er)
theorem bad_lt {l : List Bl} {os : List Opn} {k k' : Nat} {er : Int} (h : BadAt l os k er) (h' : OkAll l (os.take k')) : k' ≤ k := by
  obtain ⟨o, f, h1, h2, h3, h4⟩ := h
  refine Nat.le_of_not_lt fun hlt => ?_
  obtain ⟨f', G', he⟩ := h' k o (by rw [List.getElem?_take, if_pos hlt]; exact h1)
  rw [take_take os (Nat.le_of_lt hlt)] at G' he
  rw [h2.uniq G', he] at h3
  exact h4 h3.symm
theorem TryP.uniq {l : List Bl} {os : List Opn} {e e' : Int} (h : TryP l os e) (h' : TryP l os e') : e = e' := by
  rcases h with ⟨h, rfl⟩ | ⟨hne, k, hk, hb⟩
  · rcases h' with ⟨_, rfl⟩ | ⟨_, k', _, hb'⟩
    · rfl
    · obtain ⟨o, f, h1, _⟩ := hb'
      have hl := (List.getElem?_eq_some_iff.1 h1).1
      have := bad_lt ⟨o, f, h1, ‹_›⟩ (k' := k' + 1) (h.pre _)
      omega
  · rcases h' with ⟨h', rfl⟩ | ⟨_, k', hk', hb'⟩
    · have := bad_lt hb (k' := k + 1) (h'.pre _)
      omega
    · have h1 := bad_lt hb hk'
      have h2 := bad_lt hb' hk
      obtain rfl : k = k' := by omega
      obtain ⟨o, f, a1, a2, a3, _⟩ := hb
      obtain ⟨o', f', b1, b2, b3, _⟩ := hb'
      obtain rfl : o = o' := by rw [a1] at b1; exact Option.some.inj b1
      rw [← a3, ← b3, a2.uniq b2]
/-- what AllOf leaves -/
def AllOfR (l : List Bl) (os : List Opn) (w : World) (e : Ending) (w' : World) : Prop := (∃ A n c k er, e = .returned (.tuple #[.slice A n c, .int .i64 k, .int .i64 er]) ∧ TryP l os er ∧ (er = 0 → RB w' w'.heap.size (.slice A n c) (applL l os))) ∧ Below w.heap.size w w'
set_option maxRecDepth 100000 in
set_option maxHeartbeats 8000000 in
/-- the reference's AllOf -/
theorem allOf_any (l : List Bl) (f : Int → Option Int) (G : Good l f) (A : Option Addr) (n c : Nat) (os : List Opn) (Ao : Option Addr) (no co : Nat) (w : World) (h : RB w w.heap.size (.slice A n c) l) (ho : ROs w w.heap.size (.slice Ao no co) os) :
    Calls Tryz.prog 33 #[.slice A n c, .slice Ao no co] w (AllOfR l os w) := by
  have hnol := ho.len
  have HNO : Hid (no = os.length) := hnol.1
  have hnb : no * 144 ≤ 140737488351232 := hnol.2.2
  have HO := Lib.hid ho
  have HRB0 := Lib.hid h
  have HG := Lib.hid G
  have HOK0 : Hid (OkAll l (os.take 0)) := fun i o hi => by simp at hi
  clear G h ho hnol
  go_enter Tryz.func33, Tryz.ntmps33
  go_wp2_with fail
  go_loopg [0, 12] no (fun gg s0 s12 wr => ∃ (k : Nat) (A9 : Option Addr) (n9 c9 : Nat), k + gg = no ∧ s0 = .slice A9 n9 c9 ∧ s12 = .int .i64 (k : Int) ∧ Hid (OkAll l (os.take k)) ∧ Hid (RB wr wr.heap.size (.slice A9 n9 c9) (applL l (os.take k))) ∧ Hid (Below w.heap.size w wr))
  case atStart => exact ⟨0, A, n, c, by omega, rfl, rfl, HOK0, HRB0, Below.refl _ _⟩
  case round =>
    obtain ⟨k, A9, n9, c9, hkg, rfl, rfl, hok, hrb, hbel⟩ := hrel
    obtain ⟨W1, rfl⟩ : ∃ W1, W1 = wr := ⟨_, rfl⟩
    by_cases hk : k < no
    · obtain ⟨o, hko⟩ : ∃ o, os[k]? = some o := ⟨_, List.getElem?_eq_getElem (by have := HNO.out; omega)⟩
      obtain ⟨f9, G9⟩ := hok.out.good HG.out k (by rw [List.length_take, ← HNO.out]; omega)
      rw [take_take os (Nat.le_refl k)] at G9
      obtain ⟨b, off, Av, nv, cv, rfl, hbb, hc, hrv, hoi⟩ := (HO.out.below hbel.out).at_ hko
      have HRV : Hid (RV W1 W1.heap.size (.slice Av nv cv) o.val.items) := hrv.more hbel.out.size
      have HOI := Lib.hid hoi
      have HKO := Lib.hid hko
      have HSN : Hid (applL l (os.take (k + 1)) = applied (applL l (os.take k)) o) := applL_snoc hko
      have hokn : opErr (applL l (os.take k)) f9 o = 0 → OkAll l (os.take (k + 1)) := fun he => hok.out.snoc hko G9 he
      have hbad : opErr (applL l (os.take k)) f9 o ≠ 0 → BadAt l os k (opErr (applL l (os.take k)) f9 o) := fun he => ⟨o, f9, hko, G9, rfl, he⟩
      have HOKN := Lib.hid hokn
      have HBAD := Lib.hid hbad
      obtain ⟨L, hL⟩ : ∃ L, L = applL l (os.take k) := ⟨_, rfl⟩
      rw [← hL] at hrb HSN G9 HOKN HBAD
      obtain ⟨ok, oi, op, oa, of, ot, ox, on, ⟨vk, vi, vt, vs, vl⟩⟩ := o
      have g0 : W1.cell? ⟨b, off + k * 13, none⟩ = some (.int .i64 ok) := hc 0 _ rfl
      have g1 : W1.cell? ⟨b, off + k * 13 + 1, none⟩ = some (.int .i64 oi) := hc 1 _ rfl
      have g2 : W1.cell? ⟨b, off + k * 13 + 2, none⟩ = some (.int .i64 op) := hc 2 _ rfl
      have g3 : W1.cell? ⟨b, off + k * 13 + 3, none⟩ = some (.int .i64 oa) := hc 3 _ rfl
      have g4 : W1.cell? ⟨b, off + k * 13 + 4, none⟩ = some (.int .i64 of) := hc 4 _ rfl
      have g5 : W1.cell? ⟨b, off + k * 13 + 5, none⟩ = some (.int .i64 ot) := hc 5 _ rfl
      have g6 : W1.cell? ⟨b, off + k * 13 + 6, none⟩ = some (.string ox) := hc 6 _ rfl
      have g7 : W1.cell? ⟨b, off + k * 13 + 7, none⟩ = some (.string on) := hc 7 _ rfl
      have g8 : W1.cell? ⟨b, off + k * 13 + 8, none⟩ = some (.int .i64 vk) := hc 8 _ rfl
      have g9 : W1.cell? ⟨b, off + k * 13 + 9, none⟩ = some (.int .i64 vi) := hc 9 _ rfl
      have g10 : W1.cell? ⟨b, off + k * 13 + 10, none⟩ = some (.int .i64 vt) := hc 10 _ rfl
      have g11 : W1.cell? ⟨b, off + k * 13 + 11, none⟩ = some (.string vs) := hc 11 _ rfl
      have g12 : W1.cell? ⟨b, off + k * 13 + 12, none⟩ = some (.slice Av nv cv) := hc 12 _ rfl
      have j0 : (0 : Int) ≤ (k : Int) := by omega
      have j1 : (k : Int) < (no : Int) := by omega
      obtain ⟨wa, hwa⟩ : ∃ wa, wa = W1.alloc (.cells #[.int .i64 ok, .int .i64 oi, .int .i64 op, .int .i64 oa, .int .i64 of, .int .i64 ot, .string ox, .string on, .int .i64 vk, .int .i64 vi, .int .i64 vt, .string vs, .slice Av nv cv] 31) := ⟨_, rfl⟩
      have hal : Below W1.heap.size W1 wa := by rw [hwa]; exact (Below.refl _ _).alloc (Nat.le_refl _) _
      have P0 : Hid (Blk wa W1.heap.size 31 #[.int .i64 ok, .int .i64 oi, .int .i64 op, .int .i64 oa, .int .i64 of, .int .i64 ot, .string ox, .string on, .int .i64 vk, .int .i64 vi, .int .i64 vt, .string vs, .slice Av nv cv]) := by rw [hwa]; exact Blk.new _ _ _
      have HBA : Hid (Below w.heap.size w wa) := hbel.out.trans (hal.mono hbel.out.size)
      have HRA : Hid (RB wa wa.heap.size (.slice A9 n9 c9) L) := (hrb.out.below hal).more hal.size
      have HVA : Hid (RV wa wa.heap.size (.slice Av nv cv) vl) := (HRV.out.below hal).more hal.size
      have HG9 := Lib.hid G9
      have HOE := Lib.hid fun W (hW : Below wa.heap.size wa W) => opError_any L f9 HG9.out A9 n9 c9 ⟨ok, oi, op, oa, of, ot, ox, on, ⟨vk, vi, vt, vs, vl⟩⟩ Av nv cv W wa.heap.size hW.size (HRA.out.below hW) HOI.out (HVA.out.below hW)
      have HAP := Lib.hid fun (he : opErr L f9 ⟨ok, oi, op, oa, of, ot, ox, on, ⟨vk, vi, vt, vs, vl⟩⟩ = 0) W (hW : Below wa.heap.size wa W) => appliedR_any L f9 HG9.out A9 n9 c9 ⟨ok, oi, op, oa, of, ot, ox, on, ⟨vk, vi, vt, vs, vl⟩⟩ Av nv cv W wa.heap.size hW.size (HRA.out.below hW) (HVA.out.below hW) HOI.out he
      obtain ⟨L', hL'⟩ : ∃ L', L' = applied L ⟨ok, oi, op, oa, of, ot, ox, on, ⟨vk, vi, vt, vs, vl⟩⟩ := ⟨_, rfl⟩
      rw [← hL'] at HAP HSN
      obtain ⟨er, her⟩ : ∃ er, er = opErr L f9 ⟨ok, oi, op, oa, of, ot, ox, on, ⟨vk, vi, vt, vs, vl⟩⟩ := ⟨_, rfl⟩
      rw [← her] at HOE HAP HOKN HBAD
      unfold ApplR at HAP
      dsimp only [AO, Vl.kind, Vl.int_, Vl.to_, Vl.text, Vl.items] at HOE HAP
      have HWA := Lib.hid hwa
      clear hko hbb hc hrv hoi hwa hal hL' her hokn hbad G9 hL
      go_upto_region 4 with fail
      rw [← HWA.out]
      clear g0 g1 g2 g3 g4 g5 g6 g7 g8 g9 g10 g11 g12
      have e0 := fun i => P0.out.cell i
      go_wp2_with fail
      refine (HOE.out wa (Below.refl _ _)).mono ?_
      rintro e w2 ⟨rfl, hb⟩
      have HB2 := Lib.hid hb
      have P2 := Lib.hid (P0.out.below hb P0.out.lt)
      clear hb e0
      by_cases h0 : er = 0
      · subst h0
        have e0 := fun i => P2.out.cell i
        go_wp2_with fail
        refine (HAP.out trivial w2 HB2.out).mono ?_
        rintro e w3 ⟨A3, n3, c3, rfl, hr3, hb⟩
        have HB3 : Hid (Below w.heap.size w w3) := HBA.out.trans ((HB2.out.trans (hb.mono HB2.out.size)).mono HBA.out.size)
        have HR3 : Hid (RB w3 w3.heap.size (.slice A3 n3 c3) (applL l (os.take (k + 1)))) := by
          show RB _ _ _ _
          rw [HSN.out]; exact hr3
        have HOK3 := Lib.hid (HOKN.out trivial)
        clear hb e0 hr3
        go_wp2_with fail
        go_roundg (no - (k + 1))
        case measure => omega
        case rel => exact ⟨k + 1, A3, n3, c3, by omega, rfl, by go_num, HOK3, HR3, HB3⟩
      · have h0' : (er != 0) = true := by simpa using h0
        have HTP : Hid (TryP l os er) := .inr ⟨h0, k, hok.out, HBAD.out h0⟩
        have HNZ := Lib.hid h0
        have HBF : Hid (Below w.heap.size w w2) := HBA.out.trans (HB2.out.mono HBA.out.size)
        clear h0
        go_wp2_with fail
        go_ret3
        exact ⟨⟨_, _, _, _, er, rfl, HTP.out, fun e => absurd e HNZ.out⟩, HBF.out⟩
    · obtain rfl : k = no := by omega
      have hok' := hok.out
      have hrb' := hrb.out
      rw [HNO.out, List.take_length] at hok' hrb'
      have HOKF := Lib.hid hok'
      have HRBF := Lib.hid hrb'
      clear hok' hrb'
      go_wp2_with fail
      go_ret3
      exact ⟨⟨_, _, _, _, 0, rfl, .inl ⟨HOKF.out, rfl⟩, fun _ => HRBF.out⟩, hbel.out⟩
/-- what tried leaves: the list, or why not -/
def TriedR (l : List Bl) (os : List Opn) (Ao : Option Addr) (no co : Nat) (w : World) (e : Ending) (w' : World) : Prop := (∃ er, TryP l os er ∧ e = .returned (.tuple #[if er = 0 then .slice Ao no co else .slice none 0 0, .int .i64 er])) ∧ Below w.heap.size w w'
set_option maxRecDepth 100000 in
set_option maxHeartbeats 4000000 in
/-- the reference's tried -/
theorem triedR_any (l : List Bl) (f : Int → Option Int) (G : Good l f) (A : Option Addr) (n c : Nat) (os : List Opn) (Ao : Option Addr) (no co : Nat) (w : World) (h : RB w w.heap.size (.slice A n c) l) (ho : ROs w w.heap.size (.slice Ao no co) os) :
    Calls Tryz.prog 112 #[.slice A n c, .slice Ao no co] w (TriedR l os Ao no co w) := by
  have HA := Lib.hid (allOf_any l f G A n c os Ao no co w h ho)
  clear h ho G
  go_enter Tryz.func112, Tryz.ntmps112
  go_wp2_with fail
  refine HA.out.mono ?_
  rintro e w1 ⟨⟨A1, n1, c1, k, er, rfl, hT, _⟩, hb⟩
  have HT := Lib.hid hT
  have HB := Lib.hid hb
  clear hT hb
  by_cases h0 : er = 0
  · subst h0
    go_wp2_with fail
    go_ret2
    exact ⟨⟨0, HT.out, by rw [if_pos rfl]; rfl⟩, HB.out⟩
  · have h0' : (er != 0) = true := by simpa using h0
    have HN := Lib.hid h0
    clear h0
    go_wp2_with fail
    go_ret2
    exact ⟨⟨er, HT.out, by rw [if_neg HN.out]; rfl⟩, HB.out⟩
set_option maxRecDepth 100000 in
set_option maxHeartbeats 4000000 in
/-- tree.tried -/
theorem tried_any (l : List Bl) (f : Int → Option Int) (G : Good l f) (A : Option Addr) (n c : Nat) (os : List Opn) (Ao : Option Addr) (no co : Nat) (w : World) (h : RB w w.heap.size (.slice A n c) l) (ho : ROs w w.heap.size (.slice Ao no co) os) (hcl : Ao = none → no = 0 ∧ co = 0) :
    Calls Tryz.prog 107 #[.slice A n c, .slice Ao no co] w (TriedR l os Ao no no w) := by
  have hn0 : 0 < n := by
    obtain ⟨r, hr, _⟩ := G.kids.root
    have := (List.getElem?_eq_some_iff.1 hr).1
    have := h.len.1
    omega
  have hn1 : n ≤ 100000 := by have := G.kids.short; have := h.len.1; omega
  have HCB := Lib.hid (copyBase_any l A n c w w.heap.size (Nat.le_refl _) h hn0 hn1)
  have HCL := Lib.hid fun W => clipO_any Ao no co W ho.len.2.1 hcl
  have HO := Lib.hid ho
  have HG := Lib.hid G
  clear h ho G hn0 hn1 hcl
  go_enter Tryz.func107, Tryz.ntmps107
  go_wp2_with fail
  refine HCB.out.mono ?_
  rintro e w2 ⟨g, n2, M, rfl, hl2, hm2, hg2, hr2, hb2⟩
  have HB2 := Lib.hid hb2
  have hz2 := HB2.out.size
  have HA := Lib.hid (allIn_any w2 g n2 n2 M l f os hr2 hl2 hm2 HG.out Ao no co (((ROsX.of HO.out).keep fun p hp => HB2.out.cell (by have hp : p.block < w.heap.size := hp; omega)).weak fun b hb => ⟨by have hb : b < w.heap.size := hb; omega, by have hb : b < w.heap.size := hb; omega⟩))
  have HGL : Hid (w.heap.size ≤ g) := hg2
  clear hb2 hl2 hm2 hr2 hg2
  go_wp2_with fail
  refine HA.out.mono ?_
  rintro e w3 ⟨hcase, hg3⟩
  have HB3 : Hid (Below w.heap.size w w3) := below_own HB2.out hg3 HGL.out
  rcases hcase with ⟨k, er, h1, h2, rfl⟩ | ⟨h1, g', cap', n3, M3, rfl, h3, h4, h5, h6⟩
  · have hne : er ≠ 0 := by obtain ⟨_, _, _, _, _, h⟩ := h2; exact h
    have HT : Hid (TryP l os er) := .inr ⟨hne, k, h1, h2⟩
    have HN := Lib.hid hne
    have h0' : (er != 0) = true := by simpa using hne
    clear h1 h2 hg3 hne
    go_wp2_with fail
    go_ret2
    exact ⟨⟨er, HT.out, by rw [if_neg HN.out]; rfl⟩, HB3.out⟩
  · have HT : Hid (TryP l os 0) := .inl ⟨h1, rfl⟩
    clear h1 h3 h4 h5 h6 hg3
    go_wp2_with fail
    refine (HCL.out w3).mono ?_
    rintro e w4 ⟨rfl, hw⟩
    rw [hw]
    clear hw
    go_wp2_with fail
    go_ret2
    exact ⟨⟨0, HT.out, by rw [if_pos rfl]; rfl⟩, HB3.out⟩
end Go.Proofs.YtmkicfjcgbfaaaaGreat
namespace Go.Proofs.YtmkicfjcgbfaaaaGreat
open Go.RowKit

/-- operations and an error handed back -/
def ManyR (os : List Opn) (er : Int) (w : World) (e : Ending) (w' : World) : Prop := (∃ A n c, e = .returned (.tuple #[.slice A n c, .int .i64 er]) ∧ ((er = 0 ∧ ROs w' w'.heap.size (.slice A n c) os) ∨ (er ≠ 0 ∧ A = none ∧ n = 0 ∧ c = 0))) ∧ Below w.heap.size w w'
/-- the operations that split a block -/
def splO (id next par k : Int) (a : Nat) (tx : ByteArray) : List Opn := [⟨4, id, 0, 0, a, tx.size, ⟨#[]⟩, ⟨#[]⟩, zV⟩, ⟨1, next, par, k, 0, 0, tx.extract a tx.size, ⟨#[]⟩, zV⟩]
set_option maxRecDepth 100000 in
set_option maxHeartbeats 8000000 in
theorem split_bad (l : List Bl) (f : Int → Option Int) (hf : DepOk l f) (A : Option Addr) (n c : Nat) (id pl : Int) (hid : I64 id) (w : World) (h : RB w w.heap.size (.slice A n c) l) (hne : cinE l f id ≠ 0) :
    Calls Tryz.prog 39 #[.slice A n c, .int .i64 id, .int .i64 pl] w (ManyR [] (cinE l f id) w) := by
  have HC := Lib.hid (checkInner_any l f A n c id hid w w.heap.size (Nat.le_refl _) h hf)
  obtain ⟨er, her⟩ : ∃ er, er = cinE l f id := ⟨_, rfl⟩
  rw [← her] at HC hne ⊢
  have h0' : (er != 0) = true := by simpa using hne
  have HNE := Lib.hid hne
  clear her hne h hid
  go_enter Tryz.func39, Tryz.ntmps39
  go_wp2_with fail
  refine HC.out.mono ?_
  rintro e w1 ⟨rfl, hb1⟩
  have HB1 := Lib.hid hb1
  clear hb1
  go_wp2_with fail
  go_ret2
  exact ⟨⟨_, _, _, rfl, .inr ⟨HNE.out, rfl, rfl, rfl⟩⟩, HB1.out⟩
set_option maxRecDepth 100000 in
set_option maxHeartbeats 8000000 in
/-- tree.Join at a block that is none -/
theorem join_bad (l : List Bl) (f : Int → Option Int) (hf : DepOk l f) (A : Option Addr) (n c : Nat) (id : Int) (hid : I64 id) (w : World) (h : RB w w.heap.size (.slice A n c) l) (hne : cinE l f id ≠ 0) :
    Calls Tryz.prog 40 #[.slice A n c, .int .i64 id] w (ManyR [] (cinE l f id) w) := by
  have HC := Lib.hid (checkInner_any l f A n c id hid w w.heap.size (Nat.le_refl _) h hf)
  obtain ⟨er, her⟩ : ∃ er, er = cinE l f id := ⟨_, rfl⟩
  rw [← her] at HC hne ⊢
  have h0' : (er != 0) = true := by simpa using hne
  have HNE := Lib.hid hne
  clear her hne h hid
  go_enter Tryz.func40, Tryz.ntmps40
  go_wp2_with fail
  refine HC.out.mono ?_
  rintro e w1 ⟨rfl, hb1⟩
  have HB1 := Lib.hid hb1
  clear hb1
  go_wp2_with fail
  go_ret2
  exact ⟨⟨_, _, _, rfl, .inr ⟨HNE.out, rfl, rfl, rfl⟩⟩, HB1.out⟩
end Go.Proofs.YtmkicfjcgbfaaaaGreat
