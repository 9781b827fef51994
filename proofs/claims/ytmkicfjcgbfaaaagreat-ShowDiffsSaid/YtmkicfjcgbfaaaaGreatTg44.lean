/-
  DERIVED. The walk of the reference's Applied, kind 5. Conditions: sizes; an operation without error.
  The reference's Applied, whatever the operation's kind. Conditions: sizes; an operation without error.
  By an AI agent.
-/
import Derived.Test.YtmkicfjcgbfaaaaGreatTg35
import Derived.Test.YtmkicfjcgbfaaaaGreatTg38
import Derived.Test.YtmkicfjcgbfaaaaGreatTg42
import Derived.Test.YtmkicfjcgbfaaaaGreatTg39
namespace Go.Proofs.YtmkicfjcgbfaaaaGreat
open Go.RowKit

set_option maxRecDepth 100000 in
set_option maxHeartbeats 8000000 in
/-- the reference's Applied, kind 5 -/
theorem appliedR5 (l : List Bl) (f : Int → Option Int) (G : Good l f) (A : Option Addr) (n c : Nat) (o : Opn) (hk : o.kind = 5) (Av : Option Addr) (nv cv : Nat) (w : World) (B : Nat) (hB : B ≤ w.heap.size) (h : RB w B (.slice A n c) l) (hv : RV w B (.slice Av nv cv) o.val.items) (hoi : OI o) (he : opErr l f o = 0) :
    Calls Tryz.prog 22 #[.slice A n c, AO (o, .slice Av nv cv)] w (ApplR (applied l o) w) := by
  obtain ⟨p, x, hx, hxi, hcp⟩ : ∃ (p : Nat) (x : Bl), l[p]? = some x ∧ x.id = o.id ∧ cpErr x.props = 0 := by
    cases G.op_facts he with
    | ins h => omega
    | rem h => omega
    | mov h => omega
    | edit h => omega
    | set h p x hx hxi hnm hve hcp hsl => exact ⟨p, x, hx, hxi, hcp⟩
  have hpx : posOf l o.id = (p : Int) := by rw [← hxi]; exact posOf_of G.kids.rise hx
  have HX := Lib.hid hx
  have HXI := Lib.hid hxi
  have HCP := Lib.hid hcp
  have HPX := Lib.hid hpx
  have HAPP := Lib.hid (applied_set (l := l) hk)
  have hn0 : 0 < n := by
    obtain ⟨r, hr, _⟩ := G.kids.root
    have := (List.getElem?_eq_some_iff.1 hr).1
    have := h.len.1
    omega
  have hn1 : n ≤ 2000 := by have := G.kids.short; have := h.len.1; omega
  obtain ⟨wa, hwa⟩ : ∃ wa, wa = w.alloc (.cells (opC o (.slice Av nv cv)) 31) := ⟨_, rfl⟩
  have HBA : Hid (Below w.heap.size w wa) := by rw [hwa]; exact (Below.refl _ _).alloc (Nat.le_refl _) _
  have P0 : Hid (Blk wa w.heap.size 31 (opC o (.slice Av nv cv))) := by rw [hwa]; exact Blk.new _ _ _
  have HZA : Hid (wa.heap.size = w.heap.size + 1) := by show _ = _; rw [hwa]; simp
  have HCO := Lib.hid (copied_any l A n c wa B (Nat.le_trans hB HBA.out.size) (h.below (HBA.out.mono hB)) hn0 (by omega))
  have HRI : Hid (Rise l ∧ IdsIn l) := ⟨G.kids.rise, G.kids.ids⟩
  have HLN : Hid (n = l.length) := h.len.1
  have HV := Lib.hid hv
  have HOI := Lib.hid hoi
  have HWA := Lib.hid hwa
  obtain ⟨ip, hip⟩ : ∃ ip, ip = posOf l o.id := ⟨_, rfl⟩
  obtain ⟨pp, hpp⟩ : ∃ pp, pp = posOf l o.parent := ⟨_, rfl⟩
  have HIP := Lib.hid hip
  have HPP := Lib.hid hpp
  have HK := Lib.hid hk
  obtain ⟨ok, oi, op, oa, of, ot, ox, on, ⟨vk, vi, vt, vs, vl⟩⟩ := o
  have hk : ok = 5 := HK.out
  subst hk
  dsimp only [AO, opC, Vl.kind, Vl.int_, Vl.to_, Vl.text, Vl.items] at P0 HWA HV HIP HPP ⊢
  clear hx hxi hcp hpx G h hv hoi he hwa hip hpp hn0 HK
  go_enter Tryz.func22, Tryz.ntmps22
  go_upto_region 1 with fail
  rw [← HWA.out]
  go_wp2_with fail
  refine HCO.out.mono ?_
  rintro e w1 ⟨g1, cap1, n1, M1, rfl, hml1, hm1, hg1, hr1, hb1⟩
  have HB1 : Hid (Below w.heap.size w w1) := HBA.out.trans (hb1.mono HBA.out.size)
  have HG1 : Hid (w.heap.size < g1) := by show _ < _; have := HZA.out; omega
  have P1 := Lib.hid (P0.out.below hb1 P0.out.lt)
  have HML := Lib.hid hml1
  have HMM := Lib.hid hm1
  have HR1 := Lib.hid hr1
  have HAT : Hid (∀ id W, Below w1.heap.size w1 W → Calls Tryz.prog 71 #[.slice (some ⟨g1, 0, none⟩) n1 cap1, .int .i64 id] W fun e w' => e = .returned (.int .i64 (posOf l id)) ∧ Below w1.heap.size w1 w') := fun id W hW => by
    have := at_any (M1.map Prod.fst) (some ⟨g1, 0, none⟩) M1.length cap1 id W W.heap.size (Nat.le_refl _) ((HR1.out.below hW).rb)
    rw [HML.out, HMM.out] at this
    exact this.mono fun e w' h => ⟨h.1, hW.trans (h.2.mono hW.size)⟩
  have KS : Hid (∀ W, Below w1.heap.size w1 W → ∀ i, W.cell? ⟨w.heap.size, i, none⟩ = (#[.int .i64 5, .int .i64 oi, .int .i64 op, .int .i64 oa, .int .i64 of, .int .i64 ot, .string ox, .string on, .int .i64 vk, .int .i64 vi, .int .i64 vt, .string vs, .slice Av nv cv] : Array Value)[i]?) := fun W hW => fun i => (P1.out.below hW P1.out.lt).cell i
  have HAI := Lib.hid (HAT.out oi)
  have HAP := Lib.hid (HAT.out op)
  rw [← HIP.out] at HAI
  rw [← HPP.out] at HAP
  have e0 := KS.out w1 (Below.refl _ _)
  clear hml1 hm1 hg1 hr1 hb1
  go_upto_region 2 with fail
  go_cut [6, 7] (fun s6 s7 wd => s6 = .int .i64 ip ∧ s7 = .int .i64 pp ∧ Hid (Below w1.heap.size w1 wd))
  case first =>
    go_region_with (first
      | (go_at_call 71; (with_reducible refine Calls.mono (HAI.out _ ?hb) ?_); (case hb => first | exact HB9.out | with_reducible exact (Below.refl _ _).drew | with_reducible exact Below.refl _ _ | exact (Below.refl _ _).drew); rintro e w9 ⟨rfl, hb9⟩; have HB9 := Lib.hid hb9; have r0 := KS.out w9 hb9; clear hb9)
      | (go_at_call 71; (with_reducible refine Calls.mono (HAP.out _ ?hb) ?_); (case hb => first | exact HB9.out | with_reducible exact (Below.refl _ _).drew | with_reducible exact Below.refl _ _ | exact (Below.refl _ _).drew); rintro e w9 ⟨rfl, hb9⟩; have HB9 := Lib.hid hb9; have r0 := KS.out w9 hb9; clear hb9))
    all_goals
      go_wp2_with fail
      go_meet
      exact ⟨rfl, rfl, HB9⟩
  case rest =>
  obtain ⟨rfl, rfl, hbd⟩ := hcut
  obtain ⟨w2, rfl⟩ : ∃ w2, w2 = wc := ⟨_, rfl⟩
  have HB2 : Hid (Below w.heap.size w w2) := HB1.out.trans (hbd.out.mono HB1.out.size)
  have HR2 := Lib.hid (HR1.out.below hbd.out)
  have HKS := Lib.hid fun W (hW : Below w2.heap.size w2 W) => KS.out W (hbd.out.trans (hW.mono hbd.out.size))
  have HHAT := Lib.hid fun id W (hW : Below w2.heap.size w2 W) => HAT.out id W (hbd.out.trans (hW.mono hbd.out.size))
  have hzz := HB2.out.size
  have hg2 := HR2.out.lt
  have hg1 := HG1.out
  have HRR : Hid (Rise (M1.map Prod.fst)) := by show Rise _; rw [HMM.out]; exact HRI.out.1
  clear e0
  have e0 := HKS.out w2 (Below.refl _ _)
  have hipp : ip = (p : Int) := HIP.out.trans HPX.out
  subst hipp
  obtain ⟨xk, hxk, hxe⟩ := row_at HMM.out HX.out
  subst hxe
  obtain ⟨⟨xid, xpar, xks, xtx, xps⟩, xkv, xpv⟩ := xk
  have hpl : p < n1 := by have := (List.getElem?_eq_some_iff.1 hxk).1; have := HML.out; omega
  have HXK := Lib.hid hxk
  have hm4 := map_upd HRR.out hxk (fun b => b.withProps (setPr b.props on ⟨vk, vi, vt, vs, vl⟩)) xkv
  dsimp only [Bl.withProps] at hm4
  rw [HMM.out] at hm4
  obtain ⟨T, hT⟩ : ∃ T, T = setPr xps on ⟨vk, vi, vt, vs, vl⟩ := ⟨_, rfl⟩
  have hcp : cpErr xps = 0 := HCP.out
  have hxi : xid = oi := HXI.out
  have hnb2 := HR2.out.nest _ (List.mem_of_getElem? hxk)
  have hpx : RPrX w2 _ xpv xps := hnb2.2
  obtain ⟨Ap, np, cp, rfl⟩ := (hpx.reads (B := w2.heap.size) fun b hb => hb.1).slice
  have hnp : np ≤ 1000 := by
    have h1 := ((hpx.reads (B := w2.heap.size) fun b hb => hb.1).len).1
    have h2 := (cp_ok hcp).1
    omega
  have HNP := Lib.hid hnp
  have HPRX := Lib.hid hpx
  have HCALL : Hid (∀ W, Below w2.heap.size w2 W → Calls Tryz.prog 86 #[.slice Ap np cp, .string on, .agg #[.int .i64 vk, .int .i64 vi, .int .i64 vt, .string vs, .slice Av nv cv]] W fun e w' => ∃ A n c, e = .returned (.slice A n c) ∧ RPrX w' (fun b => b < w'.heap.size ∧ b ≠ g1) (.slice A n c) T ∧ Below w2.heap.size w2 w') := fun W hW => by
    have hrv : RVX W (fun b => b < w2.heap.size ∧ b ≠ g1) (.slice Av nv cv) vl := ((RVX.of HV.out).keep fun p hp => (HB2.out.trans (hW.mono HB2.out.size)).cell (by have hp : p.block < B := hp; omega)).weak fun b hb => by
      have hb : b < B := hb
      have := HB2.out.size
      exact ⟨by omega, by omega⟩
    refine (setProp_any xps on ⟨vk, vi, vt, vs, vl⟩ Ap np cp Av nv cv W w2.heap.size hW.size (fun b => b < w2.heap.size ∧ b ≠ g1) (fun b hb => hb.1) (HPRX.out.keep fun p hp => hW.cell hp.1) hrv hcp HNP.out).mono ?_
    rintro e w' ⟨⟨A, n, c, h1, h2⟩, h3⟩
    rw [← hT] at h2
    exact ⟨A, n, c, h1, h2.weak fun b hb => (by
      have h4 := hW.size
      have h5 := h3.size
      rcases hb with hb | hb
      · exact ⟨by omega, hb.2⟩
      · exact ⟨hb.2, by omega⟩), hW.trans (h3.mono hW.size)⟩
  have HRW : Hid (∀ W, Below w2.heap.size w2 W → W.cell? ⟨g1, p * 5 + 4, none⟩ = some (.slice Ap np cp) ∧ W.frozen? ⟨g1, p * 5 + 4, none⟩ = false) := fun W hW =>
    have hr := HR2.out.below hW
    ⟨hr.cell HXK.out rfl, hr.frozen _⟩
  have HFIN : Hid (∀ W A n c, Below w2.heap.size w2 W → RPrX W (fun b => b < W.heap.size ∧ b ≠ g1) (.slice A n c) T → RB (W.setCell ⟨g1, p * 5 + 4, none⟩ (.slice A n c)) (W.setCell ⟨g1, p * 5 + 4, none⟩ (.slice A n c)).heap.size (.slice (some ⟨g1, 0, none⟩) n1 cap1) (applied l ⟨5, oi, op, oa, of, ot, ox, on, ⟨vk, vi, vt, vs, vl⟩⟩) ∧ Below w.heap.size w (W.setCell ⟨g1, p * 5 + 4, none⟩ (.slice A n c))) := fun W A n c hW hp => by
    have hr := HR2.out.below hW
    have hnb := hr.nest _ (List.mem_of_getElem? HXK.out)
    have hst := hr.store HXK.out (j := 4) (u := .slice A n c) (y := (⟨xid, xpar, xks, xtx, T⟩, xkv, .slice A n c)) (by omega) rfl ⟨hnb.1, hp⟩
    have hrb := hst.rb
    rw [hT, hm4, hxi, List.length_set, HML.out] at hrb
    refine ⟨?_, (HB2.out.trans (hW.mono HB2.out.size)).setCell (p := ⟨g1, p * 5 + 4, none⟩) (by show w.heap.size ≤ g1; omega) _⟩
    rw [HAPP.out]
    exact hrb
  obtain ⟨q0, q1⟩ := HRW.out w2 (Below.refl _ _)
  have i0 : (0 : Int) ≤ (p : Int) := by omega
  have i1 : (p : Int) < (n1 : Int) := by omega
  clear hxk hm4 hT hcp hxi hnb2 hpx hnp
  go_upto_region 24 with fail
  go_region_with (go_at_call 86; refine (HCALL.out _ (by first | with_reducible exact (Below.refl _ _).drew | with_reducible exact Below.refl _ _ | exact (Below.refl _ _).drew)).mono ?_; rintro e w9 ⟨A8, n8, c8, rfl, hp9, hb9⟩; have HB9 := Lib.hid hb9; have HP9 := Lib.hid hp9; obtain ⟨r0, r1⟩ := HRW.out w9 hb9; have r2 := HKS.out w9 hb9; clear hb9 hp9)
  all_goals
    obtain ⟨hf9, hb9⟩ := HFIN.out _ A8 n8 c8 HB9.out HP9.out
    have HF9 := Lib.hid hf9
    have HX9 := Lib.hid hb9
    clear q0 q1 r0 r1 r2 e0 hf9 hb9
    go_wp2_with fail
    go_ret
    exact ⟨some ⟨g1, 0, none⟩, n1, cap1, rfl, HF9.out, HX9.out⟩
end Go.Proofs.YtmkicfjcgbfaaaaGreat
namespace Go.Proofs.YtmkicfjcgbfaaaaGreat
open Go.RowKit

/-- the reference's Applied -/
theorem appliedR_any (l : List Bl) (f : Int → Option Int) (G : Good l f) (A : Option Addr) (n c : Nat) (o : Opn) (Av : Option Addr) (nv cv : Nat) (w : World) (B : Nat) (hB : B ≤ w.heap.size) (h : RB w B (.slice A n c) l) (hv : RV w B (.slice Av nv cv) o.val.items) (hoi : OI o) (he : opErr l f o = 0) :
    Calls Tryz.prog 22 #[.slice A n c, AO (o, .slice Av nv cv)] w (ApplR (applied l o) w) := by
  cases G.op_facts he with
  | ins hk => exact appliedR1 l f G A n c o hk Av nv cv w B hB h hv hoi he
  | rem hk => exact appliedR2 l f G A n c o hk Av nv cv w B hB h hv hoi he
  | mov hk => exact appliedR3 l f G A n c o hk Av nv cv w B hB h hv hoi he
  | edit hk => exact appliedR4 l f G A n c o hk Av nv cv w B hB h hv hoi he
  | set hk => exact appliedR5 l f G A n c o hk Av nv cv w B hB h hv hoi he
end Go.Proofs.YtmkicfjcgbfaaaaGreat
