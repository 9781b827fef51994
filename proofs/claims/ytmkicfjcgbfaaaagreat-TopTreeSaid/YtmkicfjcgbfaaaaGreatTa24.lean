/-
  DERIVED. The walk of the law TopTree. Conditions: sizes.
  By an AI agent.
-/
import Derived.Test.YtmkicfjcgbfaaaaGreatTa12
import Derived.Test.YtmkicfjcgbfaaaaGreatTa23
import Derived.Deep.RegionHeld3
import Derived.BigQuiet
import Derived.IntWalk
namespace Go.Proofs.YtmkicfjcgbfaaaaGreat
open Go.RowKit

set_option maxRecDepth 100000 in
set_option maxHeartbeats 4000000 in
theorem ttLaw_bad (l : List Bl) (f : Int → Option Int) (hf : DepOk l f) (A : Option Addr) (n c : Nat) (ov : Value) (w : World) (h : RB w w.heap.size (.slice A n c) l) (hne : baseE l f ≠ 0) :
    Calls Tryz.prog 3 #[.slice A n c, ov] w fun e w' => e = .returned (.bool true) ∧ Below w.heap.size w w' := by
  have HAW := Lib.hid (awakeTree_any w)
  have HCH := Lib.hid fun W (hW : Below w.heap.size w W) => treeCheck_any l f A n c W w.heap.size hW.size (h.below hW) hf
  obtain ⟨er, her⟩ : ∃ er, er = baseE l f := ⟨_, rfl⟩
  rw [← her] at HCH hne
  have h0' : (er != 0) = true := by simpa using hne
  clear her hne h
  go_enter Tryz.func3, Tryz.ntmps3
  go_wp2_with fail
  refine HAW.out.mono ?_
  rintro e w1 ⟨rfl, hb1⟩
  have HB1 := Lib.hid hb1
  clear hb1
  go_wp2_with fail
  refine (HCH.out w1 HB1.out).mono ?_
  rintro e w2 ⟨rfl, hb2⟩
  have HB2 : Hid (Below w.heap.size w w2) := HB1.out.trans (hb2.mono HB1.out.size)
  clear hb2
  go_wp2_with fail
  go_ret
  exact ⟨rfl, HB2.out⟩
/-- what the law asks of each block of a base without error -/
structure TtB (l : List Bl) (f : Int → Option Int) (x : Bl) (d : Nat) (K P O : List Int) : Prop where
  ci : ciE l f x.id = 0
  path : pathL l f x.id = P
  len : P.length = d
  last : 0 < d → P[d - 1]? = some x.id
  first : 0 < d → ∃ y, P[0]? = some y ∧ y ∈ K
  before : x.id ≠ 0 → x.parent ≠ 0 → ixOf O x.parent < ixOf O x.id
theorem ttB {l : List Bl} {f : Int → Option Int} (G : Good l f) {x : Bl} (hx : x ∈ l) : TtB l f x (dOf f x.id) (kids0 l) (pathL l f x.id) (ord l 41 0) := by
  obtain ⟨k, hp, _⟩ := G.pos_at hx
  have hc : ciE l f x.id = 0 := by
    unfold ciE
    rw [if_neg (fun e => e G.clean), if_neg (by omega)]
  have hP : pathL l f x.id = pth l (dOf f x.id) x.id := by unfold pathL; rw [if_pos hc]
  obtain ⟨d, h1, h2, h3⟩ := G.dp hx
  have hd : dOf f x.id = d := by unfold dOf; rw [h1]; rfl
  rw [hP, hd]
  obtain ⟨r, hr, hr0, _⟩ := G.kids.root
  have hk0 : kids0 l = r.kids := by unfold kids0; rw [hr]
  refine ⟨hc, by rw [hP, hd], pth_len _ _, fun h0 => ?_, fun h0 => ?_, fun h0 hpar => ix_sub (ord_nodup G.kids 41 .root) (ord_par G hx h0 hpar)⟩
  · obtain ⟨e, rfl⟩ : ∃ e, d = e + 1 := ⟨d - 1, by omega⟩
    exact pth_last e x.id
  · obtain ⟨e, rfl⟩ : ∃ e, d = e + 1 := ⟨d - 1, by omega⟩
    rw [hk0]
    exact pth_first G.kids hr hr0 e h2
set_option maxRecDepth 100000 in
set_option maxHeartbeats 16000000 in
theorem ttLaw_good (l : List Bl) (f : Int → Option Int) (hf : DepOk l f) (A : Option Addr) (n c : Nat) (os : List Opn) (Ao : Option Addr) (no co : Nat) (w : World) (h : RB w w.heap.size (.slice A n c) l) (ho : ROs w w.heap.size (.slice Ao no co) os) (h0 : baseE l f = 0) (m : Nat) (hm : m = min no 40) :
    Calls Tryz.prog 3 #[.slice A n c, .slice Ao no co] w fun e w' => e = .returned (.bool true) ∧ Below w.heap.size w w' := by
  have HAW := Lib.hid (awakeTree_any w)
  have HCH := Lib.hid fun W (hW : Below w.heap.size w W) => treeCheck_any l f A n c W w.heap.size hW.size (h.below hW) hf
  rw [h0] at HCH
  have G := good_of h0 hf
  have hnol := ho.len
  have HNO : Hid (no = os.length) := hnol.1
  have hnb : no * 144 ≤ 140737488351232 := hnol.2.2
  have hnc : no ≤ co := hnol.2.1
  have HO := Lib.hid ho
  have HRB0 := Lib.hid h
  have HG := Lib.hid G
  have HM := Lib.hid hm
  have hmin : min (no : Int) 40 = (m : Int) := by omega
  have hmn : m ≤ no := by omega
  have hm30 : m ≤ 40 := by omega
  clear h0 G h ho hnol hm hf
  go_enter Tryz.func3, Tryz.ntmps3
  go_wp2_with fail
  refine HAW.out.mono ?_
  rintro e w1 ⟨rfl, hb1⟩
  have HB1 := Lib.hid hb1
  clear hb1
  go_wp2_with fail
  refine (HCH.out w1 HB1.out).mono ?_
  rintro e w6 ⟨rfl, hb6⟩
  have HB6 : Hid (Below w.heap.size w w6) := HB1.out.trans (hb6.mono HB1.out.size)
  clear hb6
  go_wp2_with fail
  go_loopg [0, 26] m (fun gg s0 s26 wr => ∃ (k : Nat) (A9 : Option Addr) (n9 c9 : Nat) (L : List Bl) (f9 : Int → Option Int), k + gg = m ∧ s0 = .slice A9 n9 c9 ∧ s26 = .int .i64 (k : Int) ∧ Hid (Good L f9) ∧ Hid (RB wr wr.heap.size (.slice A9 n9 c9) L) ∧ Hid (Below w.heap.size w wr))
  case atStart => exact ⟨0, A, n, c, l, f, by omega, rfl, rfl, HG, (HRB0.out.below HB6.out).more HB6.out.size, HB6⟩
  case round =>
    obtain ⟨k, A9, n9, c9, L, f9, hkg, rfl, rfl, hgd, hrb, hbel⟩ := hrel
    obtain ⟨W1, rfl⟩ : ∃ W1, W1 = wr := ⟨_, rfl⟩
    by_cases hk : k < m
    · obtain ⟨o, hko⟩ : ∃ o, os[k]? = some o := ⟨_, List.getElem?_eq_getElem (by have := HNO.out; omega)⟩
      obtain ⟨b, off, Av, nv, cv, rfl, hbb, hc, hrv, hoi⟩ := (HO.out.below hbel.out).at_ hko
      have HRV : Hid (RV W1 W1.heap.size (.slice Av nv cv) o.val.items) := hrv.more hbel.out.size
      have HOI := Lib.hid hoi
      obtain ⟨ok, oi, op, oa, of, ot, ox, on, ⟨vk, vi, vt, vs, vl⟩⟩ := o
      have g0 : W1.cell? ⟨b, off + k * 13, none⟩ = some (.int .i64 ok) := hc 0 _ rfl
      have g1 : W1.cell? ⟨b, off + k * 13 + 1, none⟩ = some (.int .i64 oi) := hc 1 _ rfl
      have g2 : W1.cell? ⟨b, off + k * 13 + 2, none⟩ = some (.int .i64 op) := hc 2 _ rfl
      have g3 : W1.cell? ⟨b, off + k * 13 + 3, none⟩ = some (.int .i64 oa) := hc 3 _ rfl
      have g4 : W1.cell? ⟨b, off + k * 13 + 4, none⟩ = some (.int .i64 of) := hc 4 _ rfl
      have g5 : W1.cell? ⟨b, off + k * 13 + 5, none⟩ = some (.int .i64 ot) := hc 5 _ rfl
      have g6 : W1.cell? ⟨b, off + k * 13 + 6, none⟩ = some (.string ox) := hc 6 _ rfl
      have g7 : W1.cell? ⟨b, off + k * 13 + 7, none⟩ = some (.string on) := hc 7 _ rfl
      have g8 : W1.cell? ⟨b, off + k * 13 + 8, none⟩ = some (.int .i64 vk) := hc 8 _ rfl
      have g9 : W1.cell? ⟨b, off + k * 13 + 9, none⟩ = some (.int .i64 vi) := hc 9 _ rfl
      have g10 : W1.cell? ⟨b, off + k * 13 + 10, none⟩ = some (.int .i64 vt) := hc 10 _ rfl
      have g11 : W1.cell? ⟨b, off + k * 13 + 11, none⟩ = some (.string vs) := hc 11 _ rfl
      have g12 : W1.cell? ⟨b, off + k * 13 + 12, none⟩ = some (.slice Av nv cv) := hc 12 _ rfl
      have j0 : (0 : Int) ≤ (k : Int) := by omega
      have j1 : (k : Int) < (m : Int) := by omega
      obtain ⟨wa, hwa⟩ : ∃ wa, wa = W1.alloc (.cells #[.int .i64 ok, .int .i64 oi, .int .i64 op, .int .i64 oa, .int .i64 of, .int .i64 ot, .string ox, .string on, .int .i64 vk, .int .i64 vi, .int .i64 vt, .string vs, .slice Av nv cv] 31) := ⟨_, rfl⟩
      have hal : Below W1.heap.size W1 wa := by rw [hwa]; exact (Below.refl _ _).alloc (Nat.le_refl _) _
      have P0 : Hid (Blk wa W1.heap.size 31 #[.int .i64 ok, .int .i64 oi, .int .i64 op, .int .i64 oa, .int .i64 of, .int .i64 ot, .string ox, .string on, .int .i64 vk, .int .i64 vi, .int .i64 vt, .string vs, .slice Av nv cv]) := by rw [hwa]; exact Blk.new _ _ _
      have HBA : Hid (Below w.heap.size w wa) := hbel.out.trans (hal.mono hbel.out.size)
      have HRA : Hid (RB wa wa.heap.size (.slice A9 n9 c9) L) := (hrb.out.below hal).more hal.size
      have HVA : Hid (RV wa wa.heap.size (.slice Av nv cv) vl) := (HRV.out.below hal).more hal.size
      have HWA := Lib.hid hwa
      clear hko hbb hc hrv hoi hwa hal
      by_cases he : opErr L f9 ⟨ok, oi, op, oa, of, ot, ox, on, ⟨vk, vi, vt, vs, vl⟩⟩ = 0
      · have HAP := Lib.hid (applyTop_any L f9 hgd.out A9 n9 c9 ⟨ok, oi, op, oa, of, ot, ox, on, ⟨vk, vi, vt, vs, vl⟩⟩ Av nv cv wa wa.heap.size (Nat.le_refl _) HRA.out HOI.out HVA.out he)
        obtain ⟨f', hf', G'⟩ := hgd.out.applied he
        obtain ⟨L', hL'⟩ : ∃ L', L' = applied L ⟨ok, oi, op, oa, of, ot, ox, on, ⟨vk, vi, vt, vs, vl⟩⟩ := ⟨_, rfl⟩
        rw [← hL'] at HAP G' hf'
        unfold ApplyR at HAP
        dsimp only [AO, Vl.kind, Vl.int_, Vl.to_, Vl.text, Vl.items] at HAP
        have HG' := Lib.hid G'
        have HF' := Lib.hid hf'
        clear he hL' G' hf'
        go_upto_region 8 with fail
        rw [← HWA.out]
        clear g0 g1 g2 g3 g4 g5 g6 g7 g8 g9 g10 g11 g12
        have e0 := fun i => P0.out.cell i
        go_wp2_with fail
        refine HAP.out.mono ?_
        rintro e w13 ⟨⟨g13, cap13, n13, M13, rfl, hml, hmm, hrow, _⟩, hb⟩
        have HB13 : Hid (Below w.heap.size w w13) := HBA.out.trans (hb.mono HBA.out.size)
        have HR13 : Hid (RB w13 w13.heap.size (.slice (some ⟨g13, 0, none⟩) n13 cap13) L') := by
          have := hrow.rb
          rw [hml, hmm] at this
          exact this
        have HCK := Lib.hid (treeCheck_any L' f' (some ⟨g13, 0, none⟩) n13 cap13 w13 w13.heap.size (Nat.le_refl _) HR13.out fun _ => HF'.out)
        rw [HG'.out.clean] at HCK
        have HOR := Lib.hid fun W (hW : Below w13.heap.size w13 W) => order_any L' f' (some ⟨g13, 0, none⟩) n13 cap13 W w13.heap.size hW.size (HR13.out.below hW) fun _ => HF'.out
        have hordL : orderL L' f' = ord L' 41 0 := by unfold orderL; rw [if_pos HG'.out.clean]
        rw [hordL] at HOR
        unfold Ints1 at HOR
        have hlen13 := HR13.out.len.1
        have hful := ord_full HG'.out
        have hpos : 0 < L'.length := by
          obtain ⟨r, hr, _⟩ := HG'.out.kids.root
          exact (List.getElem?_eq_some_iff.1 hr).1
        have hn13 : n13 ≤ 2000 := by have := HG'.out.kids.short; omega
        have HLE : Hid (n13 = L'.length) := hlen13
        have HFU : Hid ((ord L' 41 0).length + 1 = n13) := by show _ = _; omega
        clear hb e0 hml hmm hrow hordL hlen13 hful hpos
        go_wp2_with fail
        refine HCK.out.mono ?_
        rintro e w14 ⟨rfl, hb⟩
        have HB14 : Hid (Below w13.heap.size w13 w14) := hb
        clear hb
        go_wp2_with fail
        refine (HOR.out w14 HB14.out).mono ?_
        rintro e w15 ⟨⟨Ar, nr, cr, rfl, hrr⟩, hb⟩
        have HB15 : Hid (Below w13.heap.size w13 w15) := HB14.out.trans (hb.mono HB14.out.size)
        have HRR : Hid (RIn w15 w15.heap.size (.slice Ar nr cr) (ord L' 41 0)) := hrr.reads fun b hb => hb.2
        have hrl := HRR.out.len.1
        have hfu := HFU.out
        have z1 : ((nr : Int) != (n13 : Int) - 1) = false := by
          have : (nr : Int) = (n13 : Int) - 1 := by omega
          simp [this]
        have hn13b : (1 : Int) ≤ (n13 : Int) := by omega
        clear hb hrr hrl hfu
        go_wp2_with fail
        go_loopg [54] n13 (fun gg s54 wr => ∃ (k2 : Nat), k2 + gg = n13 ∧ s54 = .int .i64 (k2 : Int) ∧ Hid (Below w15.heap.size w15 wr))
        case atStart => exact ⟨0, by omega, rfl, Below.refl _ _⟩
        case round =>
          obtain ⟨k2, hkg2, rfl, hbel2⟩ := hrel
          obtain ⟨W2, rfl⟩ : ∃ W2, W2 = wr := ⟨_, rfl⟩
          have HB2 : Hid (Below w13.heap.size w13 W2) := HB15.out.trans (hbel2.out.mono HB15.out.size)
          by_cases hk2 : k2 < n13
          · obtain ⟨x, hx⟩ : ∃ x, L'[k2]? = some x := ⟨_, List.getElem?_eq_getElem (by have := HLE.out; omega)⟩
            have hxm := List.mem_of_getElem? hx
            have HT := Lib.hid (ttB HG'.out hxm)
            have hxi : I64 x.id := by have := HG'.out.kids.ids x hxm; unfold I64; omega
            obtain ⟨b2, off2, Ak, nk, ck, Ap, np, cp, hA2, hbb2, q0, q1, q2, q3, q4, _, _⟩ := (HR13.out.below HB2.out).at_ hx
            obtain ⟨rfl, rfl⟩ : b2 = g13 ∧ off2 = 0 := by
              injection hA2 with e
              injection e with e1 e2
              exact ⟨e1.symm, e2.symm⟩
            rw [Nat.zero_add] at q0 q1 q2 q3 q4
            obtain ⟨wb, hwb⟩ : ∃ wb, wb = W2.alloc (.cells #[.int .i64 x.id, .int .i64 x.parent, .slice Ak nk ck, .string x.text, .slice Ap np cp] 38) := ⟨_, rfl⟩
            have hal : Below W2.heap.size W2 wb := by rw [hwb]; exact (Below.refl _ _).alloc (Nat.le_refl _) _
            have Q0 : Hid (Blk wb W2.heap.size 38 #[.int .i64 x.id, .int .i64 x.parent, .slice Ak nk ck, .string x.text, .slice Ap np cp]) := by rw [hwb]; exact Blk.new _ _ _
            have HB3 : Hid (Below w13.heap.size w13 wb) := HB2.out.trans (hal.mono HB2.out.size)
            have HB4 : Hid (Below w15.heap.size w15 wb) := hbel2.out.trans (hal.mono hbel2.out.size)
            have HPA := Lib.hid (treePath_any L' f' (some ⟨b2, 0, none⟩) n13 cap13 x.id hxi wb w13.heap.size HB3.out.size (HR13.out.below HB3.out) fun _ => HF'.out)
            rw [HT.out.ci] at HPA
            unfold IntsE at HPA
            obtain ⟨P, hP⟩ : ∃ P, P = pathL L' f' x.id := ⟨_, rfl⟩
            rw [← hP] at HPA HT
            obtain ⟨d, hd⟩ : ∃ d, d = dOf f' x.id := ⟨_, rfl⟩
            rw [← hd] at HT
            have HPG := Lib.hid fun W (hW : Below w13.heap.size w13 W) => pages_any L' f' (some ⟨b2, 0, none⟩) n13 cap13 W w13.heap.size hW.size (HR13.out.below hW) fun _ => HF'.out
            have hpl : pagesL L' f' = kids0 L' := by unfold pagesL; rw [if_pos HG'.out.clean]
            rw [hpl] at HPG
            unfold Ints1 at HPG
            have HWB := Lib.hid hwb
            obtain ⟨⟨xi, xp, xk, xt, xs⟩, hxe⟩ : ∃ y, y = x := ⟨_, rfl⟩
            rw [← hxe] at HPA HT q0 q1 q3 HWB Q0
            dsimp only at HPA q0 q1 q3 HWB Q0
            have i0 : (0 : Int) ≤ (k2 : Int) := by omega
            have i1 : (k2 : Int) < (n13 : Int) := by omega
            clear hx hxm hxi hA2 hbb2 hwb hal hP hd hpl hxe
            go_upto_region 20 with fail
            rw [← HWB.out]
            clear q0 q1 q2 q3 q4
            have c0 := Q0.out.cell 0
            go_wp2_with fail
            refine HPA.out.mono ?_
            rintro e w22 ⟨⟨Ah, nh, ch, rfl, hrh⟩, hb⟩
            have HB22 : Hid (Below w15.heap.size w15 w22) := HB4.out.trans (hb.mono HB4.out.size)
            have HB23 : Hid (Below w13.heap.size w13 w22) := HB3.out.trans (hb.mono HB3.out.size)
            have Q2 := Lib.hid (Q0.out.below hb Q0.out.lt)
            have HRH : Hid (RIn w22 w22.heap.size (.slice Ah nh ch) P) := hrh.reads fun b hb => hb.2
            have hnh : nh = d := HRH.out.len.1.trans HT.out.len
            subst hnh
            clear hb hrh c0
            have c0 := Q2.out.cell 0
            have c1 := Q2.out.cell 1
            have HIX := Lib.hid fun W (hW : Below w22.heap.size w22 W) (z : Int) => indexI_any (ord L' 41 0) Ar nr cr z W w15.heap.size ((HRR.out.below HB22.out).below (hW.mono HB22.out.size))
            go_upto_region 21 with fail
            go_cut [91] (fun s91 wc => s91 = .bool false ∧ Hid (Below w22.heap.size w22 wc))
            case first =>
              by_cases hd0 : nh = 0
              · subst hd0
                go_quiet (fail)
                go_wp2_with fail
                go_meet
                exact ⟨rfl, bdrew (Below.refl _ _) _⟩
              · obtain ⟨y, hy0, hyk⟩ := HT.out.first (by omega)
                have hyl := HT.out.last (by omega)
                obtain ⟨bh, offh, rfl, hbh, cy⟩ := HRH.out.at_ hy0
                obtain ⟨bh2, offh2, hA3, _, cl⟩ := HRH.out.at_ hyl
                obtain ⟨rfl, rfl⟩ : bh2 = bh ∧ offh2 = offh := by
                  injection hA3 with e
                  injection e with e1 e2
                  exact ⟨e1.symm, e2.symm⟩
                rw [Nat.add_zero] at cy
                have KC : Hid (∀ W, Below w22.heap.size w22 W → W.cell? ⟨bh2, offh2 + (nh - 1), none⟩ = some (.int .i64 xi) ∧ W.cell? ⟨bh2, offh2, none⟩ = some (.int .i64 y) ∧ W.cell? ⟨W2.heap.size, 0, none⟩ = some (.int .i64 xi)) := fun W hW => ⟨(hW.cell (p := ⟨bh2, offh2 + (nh - 1), none⟩) hbh).trans cl, (hW.cell (p := ⟨bh2, offh2, none⟩) hbh).trans cy, (Q2.out.below hW Q2.out.lt).cell 0⟩
                obtain ⟨m1, hm1⟩ : ∃ m1, m1 = nh - 1 := ⟨_, rfl⟩
                rw [← hm1] at KC cl
                have hsum : IntKind.i64.wrap ((nh : Int) - 1) = (m1 : Int) := by
                  have : (nh : Int) - 1 = (m1 : Int) := by omega
                  rw [this]
                  exact IntWalk.i64_in _ (by have hnb : nh * 8 ≤ 140737488351232 := HRH.out.len.2.2; omega)
                have p0 : (0 : Int) < (nh : Int) := by omega
                have p1 : 0 < nh := by omega
                have p2 : (0 : Int) ≤ (m1 : Int) := by omega
                have p3 : (m1 : Int) < (nh : Int) := by omega
                have p4 : m1 < nh := by omega
                have HYK := Lib.hid hyk
                clear hd0 hy0 hyk hyl hA3 hbh cy cl hm1
                have VV : Below w22.heap.size w22 w22.drew := (Below.refl _ _).drew
                go_region_held3 (fun w' => w'.cell? ⟨bh2, offh2 + m1, none⟩ = some (.int .i64 xi) ∧ w'.cell? ⟨bh2, offh2, none⟩ = some (.int .i64 y) ∧ w'.cell? ⟨W2.heap.size, 0, none⟩ = some (.int .i64 xi))
                  (exact KC.out _ VV)
                  (first
                    | (go_at_call 15; refine (HPG.out _ (HB23.out.trans (VV.mono HB23.out.size))).mono ?_; rintro e v1 ⟨⟨A1, n1, c1, rfl, hr1⟩, hb1⟩; have EA := hr1.reads (B := v1.heap.size) fun b hb => hb.2; have VV := VV.trans (hb1.mono VV.size); clear hr1 hb1)
                    | (go_at_call 14; have CT := containsI_any (kids0 L') A1 n1 c1 y _ _ EA; rw [decide_eq_true HYK.out] at CT; refine CT.mono ?_; rintro e v2 ⟨rfl, rfl⟩; clear CT))
                go_wp2_with fail
                go_meet
                exact ⟨rfl, Lib.hid VV⟩
            case rest =>
            obtain ⟨rfl, hwc⟩ := hcut
            obtain ⟨w24, hww⟩ : ∃ w24, w24 = wc := ⟨_, rfl⟩
            rw [← hww] at hwc ⊢
            clear hww c0 c1
            have Q4 := Lib.hid (Q2.out.below hwc.out Q2.out.lt)
            have HBZ : Hid (Below w15.heap.size w15 w24) := HB22.out.trans (hwc.out.mono HB22.out.size)
            have c0 := Q4.out.cell 0
            have c1 := Q4.out.cell 1
            have HI1 := Lib.hid (HIX.out w24 hwc.out xi)
            have HI2 := Lib.hid (HIX.out w24 hwc.out xp)
            obtain ⟨V1, hV1⟩ : ∃ V1, V1 = ixOf (ord L' 41 0) xi := ⟨_, rfl⟩
            obtain ⟨V2, hV2⟩ : ∃ V2, V2 = ixOf (ord L' 41 0) xp := ⟨_, rfl⟩
            have HBF : Hid (xi ≠ 0 → xp ≠ 0 → V2 < V1) := fun a b => by rw [hV1, hV2]; exact HT.out.before a b
            rw [← hV1] at HI1
            rw [← hV2] at HI2
            clear hV1 hV2 hwc
            go_wp2_with fail
            refine HI1.out.mono ?_
            rintro e w25 ⟨rfl, hw⟩
            rw [hw]
            clear hw
            by_cases hx0 : xi = 0
            · subst hx0
              go_wp2_with fail
              go_roundg (n13 - (k2 + 1))
              case measure => omega
              case rel => exact ⟨k2 + 1, by omega, by go_num, HBZ⟩
            · have hx0' : (xi != 0) = true := by simpa using hx0
              by_cases hp0 : xp = 0
              · subst hp0
                go_wp2_with fail
                go_roundg (n13 - (k2 + 1))
                case measure => omega
                case rel => exact ⟨k2 + 1, by omega, by go_num, HBZ⟩
              · have hp0' : (xp != 0) = true := by simpa using hp0
                have hlt := HBF.out hx0 hp0
                have hge : ¬ V1 ≤ V2 := by omega
                clear hx0 hp0
                go_wp2_with fail
                refine HI2.out.mono ?_
                rintro e w26 ⟨rfl, hw⟩
                rw [hw]
                clear hw
                go_wp2_with fail
                go_roundg (n13 - (k2 + 1))
                case measure => omega
                case rel => exact ⟨k2 + 1, by omega, by go_num, HBZ⟩
          · obtain rfl : k2 = n13 := by omega
            go_wp2_with fail
            go_roundg (m - (k + 1))
            case measure => omega
            case rel => exact ⟨k + 1, some ⟨g13, 0, none⟩, k2, cap13, L', f', by omega, rfl, by go_num, HG', (HR13.out.below (HB15.out.trans (hbel2.out.mono HB15.out.size))).more (HB15.out.trans (hbel2.out.mono HB15.out.size)).size, HB13.out.trans ((HB15.out.trans (hbel2.out.mono HB15.out.size)).mono HB13.out.size)⟩
      · have HAP := Lib.hid (applyTop_bad L f9 hgd.out A9 n9 c9 ⟨ok, oi, op, oa, of, ot, ox, on, ⟨vk, vi, vt, vs, vl⟩⟩ Av nv cv wa wa.heap.size (Nat.le_refl _) HRA.out HOI.out HVA.out he)
        obtain ⟨er, her⟩ : ∃ er, er = opErr L f9 ⟨ok, oi, op, oa, of, ot, ox, on, ⟨vk, vi, vt, vs, vl⟩⟩ := ⟨_, rfl⟩
        rw [← her] at HAP he
        have h0' : (er != 0) = true := by simpa using he
        dsimp only [AO, Vl.kind, Vl.int_, Vl.to_, Vl.text, Vl.items] at HAP
        clear he her
        go_upto_region 8 with fail
        rw [← HWA.out]
        clear g0 g1 g2 g3 g4 g5 g6 g7 g8 g9 g10 g11 g12
        have e0 := fun i => P0.out.cell i
        go_wp2_with fail
        refine HAP.out.mono ?_
        rintro e w13 ⟨rfl, hb⟩
        have HB13 : Hid (Below w.heap.size w w13) := HBA.out.trans (hb.mono HBA.out.size)
        have HR13 : Hid (RB w13 w13.heap.size (.slice A9 n9 c9) L) := (HRA.out.below hb).more hb.size
        clear hb e0
        go_wp2_with fail
        go_roundg (m - (k + 1))
        case measure => omega
        case rel => exact ⟨k + 1, A9, n9, c9, L, f9, by omega, rfl, by go_num, hgd, HR13, HB13⟩
    · obtain rfl : k = m := by omega
      go_wp2_with fail
      go_ret
      exact ⟨rfl, hbel.out⟩
/-- the law, for every base and all operations -/
theorem ttLaw_any (l : List Bl) (f : Int → Option Int) (hf : DepOk l f) (A : Option Addr) (n c : Nat) (os : List Opn) (Ao : Option Addr) (no co : Nat) (w : World) (h : RB w w.heap.size (.slice A n c) l) (ho : ROs w w.heap.size (.slice Ao no co) os) :
    Calls Tryz.prog 3 #[.slice A n c, .slice Ao no co] w fun e w' => e = .returned (.bool true) ∧ Below w.heap.size w w' := by
  by_cases h0 : baseE l f = 0
  · exact ttLaw_good l f hf A n c os Ao no co w h ho h0 _ rfl
  · exact ttLaw_bad l f hf A n c _ w h h0
end Go.Proofs.YtmkicfjcgbfaaaaGreat
