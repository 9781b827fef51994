/-
  DERIVED. The walk of the reference's OpError. Conditions: sizes; a base without error.
  By an AI agent.
-/
import Derived.Test.YtmkicfjcgbfaaaaGreatTg32
import Derived.Test.YtmkicfjcgbfaaaaGreatTg28
import Derived.Test.YtmkicfjcgbfaaaaGreatTg11
import Derived.Deep.RegionHeld3
namespace Go.Proofs.YtmkicfjcgbfaaaaGreat
open Go.RowKit

theorem Good.pos_root {l : List Bl} {f : Int → Option Int} (G : Good l f) {id : Int} (h : 0 ≤ posOf l id) : posOf l id ≤ 0 ↔ id = 0 := by
  obtain ⟨r, h1, h2, _⟩ := G.kids.root
  have h0 := posOf_of G.kids.rise h1
  rw [h2] at h0
  constructor
  · intro hp
    rcases posOf_spec l id with ⟨e, _⟩ | ⟨i, b, e, hb, hbi, _⟩
    · omega
    · obtain rfl : i = 0 := by omega
      rw [h1] at hb
      obtain rfl := Option.some.inj hb
      rw [← hbi, h2]
  · rintro rfl
    omega

set_option maxRecDepth 100000 in
set_option maxHeartbeats 16000000 in
/-- the reference's OpError, but for a property -/
theorem opError_four (l : List Bl) (f : Int → Option Int) (G : Good l f) (Al : Option Addr) (n cl : Nat) (o : Opn) (Av : Option Addr) (nv cv : Nat) (w : World) (B : Nat) (hB : B ≤ w.heap.size) (h : RB w B (.slice Al n cl) l) (ho : OI o) (hv : RV w B (.slice Av nv cv) o.val.items) (hk5 : o.kind ≠ 5) :
    Calls Tryz.prog 21 #[.slice Al n cl, AO (o, .slice Av nv cv)] w fun e w' => e = .returned (.int .i64 (opErr l f o)) ∧ Below w.heap.size w w' := by
  have hnv : nv = o.val.items.length := by
    obtain ⟨A', n', c', M, h1, e, h2, _⟩ := hv.open_
    injection e with _ e1
    rw [e1, h2, ← h1, List.length_map]
  have HUS := Lib.hid fun (hk : 1 ≤ o.kind ∧ o.kind ≤ 5) W => used_any o Av nv cv W hnv hk
  have HIR := Lib.hid fun a b c W => inRange_any a b c W
  have HTE := Lib.hid fun W => textError_any o.text W
  have HNM := Lib.hid fun W => checkName_any o.name W
  obtain ⟨dv, hdv⟩ := hv
  have HCV := Lib.hid fun W (hW : Below w.heap.size w W) => checkValue_any dv (o.val, .slice Av nv cv) W B (Nat.le_trans hB hW.size) (hdv.below (hW.mono hB))
  have HN := Lib.hid h.len.1
  have hbg : n * 80 ≤ 140737488351232 := h.len.2.2
  have H := Lib.hid h
  have HTX : Hid (o.text.size ≤ 140737488351232) := ho.2.2.2.2.2
  obtain ⟨V, hV⟩ : ∃ V, V = opErr l f o := ⟨_, rfl⟩
  rw [← hV]
  unfold opErr at hV
  have HV := Lib.hid hV
  obtain ⟨wa, hwa⟩ : ∃ wa, wa = w.alloc (.cells (opC o (.slice Av nv cv)) 31) := ⟨_, rfl⟩
  have HBA : Hid (Below w.heap.size w wa) := by rw [hwa]; exact (Below.refl _ _).alloc (Nat.le_refl _) _
  have P0 : Hid (Blk wa w.heap.size 31 (opC o (.slice Av nv cv))) := by rw [hwa]; exact Blk.new _ _ _
  have HWA := Lib.hid hwa
  dsimp only [AO] at HUS ⊢
  dsimp only [AV] at HCV
  clear h hV hwa hdv ho hnv
  go_enter Tryz.func21, Tryz.ntmps21
  go_upto_region 1 with fail
  rw [← HWA.out]
  have e0 := fun i => P0.out.cell i
  go_wp2_with fail
  refine (HIR.out _ _ _ _).mono ?_
  rintro e w1 ⟨rfl, hw1⟩
  rw [hw1]
  clear hw1
  by_cases hk : 1 ≤ o.kind ∧ o.kind ≤ 5
  case neg =>
    have HL : Hid (V = 10) := HV.out.trans (if_pos (by unfold outI; exact decide_eq_true (by omega)))
    rw [decide_eq_false hk]
    clear hk
    go_wp2_with fail
    go_ret
    exact ⟨by rw [HL.out]; rfl, HBA.out⟩
  have HV1 := Lib.hid (HV.out.trans (if_neg (by unfold outI; rw [decide_eq_true_eq]; omega)))
  rw [decide_eq_true hk]
  have HU := Lib.hid (HUS.out hk)
  obtain ⟨uq, huq⟩ : ∃ q, q = usedB o := ⟨_, rfl⟩
  rw [← huq] at HU HV1
  have HK := Lib.hid hk
  clear hk huq
  go_wp2_with fail
  refine (HU.out wa).mono ?_
  rintro e w1 ⟨rfl, hb⟩
  have HB1 : Hid (Below w.heap.size w w1) := HBA.out.trans (hb.mono HBA.out.size)
  have P1 := Lib.hid (P0.out.below hb P0.out.lt)
  clear hb e0
  cases uq
  case false =>
    have HL : Hid (V = 1) := HV1.out.trans (if_pos rfl)
    go_wp2_with fail
    go_ret
    exact ⟨by rw [HL.out]; rfl, HB1.out⟩
  have HV2 := Lib.hid (HV1.out.trans (if_neg (by decide)))
  have PB := P1
  have HBB := HB1
  have KS : Hid (∀ W, Below w1.heap.size w1 W → W.cell? ⟨w.heap.size, 1, none⟩ = some (.int .i64 o.id) ∧ W.cell? ⟨w.heap.size, 2, none⟩ = some (.int .i64 o.parent)) := fun W hW =>
    have hz := fun i => (hW.cell (p := ⟨w.heap.size, i, none⟩) PB.out.lt).trans (PB.out.cell i)
    ⟨hz 1, hz 2⟩
  have HAT : Hid (∀ (id : Int) (W : World), Below w1.heap.size w1 W → Calls Tryz.prog 71 #[.slice Al n cl, .int .i64 id] W fun e w' => e = .returned (.int .i64 (posOf l id)) ∧ Below w1.heap.size w1 w') := fun id W hW =>
    (at_any l Al n cl id W B (by have := hW.size; have := HB1.out.size; omega) (H.out.below ((HB1.out.trans (hW.mono HB1.out.size)).mono hB))).mono fun e w' h => ⟨h.1, hW.trans (h.2.mono hW.size)⟩
  obtain ⟨s1, s2⟩ := KS.out w1 (Below.refl _ _)
  go_upto_region 5 with fail
  go_region_held3 (fun W => W.cell? ⟨w.heap.size, 1, none⟩ = some (.int .i64 o.id) ∧ W.cell? ⟨w.heap.size, 2, none⟩ = some (.int .i64 o.parent))
    (first | exact KS.out _ HB9.out | exact KS.out _ (HB9.out.alloc HB9.out.size _) | exact KS.out _ (Below.refl _ _) | exact KS.out _ (Below.refl _ _).drew | go_keep)
    ((go_at_call 71; refine (HAT.out _ _ (by first | exact HB9.out | exact HB9.out.trans (Below.refl _ _).drew | exact Below.refl _ _ | exact (Below.refl _ _).drew)).mono ?_; rintro e w9 ⟨rfl, hb⟩; have HB9 := Lib.hid hb; clear hb))
  obtain ⟨w2, rfl⟩ : ∃ w2, w2 = w9 := ⟨_, rfl⟩
  have HB2 : Hid (Below w.heap.size w w2) := HB1.out.trans (HB9.out.mono HB1.out.size)
  have P2 := Lib.hid (P1.out.below HB9.out P1.out.lt)
  clear s1 s2 PB HBB
  have e0 := fun i => P2.out.cell i
  by_cases k1 : o.kind = 1
  · have HV3 := Lib.hid (HV2.out.trans (if_pos k1))
    have k1' : (o.kind == 1) = true := by simpa using k1
    have HVI : Hid (V = insErr l f o) := HV3.out
    unfold insErr at HVI
    clear k1
    go_wp2_with fail
    refine (HIR.out _ _ _ _).mono ?_
    rintro e w3 ⟨rfl, hw3⟩
    rw [hw3]
    clear hw3
    by_cases h1 : 1 ≤ o.id ∧ o.id ≤ 1000000
    case neg =>
      have HL : Hid (V = 2) := HVI.out.trans (if_pos (by omega))
      rw [decide_eq_false h1]
      clear h1
      go_wp2_with fail
      go_ret
      exact ⟨by rw [HL.out]; rfl, HB2.out⟩
    have HV4 := Lib.hid (HVI.out.trans (if_neg (by omega)))
    rw [decide_eq_true h1]
    clear h1
    by_cases h3 : 0 ≤ posOf l o.id
    · have HL : Hid (V = 6) := HV4.out.trans (if_pos h3)
      go_wp2_with fail
      go_ret
      exact ⟨by rw [HL.out]; rfl, HB2.out⟩
    have HV5 := Lib.hid (HV4.out.trans (if_neg h3))
    by_cases h4 : posOf l o.parent < 0
    · have HL : Hid (V = 7) := HV5.out.trans (if_pos h4)
      go_wp2_with fail
      go_ret
      exact ⟨by rw [HL.out]; rfl, HB2.out⟩
    have HV6 := Lib.hid (HV5.out.trans (if_neg h4))
    obtain ⟨p, b, d, hp, hlp, hbi, hba, hd, hd40, hdF⟩ := G.blk_at (id := o.parent) (by omega)
    rw [hba, hdF] at HV6
    rw [hp]
    have hpn : p < n := by have := (List.getElem?_eq_some_iff.1 hlp).1; have := HN.out; omega
    obtain ⟨bb, off, Ak, nk, ck, Ap, np, cp, rfl, hbb, _, _, g2, _, _, hK, _⟩ := H.out.at_ hlp
    have hkl : nk = b.kids.length := hK.len.1
    have hkb := hK.len.2.2
    rw [← hkl] at HV6
    have c2 := (HB2.out.cell (p := ⟨bb, off + p * 5 + 2, none⟩) (by show bb < _; omega)).trans g2
    have HPA := Lib.hid fun W (hW : Below w.heap.size w W) => pathOf_any l G.kids (some ⟨bb, off, none⟩) n cl B d o.parent W hd hd40 (Nat.le_trans hB hW.size) (H.out.below (hW.mono hB))
    have i0 : (0 : Int) ≤ (p : Int) := by omega
    have i1 : (p : Int) < (n : Int) := by omega
    have i2 : ¬ ((p : Int) < 0) := by omega
    have HPL : Hid ((pth l d o.parent).length = d) := pth_len d o.parent
    clear hK hkl hp hlp hba hd hdF h4 g2
    by_cases h5 : o.at_ < 0
    · have HL : Hid (V = 2) := HV6.out.trans (if_pos (.inl h5))
      go_wp2_with fail
      go_quiet (fail)
      go_wp2_with fail
      go_ret
      exact ⟨by rw [HL.out]; rfl, bdrew HB2.out _⟩
    go_wp2_with fail
    go_quiet (fail)
    have HB3 : Hid (Below w.heap.size w (w2.drewN nq)) := bdrew HB2.out nq
    have P3 := Lib.hid (P2.out.drewN nq)
    have c3 : (w2.drewN nq).cell? ⟨bb, off + p * 5 + 2, none⟩ = some (.slice Ak nk ck) := c2
    clear e0 c2
    have e0 := fun i => P3.out.cell i
    by_cases h6 : (nk : Int) < o.at_
    · have HL : Hid (V = 2) := HV6.out.trans (if_pos (.inr h6))
      go_wp2_with fail
      go_ret
      exact ⟨by rw [HL.out]; rfl, HB3.out⟩
    have HV7 := Lib.hid (HV6.out.trans (if_neg (by omega)))
    obtain ⟨tx, htx⟩ : ∃ t, t = txErr o.text := ⟨_, rfl⟩
    rw [← htx] at HTE HV7
    clear htx
    go_wp2_with fail
    refine (HTE.out _).mono ?_
    rintro e w4 ⟨rfl, hw4⟩
    rw [hw4]
    clear hw4
    by_cases h7 : tx = 0
    case neg =>
      have HL : Hid (V = tx) := HV7.out.trans (if_pos h7)
      have h7' : (tx != 0) = true := by simpa using h7
      clear h7
      go_wp2_with fail
      refine (HTE.out _).mono ?_
      rintro e w4 ⟨rfl, hw4⟩
      rw [hw4]
      clear hw4
      go_wp2_with fail
      go_ret
      exact ⟨by rw [HL.out]; rfl, HB3.out⟩
    have HV8 := Lib.hid (HV7.out.trans (if_neg (fun e => e h7)))
    subst h7
    rw [← HN.out] at HV8
    by_cases h8 : 2000 ≤ n
    · have HL : Hid (V = 14) := HV8.out.trans (if_pos (.inl h8))
      have h8' : (2000 : Int) ≤ (n : Int) := by omega
      go_wp2_with fail
      go_ret
      exact ⟨by rw [HL.out]; rfl, HB3.out⟩
    have h8' : ¬ (2000 : Int) ≤ (n : Int) := by omega
    by_cases h9 : 500 ≤ nk
    · have HL : Hid (V = 14) := HV8.out.trans (if_pos (.inr h9))
      have h9' : (500 : Int) ≤ (nk : Int) := by omega
      go_wp2_with fail
      go_ret
      exact ⟨by rw [HL.out]; rfl, HB3.out⟩
    have h9' : ¬ (500 : Int) ≤ (nk : Int) := by omega
    have HV9 := Lib.hid (HV8.out.trans (if_neg (by omega)))
    go_wp2_with fail
    refine (HPA.out _ HB3.out).mono ?_
    rintro e w5 ⟨⟨A', n', c', rfl, _, hr, _, _⟩, hb⟩
    have HB5 : Hid (Below w.heap.size w w5) := HB3.out.trans (hb.mono HB3.out.size)
    have hn' : n' = d := by
      have := (hr.reads (B := w5.heap.size) fun b hb => hb.2).len.1
      rw [HPL.out] at this
      exact this
    clear hb hr
    subst hn'
    by_cases h10 : 40 ≤ (n' : Int)
    · have HL : Hid (V = 13) := HV9.out.trans (if_pos h10)
      go_wp2_with fail
      go_ret
      exact ⟨by rw [HL.out]; rfl, HB5.out⟩
    · have HL : Hid (V = 0) := HV9.out.trans (if_neg h10)
      go_wp2_with fail
      go_ret
      exact ⟨by rw [HL.out]; rfl, HB5.out⟩
  have HV3 := Lib.hid (HV2.out.trans (if_neg k1))
  have k1' : (o.kind == 1) = false := by simpa using k1
  by_cases h1 : posOf l o.id ≤ 0
  · have HL : Hid (V = 7) := by
      show _ = _
      rw [HV3.out]
      by_cases k3 : o.kind = 3
      · rw [if_pos k3]
        unfold movErr
        rw [if_pos]
        by_cases q : posOf l o.id < 0
        · exact .inr (.inl q)
        · exact .inl ((G.pos_root (by omega)).1 h1)
      · rw [if_neg k3, if_pos (by omega)]
    go_wp2_with fail
    go_ret
    exact ⟨by rw [HL.out]; rfl, HB2.out⟩
  obtain ⟨p, b, d, hp, hlp, hbi, hba, hd, hd40, hdF⟩ := G.blk_at (id := o.id) (by omega)
  have hpn : p < n := by have := (List.getElem?_eq_some_iff.1 hlp).1; have := HN.out; omega
  obtain ⟨bb, off, Ak, nk, ck, Ap, np, cp, rfl, hbb, _, _, g2, g3, g4, hK, hPr⟩ := H.out.at_ hlp
  have hkl : nk = b.kids.length := hK.len.1
  have hpl : np = b.props.length := hPr.len.1
  have htb : b.text.size ≤ 2000 := by
    have := (G.tree.loc b (List.mem_of_getElem? hlp)).1
    unfold txErr at this
    split at this
    · omega
    · omega
  have c2 := (HB2.out.cell (p := ⟨bb, off + p * 5 + 2, none⟩) (by show bb < _; omega)).trans g2
  have c3 := (HB2.out.cell (p := ⟨bb, off + p * 5 + 3, none⟩) (by show bb < _; omega)).trans g3
  have c4 := (HB2.out.cell (p := ⟨bb, off + p * 5 + 4, none⟩) (by show bb < _; omega)).trans g4
  have C2 := Lib.hid c2
  have C3 := Lib.hid c3
  have C4 := Lib.hid c4
  have HPR := Lib.hid hPr
  have HBA1 := Lib.hid hba
  have HD := Lib.hid hd
  have PB := P2
  have HBB := HB2
  have hid0 : o.id ≠ 0 := fun e => h1 ((G.pos_root (by omega)).2 e)
  have HID0 := Lib.hid hid0
  have HP := Lib.hid hp
  rw [hp] at h1 ⊢
  have i0 : (0 : Int) ≤ (p : Int) := by omega
  have i1 : (p : Int) < (n : Int) := by omega
  clear hK hp hlp hba hd hdF hid0 c2 c3 c4 hPr
  have HPLN : Hid (np = b.props.length) := hpl
  have HKLN : Hid (nk = b.kids.length) := hkl
  clear hpl hkl
  by_cases k2 : o.kind = 2
  · have HV4 : Hid (V = if 0 < nk then 11 else 0) := by
      show _ = _
      rw [HV3.out, if_neg (by omega), if_neg (by have := HP.out; omega), if_pos k2, HBA1.out, HKLN.out]
    have k2' : (o.kind == 2) = true := by simpa using k2
    have c2 := C2.out
    clear k1 k2
    by_cases h5 : 0 < nk
    · have HL := Lib.hid (HV4.out.trans (if_pos h5))
      have h5' : (0 : Int) < (nk : Int) := by omega
      go_wp2_with fail
      go_ret
      exact ⟨by rw [HL.out]; rfl, HB2.out⟩
    · have HL := Lib.hid (HV4.out.trans (if_neg h5))
      have h5' : ¬ (0 : Int) < (nk : Int) := by omega
      go_wp2_with fail
      go_ret
      exact ⟨by rw [HL.out]; rfl, HB2.out⟩
  have k2' : (o.kind == 2) = false := by simpa using k2
  by_cases k3 : o.kind = 3
  · have k3' : (o.kind == 3) = true := by simpa using k3
    have HVM : Hid (V = movErr l f o) := by show _ = _; rw [HV3.out, if_pos k3]
    unfold movErr at HVM
    clear k1 k2 k3
    by_cases h4 : posOf l o.parent < 0
    · have HL : Hid (V = 7) := HVM.out.trans (if_pos (.inr (.inr h4)))
      go_wp2_with fail
      go_ret
      exact ⟨by rw [HL.out]; rfl, HB2.out⟩
    have HV4 := Lib.hid (HVM.out.trans (if_neg (by have := HID0.out; have := HP.out; omega)))
    obtain ⟨q, b', d', hq, hlq, hbi', hba', hd', hd40', hdF'⟩ := G.blk_at (id := o.parent) (by omega)
    rw [hba', hdF', Int.toNat_natCast] at HV4
    rw [hq]
    have hqn : q < n := by have := (List.getElem?_eq_some_iff.1 hlq).1; have := HN.out; omega
    obtain ⟨b1, off1, Ak', nk', ck', Ap', np', cp', e1, hbb', _, _, k2c, _, _, hK', _⟩ := H.out.at_ hlq
    injection e1 with e1
    injection e1 with e1 e2
    subst e1 e2
    have hk500 : nk' ≤ 500 := by have := hK'.len.1; have := G.kids.few b' (List.mem_of_getElem? hlq); omega
    have HKL' := Lib.hid hK'
    have d2 := (HB2.out.cell (p := ⟨bb, off + q * 5 + 2, none⟩) (by show bb < _; omega)).trans k2c
    have D2 := Lib.hid d2
    have HWO : Hid (∀ W, Below w2.heap.size w2 W → Calls Tryz.prog 76 #[.slice Ak' nk' ck', .int .i64 o.id] W (IntsR (lessK b'.kids o.id) W)) := fun W hW =>
      without_any b'.kids Ak' nk' ck' o.id W B (by have := hW.size; have := HB2.out.size; omega) (HKL'.out.below ((HB2.out.trans (hW.mono HB2.out.size)).mono hB)) (by omega)
    have HPA := Lib.hid fun W (hW : Below w.heap.size w W) => pathOf_any l G.kids (some ⟨bb, off, none⟩) n cl B d' o.parent W hd' hd40' (Nat.le_trans hB hW.size) (H.out.below (hW.mono hB))
    have HHT := Lib.hid fun W (hW : Below w.heap.size w W) => heightR_any l f G (some ⟨bb, off, none⟩) n cl B d o.id W HD.out (Nat.le_trans hB hW.size) (H.out.below (hW.mono hB))
    have y0 : (0 : Int) ≤ (q : Int) := by omega
    have y1 : (q : Int) < (n : Int) := by omega
    have y2 : ¬ ((q : Int) < 0) := by omega
    have HPL : Hid ((pth l d' o.parent).length = d') := pth_len d' o.parent
    obtain ⟨hg, hhg⟩ : ∃ hg, hg = hgt l 41 o.id := ⟨_, rfl⟩
    have hg41 : hg ≤ 41 := by have := hgt_le l 41 o.id; omega
    rw [← hhg] at HV4 HHT
    obtain ⟨kn, hkn⟩ : ∃ kn, kn = (lessK b'.kids o.id).length := ⟨_, rfl⟩
    rw [← hkn] at HV4
    have HKN := Lib.hid hkn
    clear hK' hq hlq hba' hd' hdF' h4 k2c hhg hkn
    go_upto_region 31 with fail
    clear e0
    have KS : Hid (∀ W, Below w2.heap.size w2 W → W.cell? ⟨w.heap.size, 1, none⟩ = some (.int .i64 o.id) ∧ W.cell? ⟨bb, off + q * 5 + 2, none⟩ = some (.slice Ak' nk' ck')) := fun W hW =>
      have hz := fun i => (hW.cell (p := ⟨w.heap.size, i, none⟩) PB.out.lt).trans (PB.out.cell i)
      ⟨hz 1, (hW.cell (p := ⟨bb, off + q * 5 + 2, none⟩) (by have := HBB.out.size; show bb < _; omega)).trans D2.out⟩
    obtain ⟨s1, s2⟩ := KS.out w2 (Below.refl _ _)
    clear d2
    go_region_held3 (fun W => W.cell? ⟨w.heap.size, 1, none⟩ = some (.int .i64 o.id) ∧ W.cell? ⟨bb, off + q * 5 + 2, none⟩ = some (.slice Ak' nk' ck'))
      (first | exact KS.out _ HB9.out | exact KS.out _ (HB9.out.alloc HB9.out.size _) | exact KS.out _ (Below.refl _ _) | exact KS.out _ (Below.refl _ _).drew | go_keep)
      ((go_at_call 76; refine (HWO.out _ (by first | exact HB9.out | exact HB9.out.trans (Below.refl _ _).drew | exact Below.refl _ _ | exact (Below.refl _ _).drew)).mono ?_; rintro e w3 ⟨⟨A3, n3, c3, rfl, _, hr3, _, hn3⟩, hb⟩; have HR3 := Lib.hid hr3; have HB9 : Hid (Below w2.heap.size w2 w3) := (by first | exact (Below.refl w2.heap.size w2).drew.trans hb | exact hb); clear hb hr3))
    have HB3 : Hid (Below w.heap.size w w3) := HB2.out.trans (HB9.out.mono HB2.out.size)
    have P3 := Lib.hid (P2.out.below HB9.out P2.out.lt)
    have HN3 : Hid (n3 = kn) := by
      show _ = _
      rw [HKN.out]; exact (HR3.out.reads (B := w3.heap.size) fun b hb => hb.2).len.1
    obtain rfl : n3 = kn := HN3.out
    clear s1 s2 PB HBB HB9 KS
    have PB := P3
    have HBB := HB3
    have KS : Hid (∀ W, Below w3.heap.size w3 W → W.cell? ⟨w.heap.size, 1, none⟩ = some (.int .i64 o.id) ∧ W.cell? ⟨w.heap.size, 2, none⟩ = some (.int .i64 o.parent)) := fun W hW =>
      have hz := fun i => (hW.cell (p := ⟨w.heap.size, i, none⟩) PB.out.lt).trans (PB.out.cell i)
      ⟨hz 1, hz 2⟩
    obtain ⟨s1, s2⟩ := KS.out w3 (Below.refl _ _)
    have HPA3 : Hid (∀ W, Below w3.heap.size w3 W → Calls Tryz.prog 75 #[.slice (some ⟨bb, off, none⟩) n cl, .int .i64 o.parent] W (IntsR (pth l d' o.parent) W)) := fun W hW => HPA.out W (HB3.out.trans (hW.mono HB3.out.size))
    have HHT3 : Hid (∀ W, Below w3.heap.size w3 W → Calls Tryz.prog 78 #[.slice (some ⟨bb, off, none⟩) n cl, .int .i64 o.id] W fun e w' => e = .returned (.int .i64 ((hg : Int) - 1)) ∧ Below W.heap.size W w') := fun W hW => HHT.out W (HB3.out.trans (hW.mono HB3.out.size))
    obtain ⟨u, hu⟩ : ∃ u, u = decide (o.id ∈ pth l d' o.parent) := ⟨_, rfl⟩
    have HU := Lib.hid hu
    clear hu
    go_upto_region 32 with fail
    go_region_held3 (fun W => W.cell? ⟨w.heap.size, 1, none⟩ = some (.int .i64 o.id) ∧ W.cell? ⟨w.heap.size, 2, none⟩ = some (.int .i64 o.parent))
      (first | exact KS.out _ HB9.out | exact KS.out _ (HB9.out.alloc HB9.out.size _) | exact KS.out _ (Below.refl _ _) | exact KS.out _ (Below.refl _ _).drew | go_keep)
      (first | (go_at_call 75; refine (HPA3.out _ (by first | exact HB9.out | exact HB9.out.trans (Below.refl _ _).drew | exact Below.refl _ _ | exact (Below.refl _ _).drew)).mono ?_; rintro e w4 ⟨⟨A4, n4, c4, rfl, _, hr4, _, _⟩, hb⟩; have HR4 := Lib.hid (hr4.reads (B := w4.heap.size) fun b hb => hb.2); have HB9 : Hid (Below w3.heap.size w3 w4) := (by first | exact (Below.refl w3.heap.size w3).drew.trans hb | exact hb); clear hb hr4) | (go_at_call 77; refine (hasNumber_any _ _ _ _ o.id _ _ HR4.out).mono ?_; rw [← HU.out]; rintro e w5 ⟨rfl, hw5⟩; rw [hw5]; clear hw5))
    have HB4 : Hid (Below w.heap.size w w4) := HB3.out.trans (HB9.out.mono HB3.out.size)
    have P4 := Lib.hid (P3.out.below HB9.out P3.out.lt)
    clear s1 s2 PB HBB KS
    have e0 := fun i => P4.out.cell i
    cases u
    case true =>
      have HL : Hid (V = 12) := HV4.out.trans (if_pos (of_decide_eq_true HU.out.symm))
      clear HU
      go_wp2_with fail
      go_ret
      exact ⟨by rw [HL.out]; rfl, HB4.out⟩
    have HV5 := Lib.hid (HV4.out.trans (if_neg (of_decide_eq_false HU.out.symm)))
    clear HU
    by_cases h5 : o.at_ < 0
    · have HL : Hid (V = 2) := HV5.out.trans (if_pos (.inl h5))
      go_wp2_with fail
      go_ret
      exact ⟨by rw [HL.out]; rfl, HB4.out⟩
    by_cases h6 : (n3 : Int) < o.at_
    · have HL : Hid (V = 2) := HV5.out.trans (if_pos (.inr h6))
      go_wp2_with fail
      go_ret
      exact ⟨by rw [HL.out]; rfl, HB4.out⟩
    have HV6 := Lib.hid (HV5.out.trans (if_neg (by omega)))
    by_cases h9 : 500 ≤ n3
    · have HL : Hid (V = 14) := HV6.out.trans (if_pos h9)
      have h9' : (500 : Int) ≤ (n3 : Int) := by omega
      go_wp2_with fail
      go_ret
      exact ⟨by rw [HL.out]; rfl, HB4.out⟩
    have h9' : ¬ (500 : Int) ≤ (n3 : Int) := by omega
    have HV7 := Lib.hid (HV6.out.trans (if_neg h9))
    go_upto_region 38 with fail
    clear e0 HB9
    have PB := P4
    have HBB := HB4
    have KS : Hid (∀ W, Below w4.heap.size w4 W → W.cell? ⟨w.heap.size, 1, none⟩ = some (.int .i64 o.id) ∧ W.cell? ⟨w.heap.size, 2, none⟩ = some (.int .i64 o.parent)) := fun W hW =>
      have hz := fun i => (hW.cell (p := ⟨w.heap.size, i, none⟩) PB.out.lt).trans (PB.out.cell i)
      ⟨hz 1, hz 2⟩
    obtain ⟨s1, s2⟩ := KS.out w4 (Below.refl _ _)
    have HPA4 : Hid (∀ W, Below w4.heap.size w4 W → Calls Tryz.prog 75 #[.slice (some ⟨bb, off, none⟩) n cl, .int .i64 o.parent] W fun e w' => IntsR (pth l d' o.parent) W e w' ∧ Below w4.heap.size w4 w') := fun W hW => (HPA.out W (HB4.out.trans (hW.mono HB4.out.size))).mono fun e w' h => ⟨h, hW.trans (h.2.mono hW.size)⟩
    have HHT4 : Hid (∀ W, Below w4.heap.size w4 W → Calls Tryz.prog 78 #[.slice (some ⟨bb, off, none⟩) n cl, .int .i64 o.id] W fun e w' => e = .returned (.int .i64 ((hg : Int) - 1)) ∧ Below w4.heap.size w4 w') := fun W hW => (HHT.out W (HB4.out.trans (hW.mono HB4.out.size))).mono fun e w' h => ⟨h.1, hW.trans (h.2.mono hW.size)⟩
    have x1 : IntKind.i64.wrap ((d' : Int) + 1) = (d' : Int) + 1 := IntWalk.i64_in _ (by omega)
    have x2 : IntKind.i64.wrap ((d' : Int) + 1 + ((hg : Int) - 1)) = (d' : Int) + hg := by rw [IntWalk.i64_in _ (by omega)]; omega
    go_region_held3 (fun W => W.cell? ⟨w.heap.size, 1, none⟩ = some (.int .i64 o.id) ∧ W.cell? ⟨w.heap.size, 2, none⟩ = some (.int .i64 o.parent))
      (first | exact KS.out _ HB9.out | exact KS.out _ (HB9.out.alloc HB9.out.size _) | exact KS.out _ (Below.refl _ _) | exact KS.out _ (Below.refl _ _).drew | go_keep)
      (first | (go_at_call 75; refine (HPA4.out _ (by first | exact HB9.out | exact HB9.out.trans (Below.refl _ _).drew | exact Below.refl _ _ | exact (Below.refl _ _).drew)).mono ?_; rintro e w9 ⟨⟨⟨A5, n5, c5, rfl, _, hr5, _, _⟩, _⟩, hb⟩; obtain rfl : d' = n5 := (by have h5 := (hr5.reads (B := w9.heap.size) fun b hb => hb.2).len.1; rw [HPL.out] at h5; exact h5.symm); have HB9 := Lib.hid hb; clear hb hr5) | (go_at_call 78; refine (HHT4.out _ (by first | exact HB9.out | exact HB9.out.trans (Below.refl _ _).drew | exact Below.refl _ _ | exact (Below.refl _ _).drew)).mono ?_; rintro e w9 ⟨rfl, hb⟩; have HB9 := Lib.hid hb; clear hb))
    obtain ⟨w5, rfl⟩ : ∃ w5, w5 = w9 := ⟨_, rfl⟩
    have HB5 : Hid (Below w.heap.size w w5) := HB4.out.trans (HB9.out.mono HB4.out.size)
    clear s1 s2 x1 x2
    by_cases h10 : 40 < (d' : Int) + hg
    · have HL : Hid (V = 13) := HV7.out.trans (if_pos h10)
      go_wp2_with fail
      go_ret
      exact ⟨by rw [HL.out]; rfl, HB5.out⟩
    · have HL : Hid (V = 0) := HV7.out.trans (if_neg h10)
      go_wp2_with fail
      go_ret
      exact ⟨by rw [HL.out]; rfl, HB5.out⟩
  have k3' : (o.kind == 3) = false := by simpa using k3
  by_cases k4 : o.kind = 4
  · have k4' : (o.kind == 4) = true := by simpa using k4
    have HL : Hid (V = edErr b.text o.text o.from_ o.to_) := by
      show _ = _
      rw [HV3.out, if_neg k3, if_neg (by have := HP.out; omega), if_neg k2, if_pos k4, HBA1.out]
    clear k1 k2 k3 k4
    go_upto_region 41 with fail
    clear e0
    have KS : Hid (∀ W, Below w2.heap.size w2 W → W.cell? ⟨w.heap.size, 4, none⟩ = some (.int .i64 o.from_) ∧ W.cell? ⟨w.heap.size, 5, none⟩ = some (.int .i64 o.to_) ∧ W.cell? ⟨w.heap.size, 6, none⟩ = some (.string o.text) ∧ W.cell? ⟨bb, off + p * 5 + 3, none⟩ = some (.string b.text)) := fun W hW =>
      have hz := fun i => (hW.cell (p := ⟨w.heap.size, i, none⟩) PB.out.lt).trans (PB.out.cell i)
      ⟨hz 4, hz 5, hz 6, (hW.cell (p := ⟨bb, off + p * 5 + 3, none⟩) (by have := HBB.out.size; show bb < _; omega)).trans C3.out⟩
    obtain ⟨s1, s2, s3, s4⟩ := KS.out w2 (Below.refl _ _)
    have HEE : Hid (∀ W, Below w2.heap.size w2 W → Calls Tryz.prog 79 #[.string b.text, .agg #[.int .i64 o.from_, .int .i64 o.to_, .string o.text]] W fun e w' => e = .returned (.int .i64 (edErr b.text o.text o.from_ o.to_)) ∧ Below w2.heap.size w2 w') := fun W hW => (editError_any b.text o.text o.from_ o.to_ W (by omega) HTX.out).mono fun e w' h => ⟨h.1, hW.trans (h.2.mono hW.size)⟩
    go_region_held3 (fun W => W.cell? ⟨w.heap.size, 4, none⟩ = some (.int .i64 o.from_) ∧ W.cell? ⟨w.heap.size, 5, none⟩ = some (.int .i64 o.to_) ∧ W.cell? ⟨w.heap.size, 6, none⟩ = some (.string o.text) ∧ W.cell? ⟨bb, off + p * 5 + 3, none⟩ = some (.string b.text))
      (first | exact KS.out _ HB9.out | exact KS.out _ (HB9.out.alloc HB9.out.size _) | exact KS.out _ (Below.refl _ _) | exact KS.out _ (Below.refl _ _).drew | go_keep)
      ((go_at_call 79; refine (HEE.out _ (by first | exact HB9.out | exact HB9.out.trans (Below.refl _ _).drew | exact Below.refl _ _ | exact (Below.refl _ _).drew)).mono ?_; rintro e w9 ⟨rfl, hb⟩; have HB9 := Lib.hid hb; clear hb))
    have HB5 : Hid (Below w.heap.size w w9) := HB2.out.trans (HB9.out.mono HB2.out.size)
    clear s1 s2 s3 s4
    go_wp2_with fail
    go_ret
    exact ⟨by rw [HL.out]; rfl, HB5.out⟩
  have k4' : (o.kind == 4) = false := by simpa using k4
  exact absurd (by have := HK.out; omega) hk5
end Go.Proofs.YtmkicfjcgbfaaaaGreat
