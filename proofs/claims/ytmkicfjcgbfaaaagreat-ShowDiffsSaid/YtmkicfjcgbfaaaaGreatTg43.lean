/-
  DERIVED. The walk of the reference's OpError. Conditions: sizes; a base without error.
  By an AI agent.
-/
import Derived.Test.YtmkicfjcgbfaaaaGreatTg37
namespace Go.Proofs.YtmkicfjcgbfaaaaGreat
open Go.RowKit

set_option maxRecDepth 100000 in
set_option maxHeartbeats 16000000 in
/-- the reference's OpError, at a property -/
theorem opError_five (l : List Bl) (f : Int → Option Int) (G : Good l f) (Al : Option Addr) (n cl : Nat) (o : Opn) (Av : Option Addr) (nv cv : Nat) (w : World) (B : Nat) (hB : B ≤ w.heap.size) (h : RB w B (.slice Al n cl) l) (ho : OI o) (hv : RV w B (.slice Av nv cv) o.val.items) (hk5 : o.kind = 5) :
    Calls Tryz.prog 21 #[.slice Al n cl, AO (o, .slice Av nv cv)] w fun e w' => e = .returned (.int .i64 (opErr l f o)) ∧ Below w.heap.size w w' := by
  have HK5 := Lib.hid hk5
  clear hk5
  have hnv : nv = o.val.items.length := by
    obtain ⟨A', n', c', M, h1, e, h2, _⟩ := hv.open_
    injection e with _ e1
    rw [e1, h2, ← h1, List.length_map]
  have HUS := Lib.hid fun (hk : 1 ≤ o.kind ∧ o.kind ≤ 5) W => used_any o Av nv cv W hnv hk
  have HIR := Lib.hid fun a b c W => inRange_any a b c W
  have HTE := Lib.hid fun W => textError_any o.text W
  have HNM := Lib.hid fun W => checkName_any o.name W
  obtain ⟨dv, hdv⟩ := hv
  have HCV := Lib.hid fun W (hW : Below w.heap.size w W) => checkValue_any dv (o.val, .slice Av nv cv) W B (Nat.le_trans hB hW.size) (hdv.below (hW.mono hB))
  have HN := Lib.hid h.len.1
  have hbg : n * 80 ≤ 140737488351232 := h.len.2.2
  have H := Lib.hid h
  have HTX : Hid (o.text.size ≤ 140737488351232) := ho.2.2.2.2.2
  obtain ⟨V, hV⟩ : ∃ V, V = opErr l f o := ⟨_, rfl⟩
  rw [← hV]
  unfold opErr at hV
  have HV := Lib.hid hV
  obtain ⟨wa, hwa⟩ : ∃ wa, wa = w.alloc (.cells (opC o (.slice Av nv cv)) 31) := ⟨_, rfl⟩
  have HBA : Hid (Below w.heap.size w wa) := by rw [hwa]; exact (Below.refl _ _).alloc (Nat.le_refl _) _
  have P0 : Hid (Blk wa w.heap.size 31 (opC o (.slice Av nv cv))) := by rw [hwa]; exact Blk.new _ _ _
  have HWA := Lib.hid hwa
  dsimp only [AO] at HUS ⊢
  dsimp only [AV] at HCV
  clear h hV hwa hdv ho hnv
  go_enter Tryz.func21, Tryz.ntmps21
  go_upto_region 1 with fail
  rw [← HWA.out]
  have e0 := fun i => P0.out.cell i
  go_wp2_with fail
  refine (HIR.out _ _ _ _).mono ?_
  rintro e w1 ⟨rfl, hw1⟩
  rw [hw1]
  clear hw1
  by_cases hk : 1 ≤ o.kind ∧ o.kind ≤ 5
  case neg =>
    have HL : Hid (V = 10) := HV.out.trans (if_pos (by unfold outI; exact decide_eq_true (by omega)))
    rw [decide_eq_false hk]
    clear hk
    go_wp2_with fail
    go_ret
    exact ⟨by rw [HL.out]; rfl, HBA.out⟩
  have HV1 := Lib.hid (HV.out.trans (if_neg (by unfold outI; rw [decide_eq_true_eq]; omega)))
  rw [decide_eq_true hk]
  have HU := Lib.hid (HUS.out hk)
  obtain ⟨uq, huq⟩ : ∃ q, q = usedB o := ⟨_, rfl⟩
  rw [← huq] at HU HV1
  have HK := Lib.hid hk
  clear hk huq
  go_wp2_with fail
  refine (HU.out wa).mono ?_
  rintro e w1 ⟨rfl, hb⟩
  have HB1 : Hid (Below w.heap.size w w1) := HBA.out.trans (hb.mono HBA.out.size)
  have P1 := Lib.hid (P0.out.below hb P0.out.lt)
  clear hb e0
  cases uq
  case false =>
    have HL : Hid (V = 1) := HV1.out.trans (if_pos rfl)
    go_wp2_with fail
    go_ret
    exact ⟨by rw [HL.out]; rfl, HB1.out⟩
  have HV2 := Lib.hid (HV1.out.trans (if_neg (by decide)))
  have PB := P1
  have HBB := HB1
  have KS : Hid (∀ W, Below w1.heap.size w1 W → W.cell? ⟨w.heap.size, 1, none⟩ = some (.int .i64 o.id) ∧ W.cell? ⟨w.heap.size, 2, none⟩ = some (.int .i64 o.parent)) := fun W hW =>
    have hz := fun i => (hW.cell (p := ⟨w.heap.size, i, none⟩) PB.out.lt).trans (PB.out.cell i)
    ⟨hz 1, hz 2⟩
  have HAT : Hid (∀ (id : Int) (W : World), Below w1.heap.size w1 W → Calls Tryz.prog 71 #[.slice Al n cl, .int .i64 id] W fun e w' => e = .returned (.int .i64 (posOf l id)) ∧ Below w1.heap.size w1 w') := fun id W hW =>
    (at_any l Al n cl id W B (by have := hW.size; have := HB1.out.size; omega) (H.out.below ((HB1.out.trans (hW.mono HB1.out.size)).mono hB))).mono fun e w' h => ⟨h.1, hW.trans (h.2.mono hW.size)⟩
  obtain ⟨s1, s2⟩ := KS.out w1 (Below.refl _ _)
  go_upto_region 5 with fail
  go_region_held3 (fun W => W.cell? ⟨w.heap.size, 1, none⟩ = some (.int .i64 o.id) ∧ W.cell? ⟨w.heap.size, 2, none⟩ = some (.int .i64 o.parent))
    (first | exact KS.out _ HB9.out | exact KS.out _ (HB9.out.alloc HB9.out.size _) | exact KS.out _ (Below.refl _ _) | exact KS.out _ (Below.refl _ _).drew | go_keep)
    ((go_at_call 71; refine (HAT.out _ _ (by first | exact HB9.out | exact HB9.out.trans (Below.refl _ _).drew | exact Below.refl _ _ | exact (Below.refl _ _).drew)).mono ?_; rintro e w9 ⟨rfl, hb⟩; have HB9 := Lib.hid hb; clear hb))
  obtain ⟨w2, rfl⟩ : ∃ w2, w2 = w9 := ⟨_, rfl⟩
  have HB2 : Hid (Below w.heap.size w w2) := HB1.out.trans (HB9.out.mono HB1.out.size)
  have P2 := Lib.hid (P1.out.below HB9.out P1.out.lt)
  clear s1 s2 PB HBB
  have e0 := fun i => P2.out.cell i
  by_cases k1 : o.kind = 1
  · exact absurd (k1.symm.trans HK5.out) (by decide)
  have HV3 := Lib.hid (HV2.out.trans (if_neg k1))
  have k1' : (o.kind == 1) = false := by simpa using k1
  by_cases h1 : posOf l o.id ≤ 0
  · have HL : Hid (V = 7) := by
      show _ = _
      rw [HV3.out]
      by_cases k3 : o.kind = 3
      · rw [if_pos k3]
        unfold movErr
        rw [if_pos]
        by_cases q : posOf l o.id < 0
        · exact .inr (.inl q)
        · exact .inl ((G.pos_root (by omega)).1 h1)
      · rw [if_neg k3, if_pos (by omega)]
    go_wp2_with fail
    go_ret
    exact ⟨by rw [HL.out]; rfl, HB2.out⟩
  obtain ⟨p, b, d, hp, hlp, hbi, hba, hd, hd40, hdF⟩ := G.blk_at (id := o.id) (by omega)
  have hpn : p < n := by have := (List.getElem?_eq_some_iff.1 hlp).1; have := HN.out; omega
  obtain ⟨bb, off, Ak, nk, ck, Ap, np, cp, rfl, hbb, _, _, g2, g3, g4, hK, hPr⟩ := H.out.at_ hlp
  have hkl : nk = b.kids.length := hK.len.1
  have hpl : np = b.props.length := hPr.len.1
  have htb : b.text.size ≤ 2000 := by
    have := (G.tree.loc b (List.mem_of_getElem? hlp)).1
    unfold txErr at this
    split at this
    · omega
    · omega
  have c2 := (HB2.out.cell (p := ⟨bb, off + p * 5 + 2, none⟩) (by show bb < _; omega)).trans g2
  have c3 := (HB2.out.cell (p := ⟨bb, off + p * 5 + 3, none⟩) (by show bb < _; omega)).trans g3
  have c4 := (HB2.out.cell (p := ⟨bb, off + p * 5 + 4, none⟩) (by show bb < _; omega)).trans g4
  have C2 := Lib.hid c2
  have C3 := Lib.hid c3
  have C4 := Lib.hid c4
  have HPR := Lib.hid hPr
  have HBA1 := Lib.hid hba
  have HD := Lib.hid hd
  have PB := P2
  have HBB := HB2
  have hid0 : o.id ≠ 0 := fun e => h1 ((G.pos_root (by omega)).2 e)
  have HID0 := Lib.hid hid0
  have HP := Lib.hid hp
  rw [hp] at h1 ⊢
  have i0 : (0 : Int) ≤ (p : Int) := by omega
  have i1 : (p : Int) < (n : Int) := by omega
  clear hK hp hlp hba hd hdF hid0 c2 c3 c4 hPr
  have HPLN : Hid (np = b.props.length) := hpl
  have HKLN : Hid (nk = b.kids.length) := hkl
  clear hpl hkl
  by_cases k2 : o.kind = 2
  · exact absurd (k2.symm.trans HK5.out) (by decide)
  have k2' : (o.kind == 2) = false := by simpa using k2
  by_cases k3 : o.kind = 3
  · exact absurd (k3.symm.trans HK5.out) (by decide)
  have k3' : (o.kind == 3) = false := by simpa using k3
  by_cases k4 : o.kind = 4
  · exact absurd (k4.symm.trans HK5.out) (by decide)
  have k4' : (o.kind == 4) = false := by simpa using k4
  have k5' : (o.kind == 5) = true := by have := HK.out; simp; omega
  have HVS : Hid (V = setErr b.props o) := by
    show _ = _
    rw [HV3.out, if_neg k3, if_neg (by have := HP.out; omega), if_neg k2, if_neg k4, HBA1.out]
  unfold setErr at HVS
  have HVS' := HVS.out
  rw [← HPLN.out] at HVS'
  have HV4 := Lib.hid HVS'
  obtain ⟨nm, hnm⟩ : ∃ t, t = nmErr o.name := ⟨_, rfl⟩
  rw [← hnm] at HNM HV4
  obtain ⟨ve, hve⟩ : ∃ t, t = vErr o.val := ⟨_, rfl⟩
  rw [← hve] at HCV HV4
  clear k1 k2 k3 k4 HVS' hnm hve
  go_wp2_with fail
  refine (HNM.out w2).mono ?_
  rintro e w3 ⟨rfl, hw3⟩
  rw [hw3]
  clear hw3
  by_cases h1n : nm = 0
  case neg =>
    have HL : Hid (V = nm) := HV4.out.trans (if_pos h1n)
    have h1' : (nm != 0) = true := by simpa using h1n
    clear h1n
    go_wp2_with fail
    go_ret
    exact ⟨by rw [HL.out]; rfl, HB2.out⟩
  have HV5 := Lib.hid (HV4.out.trans (if_neg (fun e => e h1n)))
  subst h1n
  go_wp2_with fail
  refine (HCV.out w2 HB2.out).mono ?_
  rintro e w3 ⟨rfl, hb⟩
  have HB3 : Hid (Below w.heap.size w w3) := HB2.out.trans (hb.mono HB2.out.size)
  have P3 := Lib.hid (P2.out.below hb P2.out.lt)
  have C43 := Lib.hid ((hb.cell (p := ⟨bb, off + p * 5 + 4, none⟩) (by have := HB2.out.size; show bb < _; omega)).trans C4.out)
  clear hb e0
  have e0 := fun i => P3.out.cell i
  by_cases h2 : ve = 0
  case neg =>
    have HL : Hid (V = ve) := HV5.out.trans (if_pos h2)
    have h2' : (ve != 0) = true := by simpa using h2
    clear h2
    go_wp2_with fail
    go_ret
    exact ⟨by rw [HL.out]; rfl, HB3.out⟩
  have HV6 := Lib.hid (HV5.out.trans (if_neg (fun e => e h2)))
  subst h2
  go_upto_region 49 with fail
  clear e0 PB HBB
  have PB := P3
  have HBB := HB3
  have KS : Hid (∀ W, Below w3.heap.size w3 W → W.cell? ⟨w.heap.size, 7, none⟩ = some (.string o.name) ∧ W.cell? ⟨bb, off + p * 5 + 4, none⟩ = some (.slice Ap np cp)) := fun W hW =>
    have hz := fun i => (hW.cell (p := ⟨w.heap.size, i, none⟩) PB.out.lt).trans (PB.out.cell i)
    ⟨hz 7, (hW.cell (p := ⟨bb, off + p * 5 + 4, none⟩) (by have := HBB.out.size; show bb < _; omega)).trans C43.out⟩
  obtain ⟨s1, s2⟩ := KS.out w3 (Below.refl _ _)
  have HGP : Hid (∀ W, Below w3.heap.size w3 W → Calls Tryz.prog 82 #[.slice Ap np cp, .string o.name] W fun e w' => GetPR b.props o.name W e w' ∧ Below w3.heap.size w3 w') := fun W hW => (getP_any b.props Ap np cp o.name W B (by have := hW.size; have := HB3.out.size; omega) (HPR.out.below ((HB3.out.trans (hW.mono HB3.out.size)).mono hB))).mono fun e w' h => ⟨h, hW.trans (h.2.mono hW.size)⟩
  obtain ⟨q, hq⟩ : ∃ q, q = decide (0 ≤ nmOf b.props o.name) := ⟨_, rfl⟩
  have HQ : Hid ((q = true) = (0 ≤ nmOf b.props o.name)) := by show _ = _; rw [hq, decide_eq_true_eq]
  have HGQ : Hid (∀ W, Below w3.heap.size w3 W → Calls Tryz.prog 82 #[.slice Ap np cp, .string o.name] W fun e w' => (∃ A n c, e = .returned (.tuple #[AV (getP b.props o.name, .slice A n c), .bool q])) ∧ Below W.heap.size W w' ∧ Below w3.heap.size w3 w') := fun W hW => (HGP.out W hW).mono fun e w' ⟨⟨⟨A, n, c, h1, _⟩, h2⟩, h3⟩ => ⟨⟨A, n, c, by rw [h1, hq]⟩, h2, h3⟩
  have QZ : Hid (Blk (w3.alloc (.cells #[.int .i64 0, .int .i64 0, .int .i64 0, .string ⟨#[]⟩, .slice none 0 0] 29)).drew w3.heap.size 29 #[.int .i64 0, .int .i64 0, .int .i64 0, .string ⟨#[]⟩, .slice none 0 0]) := (Blk.new w3 _ _).drew
  have QS : Hid (w3.heap.size < (w3.alloc (.cells #[.int .i64 0, .int .i64 0, .int .i64 0, .string ⟨#[]⟩, .slice none 0 0] 29)).drew.heap.size) := QZ.out.lt
  have QB : Hid (Below w3.heap.size w3 (w3.alloc (.cells #[.int .i64 0, .int .i64 0, .int .i64 0, .string ⟨#[]⟩, .slice none 0 0] 29)).drew) := ((Below.refl _ _).alloc (Nat.le_refl _) _).drew
  clear hq
  go_cut [11] (fun s11 wc => s11 = .bool q ∧ Hid (Below w3.heap.size w3 wc))
  case first =>
    have sz1 : ∀ oo, (w3.alloc oo).cell? ⟨w.heap.size, 7, none⟩ = some (.string o.name) := fun oo => (KS.out _ ((Below.refl _ _).alloc (Nat.le_refl _) oo)).1
    have sz2 : ∀ oo, (w3.alloc oo).cell? ⟨bb, off + p * 5 + 4, none⟩ = some (.slice Ap np cp) := fun oo => (KS.out _ ((Below.refl _ _).alloc (Nat.le_refl _) oo)).2
    go_region_with ((go_at_call 82; refine (HGQ.out _ (by first | with_reducible exact QB.out | with_reducible exact (Below.refl _ _).drew | with_reducible exact Below.refl _ _ | exact (Below.refl _ _).drew | exact Below.refl _ _)).mono ?_; rintro e w9 ⟨⟨A5, n5, c5, rfl⟩, hbW, hb⟩; have HB9 := Lib.hid hb; clear hb; dsimp only [AV]; (try (have BQ : Blk w9 w3.heap.size 29 #[.int .i64 0, .int .i64 0, .int .i64 0, .string ⟨#[]⟩, .slice none 0 0] := (by with_reducible exact Blk.below QZ.out hbW QS.out); have cq := fun i => BQ.cell i; have fq := fun i => BQ.frozen i; clear BQ)); clear hbW))
    all_goals (go_wp2_with fail; go_meet)
    all_goals first
      | exact ⟨rfl, HB9.out.alloc HB9.out.size _⟩
      | exact ⟨rfl, (((((HB9.out.setCell (p := ⟨w3.heap.size, 0, none⟩) (Nat.le_refl _) _).setCell (p := ⟨w3.heap.size, 1, none⟩) (Nat.le_refl _) _).setCell (p := ⟨w3.heap.size, 2, none⟩) (Nat.le_refl _) _).setCell (p := ⟨w3.heap.size, 3, none⟩) (Nat.le_refl _) _).setCell (p := ⟨w3.heap.size, 4, none⟩) (Nat.le_refl _) _)⟩
  case rest =>
  obtain ⟨rfl, hbc⟩ := hcut
  obtain ⟨wv, rfl⟩ : ∃ wv, wv = wc := ⟨_, rfl⟩
  clear s1 s2
  have HBV : Hid (Below w.heap.size w wv) := HB3.out.trans (hbc.out.mono HB3.out.size)
  have PV : Hid (Blk wv w.heap.size 31 (opC o (.slice Av nv cv))) := P3.out.below hbc.out P3.out.lt
  have c4 : wv.cell? ⟨bb, off + p * 5 + 4, none⟩ = some (.slice Ap np cp) := (hbc.out.cell (p := ⟨bb, off + p * 5 + 4, none⟩) (by have := HB3.out.size; show bb < _; omega)).trans C43.out
  have e0 := fun i => PV.out.cell i
  cases q
  case true =>
    have HL : Hid (V = 0) := HV6.out.trans (if_neg (fun e => by have := HQ.out.mp rfl; omega))
    go_wp2_with fail
    go_ret
    exact ⟨by rw [HL.out]; rfl, HBV.out⟩
  have hneg : nmOf b.props o.name < 0 := by
    have : ¬ 0 ≤ nmOf b.props o.name := fun e => by have := HQ.out.mpr e; cases this
    omega
  have HNEG := Lib.hid hneg
  clear hneg
  by_cases h3 : o.val.kind = 0
  · have h3' : (o.val.kind != 0) = false := by rw [h3]; rfl
    have HL : Hid (V = 0) := HV6.out.trans (if_neg (fun e => e.1 h3))
    clear h3
    go_wp2_with fail
    go_ret
    exact ⟨by rw [HL.out]; rfl, HBV.out⟩
  have h3' : (o.val.kind != 0) = true := by simpa using h3
  by_cases h4 : 20 ≤ np
  · have HL : Hid (V = 14) := HV6.out.trans (if_pos ⟨h3, HNEG.out, h4⟩)
    have h4' : (20 : Int) ≤ (np : Int) := by omega
    clear h3
    go_wp2_with fail
    go_ret
    exact ⟨by rw [HL.out]; rfl, HBV.out⟩
  · have HL : Hid (V = 0) := HV6.out.trans (if_neg (fun e => h4 e.2.2))
    have h4' : ¬ (20 : Int) ≤ (np : Int) := by omega
    clear h3
    go_wp2_with fail
    go_ret
    exact ⟨by rw [HL.out]; rfl, HBV.out⟩
/-- the reference's OpError -/
theorem opError_any (l : List Bl) (f : Int → Option Int) (G : Good l f) (Al : Option Addr) (n cl : Nat) (o : Opn) (Av : Option Addr) (nv cv : Nat) (w : World) (B : Nat) (hB : B ≤ w.heap.size) (h : RB w B (.slice Al n cl) l) (ho : OI o) (hv : RV w B (.slice Av nv cv) o.val.items) :
    Calls Tryz.prog 21 #[.slice Al n cl, AO (o, .slice Av nv cv)] w fun e w' => e = .returned (.int .i64 (opErr l f o)) ∧ Below w.heap.size w w' := by
  by_cases hk : o.kind = 5
  · exact opError_five l f G Al n cl o Av nv cv w B hB h ho hv hk
  · exact opError_four l f G Al n cl o Av nv cv w B hB h ho hv hk
end Go.Proofs.YtmkicfjcgbfaaaaGreat
