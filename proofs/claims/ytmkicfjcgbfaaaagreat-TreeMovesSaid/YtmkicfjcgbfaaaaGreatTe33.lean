/-
  DERIVED. The walks of tree.checkSetProp and editOf. Conditions: sizes; a base without error.
  The walk of tree.checkMove. Conditions: sizes; a base without error.
  The walk of tree.checkOp. Conditions: sizes; a base without error.
  The walk of prop.Put where there is no error. Conditions: sizes.
  By an AI agent.
-/
import Derived.Test.YtmkicfjcgbfaaaaGreatTe28
import Derived.Test.YtmkicfjcgbfaaaaGreatTe11
import Derived.Test.YtmkicfjcgbfaaaaGreatTe26
import Derived.Test.YtmkicfjcgbfaaaaGreatTe29
import Derived.Deep.RegionHeld3
namespace Go.Proofs.YtmkicfjcgbfaaaaGreat
open Go.RowKit

set_option maxRecDepth 100000 in
set_option maxHeartbeats 4000000 in
/-- tree.checkSetProp -/
theorem checkSetProp_any (l : List Bl) (f : Int → Option Int) (G : Good l f) (Al : Option Addr) (n cl : Nat) (o : Opn) (Av : Option Addr) (nv cv : Nat) (w : World) (B : Nat) (hB : B ≤ w.heap.size) (h : RB w B (.slice Al n cl) l) (ho : OI o) (hv : RV w B (.slice Av nv cv) o.val.items) (hid : 0 ≤ posOf l o.id) :
    Calls Tryz.prog 125 #[.slice Al n cl, AO (o, .slice Av nv cv)] w fun e w' => e = .returned (.int .i64 (setErr (blkAt l o.id).props o)) ∧ Below w.heap.size w w' := by
  have HIa := Lib.hid fun W (hW : Below w.heap.size w W) => index_any l Al n cl o.id W B (Nat.le_trans hB hW.size) (h.below (hW.mono hB)) G.kids.rise G.kids.ids ho.1
  have HNM := Lib.hid fun W => checkName_any o.name W
  obtain ⟨dv, hdv⟩ := hv
  have HCV := Lib.hid fun W (hW : Below w.heap.size w W) => checkValue_any dv (o.val, .slice Av nv cv) W B (Nat.le_trans hB hW.size) (hdv.below (hW.mono hB))
  obtain ⟨p, b, d, hp, hlp, hbi, hba, _⟩ := G.blk_at hid
  have hpn : p < n := by have := (List.getElem?_eq_some_iff.1 hlp).1; have := h.len.1; omega
  have hbg : n * 80 ≤ 140737488351232 := h.len.2.2
  obtain ⟨bb, off, Ak, nk, ck, Ap, np, cp, rfl, hbb, _, _, _, _, g4, _, hP⟩ := h.at_ hlp
  have hpl : np = b.props.length := hP.len.1
  have HGP := Lib.hid fun W (hW : Below w.heap.size w W) => getP_any b.props Ap np cp o.name W B (Nat.le_trans hB hW.size) (hP.below (hW.mono hB))
  have H := Lib.hid h
  obtain ⟨V, hV⟩ : ∃ V, V = setErr (blkAt l o.id).props o := ⟨_, rfl⟩
  rw [← hV]
  rw [hba] at hV
  unfold setErr at hV
  rw [← hpl] at hV
  rw [hp] at HIa
  have HV := Lib.hid hV
  obtain ⟨wa, hwa⟩ : ∃ wa, wa = w.alloc (.cells (opC o (.slice Av nv cv)) 31) := ⟨_, rfl⟩
  have HBA : Hid (Below w.heap.size w wa) := by rw [hwa]; exact (Below.refl _ _).alloc (Nat.le_refl _) _
  have P0 : Hid (Blk wa w.heap.size 31 (opC o (.slice Av nv cv))) := by rw [hwa]; exact Blk.new _ _ _
  have HWA := Lib.hid hwa
  have i0 : (0 : Int) ≤ (p : Int) := by omega
  have i1 : (p : Int) < (n : Int) := by omega
  have HG4 := Lib.hid g4
  obtain ⟨nm, hnm⟩ : ∃ t, t = nmErr o.name := ⟨_, rfl⟩
  rw [← hnm] at HNM HV
  obtain ⟨ve, hve⟩ : ∃ t, t = vErr o.val := ⟨_, rfl⟩
  dsimp only at HCV
  rw [← hve] at HCV HV
  clear h hV hwa hp hlp hbi hba hP hpl g4 hdv hid hnm hve
  dsimp only [AO]
  dsimp only [AV] at HCV
  go_enter Tryz.func125, Tryz.ntmps125
  go_upto_region 1 with fail
  rw [← HWA.out]
  have e0 := fun i => P0.out.cell i
  go_wp2_with fail
  refine (HNM.out wa).mono ?_
  rintro e w1 ⟨rfl, hw1⟩
  rw [hw1]
  clear hw1
  by_cases h1 : nm = 0
  case neg =>
    have HL : Hid (V = nm) := HV.out.trans (if_pos h1)
    have h1' : (nm != 0) = true := by simpa using h1
    clear h1
    go_wp2_with fail
    go_ret
    exact ⟨by rw [HL.out]; rfl, HBA.out⟩
  have HV1 := Lib.hid (HV.out.trans (if_neg (fun e => e h1)))
  subst h1
  go_wp2_with fail
  refine (HCV.out wa HBA.out).mono ?_
  rintro e w2 ⟨rfl, hb⟩
  have HB2 : Hid (Below w.heap.size w w2) := HBA.out.trans (hb.mono HBA.out.size)
  have P2 := Lib.hid (P0.out.below hb P0.out.lt)
  clear hb e0
  have e0 := fun i => P2.out.cell i
  by_cases h2 : ve = 0
  case neg =>
    have HL : Hid (V = ve) := HV1.out.trans (if_pos h2)
    have h2' : (ve != 0) = true := by simpa using h2
    clear h2
    go_wp2_with fail
    go_ret
    exact ⟨by rw [HL.out]; rfl, HB2.out⟩
  have HV2 := Lib.hid (HV1.out.trans (if_neg (fun e => e h2)))
  subst h2
  go_wp2_with fail
  refine (HIa.out w2 HB2.out).mono ?_
  rintro e w3 ⟨rfl, hb⟩
  have HB3 : Hid (Below w.heap.size w w3) := HB2.out.trans (hb.mono HB2.out.size)
  have P3 := Lib.hid (P2.out.below hb P2.out.lt)
  clear hb e0
  have e0 := fun i => P3.out.cell i
  have g4 := (HB3.out.cell (p := ⟨bb, off + p * 5 + 4, none⟩) (by show bb < _; omega)).trans HG4.out
  go_wp2_with fail
  refine (HGP.out w3 HB3.out).mono ?_
  rintro e w4 ⟨⟨A', n', c', rfl, _⟩, hb⟩
  dsimp only [AV]
  have HB4 : Hid (Below w.heap.size w w4) := HB3.out.trans (hb.mono HB3.out.size)
  have P4 := Lib.hid (P3.out.below hb P3.out.lt)
  clear hb e0 g4
  obtain ⟨q, hq⟩ : ∃ q, q = decide (0 ≤ nmOf b.props o.name) := ⟨_, rfl⟩
  rw [← hq]
  have HQ : Hid ((q = true) = (0 ≤ nmOf b.props o.name)) := by show _ = _; rw [hq, decide_eq_true_eq]
  clear hq
  obtain ⟨cs, hcs⟩ : ∃ cs : Array Value, cs = #[.int .i64 (getP b.props o.name).kind, .int .i64 (getP b.props o.name).int_, .int .i64 (getP b.props o.name).to_, .string (getP b.props o.name).text, .slice A' n' c'] := ⟨_, rfl⟩
  have P5 := Lib.hid (P4.out.alloc (.cells cs 29))
  have HB5 := Lib.hid (HB4.out.alloc HB4.out.size (.cells cs 29))
  have e0 : ∀ i, (w4.alloc (.cells #[.int .i64 (getP b.props o.name).kind, .int .i64 (getP b.props o.name).int_, .int .i64 (getP b.props o.name).to_, .string (getP b.props o.name).text, .slice A' n' c'] 29)).cell? ⟨w.heap.size, i, none⟩ = (opC o (.slice Av nv cv))[i]? := fun i => by rw [← hcs]; exact P5.out.cell i
  rw [hcs] at HB5
  clear hcs
  by_cases h3 : o.val.kind = 0
  · have h3' : (o.val.kind != 0) = false := by rw [h3]; rfl
    have HL : Hid (V = 0) := HV2.out.trans (if_neg (fun e => e.1 h3))
    clear h3
    go_wp2_with fail
    go_ret
    exact ⟨by rw [HL.out]; rfl, HB5.out⟩
  have h3' : (o.val.kind != 0) = true := by simpa using h3
  cases q
  case true =>
    have HL : Hid (V = 0) := HV2.out.trans (if_neg (fun e => by have := HQ.out.mp rfl; omega))
    clear h3
    go_wp2_with fail
    go_ret
    exact ⟨by rw [HL.out]; rfl, HB5.out⟩
  case false =>
    have hneg : nmOf b.props o.name < 0 := by
      have : ¬ 0 ≤ nmOf b.props o.name := fun e => by have := HQ.out.mpr e; cases this
      omega
    by_cases h4 : 20 ≤ np
    · have HL : Hid (V = 14) := HV2.out.trans (if_pos ⟨h3, hneg, h4⟩)
      have h4' : (20 : Int) ≤ (np : Int) := by omega
      clear h3 hneg
      go_wp2_with fail
      go_ret
      exact ⟨by rw [HL.out]; rfl, HB5.out⟩
    · have HL : Hid (V = 0) := HV2.out.trans (if_neg (fun e => h4 e.2.2))
      have h4' : ¬ (20 : Int) ≤ (np : Int) := by omega
      clear h3 hneg
      go_wp2_with fail
      go_ret
      exact ⟨by rw [HL.out]; rfl, HB5.out⟩

set_option maxHeartbeats 1000000 in
/-- tree.editOf -/
theorem editOf_any (o : Opn) (Av : Option Addr) (nv cv : Nat) (w : World) :
    Calls Tryz.prog 124 #[AO (o, .slice Av nv cv)] w fun e w' => e = .returned (.agg #[.int .i64 o.from_, .int .i64 o.to_, .string o.text]) ∧ Below w.heap.size w w' := by
  dsimp only [AO]
  go_enter Tryz.func124, Tryz.ntmps124
  go_wp2_with fail
  exact bodyPost_ret (v := .agg #[.int .i64 o.from_, .int .i64 o.to_, .string o.text]) (by simp [results, Tryz.results124, go_sem]) rfl ⟨rfl, ((Below.refl _ _).alloc (Nat.le_refl _) _).alloc (by simp) _⟩
end Go.Proofs.YtmkicfjcgbfaaaaGreat
namespace Go.Proofs.YtmkicfjcgbfaaaaGreat
open Go.RowKit

theorem less_count : ∀ {l : List Int}, l.Nodup → ∀ x : Int, (lessK l x).length + (if x ∈ l then 1 else 0) = l.length
  | [], _, x => by simp [lessK]
  | a :: l, h, x => by
    obtain ⟨h1, h2⟩ := List.nodup_cons.1 h
    have ih := less_count h2 x
    unfold lessK at *
    rw [List.filter_cons]
    by_cases e : a = x
    · subst e
      rw [if_neg (by simp), if_pos (by simp), List.length_cons]
      rw [if_neg h1] at ih
      omega
    · rw [if_pos (by simpa using e), List.length_cons, List.length_cons]
      have : (x ∈ a :: l) = (x ∈ l) := by
        rw [List.mem_cons, eq_iff_iff]
        exact ⟨fun h => h.resolve_left (fun q => e q.symm), .inr⟩
      simp only [this]
      omega

set_option maxRecDepth 100000 in
set_option maxHeartbeats 4000000 in
/-- tree.checkMove -/
theorem checkMove_any (l : List Bl) (f : Int → Option Int) (G : Good l f) (Al : Option Addr) (n cl : Nat) (o : Opn) (Av : Option Addr) (nv cv : Nat) (w : World) (B : Nat) (hB : B ≤ w.heap.size) (h : RB w B (.slice Al n cl) l) (ho : OI o) :
    Calls Tryz.prog 122 #[.slice Al n cl, AO (o, .slice Av nv cv)] w fun e w' => e = .returned (.int .i64 (movErr l f o)) ∧ Below w.heap.size w w' := by
  have HIa := Lib.hid fun W (hW : Below w.heap.size w W) => index_any l Al n cl o.id W B (Nat.le_trans hB hW.size) (h.below (hW.mono hB)) G.kids.rise G.kids.ids ho.1
  have HIp := Lib.hid fun W (hW : Below w.heap.size w W) => index_any l Al n cl o.parent W B (Nat.le_trans hB hW.size) (h.below (hW.mono hB)) G.kids.rise G.kids.ids ho.2.1
  have HN := Lib.hid h.len.1
  have hbg : n * 80 ≤ 140737488351232 := h.len.2.2
  have H := Lib.hid h
  obtain ⟨V, hV⟩ : ∃ V, V = movErr l f o := ⟨_, rfl⟩
  rw [← hV]
  unfold movErr at hV
  have HV := Lib.hid hV
  obtain ⟨wa, hwa⟩ : ∃ wa, wa = w.alloc (.cells (opC o (.slice Av nv cv)) 31) := ⟨_, rfl⟩
  have HBA : Hid (Below w.heap.size w wa) := by rw [hwa]; exact (Below.refl _ _).alloc (Nat.le_refl _) _
  have P0 : Hid (Blk wa w.heap.size 31 (opC o (.slice Av nv cv))) := by rw [hwa]; exact Blk.new _ _ _
  have HWA := Lib.hid hwa
  clear h hV hwa
  dsimp only [AO]
  go_enter Tryz.func122, Tryz.ntmps122
  go_upto_region 1 with fail
  rw [← HWA.out]
  have e0 := fun i => P0.out.cell i
  go_wp2_with fail
  refine (HIp.out wa HBA.out).mono ?_
  rintro e w1 ⟨rfl, hb⟩
  have HB1 : Hid (Below w.heap.size w w1) := HBA.out.trans (hb.mono HBA.out.size)
  have P1 := Lib.hid (P0.out.below hb P0.out.lt)
  clear hb e0
  have e0 := fun i => P1.out.cell i
  by_cases h1 : o.id = 0
  · have HL : Hid (V = 7) := HV.out.trans (if_pos (.inl h1))
    have h1' : (o.id == 0) = true := by simpa using h1
    clear h1
    go_wp2_with fail
    go_ret
    exact ⟨by rw [HL.out]; rfl, HB1.out⟩
  have h1' : (o.id == 0) = false := by simpa using h1
  go_wp2_with fail
  refine (HIa.out w1 HB1.out).mono ?_
  rintro e w2 ⟨rfl, hb⟩
  have HB2 : Hid (Below w.heap.size w w2) := HB1.out.trans (hb.mono HB1.out.size)
  have P2 := Lib.hid (P1.out.below hb P1.out.lt)
  clear hb e0
  have e0 := fun i => P2.out.cell i
  by_cases h2 : posOf l o.id < 0
  · have HL : Hid (V = 7) := HV.out.trans (if_pos (.inr (.inl h2)))
    go_wp2_with fail
    go_ret
    exact ⟨by rw [HL.out]; rfl, HB2.out⟩
  by_cases h3 : posOf l o.parent < 0
  · have HL : Hid (V = 7) := HV.out.trans (if_pos (.inr (.inr h3)))
    go_wp2_with fail
    go_ret
    exact ⟨by rw [HL.out]; rfl, HB2.out⟩
  have HV1 := Lib.hid (HV.out.trans (if_neg (by omega)))
  obtain ⟨p, b, d, hp, hlp, hbi, hba, hd, hd40, hdF⟩ := G.blk_at (id := o.parent) (by omega)
  obtain ⟨p2, b2, d2, hp2, hlp2, hbi2, hba2, hd2, hd402, hdF2⟩ := G.blk_at (id := o.id) (by omega)
  rw [hba, hdF, Int.toNat_natCast] at HV1
  rw [hp]
  have hpn : p < n := by have := (List.getElem?_eq_some_iff.1 hlp).1; have := HN.out; omega
  obtain ⟨bb, off, Ak, nk, ck, Ap, np, cp, rfl, hbb, _, _, g2, _, _, hK, _⟩ := H.out.at_ hlp
  have hkl : nk = b.kids.length := hK.len.1
  have hkb := hK.len.2.2
  have hkc := hK.len.2.1
  have hcount := less_count (G.kids.nod b (List.mem_of_getElem? hlp)) o.id
  rw [← hkl] at hcount
  have c2 := (HB2.out.cell (p := ⟨bb, off + p * 5 + 2, none⟩) (by show bb < _; omega)).trans g2
  have HPA := Lib.hid fun W (hW : Below w.heap.size w W) => path_any l G.kids (some ⟨bb, off, none⟩) n cl o.parent d hd hd40 W B (Nat.le_trans hB hW.size) (H.out.below (hW.mono hB))
  have HHT := Lib.hid fun W (hW : Below w.heap.size w W) => height_any l f G (some ⟨bb, off, none⟩) n cl B d2 o.id W hd2 (Nat.le_trans hB hW.size) (H.out.below (hW.mono hB))
  have HCK := Lib.hid fun W (hW : Below w.heap.size w W) => containsI_any b.kids Ak nk ck o.id W B (hK.below (hW.mono hB))
  have i0 : (0 : Int) ≤ (p : Int) := by omega
  have i1 : (p : Int) < (n : Int) := by omega
  have i2 : ¬ ((p : Int) < 0) := by omega
  have HPL : Hid ((pth l d o.parent).length = d) := pth_len d o.parent
  obtain ⟨hg, hhg⟩ : ∃ hg, hg = hgt l 41 o.id := ⟨_, rfl⟩
  have hg41 : hg ≤ 41 := by have := hgt_le l 41 o.id; omega
  rw [← hhg] at HV1 HHT
  obtain ⟨kn, hkn⟩ : ∃ kn, kn = (lessK b.kids o.id).length := ⟨_, rfl⟩
  rw [← hkn] at HV1 hcount
  have HCT := Lib.hid hcount
  clear hK hkl hp hlp hba hd hdF h1 h3 hp2 hlp2 hba2 hd2 hdF2 hbi2 hhg hkn hcount
  go_wp2_with fail
  refine (HPA.out w2 HB2.out).mono ?_
  rintro e w3 ⟨⟨A', n', rfl, hr⟩, hb⟩
  have HB3 : Hid (Below w.heap.size w w3) := HB2.out.trans (hb.mono HB2.out.size)
  have P3 := Lib.hid (P2.out.below hb P2.out.lt)
  have hri := hr.reads (B := w3.heap.size) fun b hb => hb.2
  have hn' : n' = d := by
    have := hri.len.1
    rw [HPL.out] at this
    exact this
  have HCP := Lib.hid (containsI_any _ A' n' n' o.id w3 w3.heap.size hri)
  have c3 := (HB3.out.cell (p := ⟨bb, off + p * 5 + 2, none⟩) (by show bb < _; omega)).trans g2
  clear hb hr hri e0 c2 g2
  subst hn'
  have e0 := fun i => P3.out.cell i
  obtain ⟨q, hq⟩ : ∃ q, q = decide (o.id ∈ pth l n' o.parent) := ⟨_, rfl⟩
  rw [← hq] at HCP
  go_wp2_with fail
  refine HCP.out.mono ?_
  rintro e w4 ⟨rfl, hw4⟩
  rw [hw4]
  clear hw4
  cases q
  case true =>
    have HL : Hid (V = 12) := HV1.out.trans (if_pos (of_decide_eq_true hq.symm))
    clear hq
    go_wp2_with fail
    go_ret
    exact ⟨by rw [HL.out]; rfl, HB3.out⟩
  have HV2 := Lib.hid (HV1.out.trans (if_neg (of_decide_eq_false hq.symm)))
  clear hq
  obtain ⟨kq, hkq⟩ : ∃ kq, kq = decide (o.id ∈ b.kids) := ⟨_, rfl⟩
  have HKK := Lib.hid fun W (hW : Below w.heap.size w W) => HCK.out W hW
  rw [← hkq] at HKK
  have hkk : (kn : Int) = (nk : Int) - (if kq = true then 1 else 0) := by
    have := HCT.out
    rw [hkq]
    by_cases e : o.id ∈ b.kids
    · rw [if_pos e] at this
      rw [if_pos (decide_eq_true e)]; omega
    · rw [if_neg e] at this
      rw [if_neg (by rw [decide_eq_false e]; decide)]; omega
  have hk1 : kq = true → 1 ≤ nk := fun e => by
    have := HCT.out
    rw [e] at hkq
    rw [if_pos (of_decide_eq_true hkq.symm)] at this
    omega
  clear hkq
  go_upto_region 8 with fail
  have HKD := Lib.hid fun q => HKK.out (w3.drewN q) (bdrew HB3.out q)
  go_quiet ((go_at_call 14; exact (HKD.out _).mono (fun _ _ h => ⟨h.1, _, h.2⟩)))
  have HBD : Hid (Below w.heap.size w (w3.drewN nq)) := bdrew HB3.out nq
  have PD := Lib.hid (P3.out.drewN nq)
  clear e0 c3
  have e0 := fun i => PD.out.cell i
  cases kq
  case true =>
    have hk1' := hk1 rfl
    rw [if_pos rfl] at hkk
    have hz : (nk : Int) - 1 = (kn : Int) := hkk.symm
    clear hkk hk1
    by_cases h5 : o.at_ < 0
    · have HL : Hid (V = 2) := HV2.out.trans (if_pos (.inl h5))
      go_wp2_with fail
      go_ret
      exact ⟨by rw [HL.out]; rfl, HBD⟩
    by_cases h6 : (kn : Int) < o.at_
    · have HL : Hid (V = 2) := HV2.out.trans (if_pos (.inr h6))
      go_wp2_with fail
      go_ret
      exact ⟨by rw [HL.out]; rfl, HBD⟩
    have HV3 := Lib.hid (HV2.out.trans (if_neg (by omega)))
    by_cases h9 : 500 ≤ kn
    · have HL : Hid (V = 14) := HV3.out.trans (if_pos h9)
      have h9' : (500 : Int) ≤ (kn : Int) := by omega
      go_wp2_with fail
      go_ret
      exact ⟨by rw [HL.out]; rfl, HBD⟩
    have h9' : ¬ (500 : Int) ≤ (kn : Int) := by omega
    have HV4 := Lib.hid (HV3.out.trans (if_neg h9))
    have HHX := Lib.hid (HHT.out _ HBD)
    by_cases h10 : 40 < (n' : Int) + hg
    · have HL : Hid (V = 13) := HV4.out.trans (if_pos h10)
      go_wp2_with fail
      refine HHX.out.mono ?_
      rintro e w5 ⟨rfl, hb5⟩
      have HB5 : Hid (Below w.heap.size w w5) := HBD.trans (hb5.mono HBD.size)
      clear hb5
      go_wp2_with fail
      go_ret
      exact ⟨by rw [HL.out]; rfl, HB5.out⟩
    · have HL : Hid (V = 0) := HV4.out.trans (if_neg h10)
      go_wp2_with fail
      refine HHX.out.mono ?_
      rintro e w5 ⟨rfl, hb5⟩
      have HB5 : Hid (Below w.heap.size w w5) := HBD.trans (hb5.mono HBD.size)
      clear hb5
      go_wp2_with fail
      go_ret
      exact ⟨by rw [HL.out]; rfl, HB5.out⟩
  case false =>
    rw [if_neg (by decide)] at hkk
    obtain rfl : nk = kn := by omega
    clear hkk hk1
    by_cases h5 : o.at_ < 0
    · have HL : Hid (V = 2) := HV2.out.trans (if_pos (.inl h5))
      go_wp2_with fail
      go_ret
      exact ⟨by rw [HL.out]; rfl, HBD⟩
    by_cases h6 : (nk : Int) < o.at_
    · have HL : Hid (V = 2) := HV2.out.trans (if_pos (.inr h6))
      go_wp2_with fail
      go_ret
      exact ⟨by rw [HL.out]; rfl, HBD⟩
    have HV3 := Lib.hid (HV2.out.trans (if_neg (by omega)))
    by_cases h9 : 500 ≤ nk
    · have HL : Hid (V = 14) := HV3.out.trans (if_pos h9)
      have h9' : (500 : Int) ≤ (nk : Int) := by omega
      go_wp2_with fail
      go_ret
      exact ⟨by rw [HL.out]; rfl, HBD⟩
    have h9' : ¬ (500 : Int) ≤ (nk : Int) := by omega
    have HV4 := Lib.hid (HV3.out.trans (if_neg h9))
    have HHX := Lib.hid (HHT.out _ HBD)
    by_cases h10 : 40 < (n' : Int) + hg
    · have HL : Hid (V = 13) := HV4.out.trans (if_pos h10)
      go_wp2_with fail
      refine HHX.out.mono ?_
      rintro e w5 ⟨rfl, hb5⟩
      have HB5 : Hid (Below w.heap.size w w5) := HBD.trans (hb5.mono HBD.size)
      clear hb5
      go_wp2_with fail
      go_ret
      exact ⟨by rw [HL.out]; rfl, HB5.out⟩
    · have HL : Hid (V = 0) := HV4.out.trans (if_neg h10)
      go_wp2_with fail
      refine HHX.out.mono ?_
      rintro e w5 ⟨rfl, hb5⟩
      have HB5 : Hid (Below w.heap.size w w5) := HBD.trans (hb5.mono HBD.size)
      clear hb5
      go_wp2_with fail
      go_ret
      exact ⟨by rw [HL.out]; rfl, HB5.out⟩
end Go.Proofs.YtmkicfjcgbfaaaaGreat
namespace Go.Proofs.YtmkicfjcgbfaaaaGreat
open Go.RowKit

theorem Good.pos_zero {l : List Bl} {f : Int → Option Int} (G : Good l f) {id : Int} (h : 0 < posOf l id) : id ≠ 0 := by
  rintro rfl
  obtain ⟨r, h1, h2, _⟩ := G.kids.root
  have := posOf_of G.kids.rise h1
  rw [h2] at this
  omega

set_option maxRecDepth 100000 in
set_option maxHeartbeats 8000000 in
/-- tree.checkOp -/
theorem checkOp_any (l : List Bl) (f : Int → Option Int) (G : Good l f) (Al : Option Addr) (n cl : Nat) (o : Opn) (Av : Option Addr) (nv cv : Nat) (w : World) (B : Nat) (hB : B ≤ w.heap.size) (h : RB w B (.slice Al n cl) l) (ho : OI o) (hv : RV w B (.slice Av nv cv) o.val.items) :
    Calls Tryz.prog 60 #[.slice Al n cl, AO (o, .slice Av nv cv)] w fun e w' => e = .returned (.int .i64 (opErr l f o)) ∧ Below w.heap.size w w' := by
  have HF := Lib.hid fun W (hW : Below w.heap.size w W) => checkForm_any o Av nv cv W B (Nat.le_trans hB hW.size) (hv.below (hW.mono hB))
  have HIN := Lib.hid fun W (hW : Below w.heap.size w W) => checkInsert_any l f G Al n cl o Av nv cv W B (Nat.le_trans hB hW.size) (h.below (hW.mono hB)) ho
  have HMV := Lib.hid fun W (hW : Below w.heap.size w W) => checkMove_any l f G Al n cl o Av nv cv W B (Nat.le_trans hB hW.size) (h.below (hW.mono hB)) ho
  have HIa := Lib.hid fun W (hW : Below w.heap.size w W) => index_any l Al n cl o.id W B (Nat.le_trans hB hW.size) (h.below (hW.mono hB)) G.kids.rise G.kids.ids ho.1
  have HST := Lib.hid fun (hid : 0 ≤ posOf l o.id) W (hW : Below w.heap.size w W) => checkSetProp_any l f G Al n cl o Av nv cv W B (Nat.le_trans hB hW.size) (h.below (hW.mono hB)) ho (hv.below (hW.mono hB)) hid
  have HED := Lib.hid fun W => editOf_any o Av nv cv W
  have HN := Lib.hid h.len.1
  have hbg : n * 80 ≤ 140737488351232 := h.len.2.2
  have H := Lib.hid h
  have HTX : Hid (o.text.size ≤ 140737488351232) := ho.2.2.2.2.2
  obtain ⟨V, hV⟩ : ∃ V, V = opErr l f o := ⟨_, rfl⟩
  rw [← hV]
  unfold opErr at hV
  have HV := Lib.hid hV
  obtain ⟨wa, hwa⟩ : ∃ wa, wa = w.alloc (.cells (opC o (.slice Av nv cv)) 31) := ⟨_, rfl⟩
  have HBA : Hid (Below w.heap.size w wa) := by rw [hwa]; exact (Below.refl _ _).alloc (Nat.le_refl _) _
  have P0 : Hid (Blk wa w.heap.size 31 (opC o (.slice Av nv cv))) := by rw [hwa]; exact Blk.new _ _ _
  have HWA := Lib.hid hwa
  dsimp only [AO] at HF HIN HMV HST HED ⊢
  clear h hV hwa hv ho
  have HFE : Hid (formE o = if outI o.kind 1 5 = true then 10 else if usedB o = false then 1 else 0) := rfl
  obtain ⟨fe, hfe⟩ : ∃ fe, fe = formE o := ⟨_, rfl⟩
  rw [← hfe] at HF HFE
  clear hfe
  go_enter Tryz.func60, Tryz.ntmps60
  go_upto_region 1 with fail
  rw [← HWA.out]
  have e0 := fun i => P0.out.cell i
  go_wp2_with fail
  refine (HF.out wa HBA.out).mono ?_
  rintro e w1 ⟨rfl, hb⟩
  have HB1 : Hid (Below w.heap.size w w1) := HBA.out.trans (hb.mono HBA.out.size)
  have P1 := Lib.hid (P0.out.below hb P0.out.lt)
  clear hb e0
  have e0 := fun i => P1.out.cell i
  by_cases h1 : fe = 0
  case neg =>
    have HL : Hid (V = fe) := by
      show _ = _
      have h2 := HFE.out
      by_cases q1 : outI o.kind 1 5 = true
      · rw [if_pos q1] at h2; rw [HV.out, if_pos q1, h2]
      · rw [if_neg q1] at h2
        by_cases q2 : usedB o = false
        · rw [if_pos q2] at h2; rw [HV.out, if_neg q1, if_pos q2, h2]
        · rw [if_neg q2] at h2; exact absurd h2 h1
    have h1' : (fe != 0) = true := by simpa using h1
    clear h1
    go_wp2_with fail
    go_ret
    exact ⟨by rw [HL.out]; rfl, HB1.out⟩
  have HV1 : Hid (V = if o.kind = 1 then insErr l f o else if o.kind = 3 then movErr l f o else if posOf l o.id < 1 then 7 else
      if o.kind = 2 then (if 0 < (blkAt l o.id).kids.length then 11 else 0) else if o.kind = 4 then edErr (blkAt l o.id).text o.text o.from_ o.to_ else setErr (blkAt l o.id).props o) := by
    show _ = _
    have h2 := HFE.out
    by_cases q1 : outI o.kind 1 5 = true
    · rw [if_pos q1] at h2; omega
    · rw [if_neg q1] at h2
      by_cases q2 : usedB o = false
      · rw [if_pos q2] at h2; omega
      · rw [HV.out, if_neg q1, if_neg q2]
  have HK5 : Hid (1 ≤ o.kind ∧ o.kind ≤ 5) := by
    show _ ∧ _
    have h2 := HFE.out
    by_cases q1 : outI o.kind 1 5 = true
    · rw [if_pos q1] at h2; omega
    · unfold outI at q1; rw [decide_eq_true_eq] at q1; omega
  clear HFE
  subst h1
  by_cases k1 : o.kind = 1
  · have HL := Lib.hid (HV1.out.trans (if_pos k1))
    have k1' : (o.kind == 1) = true := by simpa using k1
    clear k1
    go_wp2_with fail
    refine (HIN.out w1 HB1.out).mono ?_
    rintro e w2 ⟨rfl, hb⟩
    have HB2 : Hid (Below w.heap.size w w2) := HB1.out.trans (hb.mono HB1.out.size)
    clear hb
    go_wp2_with fail
    go_ret
    exact ⟨by rw [HL.out]; rfl, HB2.out⟩
  have HV2 := Lib.hid (HV1.out.trans (if_neg k1))
  have k1' : (o.kind == 1) = false := by simpa using k1
  by_cases k3 : o.kind = 3
  · have HL := Lib.hid (HV2.out.trans (if_pos k3))
    have k3' : (o.kind == 3) = true := by simpa using k3
    clear k1 k3
    go_wp2_with fail
    refine (HMV.out w1 HB1.out).mono ?_
    rintro e w2 ⟨rfl, hb⟩
    have HB2 : Hid (Below w.heap.size w w2) := HB1.out.trans (hb.mono HB1.out.size)
    clear hb
    go_wp2_with fail
    go_ret
    exact ⟨by rw [HL.out]; rfl, HB2.out⟩
  have HV3 := Lib.hid (HV2.out.trans (if_neg k3))
  have k3' : (o.kind == 3) = false := by simpa using k3
  go_wp2_with fail
  refine (HIa.out w1 HB1.out).mono ?_
  rintro e w2 ⟨rfl, hb⟩
  have HB2 : Hid (Below w.heap.size w w2) := HB1.out.trans (hb.mono HB1.out.size)
  have P2 := Lib.hid (P1.out.below hb P1.out.lt)
  clear hb e0
  have e0 := fun i => P2.out.cell i
  by_cases h3 : posOf l o.id < 1
  · have HL : Hid (V = 7) := HV3.out.trans (if_pos h3)
    go_wp2_with fail
    go_ret
    exact ⟨by rw [HL.out]; rfl, HB2.out⟩
  have HV4 := Lib.hid (HV3.out.trans (if_neg h3))
  have HSX := Lib.hid (HST.out (by omega))
  obtain ⟨p, b, d, hp, hlp, hbi, hba, _⟩ := G.blk_at (id := o.id) (by omega)
  rw [hba] at HV4 HSX
  rw [hp] at h3 ⊢
  have hpn : p < n := by have := (List.getElem?_eq_some_iff.1 hlp).1; have := HN.out; omega
  obtain ⟨bb, off, Ak, nk, ck, Ap, np, cp, rfl, hbb, _, _, g2, g3, _, hK, _⟩ := H.out.at_ hlp
  have hkl : nk = b.kids.length := hK.len.1
  have htb : b.text.size ≤ 2000 := by
    have := (G.tree.loc b (List.mem_of_getElem? hlp)).1
    unfold txErr at this
    split at this
    · omega
    · omega
  rw [← hkl] at HV4
  have c2 := (HB2.out.cell (p := ⟨bb, off + p * 5 + 2, none⟩) (by show bb < _; omega)).trans g2
  have c3 := (HB2.out.cell (p := ⟨bb, off + p * 5 + 3, none⟩) (by show bb < _; omega)).trans g3
  have i0 : (0 : Int) ≤ (p : Int) := by omega
  have i1 : (p : Int) < (n : Int) := by omega
  have i2 : ¬ ((p : Int) < 1) := by omega
  have HCE := Lib.hid fun W => checkEdit_any b.text o.text o.from_ o.to_ W (by omega) HTX.out
  clear hK hkl hp hlp hba h3 g2 g3 hbi htb
  by_cases k2 : o.kind = 2
  · have HV5 := Lib.hid (HV4.out.trans (if_pos k2))
    have k2' : (o.kind == 2) = true := by simpa using k2
    clear k1 k2 k3
    by_cases h5 : 0 < nk
    · have HL := Lib.hid (HV5.out.trans (if_pos h5))
      have h5' : (0 : Int) < (nk : Int) := by omega
      go_wp2_with fail
      go_ret
      exact ⟨by rw [HL.out]; rfl, HB2.out⟩
    · have HL := Lib.hid (HV5.out.trans (if_neg h5))
      have h5' : ¬ (0 : Int) < (nk : Int) := by omega
      go_wp2_with fail
      go_ret
      exact ⟨by rw [HL.out]; rfl, HB2.out⟩
  have HV5 := Lib.hid (HV4.out.trans (if_neg k2))
  have k2' : (o.kind == 2) = false := by simpa using k2
  by_cases k4 : o.kind = 4
  · have HL := Lib.hid (HV5.out.trans (if_pos k4))
    have k4' : (o.kind == 4) = true := by simpa using k4
    clear k1 k2 k3 k4
    go_upto_region 18 with fail
    have KS : Hid (∀ W, Below w2.heap.size w2 W → W.cell? ⟨w.heap.size, 0, none⟩ = some (.int .i64 o.kind) ∧ W.cell? ⟨w.heap.size, 1, none⟩ = some (.int .i64 o.id) ∧ W.cell? ⟨w.heap.size, 2, none⟩ = some (.int .i64 o.parent) ∧ W.cell? ⟨w.heap.size, 3, none⟩ = some (.int .i64 o.at_) ∧ W.cell? ⟨w.heap.size, 4, none⟩ = some (.int .i64 o.from_) ∧ W.cell? ⟨w.heap.size, 5, none⟩ = some (.int .i64 o.to_) ∧ W.cell? ⟨w.heap.size, 6, none⟩ = some (.string o.text) ∧ W.cell? ⟨w.heap.size, 7, none⟩ = some (.string o.name) ∧ W.cell? ⟨w.heap.size, 8, none⟩ = some (.int .i64 o.val.kind) ∧ W.cell? ⟨w.heap.size, 9, none⟩ = some (.int .i64 o.val.int_) ∧ W.cell? ⟨w.heap.size, 10, none⟩ = some (.int .i64 o.val.to_) ∧ W.cell? ⟨w.heap.size, 11, none⟩ = some (.string o.val.text) ∧ W.cell? ⟨w.heap.size, 12, none⟩ = some (.slice Av nv cv) ∧ W.cell? ⟨bb, off + p * 5 + 3, none⟩ = some (.string b.text)) := fun W hW =>
      have hz := fun i => (hW.cell (p := ⟨w.heap.size, i, none⟩) P2.out.lt).trans (P2.out.cell i)
      ⟨hz 0, hz 1, hz 2, hz 3, hz 4, hz 5, hz 6, hz 7, hz 8, hz 9, hz 10, hz 11, hz 12, (hW.cell (p := ⟨bb, off + p * 5 + 3, none⟩) (by have := HB2.out.size; show bb < _; omega)).trans c3⟩
    clear e0 c2
    obtain ⟨s0, s1, s2, s3, s4, s5, s6, s7, s8, s9, s10, s11, s12, s13⟩ := KS.out w2 (Below.refl _ _)
    clear c3
    go_region_held3 (fun W => W.cell? ⟨w.heap.size, 0, none⟩ = some (.int .i64 o.kind) ∧ W.cell? ⟨w.heap.size, 1, none⟩ = some (.int .i64 o.id) ∧ W.cell? ⟨w.heap.size, 2, none⟩ = some (.int .i64 o.parent) ∧ W.cell? ⟨w.heap.size, 3, none⟩ = some (.int .i64 o.at_) ∧ W.cell? ⟨w.heap.size, 4, none⟩ = some (.int .i64 o.from_) ∧ W.cell? ⟨w.heap.size, 5, none⟩ = some (.int .i64 o.to_) ∧ W.cell? ⟨w.heap.size, 6, none⟩ = some (.string o.text) ∧ W.cell? ⟨w.heap.size, 7, none⟩ = some (.string o.name) ∧ W.cell? ⟨w.heap.size, 8, none⟩ = some (.int .i64 o.val.kind) ∧ W.cell? ⟨w.heap.size, 9, none⟩ = some (.int .i64 o.val.int_) ∧ W.cell? ⟨w.heap.size, 10, none⟩ = some (.int .i64 o.val.to_) ∧ W.cell? ⟨w.heap.size, 11, none⟩ = some (.string o.val.text) ∧ W.cell? ⟨w.heap.size, 12, none⟩ = some (.slice Av nv cv) ∧ W.cell? ⟨bb, off + p * 5 + 3, none⟩ = some (.string b.text))
      (first | exact KS.out _ (Below.refl _ _) | exact KS.out _ (Below.refl _ _).drew | exact KS.out _ HBE.out | exact KS.out _ HBG.out | go_keep)
      (first | (go_at_call 124; refine (HED.out _).mono ?_; rintro e w3 ⟨rfl, hb⟩; have HBE : Hid (Below w2.heap.size w2 w3) := (by first | exact (Below.refl w2.heap.size w2).drew.trans hb | exact hb); clear hb) | (go_at_call 123; refine (HCE.out _).mono ?_; rintro e w4 ⟨rfl, hb⟩; have HBG : Hid (Below w2.heap.size w2 w4) := HBE.out.trans (hb.mono HBE.out.size); clear hb))
    have HB4 : Hid (Below w.heap.size w w4) := HB2.out.trans (HBG.out.mono HB2.out.size)
    clear s0 s1 s2 s3 s4 s5 s6 s7 s8 s9 s10 s11 s12 s13
    go_wp2_with fail
    go_ret
    exact ⟨by rw [HL.out]; rfl, HB4.out⟩
  have HL := Lib.hid (HV5.out.trans (if_neg k4))
  have k4' : (o.kind == 4) = false := by simpa using k4
  clear k1 k2 k3 k4
  go_wp2_with fail
  refine (HSX.out w2 HB2.out).mono ?_
  rintro e w4 ⟨rfl, hb⟩
  have HB4 : Hid (Below w.heap.size w w4) := HB2.out.trans (hb.mono HB2.out.size)
  clear hb
  go_wp2_with fail
  go_ret
  exact ⟨by rw [HL.out]; rfl, HB4.out⟩
end Go.Proofs.YtmkicfjcgbfaaaaGreat
namespace Go.Proofs.YtmkicfjcgbfaaaaGreat
open Go.RowKit

/-- what Put leaves -/
def PutR (l : List Pr) (w : World) (e : Ending) (w' : World) : Prop := (∃ A n c, e = .returned (.tuple #[.slice A n c, .int .i64 0]) ∧ RPrX w' (fun b => w.heap.size ≤ b ∧ b < w'.heap.size) (.slice A n c) l) ∧ Below w.heap.size w w'

set_option maxRecDepth 100000 in
set_option maxHeartbeats 4000000 in
/-- prop.Put without an error -/
theorem put_ok (A : Option Addr) (n c : Nat) (l : List Pr) (s : ByteArray) (v : Vl) (Av : Option Addr) (nv cv : Nat) (w : World) (B : Nat) (hB : B ≤ w.heap.size) (h : RPr w B (.slice A n c) l) (hcp : cpErr l = 0) (hv : RV w B (.slice Av nv cv) v.items) (hs : nmErr s = 0) (hve : vErr v = 0) (hl : (setPr l s v).length ≤ 20) :
    Calls Tryz.prog 133 #[.slice A n c, .string s, AV (v, .slice Av nv cv)] w (PutR (setPr l s v) w) := by
  obtain ⟨wb, hwb⟩ : ∃ wb, wb = w.alloc (.cells #[.int .i64 v.kind, .int .i64 v.int_, .int .i64 v.to_, .string v.text, .slice Av nv cv] 29) := ⟨_, rfl⟩
  have HWB0 : Hid (Below w.heap.size w wb) := by rw [hwb]; exact (Below.refl _ _).alloc (Nat.le_refl _) _
  have P0 : Hid (Blk wb w.heap.size 29 #[.int .i64 v.kind, .int .i64 v.int_, .int .i64 v.to_, .string v.text, .slice Av nv cv]) := by rw [hwb]; exact Blk.new _ _ _
  have HP := Lib.hid fun W (hW : Below w.heap.size w W) => checkProps_any (.slice A n c) l W B (Nat.le_trans hB hW.size) (h.below (hW.mono hB))
  have HNM := Lib.hid fun W => checkName_any s W
  have HWI := Lib.hid fun W (hW : Below w.heap.size w W) => with_any A n c l s v Av nv cv W B (Nat.le_trans hB hW.size) (h.below (hW.mono hB)) hcp (hv.below (hW.mono hB))
  obtain ⟨dv, hdv⟩ := hv
  have HCV := Lib.hid fun W (hW : Below w.heap.size w W) => checkValue_any dv (v, .slice Av nv cv) W B (Nat.le_trans hB hW.size) (hdv.below (hW.mono hB))
  rw [hcp] at HP
  rw [hs] at HNM
  dsimp only at HCV
  rw [hve] at HCV
  have HWB := Lib.hid hwb
  have HL := Lib.hid hl
  dsimp only [AV] at HCV HWI ⊢
  clear h hcp hdv hwb hs hve hl
  go_enter Tryz.func133, Tryz.ntmps133
  go_upto_region 1 with fail
  rw [← HWB.out]
  go_wp2_with fail
  refine (HP.out wb HWB0.out).mono ?_
  rintro e w1 ⟨rfl, hb1⟩
  have HB1 : Hid (Below w.heap.size w w1) := HWB0.out.trans (hb1.mono HWB0.out.size)
  have P1 := Lib.hid (P0.out.below hb1 P0.out.lt)
  clear hb1
  go_wp2_with fail
  refine (HNM.out w1).mono ?_
  rintro e w2 ⟨rfl, hw2⟩
  rw [hw2]
  clear hw2
  have e0 := P1.out.cell 0
  have e1 := P1.out.cell 1
  have e2 := P1.out.cell 2
  have e3 := P1.out.cell 3
  have e4 := P1.out.cell 4
  go_wp2_with fail
  refine (HCV.out w1 HB1.out).mono ?_
  rintro e w3 ⟨rfl, hb3⟩
  have HB3 : Hid (Below w.heap.size w w3) := HB1.out.trans (hb3.mono HB1.out.size)
  have P3 := Lib.hid (P1.out.below hb3 P1.out.lt)
  clear hb3 e0 e1 e2 e3 e4
  have e0 := P3.out.cell 0
  have e1 := P3.out.cell 1
  have e2 := P3.out.cell 2
  have e3 := P3.out.cell 3
  have e4 := P3.out.cell 4
  go_wp2_with fail
  refine (HWI.out w3 HB3.out).mono ?_
  rintro e w4 ⟨⟨A4, n4, c4, rfl, hrx⟩, hb4⟩
  have HB4 : Hid (Below w.heap.size w w4) := HB3.out.trans (hb4.mono HB3.out.size)
  have hz3 := HB3.out.size
  have HRX : Hid (RPrX w4 (fun b => w.heap.size ≤ b ∧ b < w4.heap.size) (.slice A4 n4 c4) (setPr l s v)) := hrx.weak fun b hb => ⟨by omega, hb.2⟩
  have hn4 : n4 ≤ 20 := by
    have h1 := (hrx.reads (B := w4.heap.size) fun b hb => hb.2).len.1
    have := HL.out
    omega
  clear hrx hb4 e0 e1 e2 e3 e4
  go_wp2_with fail
  go_ret2
  exact ⟨⟨A4, n4, c4, rfl, HRX.out⟩, HB4.out⟩
end Go.Proofs.YtmkicfjcgbfaaaaGreat
