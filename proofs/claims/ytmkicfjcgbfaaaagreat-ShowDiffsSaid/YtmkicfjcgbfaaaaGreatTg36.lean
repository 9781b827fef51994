/-
  DERIVED. The walk of tree.checkOp. Conditions: sizes; a base without error.
  The walks of tree.all and tree.All. Conditions: sizes; a base without error.
  The walks of tree.All and tree.Apply. Conditions: sizes.
  By an AI agent.
-/
import Derived.Test.YtmkicfjcgbfaaaaGreatTg30
import Derived.Test.YtmkicfjcgbfaaaaGreatTg32
import Derived.Test.YtmkicfjcgbfaaaaGreatTg28
import Derived.Deep.RegionHeld3
import Derived.Test.YtmkicfjcgbfaaaaGreatTg31
import Derived.Test.YtmkicfjcgbfaaaaGreatTg19
namespace Go.Proofs.YtmkicfjcgbfaaaaGreat
open Go.RowKit

set_option maxRecDepth 100000 in
set_option maxHeartbeats 8000000 in
/-- tree.checkOp -/
theorem checkOp_any (l : List Bl) (f : Int → Option Int) (G : Good l f) (Al : Option Addr) (n cl : Nat) (o : Opn) (Av : Option Addr) (nv cv : Nat) (w : World) (B : Nat) (hB : B ≤ w.heap.size) (h : RB w B (.slice Al n cl) l) (ho : OI o) (hv : RV w B (.slice Av nv cv) o.val.items) :
    Calls Tryz.prog 60 #[.slice Al n cl, AO (o, .slice Av nv cv)] w fun e w' => e = .returned (.int .i64 (opErr l f o)) ∧ Below w.heap.size w w' := by
  have HF := Lib.hid fun W (hW : Below w.heap.size w W) => checkForm_any o Av nv cv W B (Nat.le_trans hB hW.size) (hv.below (hW.mono hB))
  have HIN := Lib.hid fun W (hW : Below w.heap.size w W) => checkInsert_any l f G Al n cl o Av nv cv W B (Nat.le_trans hB hW.size) (h.below (hW.mono hB)) ho
  have HMV := Lib.hid fun W (hW : Below w.heap.size w W) => checkMove_any l f G Al n cl o Av nv cv W B (Nat.le_trans hB hW.size) (h.below (hW.mono hB)) ho
  have HIa := Lib.hid fun W (hW : Below w.heap.size w W) => index_any l Al n cl o.id W B (Nat.le_trans hB hW.size) (h.below (hW.mono hB)) G.kids.rise G.kids.ids ho.1
  have HST := Lib.hid fun (hid : 0 ≤ posOf l o.id) W (hW : Below w.heap.size w W) => checkSetProp_any l f G Al n cl o Av nv cv W B (Nat.le_trans hB hW.size) (h.below (hW.mono hB)) ho (hv.below (hW.mono hB)) hid
  have HED := Lib.hid fun W => editOf_any o Av nv cv W
  have HN := Lib.hid h.len.1
  have hbg : n * 80 ≤ 140737488351232 := h.len.2.2
  have H := Lib.hid h
  have HTX : Hid (o.text.size ≤ 140737488351232) := ho.2.2.2.2.2
  obtain ⟨V, hV⟩ : ∃ V, V = opErr l f o := ⟨_, rfl⟩
  rw [← hV]
  unfold opErr at hV
  have HV := Lib.hid hV
  obtain ⟨wa, hwa⟩ : ∃ wa, wa = w.alloc (.cells (opC o (.slice Av nv cv)) 31) := ⟨_, rfl⟩
  have HBA : Hid (Below w.heap.size w wa) := by rw [hwa]; exact (Below.refl _ _).alloc (Nat.le_refl _) _
  have P0 : Hid (Blk wa w.heap.size 31 (opC o (.slice Av nv cv))) := by rw [hwa]; exact Blk.new _ _ _
  have HWA := Lib.hid hwa
  dsimp only [AO] at HF HIN HMV HST HED ⊢
  clear h hV hwa hv ho
  have HFE : Hid (formE o = if outI o.kind 1 5 = true then 10 else if usedB o = false then 1 else 0) := rfl
  obtain ⟨fe, hfe⟩ : ∃ fe, fe = formE o := ⟨_, rfl⟩
  rw [← hfe] at HF HFE
  clear hfe
  go_enter Tryz.func60, Tryz.ntmps60
  go_upto_region 1 with fail
  rw [← HWA.out]
  have e0 := fun i => P0.out.cell i
  go_wp2_with fail
  refine (HF.out wa HBA.out).mono ?_
  rintro e w1 ⟨rfl, hb⟩
  have HB1 : Hid (Below w.heap.size w w1) := HBA.out.trans (hb.mono HBA.out.size)
  have P1 := Lib.hid (P0.out.below hb P0.out.lt)
  clear hb e0
  have e0 := fun i => P1.out.cell i
  by_cases h1 : fe = 0
  case neg =>
    have HL : Hid (V = fe) := by
      show _ = _
      have h2 := HFE.out
      by_cases q1 : outI o.kind 1 5 = true
      · rw [if_pos q1] at h2; rw [HV.out, if_pos q1, h2]
      · rw [if_neg q1] at h2
        by_cases q2 : usedB o = false
        · rw [if_pos q2] at h2; rw [HV.out, if_neg q1, if_pos q2, h2]
        · rw [if_neg q2] at h2; exact absurd h2 h1
    have h1' : (fe != 0) = true := by simpa using h1
    clear h1
    go_wp2_with fail
    go_ret
    exact ⟨by rw [HL.out]; rfl, HB1.out⟩
  have HV1 : Hid (V = if o.kind = 1 then insErr l f o else if o.kind = 3 then movErr l f o else if posOf l o.id < 1 then 7 else
      if o.kind = 2 then (if 0 < (blkAt l o.id).kids.length then 11 else 0) else if o.kind = 4 then edErr (blkAt l o.id).text o.text o.from_ o.to_ else setErr (blkAt l o.id).props o) := by
    show _ = _
    have h2 := HFE.out
    by_cases q1 : outI o.kind 1 5 = true
    · rw [if_pos q1] at h2; omega
    · rw [if_neg q1] at h2
      by_cases q2 : usedB o = false
      · rw [if_pos q2] at h2; omega
      · rw [HV.out, if_neg q1, if_neg q2]
  have HK5 : Hid (1 ≤ o.kind ∧ o.kind ≤ 5) := by
    show _ ∧ _
    have h2 := HFE.out
    by_cases q1 : outI o.kind 1 5 = true
    · rw [if_pos q1] at h2; omega
    · unfold outI at q1; rw [decide_eq_true_eq] at q1; omega
  clear HFE
  subst h1
  by_cases k1 : o.kind = 1
  · have HL := Lib.hid (HV1.out.trans (if_pos k1))
    have k1' : (o.kind == 1) = true := by simpa using k1
    clear k1
    go_wp2_with fail
    refine (HIN.out w1 HB1.out).mono ?_
    rintro e w2 ⟨rfl, hb⟩
    have HB2 : Hid (Below w.heap.size w w2) := HB1.out.trans (hb.mono HB1.out.size)
    clear hb
    go_wp2_with fail
    go_ret
    exact ⟨by rw [HL.out]; rfl, HB2.out⟩
  have HV2 := Lib.hid (HV1.out.trans (if_neg k1))
  have k1' : (o.kind == 1) = false := by simpa using k1
  by_cases k3 : o.kind = 3
  · have HL := Lib.hid (HV2.out.trans (if_pos k3))
    have k3' : (o.kind == 3) = true := by simpa using k3
    clear k1 k3
    go_wp2_with fail
    refine (HMV.out w1 HB1.out).mono ?_
    rintro e w2 ⟨rfl, hb⟩
    have HB2 : Hid (Below w.heap.size w w2) := HB1.out.trans (hb.mono HB1.out.size)
    clear hb
    go_wp2_with fail
    go_ret
    exact ⟨by rw [HL.out]; rfl, HB2.out⟩
  have HV3 := Lib.hid (HV2.out.trans (if_neg k3))
  have k3' : (o.kind == 3) = false := by simpa using k3
  go_wp2_with fail
  refine (HIa.out w1 HB1.out).mono ?_
  rintro e w2 ⟨rfl, hb⟩
  have HB2 : Hid (Below w.heap.size w w2) := HB1.out.trans (hb.mono HB1.out.size)
  have P2 := Lib.hid (P1.out.below hb P1.out.lt)
  clear hb e0
  have e0 := fun i => P2.out.cell i
  by_cases h3 : posOf l o.id < 1
  · have HL : Hid (V = 7) := HV3.out.trans (if_pos h3)
    go_wp2_with fail
    go_ret
    exact ⟨by rw [HL.out]; rfl, HB2.out⟩
  have HV4 := Lib.hid (HV3.out.trans (if_neg h3))
  have HSX := Lib.hid (HST.out (by omega))
  obtain ⟨p, b, d, hp, hlp, hbi, hba, _⟩ := G.blk_at (id := o.id) (by omega)
  rw [hba] at HV4 HSX
  rw [hp] at h3 ⊢
  have hpn : p < n := by have := (List.getElem?_eq_some_iff.1 hlp).1; have := HN.out; omega
  obtain ⟨bb, off, Ak, nk, ck, Ap, np, cp, rfl, hbb, _, _, g2, g3, _, hK, _⟩ := H.out.at_ hlp
  have hkl : nk = b.kids.length := hK.len.1
  have htb : b.text.size ≤ 2000 := by
    have := (G.tree.loc b (List.mem_of_getElem? hlp)).1
    unfold txErr at this
    split at this
    · omega
    · omega
  rw [← hkl] at HV4
  have c2 := (HB2.out.cell (p := ⟨bb, off + p * 5 + 2, none⟩) (by show bb < _; omega)).trans g2
  have c3 := (HB2.out.cell (p := ⟨bb, off + p * 5 + 3, none⟩) (by show bb < _; omega)).trans g3
  have i0 : (0 : Int) ≤ (p : Int) := by omega
  have i1 : (p : Int) < (n : Int) := by omega
  have i2 : ¬ ((p : Int) < 1) := by omega
  have HCE := Lib.hid fun W => checkEdit_any b.text o.text o.from_ o.to_ W (by omega) HTX.out
  clear hK hkl hp hlp hba h3 g2 g3 hbi htb
  by_cases k2 : o.kind = 2
  · have HV5 := Lib.hid (HV4.out.trans (if_pos k2))
    have k2' : (o.kind == 2) = true := by simpa using k2
    clear k1 k2 k3
    by_cases h5 : 0 < nk
    · have HL := Lib.hid (HV5.out.trans (if_pos h5))
      have h5' : (0 : Int) < (nk : Int) := by omega
      go_wp2_with fail
      go_ret
      exact ⟨by rw [HL.out]; rfl, HB2.out⟩
    · have HL := Lib.hid (HV5.out.trans (if_neg h5))
      have h5' : ¬ (0 : Int) < (nk : Int) := by omega
      go_wp2_with fail
      go_ret
      exact ⟨by rw [HL.out]; rfl, HB2.out⟩
  have HV5 := Lib.hid (HV4.out.trans (if_neg k2))
  have k2' : (o.kind == 2) = false := by simpa using k2
  by_cases k4 : o.kind = 4
  · have HL := Lib.hid (HV5.out.trans (if_pos k4))
    have k4' : (o.kind == 4) = true := by simpa using k4
    clear k1 k2 k3 k4
    go_upto_region 18 with fail
    have KS : Hid (∀ W, Below w2.heap.size w2 W → W.cell? ⟨w.heap.size, 0, none⟩ = some (.int .i64 o.kind) ∧ W.cell? ⟨w.heap.size, 1, none⟩ = some (.int .i64 o.id) ∧ W.cell? ⟨w.heap.size, 2, none⟩ = some (.int .i64 o.parent) ∧ W.cell? ⟨w.heap.size, 3, none⟩ = some (.int .i64 o.at_) ∧ W.cell? ⟨w.heap.size, 4, none⟩ = some (.int .i64 o.from_) ∧ W.cell? ⟨w.heap.size, 5, none⟩ = some (.int .i64 o.to_) ∧ W.cell? ⟨w.heap.size, 6, none⟩ = some (.string o.text) ∧ W.cell? ⟨w.heap.size, 7, none⟩ = some (.string o.name) ∧ W.cell? ⟨w.heap.size, 8, none⟩ = some (.int .i64 o.val.kind) ∧ W.cell? ⟨w.heap.size, 9, none⟩ = some (.int .i64 o.val.int_) ∧ W.cell? ⟨w.heap.size, 10, none⟩ = some (.int .i64 o.val.to_) ∧ W.cell? ⟨w.heap.size, 11, none⟩ = some (.string o.val.text) ∧ W.cell? ⟨w.heap.size, 12, none⟩ = some (.slice Av nv cv) ∧ W.cell? ⟨bb, off + p * 5 + 3, none⟩ = some (.string b.text)) := fun W hW =>
      have hz := fun i => (hW.cell (p := ⟨w.heap.size, i, none⟩) P2.out.lt).trans (P2.out.cell i)
      ⟨hz 0, hz 1, hz 2, hz 3, hz 4, hz 5, hz 6, hz 7, hz 8, hz 9, hz 10, hz 11, hz 12, (hW.cell (p := ⟨bb, off + p * 5 + 3, none⟩) (by have := HB2.out.size; show bb < _; omega)).trans c3⟩
    clear e0 c2
    obtain ⟨s0, s1, s2, s3, s4, s5, s6, s7, s8, s9, s10, s11, s12, s13⟩ := KS.out w2 (Below.refl _ _)
    clear c3
    go_region_held3 (fun W => W.cell? ⟨w.heap.size, 0, none⟩ = some (.int .i64 o.kind) ∧ W.cell? ⟨w.heap.size, 1, none⟩ = some (.int .i64 o.id) ∧ W.cell? ⟨w.heap.size, 2, none⟩ = some (.int .i64 o.parent) ∧ W.cell? ⟨w.heap.size, 3, none⟩ = some (.int .i64 o.at_) ∧ W.cell? ⟨w.heap.size, 4, none⟩ = some (.int .i64 o.from_) ∧ W.cell? ⟨w.heap.size, 5, none⟩ = some (.int .i64 o.to_) ∧ W.cell? ⟨w.heap.size, 6, none⟩ = some (.string o.text) ∧ W.cell? ⟨w.heap.size, 7, none⟩ = some (.string o.name) ∧ W.cell? ⟨w.heap.size, 8, none⟩ = some (.int .i64 o.val.kind) ∧ W.cell? ⟨w.heap.size, 9, none⟩ = some (.int .i64 o.val.int_) ∧ W.cell? ⟨w.heap.size, 10, none⟩ = some (.int .i64 o.val.to_) ∧ W.cell? ⟨w.heap.size, 11, none⟩ = some (.string o.val.text) ∧ W.cell? ⟨w.heap.size, 12, none⟩ = some (.slice Av nv cv) ∧ W.cell? ⟨bb, off + p * 5 + 3, none⟩ = some (.string b.text))
      (first | exact KS.out _ (Below.refl _ _) | exact KS.out _ (Below.refl _ _).drew | exact KS.out _ HBE.out | exact KS.out _ HBG.out | go_keep)
      (first | (go_at_call 124; refine (HED.out _).mono ?_; rintro e w3 ⟨rfl, hb⟩; have HBE : Hid (Below w2.heap.size w2 w3) := (by first | exact (Below.refl w2.heap.size w2).drew.trans hb | exact hb); clear hb) | (go_at_call 123; refine (HCE.out _).mono ?_; rintro e w4 ⟨rfl, hb⟩; have HBG : Hid (Below w2.heap.size w2 w4) := HBE.out.trans (hb.mono HBE.out.size); clear hb))
    have HB4 : Hid (Below w.heap.size w w4) := HB2.out.trans (HBG.out.mono HB2.out.size)
    clear s0 s1 s2 s3 s4 s5 s6 s7 s8 s9 s10 s11 s12 s13
    go_wp2_with fail
    go_ret
    exact ⟨by rw [HL.out]; rfl, HB4.out⟩
  have HL := Lib.hid (HV5.out.trans (if_neg k4))
  have k4' : (o.kind == 4) = false := by simpa using k4
  clear k1 k2 k3 k4
  go_wp2_with fail
  refine (HSX.out w2 HB2.out).mono ?_
  rintro e w4 ⟨rfl, hb⟩
  have HB4 : Hid (Below w.heap.size w w4) := HB2.out.trans (hb.mono HB2.out.size)
  clear hb
  go_wp2_with fail
  go_ret
  exact ⟨by rw [HL.out]; rfl, HB4.out⟩
end Go.Proofs.YtmkicfjcgbfaaaaGreat
namespace Go.Proofs.YtmkicfjcgbfaaaaGreat
open Go.RowKit

theorem take_take {α : Type} (l : List α) {i k : Nat} (h : i ≤ k) : (l.take k).take i = l.take i := by
  rw [List.take_take, Nat.min_eq_left h]
theorem OkAll.pre {l : List Bl} {os : List Opn} (h : OkAll l os) (k : Nat) : OkAll l (os.take k) := fun i o hi => by
  rw [List.getElem?_take] at hi
  split at hi
  · rename_i hik
    rw [take_take os (Nat.le_of_lt hik)]
    exact h i o hi
  · cases hi
theorem OkAll.snoc {l : List Bl} {os : List Opn} {k : Nat} {o : Opn} (h : OkAll l (os.take k)) (hk : os[k]? = some o) {f : Int → Option Int} (G : Good (applL l (os.take k)) f) (he : opErr (applL l (os.take k)) f o = 0) : OkAll l (os.take (k + 1)) := fun i x hi => by
  rw [List.getElem?_take] at hi
  split at hi
  · rename_i hik
    rw [take_take os (by omega)]
    by_cases e : i < k
    · have h' := h i x (by rw [List.getElem?_take, if_pos e]; exact hi)
      rwa [take_take os (Nat.le_of_lt e)] at h'
    · obtain rfl : i = k := by omega
      obtain rfl : o = x := by rw [hk] at hi; exact Option.some.inj hi
      exact ⟨f, G, he⟩
  · cases hi
theorem OkAll.good {l : List Bl} {f : Int → Option Int} (G : Good l f) {os : List Opn} (h : OkAll l os) : ∀ k : Nat, k ≤ os.length → ∃ f', Good (applL l (os.take k)) f'
  | 0, _ => ⟨f, G⟩
  | k + 1, hk => by
    have hk' : os[k]? = some os[k] := List.getElem?_eq_getElem (by omega)
    obtain ⟨f', G', he⟩ := h k _ hk'
    obtain ⟨f2, _, G2⟩ := G'.applied he
    exact ⟨f2, by rw [applL_snoc hk']; exact G2⟩
/-- the first operation that is refused, and why -/
def BadAt (l : List Bl) (os : List Opn) (k : Nat) (er : Int) : Prop := ∃ o f, os[k]? = some o ∧ Good (applL l (os.take k)) f ∧ opErr (applL l (os.take k)) f o = er ∧ er ≠ 0
/-- what all leaves -/
def AllR (l : List Bl) (os : List Opn) (g : Option Nat) (w : World) (e : Ending) (w' : World) : Prop :=
  ((∃ (k : Nat) (er : Int), OkAll l (os.take k) ∧ BadAt l os k er ∧ e = .returned (.tuple #[.slice none 0 0, .int .i64 k, .int .i64 er])) ∨ (OkAll l os ∧ ∃ (g' cap' n : Nat) (M : List BK), e = .returned (.tuple #[.slice (some ⟨g', 0, none⟩) n cap', .int .i64 0, .int .i64 0]) ∧ M.length = n ∧ M.map Prod.fst = applL l os ∧ RowB w' g' cap' M ∧ (some g' = g ∨ w.heap.size ≤ g'))) ∧ w.grownBy w' g

set_option maxRecDepth 100000 in
set_option maxHeartbeats 8000000 in
/-- tree.all -/
theorem allIn_any (w : World) (g cap n : Nat) (M : List BK) (l : List Bl) (f : Int → Option Int) (os : List Opn) (h : RowB w g cap M) (hn : M.length = n) (hl : M.map Prod.fst = l) (G : Good l f) (Ao : Option Addr) (no co : Nat) (ho : ROsX w (fun b => b < w.heap.size ∧ b ≠ g) (.slice Ao no co) os) :
    Calls Tryz.prog 93 #[.slice (some ⟨g, 0, none⟩) n cap, .slice Ao no co] w (AllR l os (some g) w) := by
  have hnol := (ho.reads (B := w.heap.size) fun b hb => hb.1).len
  have hno : no * 144 ≤ 140737488351232 := hnol.2.2
  have HNO : Hid (no = os.length) := hnol.1
  have HO := Lib.hid ho
  have HG0 := Lib.hid G
  have H0 := Lib.hid h
  have HL0 : Hid (M.map Prod.fst = applL l (os.take 0)) := hl
  have HN0 := Lib.hid hn
  have HGR : Hid (w.grownBy w (some g)) := grown_below (Below.refl _ _) _
  have HOK0 : Hid (OkAll l (os.take 0)) := fun i o hi => by simp at hi
  clear hnol ho h hl hn G
  go_enter Tryz.func93, Tryz.ntmps93
  go_wp2_with fail
  go_loopg [0, 12] no (fun gg s0 s12 wr => ∃ (k g' cap' nM : Nat) (M' : List BK), k + gg = no ∧ s12 = .int .i64 (k : Int) ∧ s0 = .slice (some ⟨g', 0, none⟩) nM cap' ∧ Hid (M'.length = nM) ∧ Hid (M'.map Prod.fst = applL l (os.take k)) ∧ Hid (RowB wr g' cap' M') ∧ Hid (w.grownBy wr (some g)) ∧ Hid (g' = g ∨ w.heap.size ≤ g') ∧ Hid (OkAll l (os.take k)))
  case atStart => exact ⟨0, g, cap, n, M, by omega, rfl, rfl, HN0, HL0, H0, HGR, .inl rfl, HOK0⟩
  case round =>
    obtain ⟨k, g', cap', nM, M', hkg, rfl, rfl, hml, hmm, hrow, hgr, hgg, hok⟩ := hrel
    obtain ⟨W1, rfl⟩ : ∃ W1, W1 = wr := ⟨_, rfl⟩
    have hgw := hrow.out.lt
    by_cases hk : k < no
    · obtain ⟨o, hko⟩ : ∃ o, os[k]? = some o := ⟨_, List.getElem?_eq_getElem (by have := HNO.out; omega)⟩
      obtain ⟨f', G⟩ := hok.out.good HG0.out k (by rw [List.length_take, ← HNO.out]; omega)
      rw [take_take os (Nat.le_refl k)] at G
      have HWZ : w.heap.size ≤ W1.heap.size := hgr.out.size
      have HKP : ∀ p : Addr, p.block < w.heap.size ∧ p.block ≠ g → W1.cell? p = w.cell? p := fun p hp => World.cell?_of_block (hgr.out.block _ hp.1 fun e => hp.2 (Option.some.inj e))
      obtain ⟨b, off, Av, nv, cv, rfl, hSb, hc, hrv, hoi⟩ := (HO.out.keep (W' := W1) HKP).at_ (B := w.heap.size) (fun b hb => hb.1) hko
      have HRV : Hid (RVX W1 (fun b => b < W1.heap.size ∧ b ≠ g') (.slice Av nv cv) o.val.items) := hrv.weak fun b hb => ⟨by omega, fun e => by
        rcases hgg.out with r | r
        · exact hb.2 (by rw [e, r])
        · omega⟩
      obtain ⟨er, her⟩ : ∃ er, er = opErr (applL l (os.take k)) f' o := ⟨_, rfl⟩
      have HER := Lib.hid her
      have HG := Lib.hid G
      have HKO := Lib.hid hko
      have HOI := Lib.hid hoi
      have j0 : (0 : Int) ≤ (k : Int) := by omega
      have j1 : (k : Int) < (no : Int) := by omega
      obtain ⟨oc, hoc⟩ : ∃ oc, oc = opC o (.slice Av nv cv) := ⟨_, rfl⟩
      have g0 : W1.cell? ⟨b, off + k * 13, none⟩ = some (.int .i64 o.kind) := hc 0 _ rfl
      have g1 : W1.cell? ⟨b, off + k * 13 + 1, none⟩ = some (.int .i64 o.id) := hc 1 _ rfl
      have g2 : W1.cell? ⟨b, off + k * 13 + 2, none⟩ = some (.int .i64 o.parent) := hc 2 _ rfl
      have g3 : W1.cell? ⟨b, off + k * 13 + 3, none⟩ = some (.int .i64 o.at_) := hc 3 _ rfl
      have g4 : W1.cell? ⟨b, off + k * 13 + 4, none⟩ = some (.int .i64 o.from_) := hc 4 _ rfl
      have g5 : W1.cell? ⟨b, off + k * 13 + 5, none⟩ = some (.int .i64 o.to_) := hc 5 _ rfl
      have g6 : W1.cell? ⟨b, off + k * 13 + 6, none⟩ = some (.string o.text) := hc 6 _ rfl
      have g7 : W1.cell? ⟨b, off + k * 13 + 7, none⟩ = some (.string o.name) := hc 7 _ rfl
      have g8 : W1.cell? ⟨b, off + k * 13 + 8, none⟩ = some (.int .i64 o.val.kind) := hc 8 _ rfl
      have g9 : W1.cell? ⟨b, off + k * 13 + 9, none⟩ = some (.int .i64 o.val.int_) := hc 9 _ rfl
      have g10 : W1.cell? ⟨b, off + k * 13 + 10, none⟩ = some (.int .i64 o.val.to_) := hc 10 _ rfl
      have g11 : W1.cell? ⟨b, off + k * 13 + 11, none⟩ = some (.string o.val.text) := hc 11 _ rfl
      have g12 : W1.cell? ⟨b, off + k * 13 + 12, none⟩ = some (.slice Av nv cv) := hc 12 _ rfl
      obtain ⟨wa, hwa⟩ : ∃ wa, wa = W1.alloc (.cells (opC o (.slice Av nv cv)) 31) := ⟨_, rfl⟩
      have hal : Below W1.heap.size W1 wa := by rw [hwa]; exact (Below.refl _ _).alloc (Nat.le_refl _) _
      have hza : W1.heap.size < wa.heap.size := by rw [hwa]; simp
      have P0 : Hid (Blk wa W1.heap.size 31 (opC o (.slice Av nv cv))) := by rw [hwa]; exact Blk.new _ _ _
      have HRA := Lib.hid (hrow.out.below hal)
      have HCO := Lib.hid (checkOp_any (M'.map Prod.fst) f' (by rw [hmm.out]; exact G) (some ⟨g', 0, none⟩) M'.length cap' o Av nv cv wa wa.heap.size (Nat.le_refl _) HRA.out.rb hoi (((HRV.out.reads (B := W1.heap.size) fun b hb => hb.1).below hal).more hal.size))
      rw [hml.out, hmm.out, ← her] at HCO
      have HAL := Lib.hid hal
      have HWA := Lib.hid hwa
      clear hko G hSb hc hrv hoi hal hwa HKP her hoc
      dsimp only [AO] at HCO
      go_upto_region 4 with fail
      rw [← HWA.out]
      clear g0 g1 g2 g3 g4 g5 g6 g7 g8 g9 g10 g11 g12
      have e0 := fun i => P0.out.cell i
      go_wp2_with fail
      refine HCO.out.mono ?_
      rintro e w2 ⟨rfl, hb2⟩
      have HB2 : Hid (Below W1.heap.size W1 w2) := HAL.out.trans (hb2.mono HAL.out.size)
      have P2 := Lib.hid (P0.out.below hb2 P0.out.lt)
      have HR2 := Lib.hid (hrow.out.below HB2.out)
      have hz2 := HB2.out.size
      have HW2 : Hid (w.grownBy w2 (some g)) := Lib.grownBy_trans hgr.out (grown_below HB2.out _)
      clear hb2 e0
      have e0 := fun i => P2.out.cell i
      by_cases h0 : er = 0
      · subst h0
        have HOK' : Hid (OkAll l (os.take (k + 1))) := hok.out.snoc HKO.out HG.out HER.out.symm
        have HSN : Hid (applL l (os.take (k + 1)) = applL (applL l (os.take k)) [o]) := applL_snoc HKO.out
        obtain ⟨wc, hwc⟩ : ∃ wc, wc = w2.alloc (.cells (opC o (.slice Av nv cv)) 31) := ⟨_, rfl⟩
        have hbc : Below w2.heap.size w2 wc := by rw [hwc]; exact (Below.refl _ _).alloc (Nat.le_refl _) _
        have hzc : wc.heap.size = w2.heap.size + 1 := by rw [hwc]; simp
        have hkc : Blk wc w2.heap.size 31 (opV (o, .slice Av nv cv)).toArray := by rw [hwc]; exact Blk.new _ _ _
        have hros : ROsX wc (fun b => b < wc.heap.size ∧ b ≠ g') (.slice (some ⟨w2.heap.size, 0, none⟩) 1 1) [o] := ROsX.one hkc ⟨by omega, by omega⟩ ((HRV.out.keep fun p hp => (HB2.out.trans (hbc.mono HB2.out.size)).cell hp.1).weak fun b hb => ⟨by omega, hb.2⟩) HOI.out
        have HDN := Lib.hid (done_any wc g' cap' nM M' (applL l (os.take k)) [o] (HR2.out.below hbc) hml.out hmm.out _ _ _ hros (OkAll.one HG.out HER.out.symm))
        rw [hwc] at HDN
        have HWC : Hid (w.grownBy (w2.alloc (.cells (opC o (.slice Av nv cv)) 31)) (some g)) := by
          rw [hwc] at hbc
          exact Lib.grownBy_trans HW2.out (grown_below hbc _)
        have hwz := HWC.out.size
        clear hwc hbc hzc hkc hros
        go_wp2_with fail
        refine HDN.out.mono ?_
        rintro e w3 ⟨g3, cap3, n3, M3, rfl, hl3, hm3, hr3, hg3, hat3⟩
        have HW3 : Hid (w.grownBy w3 (some g)) := grown_more HWC.out hg3 hgg.out
        have HL3 := Lib.hid hl3
        have HM3 : Hid (M3.map Prod.fst = applL l (os.take (k + 1))) := hm3.trans HSN.out.symm
        have HR3 := Lib.hid hr3
        have HGG3 : Hid (g3 = g ∨ w.heap.size ≤ g3) := by
          rcases hat3 with e | e
          · rw [e]; exact hgg.out
          · exact .inr (Nat.le_trans hwz e)
        clear hg3 hat3 hl3 hm3 hr3 hwz e0
        go_wp2_with fail
        go_roundg (no - (k + 1))
        case measure => omega
        case rel => exact ⟨k + 1, g3, cap3, n3, M3, by omega, by go_num, rfl, HL3, HM3, HR3, HW3, HGG3, HOK'⟩
      · have h0' : (er != 0) = true := by simpa using h0
        have HBAD : Hid (BadAt l os k er) := ⟨o, f', HKO.out, HG.out, HER.out.symm, h0⟩
        clear h0
        go_wp2_with fail
        go_ret3
        exact ⟨.inl ⟨k, er, hok.out, HBAD.out, rfl⟩, HW2.out⟩
    · obtain rfl : no = k := by omega
      have HOKF : Hid (OkAll l os) := by
        have := hok.out
        rw [HNO.out, List.take_length] at this
        exact this
      have HMF : Hid (M'.map Prod.fst = applL l os) := by
        have := hmm.out
        rw [HNO.out, List.take_length] at this
        exact this
      go_wp2_with fail
      go_ret3
      exact ⟨.inr ⟨HOKF.out, g', cap', nM, M', rfl, hml.out, HMF.out, hrow.out, hgg.out.imp (fun e => by rw [e]) id⟩, hgr.out⟩
end Go.Proofs.YtmkicfjcgbfaaaaGreat
namespace Go.Proofs.YtmkicfjcgbfaaaaGreat
open Go.RowKit

theorem below_own {w w1 w2 : World} {g : Nat} (h : Below w.heap.size w w1) (k : w1.grownBy w2 (some g)) (hg : w.heap.size ≤ g) : Below w.heap.size w w2 :=
  h.trans ⟨k.os, k.tape, k.output, k.size, fun i hi => k.block i (Nat.lt_of_lt_of_le hi h.size) fun e => by have : i = g := Option.some.inj e; omega⟩

end Go.Proofs.YtmkicfjcgbfaaaaGreat
