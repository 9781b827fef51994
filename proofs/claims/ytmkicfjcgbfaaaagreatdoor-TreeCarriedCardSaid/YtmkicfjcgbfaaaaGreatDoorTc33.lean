/-
  DERIVED. The walk of tree.checkOp. Conditions: sizes; a base without error.
  The walk of tree.Inverse. Conditions: sizes.
  The walk of the reference's OpError. Conditions: sizes; a base without error.
  Where a block is among its parent's, in plain Lean. Conditions: none.
  The walks of tree.among, checked, Indent, Outdent. Conditions: sizes.
  What the walks of the reference's Applied share. Conditions: none.
  A base in a row of the call's own: one block taken out, one put in (append, copy, store). Conditions: sizes.
  The walk of the reference's Applied, kind 1. Conditions: sizes; an operation without error.
  The walk of the reference's Applied, kind 2. Conditions: sizes; an operation without error.
  The walk of the reference's Applied, kind 3. Conditions: sizes; an operation without error.
  The walk of the reference's Applied, kind 4. Conditions: sizes; an operation without error.
  The walk of the reference's Applied, kind 5. Conditions: sizes; an operation without error.
  The reference's Applied, whatever the operation's kind. Conditions: sizes; an operation without error.
  The walk of the reference's OpError. Conditions: sizes; a base without error.
  By an AI agent.
-/
import Derived.Test.YtmkicfjcgbfaaaaGreatDoorTc31
import Derived.Test.YtmkicfjcgbfaaaaGreatDoorTc30
import Derived.Test.YtmkicfjcgbfaaaaGreatDoorTc29
import Derived.Deep.RegionHeld3
import Derived.Test.YtmkicfjcgbfaaaaGreatDoorTc24
import Derived.Test.YtmkicfjcgbfaaaaGreatDoorTc27
import Derived.Test.YtmkicfjcgbfaaaaGreatDoorTc07
import Derived.Test.YtmkicfjcgbfaaaaGreatDoorTc23
import Derived.Test.YtmkicfjcgbfaaaaGreatDoorTc28
import Derived.Test.YtmkicfjcgbfaaaaGreatDoorTc26
import Derived.Test.YtmkicfjcgbfaaaaGreatDoorTc04
namespace Go.Proofs.YtmkicfjcgbfaaaaGreatDoor
open Go.RowKit

set_option maxRecDepth 100000 in
set_option maxHeartbeats 8000000 in
/-- tree.checkOp -/
theorem checkOp_any (l : List Bl) (f : Int → Option Int) (G : Good l f) (Al : Option Addr) (n cl : Nat) (o : Opn) (Av : Option Addr) (nv cv : Nat) (w : World) (B : Nat) (hB : B ≤ w.heap.size) (h : RB w B (.slice Al n cl) l) (ho : OI o) (hv : RV w B (.slice Av nv cv) o.val.items) :
    Calls Tryz.prog 47 #[.slice Al n cl, AO (o, .slice Av nv cv)] w fun e w' => e = .returned (.int .i64 (opErr l f o)) ∧ Below w.heap.size w w' := by
  have HF := Lib.hid fun W (hW : Below w.heap.size w W) => checkForm_any o Av nv cv W B (Nat.le_trans hB hW.size) (hv.below (hW.mono hB))
  have HIN := Lib.hid fun W (hW : Below w.heap.size w W) => checkInsert_any l f G Al n cl o Av nv cv W B (Nat.le_trans hB hW.size) (h.below (hW.mono hB)) ho
  have HMV := Lib.hid fun W (hW : Below w.heap.size w W) => checkMove_any l f G Al n cl o Av nv cv W B (Nat.le_trans hB hW.size) (h.below (hW.mono hB)) ho
  have HIa := Lib.hid fun W (hW : Below w.heap.size w W) => index_any l Al n cl o.id W B (Nat.le_trans hB hW.size) (h.below (hW.mono hB)) G.kids.rise G.kids.ids ho.1
  have HST := Lib.hid fun (hid : 0 ≤ posOf l o.id) W (hW : Below w.heap.size w W) => checkSetProp_any l f G Al n cl o Av nv cv W B (Nat.le_trans hB hW.size) (h.below (hW.mono hB)) ho (hv.below (hW.mono hB)) hid
  have HED := Lib.hid fun W => editOf_any o Av nv cv W
  have HN := Lib.hid h.len.1
  have hbg : n * 80 ≤ 140737488351232 := h.len.2.2
  have H := Lib.hid h
  have HTX : Hid (o.text.size ≤ 140737488351232) := ho.2.2.2.2.2
  obtain ⟨V, hV⟩ : ∃ V, V = opErr l f o := ⟨_, rfl⟩
  rw [← hV]
  unfold opErr at hV
  have HV := Lib.hid hV
  obtain ⟨wa, hwa⟩ : ∃ wa, wa = w.alloc (.cells (opC o (.slice Av nv cv)) 67) := ⟨_, rfl⟩
  have HBA : Hid (Below w.heap.size w wa) := by rw [hwa]; exact (Below.refl _ _).alloc (Nat.le_refl _) _
  have P0 : Hid (Blk wa w.heap.size 67 (opC o (.slice Av nv cv))) := by rw [hwa]; exact Blk.new _ _ _
  have HWA := Lib.hid hwa
  dsimp only [AO] at HF HIN HMV HST HED ⊢
  clear h hV hwa hv ho
  have HFE : Hid (formE o = if outI o.kind 1 5 = true then 10 else if usedB o = false then 1 else 0) := rfl
  obtain ⟨fe, hfe⟩ : ∃ fe, fe = formE o := ⟨_, rfl⟩
  rw [← hfe] at HF HFE
  clear hfe
  go_enter Tryz.func47, Tryz.ntmps47
  go_upto_region 1 with fail
  rw [← HWA.out]
  have e0 := fun i => P0.out.cell i
  go_wp2_with fail
  refine (HF.out wa HBA.out).mono ?_
  rintro e w1 ⟨rfl, hb⟩
  have HB1 : Hid (Below w.heap.size w w1) := HBA.out.trans (hb.mono HBA.out.size)
  have P1 := Lib.hid (P0.out.below hb P0.out.lt)
  clear hb e0
  have e0 := fun i => P1.out.cell i
  by_cases h1 : fe = 0
  case neg =>
    have HL : Hid (V = fe) := by
      show _ = _
      have h2 := HFE.out
      by_cases q1 : outI o.kind 1 5 = true
      · rw [if_pos q1] at h2; rw [HV.out, if_pos q1, h2]
      · rw [if_neg q1] at h2
        by_cases q2 : usedB o = false
        · rw [if_pos q2] at h2; rw [HV.out, if_neg q1, if_pos q2, h2]
        · rw [if_neg q2] at h2; exact absurd h2 h1
    have h1' : (fe != 0) = true := by simpa using h1
    clear h1
    go_wp2_with fail
    go_ret
    exact ⟨by rw [HL.out]; rfl, HB1.out⟩
  have HV1 : Hid (V = if o.kind = 1 then insErr l f o else if o.kind = 3 then movErr l f o else if posOf l o.id < 1 then 7 else
      if o.kind = 2 then (if 0 < (blkAt l o.id).kids.length then 11 else 0) else if o.kind = 4 then edErr (blkAt l o.id).text o.text o.from_ o.to_ else setErr (blkAt l o.id).props o) := by
    show _ = _
    have h2 := HFE.out
    by_cases q1 : outI o.kind 1 5 = true
    · rw [if_pos q1] at h2; omega
    · rw [if_neg q1] at h2
      by_cases q2 : usedB o = false
      · rw [if_pos q2] at h2; omega
      · rw [HV.out, if_neg q1, if_neg q2]
  have HK5 : Hid (1 ≤ o.kind ∧ o.kind ≤ 5) := by
    show _ ∧ _
    have h2 := HFE.out
    by_cases q1 : outI o.kind 1 5 = true
    · rw [if_pos q1] at h2; omega
    · unfold outI at q1; rw [decide_eq_true_eq] at q1; omega
  clear HFE
  subst h1
  by_cases k1 : o.kind = 1
  · have HL := Lib.hid (HV1.out.trans (if_pos k1))
    have k1' : (o.kind == 1) = true := by simpa using k1
    clear k1
    go_wp2_with fail
    refine (HIN.out w1 HB1.out).mono ?_
    rintro e w2 ⟨rfl, hb⟩
    have HB2 : Hid (Below w.heap.size w w2) := HB1.out.trans (hb.mono HB1.out.size)
    clear hb
    go_wp2_with fail
    go_ret
    exact ⟨by rw [HL.out]; rfl, HB2.out⟩
  have HV2 := Lib.hid (HV1.out.trans (if_neg k1))
  have k1' : (o.kind == 1) = false := by simpa using k1
  by_cases k3 : o.kind = 3
  · have HL := Lib.hid (HV2.out.trans (if_pos k3))
    have k3' : (o.kind == 3) = true := by simpa using k3
    clear k1 k3
    go_wp2_with fail
    refine (HMV.out w1 HB1.out).mono ?_
    rintro e w2 ⟨rfl, hb⟩
    have HB2 : Hid (Below w.heap.size w w2) := HB1.out.trans (hb.mono HB1.out.size)
    clear hb
    go_wp2_with fail
    go_ret
    exact ⟨by rw [HL.out]; rfl, HB2.out⟩
  have HV3 := Lib.hid (HV2.out.trans (if_neg k3))
  have k3' : (o.kind == 3) = false := by simpa using k3
  go_wp2_with fail
  refine (HIa.out w1 HB1.out).mono ?_
  rintro e w2 ⟨rfl, hb⟩
  have HB2 : Hid (Below w.heap.size w w2) := HB1.out.trans (hb.mono HB1.out.size)
  have P2 := Lib.hid (P1.out.below hb P1.out.lt)
  clear hb e0
  have e0 := fun i => P2.out.cell i
  by_cases h3 : posOf l o.id < 1
  · have HL : Hid (V = 7) := HV3.out.trans (if_pos h3)
    go_wp2_with fail
    go_ret
    exact ⟨by rw [HL.out]; rfl, HB2.out⟩
  have HV4 := Lib.hid (HV3.out.trans (if_neg h3))
  have HSX := Lib.hid (HST.out (by omega))
  obtain ⟨p, b, d, hp, hlp, hbi, hba, _⟩ := G.blk_at (id := o.id) (by omega)
  rw [hba] at HV4 HSX
  rw [hp] at h3 ⊢
  have hpn : p < n := by have := (List.getElem?_eq_some_iff.1 hlp).1; have := HN.out; omega
  obtain ⟨bb, off, Ak, nk, ck, Ap, np, cp, rfl, hbb, _, _, g2, g3, _, hK, _⟩ := H.out.at_ hlp
  have hkl : nk = b.kids.length := hK.len.1
  have htb : b.text.size ≤ 2000 := by
    have := (G.tree.loc b (List.mem_of_getElem? hlp)).1
    unfold txErr at this
    split at this
    · omega
    · omega
  rw [← hkl] at HV4
  have c2 := (HB2.out.cell (p := ⟨bb, off + p * 5 + 2, none⟩) (by show bb < _; omega)).trans g2
  have c3 := (HB2.out.cell (p := ⟨bb, off + p * 5 + 3, none⟩) (by show bb < _; omega)).trans g3
  have i0 : (0 : Int) ≤ (p : Int) := by omega
  have i1 : (p : Int) < (n : Int) := by omega
  have i2 : ¬ ((p : Int) < 1) := by omega
  have HCE := Lib.hid fun W => checkEdit_any b.text o.text o.from_ o.to_ W (by omega) HTX.out
  clear hK hkl hp hlp hba h3 g2 g3 hbi htb
  by_cases k2 : o.kind = 2
  · have HV5 := Lib.hid (HV4.out.trans (if_pos k2))
    have k2' : (o.kind == 2) = true := by simpa using k2
    clear k1 k2 k3
    by_cases h5 : 0 < nk
    · have HL := Lib.hid (HV5.out.trans (if_pos h5))
      have h5' : (0 : Int) < (nk : Int) := by omega
      go_wp2_with fail
      go_ret
      exact ⟨by rw [HL.out]; rfl, HB2.out⟩
    · have HL := Lib.hid (HV5.out.trans (if_neg h5))
      have h5' : ¬ (0 : Int) < (nk : Int) := by omega
      go_wp2_with fail
      go_ret
      exact ⟨by rw [HL.out]; rfl, HB2.out⟩
  have HV5 := Lib.hid (HV4.out.trans (if_neg k2))
  have k2' : (o.kind == 2) = false := by simpa using k2
  by_cases k4 : o.kind = 4
  · have HL := Lib.hid (HV5.out.trans (if_pos k4))
    have k4' : (o.kind == 4) = true := by simpa using k4
    clear k1 k2 k3 k4
    go_upto_region 18 with fail
    have KS : Hid (∀ W, Below w2.heap.size w2 W → W.cell? ⟨w.heap.size, 0, none⟩ = some (.int .i64 o.kind) ∧ W.cell? ⟨w.heap.size, 1, none⟩ = some (.int .i64 o.id) ∧ W.cell? ⟨w.heap.size, 2, none⟩ = some (.int .i64 o.parent) ∧ W.cell? ⟨w.heap.size, 3, none⟩ = some (.int .i64 o.at_) ∧ W.cell? ⟨w.heap.size, 4, none⟩ = some (.int .i64 o.from_) ∧ W.cell? ⟨w.heap.size, 5, none⟩ = some (.int .i64 o.to_) ∧ W.cell? ⟨w.heap.size, 6, none⟩ = some (.string o.text) ∧ W.cell? ⟨w.heap.size, 7, none⟩ = some (.string o.name) ∧ W.cell? ⟨w.heap.size, 8, none⟩ = some (.int .i64 o.val.kind) ∧ W.cell? ⟨w.heap.size, 9, none⟩ = some (.int .i64 o.val.int_) ∧ W.cell? ⟨w.heap.size, 10, none⟩ = some (.int .i64 o.val.to_) ∧ W.cell? ⟨w.heap.size, 11, none⟩ = some (.string o.val.text) ∧ W.cell? ⟨w.heap.size, 12, none⟩ = some (.slice Av nv cv) ∧ W.cell? ⟨bb, off + p * 5 + 3, none⟩ = some (.string b.text)) := fun W hW =>
      have hz := fun i => (hW.cell (p := ⟨w.heap.size, i, none⟩) P2.out.lt).trans (P2.out.cell i)
      ⟨hz 0, hz 1, hz 2, hz 3, hz 4, hz 5, hz 6, hz 7, hz 8, hz 9, hz 10, hz 11, hz 12, (hW.cell (p := ⟨bb, off + p * 5 + 3, none⟩) (by have := HB2.out.size; show bb < _; omega)).trans c3⟩
    clear e0 c2
    obtain ⟨s0, s1, s2, s3, s4, s5, s6, s7, s8, s9, s10, s11, s12, s13⟩ := KS.out w2 (Below.refl _ _)
    clear c3
    go_region_held3 (fun W => W.cell? ⟨w.heap.size, 0, none⟩ = some (.int .i64 o.kind) ∧ W.cell? ⟨w.heap.size, 1, none⟩ = some (.int .i64 o.id) ∧ W.cell? ⟨w.heap.size, 2, none⟩ = some (.int .i64 o.parent) ∧ W.cell? ⟨w.heap.size, 3, none⟩ = some (.int .i64 o.at_) ∧ W.cell? ⟨w.heap.size, 4, none⟩ = some (.int .i64 o.from_) ∧ W.cell? ⟨w.heap.size, 5, none⟩ = some (.int .i64 o.to_) ∧ W.cell? ⟨w.heap.size, 6, none⟩ = some (.string o.text) ∧ W.cell? ⟨w.heap.size, 7, none⟩ = some (.string o.name) ∧ W.cell? ⟨w.heap.size, 8, none⟩ = some (.int .i64 o.val.kind) ∧ W.cell? ⟨w.heap.size, 9, none⟩ = some (.int .i64 o.val.int_) ∧ W.cell? ⟨w.heap.size, 10, none⟩ = some (.int .i64 o.val.to_) ∧ W.cell? ⟨w.heap.size, 11, none⟩ = some (.string o.val.text) ∧ W.cell? ⟨w.heap.size, 12, none⟩ = some (.slice Av nv cv) ∧ W.cell? ⟨bb, off + p * 5 + 3, none⟩ = some (.string b.text))
      (first | exact KS.out _ (Below.refl _ _) | exact KS.out _ (Below.refl _ _).drew | exact KS.out _ HBE.out | exact KS.out _ HBG.out | go_keep)
      (first | (go_at_call 63; refine (HED.out _).mono ?_; rintro e w3 ⟨rfl, hb⟩; have HBE : Hid (Below w2.heap.size w2 w3) := (by first | exact (Below.refl w2.heap.size w2).drew.trans hb | exact hb); clear hb) | (go_at_call 62; refine (HCE.out _).mono ?_; rintro e w4 ⟨rfl, hb⟩; have HBG : Hid (Below w2.heap.size w2 w4) := HBE.out.trans (hb.mono HBE.out.size); clear hb))
    have HB4 : Hid (Below w.heap.size w w4) := HB2.out.trans (HBG.out.mono HB2.out.size)
    clear s0 s1 s2 s3 s4 s5 s6 s7 s8 s9 s10 s11 s12 s13
    go_wp2_with fail
    go_ret
    exact ⟨by rw [HL.out]; rfl, HB4.out⟩
  have HL := Lib.hid (HV5.out.trans (if_neg k4))
  have k4' : (o.kind == 4) = false := by simpa using k4
  clear k1 k2 k3 k4
  go_wp2_with fail
  refine (HSX.out w2 HB2.out).mono ?_
  rintro e w4 ⟨rfl, hb⟩
  have HB4 : Hid (Below w.heap.size w w4) := HB2.out.trans (hb.mono HB2.out.size)
  clear hb
  go_wp2_with fail
  go_ret
  exact ⟨by rw [HL.out]; rfl, HB4.out⟩
end Go.Proofs.YtmkicfjcgbfaaaaGreatDoor
namespace Go.Proofs.YtmkicfjcgbfaaaaGreatDoor
open Go.RowKit

end Go.Proofs.YtmkicfjcgbfaaaaGreatDoor
namespace Go.Proofs.YtmkicfjcgbfaaaaGreatDoor
open Go.RowKit

end Go.Proofs.YtmkicfjcgbfaaaaGreatDoor
namespace Go.Proofs.YtmkicfjcgbfaaaaGreatDoor
open Go.RowKit

/-- where a block is among its parent's -/
structure At (l : List Bl) (id : Int) (p q i : Nat) (x y : Bl) : Prop where
  hx : l[p]? = some x
  hxi : x.id = id
  hy : l[q]? = some y
  hyi : y.id = x.parent
  hk : y.kids[i]? = some id
  ix : ixOf y.kids id = i
  p0 : 0 < p
section
variable {l : List Bl} {f : Int → Option Int} {id : Int} {p q i : Nat} {x y : Bl}
theorem Good.i64 (G : Good l f) (hx : l[p]? = some x) : I64 x.id := by have := G.kids.ids x (List.mem_of_getElem? hx); unfold I64; omega
end
end Go.Proofs.YtmkicfjcgbfaaaaGreatDoor
namespace Go.Proofs.YtmkicfjcgbfaaaaGreatDoor
open Go.RowKit

end Go.Proofs.YtmkicfjcgbfaaaaGreatDoor
namespace Go.Proofs.YtmkicfjcgbfaaaaGreatDoor
open Go.RowKit

end Go.Proofs.YtmkicfjcgbfaaaaGreatDoor
namespace Go.Proofs.YtmkicfjcgbfaaaaGreatDoor
open Go.RowKit

section
variable {w w' : World} {g cap : Nat} {M : List BK}
/-- the row without one block, by append(out[:i], out[i+1:]...) -/
theorem RowB.rem (h : RowB w g cap M) {i : Nat} (hi : i < M.length) : ∃ R : Array Value, RowB (w.setRow g R) g cap (M.take i ++ M.drop (i + 1)) ∧
    ∀ (ty : TypeId) (c0 : Nat) (ad : Addr), (0 < M.length - (i + 1) → ad = ⟨g, (i + 1) * 5, none⟩) → (Builtin.append_ #[22, 22] ty #[.slice (some ⟨g, 0, none⟩) i cap, .slice (some ad) (M.length - (i + 1)) c0]).run Tryz.prog w = .ok (.slice (some ⟨g, 0, none⟩) (M.length - 1) cap) (w.setRow g R) := by
  obtain ⟨i0, hi0, hq0, hq1, hq2⟩ := info_parts block_info
  obtain ⟨sp, h1, h2⟩ := h.row
  have hcl : (M.flatMap blV ++ sp).length = cap * 5 := by rw [List.length_append, fmB_len]; exact h2
  have htk : (M.flatMap blV ++ sp).take (i * 5) = (M.take i).flatMap blV := by
    rw [List.take_append_of_le_length (by rw [fmB_len]; omega), fmB_take]
  have hdl : ((M.drop (i + 1)).flatMap blV).length = (M.length - (i + 1)) * 5 := by rw [fmB_len, List.length_drop]
  obtain ⟨sp', hsp⟩ : ∃ sp', sp' = (M.flatMap blV ++ sp).drop (i * 5 + (M.length - (i + 1)) * 5) := ⟨_, rfl⟩
  have hlen : (M.take i ++ M.drop (i + 1)).length = M.length - 1 := by rw [List.length_append, List.length_take, List.length_drop]; omega
  refine ⟨((M.take i ++ M.drop (i + 1)).flatMap blV ++ sp').toArray, h.setRow ?_ ?_ fun x hx => ?_, fun ty c0 ad had => ?_⟩
  · rw [hlen, hsp, List.length_drop, hcl]
    have := h.len
    omega
  · rw [hlen]; have := h.few; omega
  · rcases List.mem_append.1 hx with hx | hx
    · exact h.nest x (List.mem_of_mem_take hx)
    · exact h.nest x (List.mem_of_mem_drop hx)
  · have := run_append_room (P := Tryz.prog) (ty := ty) w 22 52 i0 Tryz.underlying22 hi0 g i cap _ h1 ad (M.length - (i + 1)) c0 ((M.drop (i + 1)).flatMap blV) (by rw [hdl, hq1])
      (fun j v hj => by
        have hjl := (List.getElem?_eq_some_iff.1 hj).1
        rw [hdl] at hjl
        rw [had (by omega), Addr.add_lit]
        refine h.cells ?_
        rw [← fmB_drop, List.getElem?_drop] at hj
        exact hj) (fun v hv => h.one v (by rw [← fmB_drop] at hv; exact List.mem_of_mem_drop hv)) (by have := h.len; omega) (by rw [hdl, hq1, szB, h2]; have := h.len; omega)
    rw [hq1, hdl, List.toList_toArray, htk, ← hsp, ← List.flatMap_append, show i + (M.length - (i + 1)) = M.length - 1 by omega] at this
    exact this
end
end Go.Proofs.YtmkicfjcgbfaaaaGreatDoor
namespace Go.Proofs.YtmkicfjcgbfaaaaGreatDoor
open Go.RowKit

end Go.Proofs.YtmkicfjcgbfaaaaGreatDoor
namespace Go.Proofs.YtmkicfjcgbfaaaaGreatDoor
open Go.RowKit

end Go.Proofs.YtmkicfjcgbfaaaaGreatDoor
namespace Go.Proofs.YtmkicfjcgbfaaaaGreatDoor
open Go.RowKit

end Go.Proofs.YtmkicfjcgbfaaaaGreatDoor
namespace Go.Proofs.YtmkicfjcgbfaaaaGreatDoor
open Go.RowKit

end Go.Proofs.YtmkicfjcgbfaaaaGreatDoor
namespace Go.Proofs.YtmkicfjcgbfaaaaGreatDoor
open Go.RowKit

end Go.Proofs.YtmkicfjcgbfaaaaGreatDoor
namespace Go.Proofs.YtmkicfjcgbfaaaaGreatDoor
open Go.RowKit

end Go.Proofs.YtmkicfjcgbfaaaaGreatDoor
namespace Go.Proofs.YtmkicfjcgbfaaaaGreatDoor
open Go.RowKit

end Go.Proofs.YtmkicfjcgbfaaaaGreatDoor
