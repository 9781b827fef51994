/-
  DERIVED. The walks of tree.checkSetProp and editOf. Conditions: sizes; a base without error.
  An operation stored whole in a block of the call's own. Conditions: none.
  By an AI agent.
-/
import Derived.Test.YtackphgnkdpgnaaGreatTj18
import Derived.Test.YtackphgnkdpgnaaGreatTj17
import Derived.Test.YtackphgnkdpgnaaGreatTj16
import Derived.Test.YtackphgnkdpgnaaGreatTj09
namespace Go.Proofs.YtackphgnkdpgnaaGreat
open Go.RowKit

set_option maxRecDepth 100000 in
set_option maxHeartbeats 4000000 in
/-- tree.checkSetProp -/
theorem checkSetProp_any (l : List Bl) (f : Int → Option Int) (G : Good l f) (Al : Option Addr) (n cl : Nat) (o : Opn) (Av : Option Addr) (nv cv : Nat) (w : World) (B : Nat) (hB : B ≤ w.heap.size) (h : RB w B (.slice Al n cl) l) (ho : OI o) (hv : RV w B (.slice Av nv cv) o.val.items) (hid : 0 ≤ posOf l o.id) :
    Calls Tryz.prog 57 #[.slice Al n cl, AO (o, .slice Av nv cv)] w fun e w' => e = .returned (.int .i64 (setErr (blkAt l o.id).props o)) ∧ Below w.heap.size w w' := by
  have HIa := Lib.hid fun W (hW : Below w.heap.size w W) => index_any l Al n cl o.id W B (Nat.le_trans hB hW.size) (h.below (hW.mono hB)) G.kids.rise G.kids.ids ho.1
  have HNM := Lib.hid fun W => checkName_any o.name W
  obtain ⟨dv, hdv⟩ := hv
  have HCV := Lib.hid fun W (hW : Below w.heap.size w W) => checkValue_any dv (o.val, .slice Av nv cv) W B (Nat.le_trans hB hW.size) (hdv.below (hW.mono hB))
  obtain ⟨p, b, d, hp, hlp, hbi, hba, _⟩ := G.blk_at hid
  have hpn : p < n := by have := (List.getElem?_eq_some_iff.1 hlp).1; have := h.len.1; omega
  have hbg : n * 80 ≤ 140737488351232 := h.len.2.2
  obtain ⟨bb, off, Ak, nk, ck, Ap, np, cp, rfl, hbb, _, _, _, _, g4, _, hP⟩ := h.at_ hlp
  have hpl : np = b.props.length := hP.len.1
  have HGP := Lib.hid fun W (hW : Below w.heap.size w W) => getP_any b.props Ap np cp o.name W B (Nat.le_trans hB hW.size) (hP.below (hW.mono hB))
  have H := Lib.hid h
  obtain ⟨V, hV⟩ : ∃ V, V = setErr (blkAt l o.id).props o := ⟨_, rfl⟩
  rw [← hV]
  rw [hba] at hV
  unfold setErr at hV
  rw [← hpl] at hV
  rw [hp] at HIa
  have HV := Lib.hid hV
  obtain ⟨wa, hwa⟩ : ∃ wa, wa = w.alloc (.cells (opC o (.slice Av nv cv)) 32) := ⟨_, rfl⟩
  have HBA : Hid (Below w.heap.size w wa) := by rw [hwa]; exact (Below.refl _ _).alloc (Nat.le_refl _) _
  have P0 : Hid (Blk wa w.heap.size 32 (opC o (.slice Av nv cv))) := by rw [hwa]; exact Blk.new _ _ _
  have HWA := Lib.hid hwa
  have i0 : (0 : Int) ≤ (p : Int) := by omega
  have i1 : (p : Int) < (n : Int) := by omega
  have HG4 := Lib.hid g4
  obtain ⟨nm, hnm⟩ : ∃ t, t = nmErr o.name := ⟨_, rfl⟩
  rw [← hnm] at HNM HV
  obtain ⟨ve, hve⟩ : ∃ t, t = vErr o.val := ⟨_, rfl⟩
  dsimp only at HCV
  rw [← hve] at HCV HV
  clear h hV hwa hp hlp hbi hba hP hpl g4 hdv hid hnm hve
  dsimp only [AO]
  dsimp only [AV] at HCV
  go_enter Tryz.func57, Tryz.ntmps57
  go_upto_region 1 with fail
  rw [← HWA.out]
  have e0 := fun i => P0.out.cell i
  go_wp2_with fail
  refine (HNM.out wa).mono ?_
  rintro e w1 ⟨rfl, hw1⟩
  rw [hw1]
  clear hw1
  by_cases h1 : nm = 0
  case neg =>
    have HL : Hid (V = nm) := HV.out.trans (if_pos h1)
    have h1' : (nm != 0) = true := by simpa using h1
    clear h1
    go_wp2_with fail
    go_ret
    exact ⟨by rw [HL.out]; rfl, HBA.out⟩
  have HV1 := Lib.hid (HV.out.trans (if_neg (fun e => e h1)))
  subst h1
  go_wp2_with fail
  refine (HCV.out wa HBA.out).mono ?_
  rintro e w2 ⟨rfl, hb⟩
  have HB2 : Hid (Below w.heap.size w w2) := HBA.out.trans (hb.mono HBA.out.size)
  have P2 := Lib.hid (P0.out.below hb P0.out.lt)
  clear hb e0
  have e0 := fun i => P2.out.cell i
  by_cases h2 : ve = 0
  case neg =>
    have HL : Hid (V = ve) := HV1.out.trans (if_pos h2)
    have h2' : (ve != 0) = true := by simpa using h2
    clear h2
    go_wp2_with fail
    go_ret
    exact ⟨by rw [HL.out]; rfl, HB2.out⟩
  have HV2 := Lib.hid (HV1.out.trans (if_neg (fun e => e h2)))
  subst h2
  go_wp2_with fail
  refine (HIa.out w2 HB2.out).mono ?_
  rintro e w3 ⟨rfl, hb⟩
  have HB3 : Hid (Below w.heap.size w w3) := HB2.out.trans (hb.mono HB2.out.size)
  have P3 := Lib.hid (P2.out.below hb P2.out.lt)
  clear hb e0
  have e0 := fun i => P3.out.cell i
  have g4 := (HB3.out.cell (p := ⟨bb, off + p * 5 + 4, none⟩) (by show bb < _; omega)).trans HG4.out
  go_wp2_with fail
  refine (HGP.out w3 HB3.out).mono ?_
  rintro e w4 ⟨⟨A', n', c', rfl, _⟩, hb⟩
  dsimp only [AV]
  have HB4 : Hid (Below w.heap.size w w4) := HB3.out.trans (hb.mono HB3.out.size)
  have P4 := Lib.hid (P3.out.below hb P3.out.lt)
  clear hb e0 g4
  obtain ⟨q, hq⟩ : ∃ q, q = decide (0 ≤ nmOf b.props o.name) := ⟨_, rfl⟩
  rw [← hq]
  have HQ : Hid ((q = true) = (0 ≤ nmOf b.props o.name)) := by show _ = _; rw [hq, decide_eq_true_eq]
  clear hq
  obtain ⟨cs, hcs⟩ : ∃ cs : Array Value, cs = #[.int .i64 (getP b.props o.name).kind, .int .i64 (getP b.props o.name).int_, .int .i64 (getP b.props o.name).to_, .string (getP b.props o.name).text, .slice A' n' c'] := ⟨_, rfl⟩
  have P5 := Lib.hid (P4.out.alloc (.cells cs 30))
  have HB5 := Lib.hid (HB4.out.alloc HB4.out.size (.cells cs 30))
  have e0 : ∀ i, (w4.alloc (.cells #[.int .i64 (getP b.props o.name).kind, .int .i64 (getP b.props o.name).int_, .int .i64 (getP b.props o.name).to_, .string (getP b.props o.name).text, .slice A' n' c'] 30)).cell? ⟨w.heap.size, i, none⟩ = (opC o (.slice Av nv cv))[i]? := fun i => by rw [← hcs]; exact P5.out.cell i
  rw [hcs] at HB5
  clear hcs
  by_cases h3 : o.val.kind = 0
  · have h3' : (o.val.kind != 0) = false := by rw [h3]; rfl
    have HL : Hid (V = 0) := HV2.out.trans (if_neg (fun e => e.1 h3))
    clear h3
    go_wp2_with fail
    go_ret
    exact ⟨by rw [HL.out]; rfl, HB5.out⟩
  have h3' : (o.val.kind != 0) = true := by simpa using h3
  cases q
  case true =>
    have HL : Hid (V = 0) := HV2.out.trans (if_neg (fun e => by have := HQ.out.mp rfl; omega))
    clear h3
    go_wp2_with fail
    go_ret
    exact ⟨by rw [HL.out]; rfl, HB5.out⟩
  case false =>
    have hneg : nmOf b.props o.name < 0 := by
      have : ¬ 0 ≤ nmOf b.props o.name := fun e => by have := HQ.out.mpr e; cases this
      omega
    by_cases h4 : 20 ≤ np
    · have HL : Hid (V = 14) := HV2.out.trans (if_pos ⟨h3, hneg, h4⟩)
      have h4' : (20 : Int) ≤ (np : Int) := by omega
      clear h3 hneg
      go_wp2_with fail
      go_ret
      exact ⟨by rw [HL.out]; rfl, HB5.out⟩
    · have HL : Hid (V = 0) := HV2.out.trans (if_neg (fun e => h4 e.2.2))
      have h4' : ¬ (20 : Int) ≤ (np : Int) := by omega
      clear h3 hneg
      go_wp2_with fail
      go_ret
      exact ⟨by rw [HL.out]; rfl, HB5.out⟩

set_option maxHeartbeats 1000000 in
/-- tree.editOf -/
theorem editOf_any (o : Opn) (Av : Option Addr) (nv cv : Nat) (w : World) :
    Calls Tryz.prog 56 #[AO (o, .slice Av nv cv)] w fun e w' => e = .returned (.agg #[.int .i64 o.from_, .int .i64 o.to_, .string o.text]) ∧ Below w.heap.size w w' := by
  dsimp only [AO]
  go_enter Tryz.func56, Tryz.ntmps56
  go_wp2_with fail
  exact bodyPost_ret (v := .agg #[.int .i64 o.from_, .int .i64 o.to_, .string o.text]) (by simp [results, Tryz.results56, go_sem]) rfl ⟨rfl, ((Below.refl _ _).alloc (Nat.le_refl _) _).alloc (by simp) _⟩
end Go.Proofs.YtackphgnkdpgnaaGreat
namespace Go.Proofs.YtackphgnkdpgnaaGreat
open Go.RowKit

theorem Blk.setAll {t : TypeId} {g : Nat} : ∀ (vs : List Value) (o : Nat) (w : World) (cs : Array Value), Blk w g t cs → o + vs.length ≤ cs.size → Blk (w.setCells g o vs) g t (cs.toList.take o ++ vs ++ cs.toList.drop (o + vs.length)).toArray
  | [], o, w, cs, h, _ => by
    rw [List.append_nil, List.length_nil, Nat.add_zero, List.take_append_drop]
    exact h
  | v :: r, o, w, cs, h, hl => by
    rw [List.length_cons] at hl
    have h1 := Blk.setAll r (o + 1) (w.setCell ⟨g, o, none⟩ v) _ (h.set_ o v) (by rw [Array.size_setIfInBounds]; omega)
    have ho : o < cs.toList.length := by rw [Array.length_toList]; omega
    have e1 : (cs.setIfInBounds o v).toList.take (o + 1) = cs.toList.take o ++ [v] := by
      rw [Array.toList_setIfInBounds, List.take_set, List.take_succ_eq_append_getElem ho, List.set_append_right _ _ (by rw [List.length_take]; omega)]
      rw [List.length_take, Nat.min_eq_left (by omega), Nat.sub_self]; rfl
    have e2 : (cs.setIfInBounds o v).toList.drop (o + 1 + r.length) = cs.toList.drop (o + (v :: r).length) := by
      rw [Array.toList_setIfInBounds, List.drop_set_of_lt (by omega), List.length_cons]
      congr 1; omega
    rw [e1, e2] at h1
    have e3 : cs.toList.take o ++ [v] ++ r ++ cs.toList.drop (o + (v :: r).length) = cs.toList.take o ++ (v :: r) ++ cs.toList.drop (o + (v :: r).length) := by simp
    rw [e3] at h1
    exact h1
theorem Blk.whole {t : TypeId} {g : Nat} {w : World} {cs : Array Value} (vs : List Value) (h : Blk w g t cs) (hl : vs.length = cs.size) : Blk (w.setCells g 0 vs) g t vs.toArray := by
  have := Blk.setAll vs 0 w cs h (by omega)
  rw [List.take_zero, List.nil_append, List.drop_of_length_le (by rw [Array.length_toList]; omega), List.append_nil] at this
  exact this
theorem Below.setCells {B : Nat} {a : World} {g : Nat} (hg : B ≤ g) : ∀ (vs : List Value) (o : Nat) (w : World), Below B a w → Below B a (w.setCells g o vs)
  | [], _, _, h => h
  | v :: r, o, _, h => Below.setCells hg r (o + 1) _ (h.setCell (p := ⟨g, o, none⟩) hg v)
/-- the cells of an operation -/
theorem op_cells {W : World} {g : Nat} {t : TypeId} {a0 a1 a2 a3 a4 a5 a6 a7 a8 a9 a10 a11 a12 : Value} (h : Blk W g t #[a0, a1, a2, a3, a4, a5, a6, a7, a8, a9, a10, a11, a12]) :
    W.cell? ⟨g, 0, none⟩ = some a0 ∧ W.cell? ⟨g, 1, none⟩ = some a1 ∧ W.cell? ⟨g, 2, none⟩ = some a2 ∧ W.cell? ⟨g, 3, none⟩ = some a3 ∧ W.cell? ⟨g, 4, none⟩ = some a4 ∧ W.cell? ⟨g, 5, none⟩ = some a5 ∧ W.cell? ⟨g, 6, none⟩ = some a6 ∧ W.cell? ⟨g, 7, none⟩ = some a7 ∧ W.cell? ⟨g, 8, none⟩ = some a8 ∧ W.cell? ⟨g, 9, none⟩ = some a9 ∧ W.cell? ⟨g, 10, none⟩ = some a10 ∧ W.cell? ⟨g, 11, none⟩ = some a11 ∧ W.cell? ⟨g, 12, none⟩ = some a12 :=
  ⟨h.cell 0, h.cell 1, h.cell 2, h.cell 3, h.cell 4, h.cell 5, h.cell 6, h.cell 7, h.cell 8, h.cell 9, h.cell 10, h.cell 11, h.cell 12⟩
theorem op_some {W : World} {g : Nat} {t : TypeId} {cs : Array Value} (h : Blk W g t cs) (hs : cs.size = 13) :
    (W.cell? ⟨g, 0, none⟩).isSome = true ∧ (W.cell? ⟨g, 12, none⟩).isSome = true := by
  rw [h.cell, h.cell, Array.getElem?_eq_getElem (by omega), Array.getElem?_eq_getElem (by omega)]
  exact ⟨rfl, rfl⟩
/-- an operation put into its block -/
def putO (W : World) (g : Nat) (a0 a1 a2 a3 a4 a5 a6 a7 a8 a9 a10 a11 a12 : Value) : World :=
  ((((((((((((W.setCell ⟨g, 0, none⟩ a0).setCell ⟨g, 1, none⟩ a1).setCell ⟨g, 2, none⟩ a2).setCell ⟨g, 3, none⟩ a3).setCell ⟨g, 4, none⟩ a4).setCell ⟨g, 5, none⟩ a5).setCell ⟨g, 6, none⟩ a6).setCell ⟨g, 7, none⟩ a7).setCell ⟨g, 8, none⟩ a8).setCell ⟨g, 9, none⟩ a9).setCell ⟨g, 10, none⟩ a10).setCell ⟨g, 11, none⟩ a11).setCell ⟨g, 12, none⟩ a12
theorem putO_eq (W : World) (g : Nat) (a0 a1 a2 a3 a4 a5 a6 a7 a8 a9 a10 a11 a12 : Value) : putO W g a0 a1 a2 a3 a4 a5 a6 a7 a8 a9 a10 a11 a12 = W.setCells g 0 [a0, a1, a2, a3, a4, a5, a6, a7, a8, a9, a10, a11, a12] := rfl
theorem putO_blk {W : World} {g : Nat} {t : TypeId} {cs : Array Value} (a0 a1 a2 a3 a4 a5 a6 a7 a8 a9 a10 a11 a12 : Value) (h : Blk W g t cs) (hs : cs.size = 13) : Blk (putO W g a0 a1 a2 a3 a4 a5 a6 a7 a8 a9 a10 a11 a12) g t #[a0, a1, a2, a3, a4, a5, a6, a7, a8, a9, a10, a11, a12] := by
  rw [putO_eq]
  exact h.whole [a0, a1, a2, a3, a4, a5, a6, a7, a8, a9, a10, a11, a12] (by rw [hs]; rfl)
theorem putO_below {W a : World} {B g : Nat} (a0 a1 a2 a3 a4 a5 a6 a7 a8 a9 a10 a11 a12 : Value) (h : Below B a W) (hg : B ≤ g) : Below B a (putO W g a0 a1 a2 a3 a4 a5 a6 a7 a8 a9 a10 a11 a12) := by
  rw [putO_eq]
  exact Below.setCells hg _ _ _ h
theorem putO_size (W : World) (g : Nat) (a0 a1 a2 a3 a4 a5 a6 a7 a8 a9 a10 a11 a12 : Value) : (putO W g a0 a1 a2 a3 a4 a5 a6 a7 a8 a9 a10 a11 a12).heap.size = W.heap.size := by
  rw [putO_eq, setCells_size]
theorem putO_cell (W : World) (g : Nat) (a0 a1 a2 a3 a4 a5 a6 a7 a8 a9 a10 a11 a12 : Value) (p : Addr) (hp : p.block ≠ g) : (putO W g a0 a1 a2 a3 a4 a5 a6 a7 a8 a9 a10 a11 a12).cell? p = W.cell? p := by
  rw [putO_eq]
  exact World.cell?_of_block (setCells_other _ _ _ _ _ hp)
end Go.Proofs.YtackphgnkdpgnaaGreat
