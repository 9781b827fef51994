/-
  DERIVED. An operation stored whole in a block of the call's own. Conditions: none.
  The walk of tree.checkInsert. Conditions: sizes; a base without error.
  The walks of tree.checkSetProp and editOf. Conditions: sizes; a base without error.
  The walks of tree.height and the reference's height. Conditions: sizes; a base without error.
  What the reference's setProp makes, property by property, is setPr. Conditions: the properties rise by their names.
  By an AI agent.
-/
import Derived.Test.YtmkicfjcgbfaaaaGreatTg17
import Derived.Test.YtmkicfjcgbfaaaaGreatTg26
import Derived.Test.YtmkicfjcgbfaaaaGreatTg19
import Derived.Test.YtmkicfjcgbfaaaaGreatTg06
import Derived.Test.YtmkicfjcgbfaaaaGreatTg23
import Derived.Test.YtmkicfjcgbfaaaaGreatTg11
import Derived.Test.YtmkicfjcgbfaaaaGreatTg05
import Derived.Test.YtmkicfjcgbfaaaaGreatTg25
namespace Go.Proofs.YtmkicfjcgbfaaaaGreat
open Go.RowKit

theorem Blk.setAll {t : TypeId} {g : Nat} : ∀ (vs : List Value) (o : Nat) (w : World) (cs : Array Value), Blk w g t cs → o + vs.length ≤ cs.size → Blk (w.setCells g o vs) g t (cs.toList.take o ++ vs ++ cs.toList.drop (o + vs.length)).toArray
  | [], o, w, cs, h, _ => by
    rw [List.append_nil, List.length_nil, Nat.add_zero, List.take_append_drop]
    exact h
  | v :: r, o, w, cs, h, hl => by
    rw [List.length_cons] at hl
    have h1 := Blk.setAll r (o + 1) (w.setCell ⟨g, o, none⟩ v) _ (h.set_ o v) (by rw [Array.size_setIfInBounds]; omega)
    have ho : o < cs.toList.length := by rw [Array.length_toList]; omega
    have e1 : (cs.setIfInBounds o v).toList.take (o + 1) = cs.toList.take o ++ [v] := by
      rw [Array.toList_setIfInBounds, List.take_set, List.take_succ_eq_append_getElem ho, List.set_append_right _ _ (by rw [List.length_take]; omega)]
      rw [List.length_take, Nat.min_eq_left (by omega), Nat.sub_self]; rfl
    have e2 : (cs.setIfInBounds o v).toList.drop (o + 1 + r.length) = cs.toList.drop (o + (v :: r).length) := by
      rw [Array.toList_setIfInBounds, List.drop_set_of_lt (by omega), List.length_cons]
      congr 1; omega
    rw [e1, e2] at h1
    have e3 : cs.toList.take o ++ [v] ++ r ++ cs.toList.drop (o + (v :: r).length) = cs.toList.take o ++ (v :: r) ++ cs.toList.drop (o + (v :: r).length) := by simp
    rw [e3] at h1
    exact h1
theorem Blk.whole {t : TypeId} {g : Nat} {w : World} {cs : Array Value} (vs : List Value) (h : Blk w g t cs) (hl : vs.length = cs.size) : Blk (w.setCells g 0 vs) g t vs.toArray := by
  have := Blk.setAll vs 0 w cs h (by omega)
  rw [List.take_zero, List.nil_append, List.drop_of_length_le (by rw [Array.length_toList]; omega), List.append_nil] at this
  exact this
theorem Below.setCells {B : Nat} {a : World} {g : Nat} (hg : B ≤ g) : ∀ (vs : List Value) (o : Nat) (w : World), Below B a w → Below B a (w.setCells g o vs)
  | [], _, _, h => h
  | v :: r, o, _, h => Below.setCells hg r (o + 1) _ (h.setCell (p := ⟨g, o, none⟩) hg v)
/-- the cells of an operation -/
theorem op_cells {W : World} {g : Nat} {t : TypeId} {a0 a1 a2 a3 a4 a5 a6 a7 a8 a9 a10 a11 a12 : Value} (h : Blk W g t #[a0, a1, a2, a3, a4, a5, a6, a7, a8, a9, a10, a11, a12]) :
    W.cell? ⟨g, 0, none⟩ = some a0 ∧ W.cell? ⟨g, 1, none⟩ = some a1 ∧ W.cell? ⟨g, 2, none⟩ = some a2 ∧ W.cell? ⟨g, 3, none⟩ = some a3 ∧ W.cell? ⟨g, 4, none⟩ = some a4 ∧ W.cell? ⟨g, 5, none⟩ = some a5 ∧ W.cell? ⟨g, 6, none⟩ = some a6 ∧ W.cell? ⟨g, 7, none⟩ = some a7 ∧ W.cell? ⟨g, 8, none⟩ = some a8 ∧ W.cell? ⟨g, 9, none⟩ = some a9 ∧ W.cell? ⟨g, 10, none⟩ = some a10 ∧ W.cell? ⟨g, 11, none⟩ = some a11 ∧ W.cell? ⟨g, 12, none⟩ = some a12 :=
  ⟨h.cell 0, h.cell 1, h.cell 2, h.cell 3, h.cell 4, h.cell 5, h.cell 6, h.cell 7, h.cell 8, h.cell 9, h.cell 10, h.cell 11, h.cell 12⟩
/-- an operation put into its block -/
def putO (W : World) (g : Nat) (a0 a1 a2 a3 a4 a5 a6 a7 a8 a9 a10 a11 a12 : Value) : World :=
  ((((((((((((W.setCell ⟨g, 0, none⟩ a0).setCell ⟨g, 1, none⟩ a1).setCell ⟨g, 2, none⟩ a2).setCell ⟨g, 3, none⟩ a3).setCell ⟨g, 4, none⟩ a4).setCell ⟨g, 5, none⟩ a5).setCell ⟨g, 6, none⟩ a6).setCell ⟨g, 7, none⟩ a7).setCell ⟨g, 8, none⟩ a8).setCell ⟨g, 9, none⟩ a9).setCell ⟨g, 10, none⟩ a10).setCell ⟨g, 11, none⟩ a11).setCell ⟨g, 12, none⟩ a12
theorem putO_eq (W : World) (g : Nat) (a0 a1 a2 a3 a4 a5 a6 a7 a8 a9 a10 a11 a12 : Value) : putO W g a0 a1 a2 a3 a4 a5 a6 a7 a8 a9 a10 a11 a12 = W.setCells g 0 [a0, a1, a2, a3, a4, a5, a6, a7, a8, a9, a10, a11, a12] := rfl
theorem putO_blk {W : World} {g : Nat} {t : TypeId} {cs : Array Value} (a0 a1 a2 a3 a4 a5 a6 a7 a8 a9 a10 a11 a12 : Value) (h : Blk W g t cs) (hs : cs.size = 13) : Blk (putO W g a0 a1 a2 a3 a4 a5 a6 a7 a8 a9 a10 a11 a12) g t #[a0, a1, a2, a3, a4, a5, a6, a7, a8, a9, a10, a11, a12] := by
  rw [putO_eq]
  exact h.whole [a0, a1, a2, a3, a4, a5, a6, a7, a8, a9, a10, a11, a12] (by rw [hs]; rfl)
theorem putO_below {W a : World} {B g : Nat} (a0 a1 a2 a3 a4 a5 a6 a7 a8 a9 a10 a11 a12 : Value) (h : Below B a W) (hg : B ≤ g) : Below B a (putO W g a0 a1 a2 a3 a4 a5 a6 a7 a8 a9 a10 a11 a12) := by
  rw [putO_eq]
  exact Below.setCells hg _ _ _ h
theorem putO_size (W : World) (g : Nat) (a0 a1 a2 a3 a4 a5 a6 a7 a8 a9 a10 a11 a12 : Value) : (putO W g a0 a1 a2 a3 a4 a5 a6 a7 a8 a9 a10 a11 a12).heap.size = W.heap.size := by
  rw [putO_eq, setCells_size]
theorem putO_cell (W : World) (g : Nat) (a0 a1 a2 a3 a4 a5 a6 a7 a8 a9 a10 a11 a12 : Value) (p : Addr) (hp : p.block ≠ g) : (putO W g a0 a1 a2 a3 a4 a5 a6 a7 a8 a9 a10 a11 a12).cell? p = W.cell? p := by
  rw [putO_eq]
  exact World.cell?_of_block (setCells_other _ _ _ _ _ hp)
end Go.Proofs.YtmkicfjcgbfaaaaGreat
namespace Go.Proofs.YtmkicfjcgbfaaaaGreat
open Go.RowKit

theorem Good.blk_at {l : List Bl} {f : Int → Option Int} (G : Good l f) {id : Int} (h : 0 ≤ posOf l id) : ∃ (p : Nat) (b : Bl) (d : Nat), posOf l id = (p : Int) ∧ l[p]? = some b ∧ b.id = id ∧ blkAt l id = b ∧ Dp l id d ∧ d ≤ 40 ∧ dF f id = (d : Int) := by
  rcases posOf_spec l id with ⟨e, _⟩ | ⟨p, b, e, hb, hbi, _⟩
  · omega
  · obtain ⟨d, h1, h2, h3⟩ := G.dp (List.mem_of_getElem? hb)
    rw [hbi] at h1 h2
    exact ⟨p, b, d, e, hb, hbi, blkAt_of e hb, h2, h3, by unfold dF; rw [h1]; rfl⟩
/-- the cells of an operation that lies in a block of its own -/
abbrev opC (o : Opn) (v : Value) : Array Value := #[.int .i64 o.kind, .int .i64 o.id, .int .i64 o.parent, .int .i64 o.at_, .int .i64 o.from_, .int .i64 o.to_, .string o.text, .string o.name, .int .i64 o.val.kind, .int .i64 o.val.int_, .int .i64 o.val.to_, .string o.val.text, v]

set_option maxRecDepth 100000 in
set_option maxHeartbeats 4000000 in
/-- tree.checkInsert -/
theorem checkInsert_any (l : List Bl) (f : Int → Option Int) (G : Good l f) (Al : Option Addr) (n cl : Nat) (o : Opn) (Av : Option Addr) (nv cv : Nat) (w : World) (B : Nat) (hB : B ≤ w.heap.size) (h : RB w B (.slice Al n cl) l) (ho : OI o) :
    Calls Tryz.prog 121 #[.slice Al n cl, AO (o, .slice Av nv cv)] w fun e w' => e = .returned (.int .i64 (insErr l f o)) ∧ Below w.heap.size w w' := by
  have HIa := Lib.hid fun W (hW : Below w.heap.size w W) => index_any l Al n cl o.id W B (Nat.le_trans hB hW.size) (h.below (hW.mono hB)) G.kids.rise G.kids.ids ho.1
  have HIp := Lib.hid fun W (hW : Below w.heap.size w W) => index_any l Al n cl o.parent W B (Nat.le_trans hB hW.size) (h.below (hW.mono hB)) G.kids.rise G.kids.ids ho.2.1
  have HT := Lib.hid fun W => checkT_any o.text W
  have HN := Lib.hid h.len.1
  have hbg : n * 80 ≤ 140737488351232 := h.len.2.2
  have H := Lib.hid h
  obtain ⟨V, hV⟩ : ∃ V, V = insErr l f o := ⟨_, rfl⟩
  rw [← hV]
  unfold insErr at hV
  have HV := Lib.hid hV
  obtain ⟨wa, hwa⟩ : ∃ wa, wa = w.alloc (.cells (opC o (.slice Av nv cv)) 31) := ⟨_, rfl⟩
  have HBA : Hid (Below w.heap.size w wa) := by rw [hwa]; exact (Below.refl _ _).alloc (Nat.le_refl _) _
  have P0 : Hid (Blk wa w.heap.size 31 (opC o (.slice Av nv cv))) := by rw [hwa]; exact Blk.new _ _ _
  have HWA := Lib.hid hwa
  clear h hV hwa
  dsimp only [AO]
  go_enter Tryz.func121, Tryz.ntmps121
  go_upto_region 1 with fail
  rw [← HWA.out]
  have e0 := fun i => P0.out.cell i
  by_cases h1 : o.id < 1
  · have HL : Hid (V = 2) := HV.out.trans (if_pos (.inl h1))
    go_wp2_with fail
    go_ret
    exact ⟨by rw [HL.out]; rfl, HBA.out⟩
  by_cases h2 : 1000000 < o.id
  · have HL : Hid (V = 2) := HV.out.trans (if_pos (.inr h2))
    go_wp2_with fail
    go_ret
    exact ⟨by rw [HL.out]; rfl, HBA.out⟩
  have HV1 := Lib.hid (HV.out.trans (if_neg (by omega)))
  go_wp2_with fail
  refine (HIa.out wa HBA.out).mono ?_
  rintro e w1 ⟨rfl, hb⟩
  have HB1 : Hid (Below w.heap.size w w1) := HBA.out.trans (hb.mono HBA.out.size)
  have P1 := Lib.hid (P0.out.below hb P0.out.lt)
  clear hb e0
  have e0 := fun i => P1.out.cell i
  by_cases h3 : 0 ≤ posOf l o.id
  · have HL : Hid (V = 6) := HV1.out.trans (if_pos h3)
    go_wp2_with fail
    go_ret
    exact ⟨by rw [HL.out]; rfl, HB1.out⟩
  have HV2 := Lib.hid (HV1.out.trans (if_neg h3))
  go_wp2_with fail
  refine (HIp.out w1 HB1.out).mono ?_
  rintro e w2 ⟨rfl, hb⟩
  have HB2 : Hid (Below w.heap.size w w2) := HB1.out.trans (hb.mono HB1.out.size)
  have P2 := Lib.hid (P1.out.below hb P1.out.lt)
  clear hb e0
  have e0 := fun i => P2.out.cell i
  by_cases h4 : posOf l o.parent < 0
  · have HL : Hid (V = 7) := HV2.out.trans (if_pos h4)
    go_wp2_with fail
    go_ret
    exact ⟨by rw [HL.out]; rfl, HB2.out⟩
  have HV3 := Lib.hid (HV2.out.trans (if_neg h4))
  obtain ⟨p, b, d, hp, hlp, hbi, hba, hd, hd40, hdF⟩ := G.blk_at (id := o.parent) (by omega)
  rw [hba, hdF] at HV3
  rw [hp]
  have hpn : p < n := by have := (List.getElem?_eq_some_iff.1 hlp).1; have := HN.out; omega
  obtain ⟨bb, off, Ak, nk, ck, Ap, np, cp, rfl, hbb, _, _, g2, _, _, hK, _⟩ := H.out.at_ hlp
  have hkl : nk = b.kids.length := hK.len.1
  have hkb := hK.len.2.2
  rw [← hkl] at HV3
  have c2 := (HB2.out.cell (p := ⟨bb, off + p * 5 + 2, none⟩) (by show bb < _; omega)).trans g2
  have HPA := Lib.hid fun W (hW : Below w.heap.size w W) => path_any l G.kids (some ⟨bb, off, none⟩) n cl o.parent d hd hd40 W B (Nat.le_trans hB hW.size) (H.out.below (hW.mono hB))
  have i0 : (0 : Int) ≤ (p : Int) := by omega
  have i1 : (p : Int) < (n : Int) := by omega
  have i2 : ¬ ((p : Int) < 0) := by omega
  have HPL : Hid ((pth l d o.parent).length = d) := pth_len d o.parent
  clear hK hkl hp hlp hba hd hdF h3 h4 g2
  by_cases h5 : o.at_ < 0
  · have HL : Hid (V = 2) := HV3.out.trans (if_pos (.inl h5))
    go_wp2_with fail
    go_ret
    exact ⟨by rw [HL.out]; rfl, HB2.out⟩
  by_cases h6 : (nk : Int) < o.at_
  · have HL : Hid (V = 2) := HV3.out.trans (if_pos (.inr h6))
    go_wp2_with fail
    go_ret
    exact ⟨by rw [HL.out]; rfl, HB2.out⟩
  have HV4 := Lib.hid (HV3.out.trans (if_neg (by omega)))
  obtain ⟨tx, htx⟩ : ∃ t, t = txErr o.text := ⟨_, rfl⟩
  rw [← htx] at HT HV4
  go_wp2_with fail
  refine (HT.out w2).mono ?_
  rintro e w3 ⟨rfl, hw3⟩
  rw [hw3]
  clear hw3 htx
  by_cases h7 : tx = 0
  case neg =>
    have HL : Hid (V = tx) := HV4.out.trans (if_pos h7)
    have h7' : (tx != 0) = true := by simpa using h7
    clear h7
    go_wp2_with fail
    go_ret
    exact ⟨by rw [HL.out]; rfl, HB2.out⟩
  have HV5 := Lib.hid (HV4.out.trans (if_neg (fun e => e h7)))
  subst h7
  rw [← HN.out] at HV5
  by_cases h8 : 2000 ≤ n
  · have HL : Hid (V = 14) := HV5.out.trans (if_pos (.inl h8))
    have h8' : (2000 : Int) ≤ (n : Int) := by omega
    go_wp2_with fail
    go_ret
    exact ⟨by rw [HL.out]; rfl, HB2.out⟩
  have h8' : ¬ (2000 : Int) ≤ (n : Int) := by omega
  by_cases h9 : 500 ≤ nk
  · have HL : Hid (V = 14) := HV5.out.trans (if_pos (.inr h9))
    have h9' : (500 : Int) ≤ (nk : Int) := by omega
    go_wp2_with fail
    go_ret
    exact ⟨by rw [HL.out]; rfl, HB2.out⟩
  have h9' : ¬ (500 : Int) ≤ (nk : Int) := by omega
  have HV6 := Lib.hid (HV5.out.trans (if_neg (by omega)))
  go_wp2_with fail
  refine (HPA.out w2 HB2.out).mono ?_
  rintro e w4 ⟨⟨A', n', rfl, hr⟩, hb⟩
  have HB4 : Hid (Below w.heap.size w w4) := HB2.out.trans (hb.mono HB2.out.size)
  have hn' : n' = d := by
    have := (hr.reads (B := w4.heap.size) fun b hb => hb.2).len.1
    rw [HPL.out] at this
    exact this
  clear hb hr
  subst hn'
  by_cases h10 : 40 ≤ (n' : Int)
  · have HL : Hid (V = 13) := HV6.out.trans (if_pos h10)
    go_wp2_with fail
    go_ret
    exact ⟨by rw [HL.out]; rfl, HB4.out⟩
  · have HL : Hid (V = 0) := HV6.out.trans (if_neg h10)
    go_wp2_with fail
    go_ret
    exact ⟨by rw [HL.out]; rfl, HB4.out⟩
end Go.Proofs.YtmkicfjcgbfaaaaGreat
namespace Go.Proofs.YtmkicfjcgbfaaaaGreat
open Go.RowKit

set_option maxRecDepth 100000 in
set_option maxHeartbeats 4000000 in
/-- tree.checkSetProp -/
theorem checkSetProp_any (l : List Bl) (f : Int → Option Int) (G : Good l f) (Al : Option Addr) (n cl : Nat) (o : Opn) (Av : Option Addr) (nv cv : Nat) (w : World) (B : Nat) (hB : B ≤ w.heap.size) (h : RB w B (.slice Al n cl) l) (ho : OI o) (hv : RV w B (.slice Av nv cv) o.val.items) (hid : 0 ≤ posOf l o.id) :
    Calls Tryz.prog 125 #[.slice Al n cl, AO (o, .slice Av nv cv)] w fun e w' => e = .returned (.int .i64 (setErr (blkAt l o.id).props o)) ∧ Below w.heap.size w w' := by
  have HIa := Lib.hid fun W (hW : Below w.heap.size w W) => index_any l Al n cl o.id W B (Nat.le_trans hB hW.size) (h.below (hW.mono hB)) G.kids.rise G.kids.ids ho.1
  have HNM := Lib.hid fun W => checkName_any o.name W
  obtain ⟨dv, hdv⟩ := hv
  have HCV := Lib.hid fun W (hW : Below w.heap.size w W) => checkValue_any dv (o.val, .slice Av nv cv) W B (Nat.le_trans hB hW.size) (hdv.below (hW.mono hB))
  obtain ⟨p, b, d, hp, hlp, hbi, hba, _⟩ := G.blk_at hid
  have hpn : p < n := by have := (List.getElem?_eq_some_iff.1 hlp).1; have := h.len.1; omega
  have hbg : n * 80 ≤ 140737488351232 := h.len.2.2
  obtain ⟨bb, off, Ak, nk, ck, Ap, np, cp, rfl, hbb, _, _, _, _, g4, _, hP⟩ := h.at_ hlp
  have hpl : np = b.props.length := hP.len.1
  have HGP := Lib.hid fun W (hW : Below w.heap.size w W) => getP_any b.props Ap np cp o.name W B (Nat.le_trans hB hW.size) (hP.below (hW.mono hB))
  have H := Lib.hid h
  obtain ⟨V, hV⟩ : ∃ V, V = setErr (blkAt l o.id).props o := ⟨_, rfl⟩
  rw [← hV]
  rw [hba] at hV
  unfold setErr at hV
  rw [← hpl] at hV
  rw [hp] at HIa
  have HV := Lib.hid hV
  obtain ⟨wa, hwa⟩ : ∃ wa, wa = w.alloc (.cells (opC o (.slice Av nv cv)) 31) := ⟨_, rfl⟩
  have HBA : Hid (Below w.heap.size w wa) := by rw [hwa]; exact (Below.refl _ _).alloc (Nat.le_refl _) _
  have P0 : Hid (Blk wa w.heap.size 31 (opC o (.slice Av nv cv))) := by rw [hwa]; exact Blk.new _ _ _
  have HWA := Lib.hid hwa
  have i0 : (0 : Int) ≤ (p : Int) := by omega
  have i1 : (p : Int) < (n : Int) := by omega
  have HG4 := Lib.hid g4
  obtain ⟨nm, hnm⟩ : ∃ t, t = nmErr o.name := ⟨_, rfl⟩
  rw [← hnm] at HNM HV
  obtain ⟨ve, hve⟩ : ∃ t, t = vErr o.val := ⟨_, rfl⟩
  dsimp only at HCV
  rw [← hve] at HCV HV
  clear h hV hwa hp hlp hbi hba hP hpl g4 hdv hid hnm hve
  dsimp only [AO]
  dsimp only [AV] at HCV
  go_enter Tryz.func125, Tryz.ntmps125
  go_upto_region 1 with fail
  rw [← HWA.out]
  have e0 := fun i => P0.out.cell i
  go_wp2_with fail
  refine (HNM.out wa).mono ?_
  rintro e w1 ⟨rfl, hw1⟩
  rw [hw1]
  clear hw1
  by_cases h1 : nm = 0
  case neg =>
    have HL : Hid (V = nm) := HV.out.trans (if_pos h1)
    have h1' : (nm != 0) = true := by simpa using h1
    clear h1
    go_wp2_with fail
    go_ret
    exact ⟨by rw [HL.out]; rfl, HBA.out⟩
  have HV1 := Lib.hid (HV.out.trans (if_neg (fun e => e h1)))
  subst h1
  go_wp2_with fail
  refine (HCV.out wa HBA.out).mono ?_
  rintro e w2 ⟨rfl, hb⟩
  have HB2 : Hid (Below w.heap.size w w2) := HBA.out.trans (hb.mono HBA.out.size)
  have P2 := Lib.hid (P0.out.below hb P0.out.lt)
  clear hb e0
  have e0 := fun i => P2.out.cell i
  by_cases h2 : ve = 0
  case neg =>
    have HL : Hid (V = ve) := HV1.out.trans (if_pos h2)
    have h2' : (ve != 0) = true := by simpa using h2
    clear h2
    go_wp2_with fail
    go_ret
    exact ⟨by rw [HL.out]; rfl, HB2.out⟩
  have HV2 := Lib.hid (HV1.out.trans (if_neg (fun e => e h2)))
  subst h2
  go_wp2_with fail
  refine (HIa.out w2 HB2.out).mono ?_
  rintro e w3 ⟨rfl, hb⟩
  have HB3 : Hid (Below w.heap.size w w3) := HB2.out.trans (hb.mono HB2.out.size)
  have P3 := Lib.hid (P2.out.below hb P2.out.lt)
  clear hb e0
  have e0 := fun i => P3.out.cell i
  have g4 := (HB3.out.cell (p := ⟨bb, off + p * 5 + 4, none⟩) (by show bb < _; omega)).trans HG4.out
  go_wp2_with fail
  refine (HGP.out w3 HB3.out).mono ?_
  rintro e w4 ⟨⟨A', n', c', rfl, _⟩, hb⟩
  dsimp only [AV]
  have HB4 : Hid (Below w.heap.size w w4) := HB3.out.trans (hb.mono HB3.out.size)
  have P4 := Lib.hid (P3.out.below hb P3.out.lt)
  clear hb e0 g4
  obtain ⟨q, hq⟩ : ∃ q, q = decide (0 ≤ nmOf b.props o.name) := ⟨_, rfl⟩
  rw [← hq]
  have HQ : Hid ((q = true) = (0 ≤ nmOf b.props o.name)) := by show _ = _; rw [hq, decide_eq_true_eq]
  clear hq
  obtain ⟨cs, hcs⟩ : ∃ cs : Array Value, cs = #[.int .i64 (getP b.props o.name).kind, .int .i64 (getP b.props o.name).int_, .int .i64 (getP b.props o.name).to_, .string (getP b.props o.name).text, .slice A' n' c'] := ⟨_, rfl⟩
  have P5 := Lib.hid (P4.out.alloc (.cells cs 29))
  have HB5 := Lib.hid (HB4.out.alloc HB4.out.size (.cells cs 29))
  have e0 : ∀ i, (w4.alloc (.cells #[.int .i64 (getP b.props o.name).kind, .int .i64 (getP b.props o.name).int_, .int .i64 (getP b.props o.name).to_, .string (getP b.props o.name).text, .slice A' n' c'] 29)).cell? ⟨w.heap.size, i, none⟩ = (opC o (.slice Av nv cv))[i]? := fun i => by rw [← hcs]; exact P5.out.cell i
  rw [hcs] at HB5
  clear hcs
  by_cases h3 : o.val.kind = 0
  · have h3' : (o.val.kind != 0) = false := by rw [h3]; rfl
    have HL : Hid (V = 0) := HV2.out.trans (if_neg (fun e => e.1 h3))
    clear h3
    go_wp2_with fail
    go_ret
    exact ⟨by rw [HL.out]; rfl, HB5.out⟩
  have h3' : (o.val.kind != 0) = true := by simpa using h3
  cases q
  case true =>
    have HL : Hid (V = 0) := HV2.out.trans (if_neg (fun e => by have := HQ.out.mp rfl; omega))
    clear h3
    go_wp2_with fail
    go_ret
    exact ⟨by rw [HL.out]; rfl, HB5.out⟩
  case false =>
    have hneg : nmOf b.props o.name < 0 := by
      have : ¬ 0 ≤ nmOf b.props o.name := fun e => by have := HQ.out.mpr e; cases this
      omega
    by_cases h4 : 20 ≤ np
    · have HL : Hid (V = 14) := HV2.out.trans (if_pos ⟨h3, hneg, h4⟩)
      have h4' : (20 : Int) ≤ (np : Int) := by omega
      clear h3 hneg
      go_wp2_with fail
      go_ret
      exact ⟨by rw [HL.out]; rfl, HB5.out⟩
    · have HL : Hid (V = 0) := HV2.out.trans (if_neg (fun e => h4 e.2.2))
      have h4' : ¬ (20 : Int) ≤ (np : Int) := by omega
      clear h3 hneg
      go_wp2_with fail
      go_ret
      exact ⟨by rw [HL.out]; rfl, HB5.out⟩

set_option maxHeartbeats 1000000 in
/-- tree.editOf -/
theorem editOf_any (o : Opn) (Av : Option Addr) (nv cv : Nat) (w : World) :
    Calls Tryz.prog 124 #[AO (o, .slice Av nv cv)] w fun e w' => e = .returned (.agg #[.int .i64 o.from_, .int .i64 o.to_, .string o.text]) ∧ Below w.heap.size w w' := by
  dsimp only [AO]
  go_enter Tryz.func124, Tryz.ntmps124
  go_wp2_with fail
  exact bodyPost_ret (v := .agg #[.int .i64 o.from_, .int .i64 o.to_, .string o.text]) (by simp [results, Tryz.results124, go_sem]) rfl ⟨rfl, ((Below.refl _ _).alloc (Nat.le_refl _) _).alloc (by simp) _⟩
end Go.Proofs.YtmkicfjcgbfaaaaGreat
namespace Go.Proofs.YtmkicfjcgbfaaaaGreat
open Go.RowKit

theorem foldr_snoc (L : List Nat) (x : Nat) : (L ++ [x]).foldr max 0 = max (L.foldr max 0) x := by
  induction L with
  | nil => simp
  | cons a L ih => rw [List.cons_append, List.foldr_cons, List.foldr_cons, ih, Nat.max_assoc]
theorem foldr_le {L : List Nat} {m : Nat} (h : ∀ x ∈ L, x ≤ m) : L.foldr max 0 ≤ m := by
  induction L with
  | nil => exact Nat.zero_le _
  | cons a L ih =>
    rw [List.foldr_cons]
    exact Nat.max_le.2 ⟨h a (by simp), ih fun x hx => h x (by simp [hx])⟩
theorem hgt_le (l : List Bl) : ∀ (m : Nat) (k : Int), hgt l m k ≤ m
  | 0, _ => Nat.le_refl _
  | m + 1, k => by
    rw [hgt]
    split
    · refine Nat.succ_le_succ (foldr_le fun x hx => ?_)
      obtain ⟨z, _, rfl⟩ := List.mem_map.1 hx
      exact hgt_le l m z
    · omega
theorem hgt_stab {l : List Bl} {f : Int → Option Int} (G : Good l f) : ∀ (m d : Nat) (id : Int), Dp l id d → 41 ≤ d + m → ∀ m', m ≤ m' → hgt l m' id = hgt l m id
  | 0, d, id, hd, hm, m', _ => absurd (G.low hd) (by omega)
  | m + 1, d, id, hd, hm, m', hmm => by
    obtain ⟨k, rfl⟩ : ∃ k, m' = k + 1 := ⟨m' - 1, by omega⟩
    obtain ⟨p, b, h1, h2, h3⟩ := hd.blk G.kids
    rw [hgt_at h1 h2, hgt_at h1 h2]
    have : b.kids.map (hgt l k) = b.kids.map (hgt l m) := List.map_congr_left fun x hx => hgt_stab G m (d + 1) x (.step b d x (h3 ▸ hd) (List.mem_of_getElem? h2) hx) (by omega) k (by omega)
    rw [this]

set_option maxHeartbeats 4000000 in
theorem height_walk (l : List Bl) (K : Kids l) (A : Option Addr) (n c : Nat) (id : Int) (d m : Nat) (hd : Dp l id d) (hm : m ≤ 41) (w : World) (B : Nat) (hB : B ≤ w.heap.size) (h : RB w B (.slice A n c) l)
    (IH : ∀ (k : Int) (W : World), Dp l k (d + 1) → Below w.heap.size w W → Calls Tryz.prog 155 #[.slice A n c, .int .i64 k] W fun e w' => e = .returned (.int .i64 (hgt l m k : Int)) ∧ Below W.heap.size W w') :
    Calls Tryz.prog 155 #[.slice A n c, .int .i64 id] w fun e w' => e = .returned (.int .i64 (hgt l (m + 1) id : Int)) ∧ Below w.heap.size w w' := by
  obtain ⟨p, bx, hp, hlp, hbi⟩ := hd.blk K
  have hbx := List.mem_of_getElem? hlp
  have HO : Hid (hgt l (m + 1) id = (bx.kids.map (hgt l m)).foldr max 0 + 1) := hgt_at hp hlp m
  have HIX := index_any l A n c id w B hB h K.rise K.ids (by rw [← hbi]; exact (by have := K.ids bx hbx; unfold I64; omega))
  rw [hp] at HIX
  have HIX := Lib.hid HIX
  have HN := Lib.hid h.len
  have hpn : p < n := by have := (List.getElem?_eq_some_iff.1 hlp).1; have := h.len.1; omega
  obtain ⟨b, off, Ak, nk, ck, Ap, np, cp, rfl, hbb, g0, g1, g2, g3, g4, hK, _⟩ := h.at_ hlp
  have HK := Lib.hid hK
  have HKL := Lib.hid hK.len
  have HKD : Hid (∀ k ∈ bx.kids, Dp l k (d + 1)) := fun k hk => .step bx d k (hbi ▸ hd) hbx hk
  have HI := Lib.hid IH
  have y0 : (0 : Int) ≤ (p : Int) := by omega
  have y1 : (p : Int) < (n : Int) := by omega
  clear h hd hp hlp hbi hbx hK IH g0 g1 g3 g4
  go_enter Tryz.func155, Tryz.ntmps155
  go_wp2_with fail
  refine HIX.out.mono ?_
  rintro e w1 ⟨rfl, hb1⟩
  have HB1 := Lib.hid hb1
  have g2 := (hb1.cell (p := ⟨b, off + p * 5 + 2, none⟩) (by show b < _; omega)).trans g2
  clear hb1
  go_wp2_with fail
  go_loopg [5, 16] nk (fun gg s5 s16 wr => ∃ (j t : Nat), j + gg = nk ∧ t ≤ 41 ∧ s5 = .int .i64 (t : Int) ∧ s16 = .int .i64 (j : Int) ∧ Hid (t = ((bx.kids.take j).map (hgt l m)).foldr max 0) ∧ Hid (Below w.heap.size w wr))
  case atStart => exact ⟨0, 0, by omega, by omega, rfl, rfl, rfl, HB1⟩
  case round =>
    obtain ⟨j, t, hjg, ht41, rfl, rfl, ht, hbel⟩ := hrel
    obtain ⟨W1, rfl⟩ : ∃ W1, W1 = wr := ⟨_, rfl⟩
    have hbk : nk ≤ ck ∧ nk * 8 ≤ 140737488351232 := HKL.out.2
    by_cases hj : j < nk
    case neg =>
      obtain rfl : nk = j := by omega
      have HF : Hid ((hgt l (m + 1) id : Int) = (t : Int) + 1) := by
        show _ = _
        have e : bx.kids.take nk = bx.kids := List.take_of_length_le (by rw [← HKL.out.1]; exact Nat.le_refl _)
        have h1 := ht.out
        rw [e] at h1
        rw [HO.out, h1]; omega
      go_wp2_with fail
      go_ret
      exact ⟨by rw [HF.out]; rfl, hbel.out⟩
    obtain ⟨k, hkk⟩ : ∃ k, bx.kids[j]? = some k := ⟨_, List.getElem?_eq_getElem (by have := HKL.out.1; omega)⟩
    obtain ⟨bk, ok, rfl, hbk2, q0⟩ := HK.out.at_ hkk
    have q0 := (hbel.out.cell (p := ⟨bk, ok + j, none⟩) (by show bk < _; omega)).trans q0
    have z0 : (0 : Int) ≤ (j : Int) := by omega
    have z1 : (j : Int) < (nk : Int) := by omega
    obtain ⟨hk, hhk⟩ : ∃ hk, hk = hgt l m k := ⟨_, rfl⟩
    have hkm : hk ≤ 41 := by have := hgt_le l m k; omega
    have HT : Hid (max t hk = ((bx.kids.take (j + 1)).map (hgt l m)).foldr max 0) := by
      show _ = _
      obtain ⟨hk', e⟩ := List.getElem?_eq_some_iff.1 hkk
      rw [List.take_succ_eq_append_getElem hk', e, List.map_append, List.map_cons, List.map_nil, foldr_snoc, ← ht.out, hhk]
    have HX := HI.out k W1 (HKD.out k (List.mem_of_getElem? hkk)) hbel.out
    rw [← hhk] at HX
    have HX := Lib.hid HX
    have hmx : max (t : Int) ((hk : Int)) = ((max t hk : Nat) : Int) := by omega
    have ht2 : max t hk ≤ 41 := by omega
    obtain ⟨mx, hmx2⟩ : ∃ mx, mx = max t hk := ⟨_, rfl⟩
    rw [← hmx2] at HT hmx ht2
    skip
    skip
    clear hkk hhk hmx2
    go_wp2_with fail
    refine HX.out.mono ?_
    rintro e w2 ⟨rfl, hb⟩
    have HB2 : Hid (Below w.heap.size w w2) := hbel.out.trans (hb.mono hbel.out.size)
    clear hb
    go_wp2_with fail
    go_roundg (nk - (j + 1))
    case measure => omega
    case rel => exact ⟨j + 1, mx, by omega, ht2, rfl, by go_num, HT, HB2⟩
theorem height_fuel (l : List Bl) (f : Int → Option Int) (G : Good l f) (A : Option Addr) (n c : Nat) (B : Nat) : ∀ (m d : Nat) (id : Int) (w : World), Dp l id d → d + m = 41 → B ≤ w.heap.size → RB w B (.slice A n c) l →
    Calls Tryz.prog 155 #[.slice A n c, .int .i64 id] w fun e w' => e = .returned (.int .i64 (hgt l m id : Int)) ∧ Below w.heap.size w w'
  | 0, d, id, w, hd, hm, _, _ => absurd (G.low hd) (by omega)
  | m + 1, d, id, w, hd, hm, hB, h => height_walk l G.kids A n c id d m hd (by omega) w B hB h fun k W hk hW => height_fuel l f G A n c B m (d + 1) k W hk (by omega) (Nat.le_trans hB hW.size) (h.below (hW.mono hB))
theorem height_any (l : List Bl) (f : Int → Option Int) (G : Good l f) (A : Option Addr) (n c : Nat) (B d : Nat) (id : Int) (w : World) (hd : Dp l id d) (hB : B ≤ w.heap.size) (h : RB w B (.slice A n c) l) :
    Calls Tryz.prog 155 #[.slice A n c, .int .i64 id] w fun e w' => e = .returned (.int .i64 (hgt l 41 id : Int)) ∧ Below w.heap.size w w' := by
  have h40 := G.low hd
  have := height_fuel l f G A n c B (41 - d) d id w hd (by omega) hB h
  rw [← hgt_stab G (41 - d) d id hd (by omega) 41 (by omega)] at this
  exact this

set_option maxHeartbeats 4000000 in
theorem heightR_walk (l : List Bl) (K : Kids l) (A : Option Addr) (n c : Nat) (id : Int) (d m : Nat) (hd : Dp l id d) (hm : m ≤ 41) (w : World) (B : Nat) (hB : B ≤ w.heap.size) (h : RB w B (.slice A n c) l)
    (IH : ∀ (k : Int) (W : World), Dp l k (d + 1) → Below w.heap.size w W → Calls Tryz.prog 78 #[.slice A n c, .int .i64 k] W fun e w' => e = .returned (.int .i64 ((hgt l m k : Int) - 1)) ∧ Below W.heap.size W w') :
    Calls Tryz.prog 78 #[.slice A n c, .int .i64 id] w fun e w' => e = .returned (.int .i64 ((hgt l (m + 1) id : Int) - 1)) ∧ Below w.heap.size w w' := by
  obtain ⟨p, bx, hp, hlp, hbi⟩ := hd.blk K
  have hbx := List.mem_of_getElem? hlp
  have HO : Hid (hgt l (m + 1) id = (bx.kids.map (hgt l m)).foldr max 0 + 1) := hgt_at hp hlp m
  have HIX := at_any l A n c id w B hB h
  rw [hp] at HIX
  have HIX := Lib.hid HIX
  have HN := Lib.hid h.len
  have hpn : p < n := by have := (List.getElem?_eq_some_iff.1 hlp).1; have := h.len.1; omega
  obtain ⟨b, off, Ak, nk, ck, Ap, np, cp, rfl, hbb, g0, g1, g2, g3, g4, hK, _⟩ := h.at_ hlp
  have HK := Lib.hid hK
  have HKL := Lib.hid hK.len
  have HKD : Hid (∀ k ∈ bx.kids, Dp l k (d + 1)) := fun k hk => .step bx d k (hbi ▸ hd) hbx hk
  have HI := Lib.hid IH
  have y0 : (0 : Int) ≤ (p : Int) := by omega
  have y1 : (p : Int) < (n : Int) := by omega
  clear h hd hp hlp hbi hbx hK IH g0 g1 g3 g4
  go_enter Tryz.func78, Tryz.ntmps78
  go_wp2_with fail
  refine HIX.out.mono ?_
  rintro e w1 ⟨rfl, hb1⟩
  have HB1 := Lib.hid hb1
  have g2 := (hb1.cell (p := ⟨b, off + p * 5 + 2, none⟩) (by show b < _; omega)).trans g2
  clear hb1
  go_wp2_with fail
  go_loopg [5, 16] nk (fun gg s5 s16 wr => ∃ (j t : Nat), j + gg = nk ∧ t ≤ 41 ∧ s5 = .int .i64 (t : Int) ∧ s16 = .int .i64 (j : Int) ∧ Hid (t = ((bx.kids.take j).map (hgt l m)).foldr max 0) ∧ Hid (Below w.heap.size w wr))
  case atStart => exact ⟨0, 0, by omega, by omega, rfl, rfl, rfl, HB1⟩
  case round =>
    obtain ⟨j, t, hjg, ht41, rfl, rfl, ht, hbel⟩ := hrel
    obtain ⟨W1, rfl⟩ : ∃ W1, W1 = wr := ⟨_, rfl⟩
    have hbk : nk ≤ ck ∧ nk * 8 ≤ 140737488351232 := HKL.out.2
    by_cases hj : j < nk
    case neg =>
      obtain rfl : nk = j := by omega
      have HF : Hid ((hgt l (m + 1) id : Int) = (t : Int) + 1) := by
        show _ = _
        have e : bx.kids.take nk = bx.kids := List.take_of_length_le (by rw [← HKL.out.1]; exact Nat.le_refl _)
        have h1 := ht.out
        rw [e] at h1
        rw [HO.out, h1]; omega
      go_wp2_with fail
      go_ret
      exact ⟨by rw [HF.out]; exact congrArg (fun x => Ending.returned (Value.int .i64 x)) (by omega), hbel.out⟩
    obtain ⟨k, hkk⟩ : ∃ k, bx.kids[j]? = some k := ⟨_, List.getElem?_eq_getElem (by have := HKL.out.1; omega)⟩
    obtain ⟨bk, ok, rfl, hbk2, q0⟩ := HK.out.at_ hkk
    have q0 := (hbel.out.cell (p := ⟨bk, ok + j, none⟩) (by show bk < _; omega)).trans q0
    have z0 : (0 : Int) ≤ (j : Int) := by omega
    have z1 : (j : Int) < (nk : Int) := by omega
    obtain ⟨hk, hhk⟩ : ∃ hk, hk = hgt l m k := ⟨_, rfl⟩
    have hkm : hk ≤ 41 := by have := hgt_le l m k; omega
    have HT : Hid (max t hk = ((bx.kids.take (j + 1)).map (hgt l m)).foldr max 0) := by
      show _ = _
      obtain ⟨hk', e⟩ := List.getElem?_eq_some_iff.1 hkk
      rw [List.take_succ_eq_append_getElem hk', e, List.map_append, List.map_cons, List.map_nil, foldr_snoc, ← ht.out, hhk]
    have HX := HI.out k W1 (HKD.out k (List.mem_of_getElem? hkk)) hbel.out
    rw [← hhk] at HX
    have HX := Lib.hid HX
    have hmx : max (t : Int) ((hk : Int) - 1 + 1) = ((max t hk : Nat) : Int) := by omega
    have ht2 : max t hk ≤ 41 := by omega
    obtain ⟨mx, hmx2⟩ : ∃ mx, mx = max t hk := ⟨_, rfl⟩
    rw [← hmx2] at HT hmx ht2
    have hsub : (hk : Int) - 1 + 1 = (hk : Int) := by omega
    rw [hsub] at hmx
    clear hkk hhk hmx2
    go_wp2_with fail
    refine HX.out.mono ?_
    rintro e w2 ⟨rfl, hb⟩
    have HB2 : Hid (Below w.heap.size w w2) := hbel.out.trans (hb.mono hbel.out.size)
    clear hb
    go_wp2_with fail
    go_roundg (nk - (j + 1))
    case measure => omega
    case rel => exact ⟨j + 1, mx, by omega, ht2, rfl, by go_num, HT, HB2⟩
theorem heightR_fuel (l : List Bl) (f : Int → Option Int) (G : Good l f) (A : Option Addr) (n c : Nat) (B : Nat) : ∀ (m d : Nat) (id : Int) (w : World), Dp l id d → d + m = 41 → B ≤ w.heap.size → RB w B (.slice A n c) l →
    Calls Tryz.prog 78 #[.slice A n c, .int .i64 id] w fun e w' => e = .returned (.int .i64 ((hgt l m id : Int) - 1)) ∧ Below w.heap.size w w'
  | 0, d, id, w, hd, hm, _, _ => absurd (G.low hd) (by omega)
  | m + 1, d, id, w, hd, hm, hB, h => heightR_walk l G.kids A n c id d m hd (by omega) w B hB h fun k W hk hW => heightR_fuel l f G A n c B m (d + 1) k W hk (by omega) (Nat.le_trans hB hW.size) (h.below (hW.mono hB))
theorem heightR_any (l : List Bl) (f : Int → Option Int) (G : Good l f) (A : Option Addr) (n c : Nat) (B d : Nat) (id : Int) (w : World) (hd : Dp l id d) (hB : B ≤ w.heap.size) (h : RB w B (.slice A n c) l) :
    Calls Tryz.prog 78 #[.slice A n c, .int .i64 id] w fun e w' => e = .returned (.int .i64 ((hgt l 41 id : Int) - 1)) ∧ Below w.heap.size w w' := by
  have h40 := G.low hd
  have := heightR_fuel l f G A n c B (41 - d) d id w hd (by omega) hB h
  rw [← hgt_stab G (41 - d) d id hd (by omega) 41 (by omega)] at this
  exact this
end Go.Proofs.YtmkicfjcgbfaaaaGreat
namespace Go.Proofs.YtmkicfjcgbfaaaaGreat
open Go.RowKit

/-- one round of the reference's setProp -/
def spF (s : ByteArray) (v : Vl) (a : List Pr × Bool) (p : Pr) : List Pr × Bool :=
  ((if a.2 = false ∧ Op.bytesLess p.name.toList s.toList = false then a.1 ++ [⟨s, v⟩] else a.1) ++ (if p.name = s then [] else [p]), if a.2 = false ∧ Op.bytesLess p.name.toList s.toList = false then true else a.2)
/-- what stands behind some rounds -/
def spL (l : List Pr) (s : ByteArray) (v : Vl) : List Pr × Bool := l.foldl (spF s v) ([], v.kind == 0)
theorem spL_snoc {l : List Pr} {s : ByteArray} {v : Vl} {k : Nat} {p : Pr} (h : l[k]? = some p) : spL (l.take (k + 1)) s v = spF s v (spL (l.take k) s v) p := by
  unfold spL
  rw [List.take_add_one, h]
  show ((l.take k ++ [p]).foldl _ _) = _
  rw [List.foldl_append]; rfl
theorem spF_len (s : ByteArray) (v : Vl) (a : List Pr × Bool) (p : Pr) : (spF s v a p).1.length ≤ a.1.length + 2 := by
  unfold spF
  rw [List.length_append]
  split <;> split <;> simp
theorem spL_len (l : List Pr) (s : ByteArray) (v : Vl) (k : Nat) : (spL (l.take k) s v).1.length ≤ 2 * k := by
  induction k with
  | zero => simp [spL]
  | succ k ih =>
    cases h : l[k]? with
    | none =>
      have : l.take (k + 1) = l.take k := by rw [List.take_add_one, h]; simp
      rw [this]; omega
    | some p =>
      rw [spL_snoc h]
      have := spF_len s v (spL (l.take k) s v) p
      omega
theorem sp_true (s : ByteArray) (v : Vl) : ∀ (l : List Pr) (acc : List Pr), l.foldl (spF s v) (acc, true) = (acc ++ l.filter (fun p => !decide (p.name = s)), true)
  | [], acc => by simp
  | p :: l, acc => by
    rw [List.foldl_cons]
    have : spF s v (acc, true) p = (acc ++ (if p.name = s then [] else [p]), true) := by simp [spF]
    rw [this, sp_true s v l, List.append_assoc]
    by_cases h : p.name = s
    · simp [h]
    · simp [h]
theorem less_or {a b : ByteArray} (h : Op.bytesLess a.toList b.toList = false) (hn : a ≠ b) : Op.bytesLess b.toList a.toList = true := less_total _ _ h fun e => hn (tl_eq e)
theorem sp_false (s : ByteArray) (v : Vl) : ∀ (l : List Pr) (acc : List Pr), (l.Pairwise fun x y => blt x.name y.name) →
    (let r := l.foldl (spF s v) (acc, false); if r.2 = false then r.1 ++ [⟨s, v⟩] else r.1) = acc ++ ((l.filter fun p => Op.bytesLess p.name.toList s.toList) ++ ⟨s, v⟩ :: l.filter fun p => Op.bytesLess s.toList p.name.toList)
  | [], acc, _ => by simp
  | p :: l, acc, hs => by
    obtain ⟨h1, h2⟩ := List.pairwise_cons.1 hs
    rw [List.foldl_cons]
    by_cases hp : Op.bytesLess p.name.toList s.toList = true
    · have hne : p.name ≠ s := fun e => by rw [e, less_irr] at hp; cases hp
      have hnl : Op.bytesLess s.toList p.name.toList = false := less_asymm _ _ hp
      have : spF s v (acc, false) p = (acc ++ [p], false) := by simp [spF, hp, hne]
      rw [this, sp_false s v l _ h2]
      simp [hp, hnl]
    · have hp : Op.bytesLess p.name.toList s.toList = false := by simpa using hp
      have : spF s v (acc, false) p = (acc ++ [⟨s, v⟩] ++ (if p.name = s then [] else [p]), true) := by simp [spF, hp]
      rw [this, sp_true]
      have hgt : ∀ x ∈ l, Op.bytesLess s.toList x.name.toList = true := fun x hx => by
        have hpx : Op.bytesLess p.name.toList x.name.toList = true := h1 x hx
        by_cases e : p.name = s
        · rw [← e]; exact hpx
        · exact less_trans _ _ _ (less_or hp e) hpx
      have f1 : l.filter (fun p => Op.bytesLess p.name.toList s.toList) = [] := List.filter_eq_nil_iff.2 fun x hx => by rw [less_asymm _ _ (hgt x hx)]; simp
      have f2 : l.filter (fun p => Op.bytesLess s.toList p.name.toList) = l := List.filter_eq_self.2 hgt
      have f3 : l.filter (fun p => !decide (p.name = s)) = l := List.filter_eq_self.2 fun x hx => by
        have : x.name ≠ s := fun e => by have := hgt x hx; rw [e, less_irr] at this; cases this
        simp [this]
      rw [f3]
      by_cases e : p.name = s
      · have hnl : Op.bytesLess s.toList p.name.toList = false := by rw [e]; exact less_irr _
        simp [f1, f2, e, less_irr]
      · simp [hp, less_or hp e, f1, f2, e]
theorem sp_eq {l : List Pr} {s : ByteArray} {v : Vl} (h : cpErr l = 0) : (if (spL l s v).2 = false then (spL l s v).1 ++ [⟨s, v⟩] else (spL l s v).1) = setPr l s v := by
  obtain ⟨_, h2, _⟩ := cp_ok h
  unfold spL setPr
  by_cases hk : v.kind = 0
  · rw [if_pos hk]
    have : (v.kind == 0) = true := by simpa using hk
    rw [this, sp_true]
    simp only [List.nil_append]
    rw [if_neg (by simp)]
    refine List.filter_congr fun x _ => ?_
    by_cases e : x.name = s
    · simp [e]
    · have e' : x.name.toList ≠ s.toList := fun h => e (tl_eq h)
      have : (x.name.toList == s.toList) = false := by simpa using e'
      simp [e, this]
  · rw [if_neg hk]
    have : (v.kind == 0) = false := by simpa using hk
    rw [this]
    have := sp_false s v l [] h2
    simpa using this
end Go.Proofs.YtmkicfjcgbfaaaaGreat
