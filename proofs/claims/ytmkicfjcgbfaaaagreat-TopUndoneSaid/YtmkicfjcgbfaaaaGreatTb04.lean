/-
  DERIVED. An operation without error, its inverse: no error, and the base is as it was. Plain law. Conditions: a base without error.
  A history in memory; the walks of tree.New, Base and Length. Conditions: sizes.
  The walks of a history's rewind, Undo and At. Conditions: sizes.
  By an AI agent.
-/
import Derived.Test.YtmkicfjcgbfaaaaGreatTb03
import Derived.Test.YtmkicfjcgbfaaaaGreatTa15
import Derived.Test.YtmkicfjcgbfaaaaGreatTa23
import Derived.BigQuiet
namespace Go.Proofs.YtmkicfjcgbfaaaaGreat
open Go.RowKit

section
variable {l : List Bl} {f f1 : Int → Option Int} {o : Opn}
theorem lead_ins (G : Good l f) (h : opErr l f o = 0) (hk : o.kind = 1) (G1 : Good (applied l o) f1) : opErr (applied l o) f1 (invO l o).1 = 0 ∧ applied (applied l o) (invO l o).1 = l := by
  obtain ⟨hn, hid, y, hy, hyi⟩ : (∀ x ∈ l, x.id ≠ o.id) ∧ (1 ≤ o.id ∧ o.id ≤ 1000000) ∧ ∃ y ∈ l, y.id = o.parent := by
    rcases G.op_facts h with ⟨_, hn, hid, q, y, hy, hyi, _⟩ | ⟨h', _⟩ | ⟨h', _⟩ | ⟨h', _⟩ | ⟨h', _⟩
    · exact ⟨hn, hid, y, List.mem_of_getElem? hy, hyi⟩
    all_goals omega
  have e1 : (invO l o).1 = ⟨2, o.id, 0, 0, 0, 0, ⟨#[]⟩, ⟨#[]⟩, zV⟩ := by unfold invO; rw [if_pos hk]
  have hmem : (⟨o.id, o.parent, [], o.text, []⟩ : Bl) ∈ applied l o := by
    unfold applied insL
    rw [if_pos hk, insB_mem]
    exact .inl rfl
  have hpar := parOf_eq G1.kids hmem
  obtain ⟨k, hk1, hp, hb⟩ := G1.pos hmem (by show o.id ≠ 0; omega)
  have hb : blkAt (applied l o) o.id = ⟨o.id, o.parent, [], o.text, []⟩ := hb
  have hp : posOf (applied l o) o.id = (k : Int) := hp
  have hpar : parOf (applied l o) o.id = o.parent := hpar
  rw [e1]
  refine ⟨by rw [opErr_rem, if_neg (by omega), hb, if_neg (by simp)], ?_⟩
  show remL (applied l o) o.id (parOf (applied l o) o.id) = l
  rw [hpar]
  have hne : o.id ≠ o.parent := fun e => hn y hy (hyi.trans e.symm)
  have hfr : ∀ b ∈ l, o.id ∉ b.kids := fun b hb hm => by
    obtain ⟨_, z, hz, e, _⟩ := G.kids.kid b hb _ hm
    exact hn z hz e
  unfold applied insL remL
  rw [if_pos hk, upd_insB (x := ⟨o.id, o.parent, [], o.text, []⟩) (h := fun b => b.withKids (lessK b.kids o.id)) hne fun _ => rfl, upd_upd (h := fun b => b.withKids (plusK b.kids o.at_.toNat o.id)) fun _ => rfl]
  have e2 : (upd l o.parent fun b => (b.withKids (plusK b.kids o.at_.toNat o.id)).withKids (lessK (b.withKids (plusK b.kids o.at_.toNat o.id)).kids o.id)) = l := upd_id fun b hb _ => by
    show (⟨b.id, b.parent, lessK (plusK b.kids o.at_.toNat o.id) o.id, b.text, b.props⟩ : Bl) = b
    rw [less_plus (hfr b hb)]
  rw [e2]
  exact filter_insB (x := ⟨o.id, o.parent, [], o.text, []⟩) hn
theorem lead_rem (G : Good l f) (h : opErr l f o = 0) (hk : o.kind = 2) (he : (invO l o).2 = 0) (G1 : Good (applied l o) f1) : opErr (applied l o) f1 (invO l o).1 = 0 ∧ applied (applied l o) (invO l o).1 = l := by
  obtain ⟨x, hx, hxi, h0, hxk, y, hy, hyi, hin⟩ : ∃ x ∈ l, x.id = o.id ∧ x.id ≠ 0 ∧ x.kids = [] ∧ ∃ y ∈ l, y.id = x.parent ∧ x.id ∈ y.kids := by
    rcases G.op_facts h with ⟨h', _⟩ | ⟨_, p, x, hx, hxi, h0, hxk, q, y, hy, hyi, hin⟩ | ⟨h', _⟩ | ⟨h', _⟩ | ⟨h', _⟩
    · omega
    · exact ⟨x, List.mem_of_getElem? hx, hxi, h0, hxk, y, List.mem_of_getElem? hy, hyi, hin⟩
    all_goals omega
  obtain ⟨k, hk1, hp, hb⟩ := G.pos hx h0
  obtain ⟨k2, hp2, hb2⟩ := G.pos0 hy
  rw [hxi] at hp hb
  rw [hyi] at hp2 hb2
  unfold invO at he ⊢
  rw [if_neg (by omega), if_pos hk, hb] at he ⊢
  by_cases hpr : 0 < x.props.length
  · rw [if_pos hpr] at he; exact absurd he (by decide)
  rw [if_neg hpr, hb2]
  have hxp : x.props = [] := List.eq_nil_of_length_eq_zero (by omega)
  have T := G.tree
  have hne : y.id ≠ x.id := fun e => by
    obtain rfl := G.kids.rise.inj hy hx e
    rw [hxk] at hin; cases hin
  have hap : applied l o = (upd l x.parent fun b => b.withKids (lessK b.kids x.id)).filter fun b => b.id != x.id := by
    rw [applied_rem G.kids hk hx hxi, hxi]
  have hT1 : Tree (applied l o) (fun id => ((f id).getD 0).toNat) := by
    rw [hap]; exact T.remove hx h0 hxk
  obtain ⟨q1, q2, q3, q4⟩ := plus_less (T.nod y hy) hin
  rw [← hxi]
  obtain ⟨y1, hy1⟩ : ∃ y1 : Bl, y1 = y.withKids (lessK y.kids x.id) := ⟨_, rfl⟩
  have hy1m : y1 ∈ applied l o := by
    rw [hap, List.mem_filter, upd_mem]
    exact ⟨⟨y, hy, by rw [if_pos hyi, hy1]⟩, by rw [hy1]; exact bne_iff_ne.2 hne⟩
  have hy1i : y1.id = x.parent := by rw [hy1]; exact hyi
  have hy1k : y1.kids = lessK y.kids x.id := by rw [hy1]; rfl
  obtain ⟨k3, hp3, hb3⟩ := G1.pos0 hy1m
  rw [hy1i] at hp3 hb3
  have hids := T.ids x hx
  have hlen : (applied l o).length + 1 = l.length := by
    rw [hap]
    obtain ⟨p, hpx⟩ := List.mem_iff_getElem?.1 hx
    have hpl := (List.getElem?_eq_some_iff.1 hpx).1
    have hx' : (upd l x.parent fun b => b.withKids (lessK b.kids x.id))[p]? = some (if x.id = x.parent then x.withKids (lessK x.kids x.id) else x) := upd_at hpx
    have hxid : (if x.id = x.parent then x.withKids (lessK x.kids x.id) else x).id = x.id := by split <;> rfl
    have := filter_out (G.kids.rise.upd (p := x.parent) (h := fun b => b.withKids (lessK b.kids x.id)) fun _ => rfl) hx'
    rw [hxid] at this
    rw [this, List.length_append, List.length_take, List.length_drop, upd_len]; omega
  have hshort := G.kids.short
  have hfew := (T.loc y hy).2.1
  constructor
  · rw [opErr_ins]
    refine insErr_ok (by show 1 ≤ x.id ∧ x.id ≤ 1000000; omega) ?_ (by show 0 ≤ posOf _ x.parent; omega) ⟨q2, ?_⟩ (T.loc x hx).1 (by omega) ?_ ?_
    · show posOf (applied l o) x.id < 0
      rw [pos_none fun b hb => ?_]; · omega
      rw [hap, List.mem_filter] at hb
      simpa using hb.2
    · show ixOf y.kids x.id ≤ ((blkAt (applied l o) x.parent).kids.length : Int)
      rw [hb3, hy1k]; omega
    · show (blkAt (applied l o) x.parent).kids.length < 500
      rw [hb3, hy1k]; omega
    · show dF f1 x.parent < 40
      have hd1 := T.par x hx h0
      obtain ⟨b, hbm, hbi, _, hg⟩ := hd1
      have hx40 := T.deep x hx
      have hDp := hT1.dp _ hy1m rfl
      have := dF_dp G1 hDp
      rw [hy1i] at this
      rw [hbi] at hg
      omega
  · unfold applied insL
    rw [if_pos rfl]
    show insB ⟨x.id, x.parent, [], x.text, []⟩ (upd (applied l o) x.parent fun b => b.withKids (plusK b.kids (ixOf y.kids x.id).toNat x.id)) = l
    rw [hap, upd_filter (h := fun b => b.withKids (plusK b.kids (ixOf y.kids x.id).toNat x.id)) fun _ => rfl, upd_upd (h := fun b => b.withKids (lessK b.kids x.id)) fun _ => rfl]
    have e2 : (upd l x.parent fun b => (b.withKids (lessK b.kids x.id)).withKids (plusK (b.withKids (lessK b.kids x.id)).kids (ixOf y.kids x.id).toNat x.id)) = l := upd_id fun b hb hbi => by
      obtain rfl := G.kids.rise.inj hb hy (hbi.trans hyi.symm)
      show (⟨b.id, b.parent, plusK (lessK b.kids x.id) (ixOf b.kids x.id).toNat x.id, b.text, b.props⟩ : Bl) = b
      rw [q1]
    rw [e2]
    have e3 : (⟨x.id, x.parent, [], x.text, []⟩ : Bl) = x := by
      rw [← hxk]
      conv => lhs; rw [show ([] : List Pr) = x.props from hxp.symm]
    rw [e3]
    exact insB_filter T.rise hx
theorem lead_mov (G : Good l f) (h : opErr l f o = 0) (hk : o.kind = 3) (G1 : Good (applied l o) f1) : opErr (applied l o) f1 (invO l o).1 = 0 ∧ applied (applied l o) (invO l o).1 = l := by
  obtain ⟨x, hx, hxi, h0, y, hy, hyi, hin, z, hz, hzi⟩ : ∃ x ∈ l, x.id = o.id ∧ x.id ≠ 0 ∧ ∃ y ∈ l, y.id = x.parent ∧ x.id ∈ y.kids ∧ ∃ z ∈ l, z.id = o.parent := by
    rcases G.op_facts h with ⟨h', _⟩ | ⟨h', _⟩ | ⟨_, p, x, hx, hxi, h0, q, y, hy, hyi, hin, r, z, hz, hzi, _⟩ | ⟨h', _⟩ | ⟨h', _⟩
    · omega
    · omega
    · exact ⟨x, List.mem_of_getElem? hx, hxi, h0, y, List.mem_of_getElem? hy, hyi, hin, z, List.mem_of_getElem? hz, hzi⟩
    all_goals omega
  have hway := mov_way h hk
  have T := G.tree
  have K := G.kids
  obtain ⟨k, hk1, hp, hb⟩ := G.pos hx h0
  obtain ⟨k2, hp2, hb2⟩ := G.pos0 hy
  rw [hxi] at hp hb
  rw [hyi] at hp2 hb2
  have e1 : (invO l o).1 = ⟨3, o.id, x.parent, ixOf y.kids o.id, 0, 0, ⟨#[]⟩, ⟨#[]⟩, zV⟩ := by
    unfold invO
    rw [if_neg (by omega), if_neg (by omega), if_pos hk, hb, hb2]
  have hap : applied l o = movL l o.id o.parent o.at_.toNat := by
    unfold applied
    rw [if_neg (by omega), if_neg (by omega), if_pos hk]
  obtain ⟨q1, q2, q3, q4⟩ := plus_less (T.nod y hy) hin
  rw [e1]
  rw [hxi] at q1 q2 q3 q4 hin h0
  rw [hap] at G1 ⊢
  have K1 := G1.kids
  have hym : movB o.id o.parent o.at_.toNat y ∈ movL l o.id o.parent o.at_.toNat := mov_mem.2 ⟨y, hy, rfl⟩
  have hxm : movB o.id o.parent o.at_.toNat x ∈ movL l o.id o.parent o.at_.toNat := mov_mem.2 ⟨x, hx, rfl⟩
  obtain ⟨k3, hp3, hb3⟩ := G1.pos0 hym
  obtain ⟨k4, hp4, hb4⟩ := G1.pos0 hxm
  have hyi' : (movB o.id o.parent o.at_.toNat y).id = x.parent := hyi
  have hxi' : (movB o.id o.parent o.at_.toNat x).id = o.id := hxi
  rw [hyi'] at hp3 hb3
  rw [hxi'] at hp4
  have hlk : lessK (movB o.id o.parent o.at_.toNat y).kids o.id = lessK y.kids o.id := by
    show lessK (if y.id = o.parent then plusK (lessK y.kids o.id) o.at_.toNat o.id else lessK y.kids o.id) o.id = _
    split
    · exact less_plus2
    · exact less_same fun e => ((less_mem _ _ _).1 e).2 rfl
  have hfew := (T.loc y hy).2.1
  -- depths
  obtain ⟨dy, hdy, hDy, hy40⟩ := G.dp hy
  have hDx : Dp l o.id (dy + 1) := .step y dy _ hDy hy hin
  have hnw : o.id ∉ pth l dy y.id := fun hm => by
    obtain ⟨j, hj, e⟩ := (pth_mem _ _ _).1 hm
    have := Dp.ups K j hDy (by omega)
    rw [e] at this
    have := this.fun_ K hDx
    omega
  obtain ⟨hD1, hP1⟩ := mov_pth K K1 dy hDy hnw
  obtain ⟨dz, hdz, hDz, _⟩ := G.dp hz
  have hFz := dF_dp G hDz
  rw [hzi] at hFz
  rw [hFz] at hway
  have hSz : ¬ Sub l o.id o.parent := fun hs => by
    rw [hzi] at hDz
    exact hway (by simpa using hs.way K hDz h0)
  have hSy : ∀ b ∈ l, o.id ∈ b.kids → ¬ Sub l o.id b.id := fun b hb hm hs => by
    have e := parOf_kid K hb hm
    have e2 := parOf_kid K hy hin
    obtain rfl := K.rise.inj hb hy (e.symm.trans e2)
    exact hnw (hs.way K hDy h0)
  have hH := mov_hgt (i := o.at_.toNat) K K1 hSz hSy 41 (z := o.id) ⟨0, _, hDx, Nat.zero_le _, rfl⟩
  have hlow := hgt_low G 41 hDx
  have hF1 := dF_dp G1 hD1
  rw [hyi] at hF1 hP1 hnw
  constructor
  · rw [opErr_mov]
    refine movErr_ok h0 (by show 0 ≤ posOf _ o.id; omega) (by show 0 ≤ posOf _ x.parent; omega) ?_ ⟨q2, ?_⟩ ?_ ?_
    · show o.id ∉ pth _ (dF f1 x.parent).toNat x.parent
      rw [hF1, Int.toNat_natCast, hP1]; exact hnw
    · show ixOf y.kids o.id ≤ ((lessK (blkAt _ x.parent).kids o.id).length : Int)
      rw [hb3, hlk]; omega
    · show (lessK (blkAt _ x.parent).kids o.id).length < 500
      rw [hb3, hlk]; omega
    · show dF f1 x.parent + hgt _ 41 o.id ≤ 40
      rw [hF1, hH]; omega
  · unfold applied
    rw [if_neg (show ¬ (3 : Int) = 1 by decide), if_neg (show ¬ (3 : Int) = 2 by decide), if_pos rfl]
    show movL (movL l o.id o.parent o.at_.toNat) o.id x.parent (ixOf y.kids o.id).toNat = l
    unfold movL
    rw [List.map_map]
    conv => rhs; rw [← List.map_id l]
    refine List.map_congr_left fun b hb => ?_
    have hbk : lessK (movB o.id o.parent o.at_.toNat b).kids o.id = lessK b.kids o.id := by
      show lessK (if b.id = o.parent then plusK (lessK b.kids o.id) o.at_.toNat o.id else lessK b.kids o.id) o.id = _
      split
      · exact less_plus2
      · exact less_same fun e => ((less_mem _ _ _).1 e).2 rfl
    show (⟨b.id, if b.id = o.id then x.parent else (if b.id = o.id then o.parent else b.parent), if b.id = x.parent then plusK (lessK (movB o.id o.parent o.at_.toNat b).kids o.id) (ixOf y.kids o.id).toNat o.id else lessK (movB o.id o.parent o.at_.toNat b).kids o.id, b.text, b.props⟩ : Bl) = b
    rw [hbk]
    have e4 : (if b.id = o.id then x.parent else (if b.id = o.id then o.parent else b.parent)) = b.parent := by
      by_cases e : b.id = o.id
      · rw [if_pos e, K.rise.inj hb hx (e.trans hxi.symm)]
      · rw [if_neg e, if_neg e]
    have e5 : (if b.id = x.parent then plusK (lessK b.kids o.id) (ixOf y.kids o.id).toNat o.id else lessK b.kids o.id) = b.kids := by
      by_cases e : b.id = x.parent
      · obtain rfl := K.rise.inj hb hy (e.trans hyi.symm)
        rw [if_pos e, q1]
      · rw [if_neg e]
        refine less_same fun hm => e ?_
        have e6 := parOf_kid K hb hm
        have e7 := parOf_kid K hy hin
        exact (e6.symm.trans e7).trans hyi
    rw [e4, e5]
theorem lead_edit (G : Good l f) (h : opErr l f o = 0) (hk : o.kind = 4) (G1 : Good (applied l o) f1) : opErr (applied l o) f1 (invO l o).1 = 0 ∧ applied (applied l o) (invO l o).1 = l := by
  obtain ⟨x, hx, hxi, he⟩ : ∃ x ∈ l, x.id = o.id ∧ edErr x.text o.text o.from_ o.to_ = 0 := by
    rcases G.op_facts h with ⟨h', _⟩ | ⟨h', _⟩ | ⟨h', _⟩ | ⟨_, p, x, hx, hxi, he⟩ | ⟨h', _⟩
    · omega
    · omega
    · omega
    · exact ⟨x, List.mem_of_getElem? hx, hxi, he⟩
    · omega
  have hpos : ¬ posOf l o.id < 1 := fun hlt => by
    unfold opErr at h
    by_cases h1 : outI o.kind 1 5 = true
    · rw [if_pos h1] at h; omega
    rw [if_neg h1] at h
    by_cases h2 : usedB o = false
    · rw [if_pos h2] at h; omega
    rw [if_neg h2, if_neg (by omega), if_neg (by omega), if_pos hlt] at h
    omega
  have h0 : x.id ≠ 0 := fun e => by
    obtain ⟨r, hr, hr0, _⟩ := G.kids.root
    have := posOf_of G.kids.rise hr
    rw [hr0, ← e, hxi] at this
    omega
  obtain ⟨k, hk1, hp, hb⟩ := G.pos hx h0
  rw [hxi] at hp hb
  have T := G.tree
  have hap : applied l o = upd l o.id fun b => b.withText (edS b.text o.text o.from_ o.to_) := by
    unfold applied
    rw [if_neg (by omega), if_neg (by omega), if_neg (by omega), if_pos hk]
  have e1 : (invO l o).1 = ⟨4, o.id, 0, 0, o.from_, o.from_ + o.text.size, x.text.extract o.from_.toNat o.to_.toNat, ⟨#[]⟩, zV⟩ := by
    unfold invO
    rw [if_neg (by omega), if_neg (by omega), if_neg (by omega), if_pos hk, hb]
  obtain ⟨a0, a1, a2, a3, a4⟩ := edErr_ok he
  obtain ⟨fn, hfn⟩ := Int.eq_ofNat_of_zero_le a0
  obtain ⟨tn, htn⟩ := Int.eq_ofNat_of_zero_le (by omega : 0 ≤ o.to_)
  have hback : edS (edS x.text o.text o.from_ o.to_) (x.text.extract o.from_.toNat o.to_.toNat) o.from_ (o.from_ + o.text.size) = x.text := by
    rw [hfn, htn, Int.toNat_natCast, Int.toNat_natCast]
    exact ed_back (by omega) (by omega)
  rw [e1]
  rw [hap] at G1 ⊢
  have hxm : x.withText (edS x.text o.text o.from_ o.to_) ∈ upd l o.id fun b => b.withText (edS b.text o.text o.from_ o.to_) := upd_mem.2 ⟨x, hx, by rw [if_pos hxi]⟩
  obtain ⟨k2, hk2, hp2, hb2⟩ := G1.pos hxm h0
  have hp2 : posOf _ x.id = _ := hp2
  have hb2 : blkAt _ x.id = _ := hb2
  rw [hxi] at hp2 hb2
  have hsz := edS_size (x := o.text) a0 a1 a2
  have htx : ctl x.text = false ∧ x.text.size ≤ 2000 := by
    have := (T.loc x hx).1
    unfold txErr at this
    split at this
    · omega
    · cases e : ctl x.text
      · exact ⟨rfl, by omega⟩
      · rw [e, if_pos rfl] at this; omega
  have hesz : ((x.text.extract o.from_.toNat o.to_.toNat).size : Int) = o.to_ - o.from_ := by
    rw [ByteArray.size_extract]; omega
  constructor
  · rw [opErr_edit, if_neg (by omega), hb2]
    show edErr (edS x.text o.text o.from_ o.to_) (x.text.extract o.from_.toNat o.to_.toNat) o.from_ (o.from_ + o.text.size) = 0
    unfold edErr
    rw [if_neg (by omega), ctl_extract htx.1, if_neg (by decide), if_neg (by omega)]
  · unfold applied
    rw [if_neg (show ¬ (4 : Int) = 1 by decide), if_neg (show ¬ (4 : Int) = 2 by decide), if_neg (show ¬ (4 : Int) = 3 by decide), if_pos rfl]
    show upd (upd l o.id _) o.id (fun b => b.withText (edS b.text (x.text.extract o.from_.toNat o.to_.toNat) o.from_ (o.from_ + o.text.size))) = l
    rw [upd_upd (h := fun b => b.withText (edS b.text o.text o.from_ o.to_)) fun _ => rfl]
    refine upd_id fun b hb hbi => ?_
    obtain rfl := G.kids.rise.inj hb hx (hbi.trans hxi.symm)
    show (⟨b.id, b.parent, b.kids, edS (edS b.text o.text o.from_ o.to_) (b.text.extract o.from_.toNat o.to_.toNat) o.from_ (o.from_ + o.text.size), b.props⟩ : Bl) = b
    rw [hback]
theorem lead_set (G : Good l f) (h : opErr l f o = 0) (hk : o.kind = 5) (G1 : Good (applied l o) f1) : opErr (applied l o) f1 (invO l o).1 = 0 ∧ applied (applied l o) (invO l o).1 = l := by
  obtain ⟨x, hx, hxi, hn, hv, hp5, hl⟩ : ∃ x ∈ l, x.id = o.id ∧ nmErr o.name = 0 ∧ vErr o.val = 0 ∧ cpErr x.props = 0 ∧ (setPr x.props o.name o.val).length ≤ 20 := by
    rcases G.op_facts h with ⟨h', _⟩ | ⟨h', _⟩ | ⟨h', _⟩ | ⟨h', _⟩ | ⟨_, p, x, hx, hxi, hn, hv, hp, hl⟩
    · omega
    · omega
    · omega
    · omega
    · exact ⟨x, List.mem_of_getElem? hx, hxi, hn, hv, hp, hl⟩
  have hpos : ¬ posOf l o.id < 1 := fun hlt => by
    unfold opErr at h
    by_cases h1 : outI o.kind 1 5 = true
    · rw [if_pos h1] at h; omega
    rw [if_neg h1] at h
    by_cases h2 : usedB o = false
    · rw [if_pos h2] at h; omega
    rw [if_neg h2, if_neg (by omega), if_neg (by omega), if_pos hlt] at h
    omega
  have h0 : x.id ≠ 0 := fun e => by
    obtain ⟨r, hr, hr0, _⟩ := G.kids.root
    have := posOf_of G.kids.rise hr
    rw [hr0, ← e, hxi] at this
    omega
  obtain ⟨k, hk1, hp, hb⟩ := G.pos hx h0
  rw [hxi] at hp hb
  have hap : applied l o = upd l o.id fun b => b.withProps (setPr b.props o.name o.val) := by
    unfold applied
    rw [if_neg (by omega), if_neg (by omega), if_neg (by omega), if_neg (by omega)]
  have e1 : (invO l o).1 = ⟨5, o.id, 0, 0, 0, 0, ⟨#[]⟩, o.name, getP x.props o.name⟩ := by
    unfold invO
    rw [if_neg (by omega), if_neg (by omega), if_neg (by omega), if_neg (by omega), hb]
  rw [e1]
  rw [hap] at G1 ⊢
  have hxm : x.withProps (setPr x.props o.name o.val) ∈ upd l o.id fun b => b.withProps (setPr b.props o.name o.val) := upd_mem.2 ⟨x, hx, by rw [if_pos hxi]⟩
  obtain ⟨k2, hk2, hp2, hb2⟩ := G1.pos hxm h0
  have hp2 : posOf _ x.id = _ := hp2
  have hb2 : blkAt _ x.id = _ := hb2
  rw [hxi] at hp2 hb2
  have hcp : cpErr (setPr x.props o.name o.val) = 0 := (G1.tree.loc _ hxm).2.2
  obtain ⟨_, h2, h3⟩ := cp_ok hp5
  constructor
  · rw [opErr_set, if_neg (by omega), hb2]
    show setErr (setPr x.props o.name o.val) ⟨5, o.id, 0, 0, 0, 0, ⟨#[]⟩, o.name, getP x.props o.name⟩ = 0
    unfold setErr
    have hgv : vErr (getP x.props o.name) = 0 := by
      rcases getP_spec x.props o.name with ⟨e, _⟩ | ⟨y, hy, _, e, _⟩
      · rw [e]; exact vErr_z
      · rw [e]; exact cp_vals hp5 y hy
    rw [if_neg (fun e => e hn), if_neg (fun e => e hgv), if_neg]
    rintro ⟨c1, c2, c3⟩
    show False
    rcases getP_spec x.props o.name with ⟨e, _⟩ | ⟨y, hy, hys, e, hpos⟩
    · exact c1 (by show (getP x.props o.name).kind = 0; rw [e]; rfl)
    · -- the name was there: what is left is shorter
      have hno : ∀ z ∈ setPr x.props o.name o.val, z.name ≠ o.name := by
        rcases nmOf_spec (setPr x.props o.name o.val) o.name with ⟨_, hh⟩ | ⟨i, z, e2, _⟩
        · exact hh
        · have c2 : nmOf (setPr x.props o.name o.val) o.name < 0 := c2
          omega
      have hv0 : o.val.kind = 0 := Decidable.byContradiction fun hne => hno _ (setPr_mem.2 (.inl ⟨hne, rfl⟩)) rfl
      have hll : (setPr x.props o.name o.val).length < x.props.length := by
        unfold setPr
        rw [if_pos hv0]
        refine List.length_filter_lt_length_iff_exists.2 ⟨y, hy, ?_⟩
        rw [hys, beq_self_eq_true]; decide
      have h20 : x.props.length ≤ 20 := by
        unfold cpErr at hp5
        by_cases e : 20 < x.props.length
        · rw [if_pos e] at hp5; omega
        · omega
      have c3 : 20 ≤ (setPr x.props o.name o.val).length := c3
      omega
  · unfold applied
    rw [if_neg (show ¬ (5 : Int) = 1 by decide), if_neg (show ¬ (5 : Int) = 2 by decide), if_neg (show ¬ (5 : Int) = 3 by decide), if_neg (show ¬ (5 : Int) = 4 by decide)]
    show upd (upd l o.id _) o.id (fun b => b.withProps (setPr b.props o.name (getP x.props o.name))) = l
    rw [upd_upd (h := fun b => b.withProps (setPr b.props o.name o.val)) fun _ => rfl]
    refine upd_id fun b hb hbi => ?_
    obtain rfl := G.kids.rise.inj hb hx (hbi.trans hxi.symm)
    show (⟨b.id, b.parent, b.kids, b.text, setPr (setPr b.props o.name o.val) o.name (getP b.props o.name)⟩ : Bl) = b
    rw [setPr_back hp5 hcp]
theorem tx_len {s : ByteArray} (h : txErr s = 0) : s.size ≤ 2000 := by
  unfold txErr at h
  split at h
  · omega
  · omega
/-- the inverse's numbers are those that an int holds -/
theorem oi_inv (G : Good l f) (hoi : OI o) (h : opErr l f o = 0) : OI (invO l o).1 := by
  obtain ⟨b1, b2, b3, b4, b5, b6⟩ := hoi
  have z0 : I64 0 := ⟨by decide, by decide⟩
  have hst : (⟨#[]⟩ : ByteArray).size ≤ 140737488351232 := by decide
  have hixs : ∀ (L : List Int) (x : Int), L.length ≤ 500 → I64 (ixOf L x) := fun L x hl => by
    rcases ixOf_spec L x with ⟨e, _⟩ | ⟨i, e, hi, _⟩
    · rw [e]; exact ⟨by decide, by decide⟩
    · have := (List.getElem?_eq_some_iff.1 hi).1
      rw [e]; unfold I64; omega
  unfold invO
  rcases G.op_facts h with ⟨hk, _⟩ | ⟨hk, p, x, hx, hxi, h0, hks, q, y, hy, hyi, hin⟩ | ⟨hk, p, x, hx, hxi, h0, q, y, hy, hyi, hin, _⟩ | ⟨hk, p, x, hx, hxi, he⟩ | ⟨hk, _⟩
  · rw [if_pos hk]
    exact ⟨b1, z0, z0, z0, z0, hst⟩
  · have hxm := List.mem_of_getElem? hx
    have hym := List.mem_of_getElem? hy
    obtain ⟨k, _, hp, hb⟩ := G.pos hxm h0
    obtain ⟨k2, hp2, hb2⟩ := G.pos0 hym
    rw [hxi] at hb
    rw [hyi] at hb2
    rw [if_neg (by omega), if_pos hk, hb, hb2]
    split
    · exact ⟨z0, z0, z0, z0, z0, hst⟩
    · have hyd := G.kids.ids y hym
      have htx := tx_len (G.tree.loc x hxm).1
      exact ⟨b1, by show I64 x.parent; rw [← hyi]; unfold I64; omega, hixs _ _ (G.tree.loc y hym).2.1, z0, z0, by show x.text.size ≤ _; omega⟩
  · have hxm := List.mem_of_getElem? hx
    have hym := List.mem_of_getElem? hy
    obtain ⟨k, _, hp, hb⟩ := G.pos hxm h0
    obtain ⟨k2, hp2, hb2⟩ := G.pos0 hym
    rw [hxi] at hb
    rw [hyi] at hb2
    rw [if_neg (by omega), if_neg (by omega), if_pos hk, hb, hb2]
    have hyd := G.kids.ids y hym
    exact ⟨b1, by show I64 x.parent; rw [← hyi]; unfold I64; omega, hixs _ _ (G.tree.loc y hym).2.1, z0, z0, hst⟩
  · have hxm := List.mem_of_getElem? hx
    obtain ⟨k2, hp2, hb2⟩ := G.pos0 hxm
    rw [hxi] at hb2
    rw [if_neg (by omega), if_neg (by omega), if_neg (by omega), if_pos hk, hb2]
    obtain ⟨a0, a1, a2, a3, a4⟩ := edErr_ok he
    have htx := tx_len (G.tree.loc x hxm).1
    exact ⟨b1, z0, z0, b4, by show I64 (o.from_ + o.text.size); unfold I64; omega, by show (x.text.extract _ _).size ≤ _; rw [ByteArray.size_extract]; omega⟩
  · rw [if_neg (by omega), if_neg (by omega), if_neg (by omega), if_neg (by omega)]
    exact ⟨b1, z0, z0, z0, z0, hst⟩
/-- an operation and its inverse lead back -/
theorem lead_back (G : Good l f) (h : opErr l f o = 0) (he : (invO l o).2 = 0) (G1 : Good (applied l o) f1) : opErr (applied l o) f1 (invO l o).1 = 0 ∧ applied (applied l o) (invO l o).1 = l := by
  rcases G.op_facts h with ⟨hk, _⟩ | ⟨hk, _⟩ | ⟨hk, _⟩ | ⟨hk, _⟩ | ⟨hk, _⟩
  · exact lead_ins G h hk G1
  · exact lead_rem G h hk he G1
  · exact lead_mov G h hk G1
  · exact lead_edit G h hk G1
  · exact lead_set G h hk G1
end
end Go.Proofs.YtmkicfjcgbfaaaaGreat
namespace Go.Proofs.YtmkicfjcgbfaaaaGreat
open Go.RowKit

section
variable {S : Nat → Prop} {w w' : World} {g cap : Nat} {M : List BK}
/-- a row of the call's own read as a base, its blocks of a sort -/
theorem RowS.rbx (h : RowS S w g cap M) : RBX w (fun b => b = g ∨ ((b < w.heap.size ∧ b ≠ g) ∧ S b)) (.slice (some ⟨g, 0, none⟩) M.length cap) (M.map Prod.fst) :=
  ⟨_, _, _, M, rfl, rfl, rfl, ⟨h.len, by have := h.few; omega⟩, ⟨fmB_len M, fun _ => ⟨_, rfl, .inl rfl, fun j u hu => by rw [Addr.add_lit, Nat.zero_add]; exact h.cells hu⟩⟩, fun x hx => ⟨(h.far x hx).1.weak fun b hb => .inr hb, (h.far x hx).2.weak fun b hb => .inr hb⟩⟩
end
/-- the blocks that a history leaves as they are -/
def HS (w : World) (gh gn b : Nat) : Prop := b < w.heap.size ∧ b ≠ gh ∧ b ≠ gn
/-- a history: its first base, its operations, how many are done; gn is the row of its base -/
structure HistM (w : World) (gh gn : Nat) (lf : List Bl) (os : List Opn) (d : Nat) : Prop where
  ne : gn ≠ gh
  mem : ∃ (Af : Option Addr) (nf cf : Nat) (Ao : Option Addr) (no co nn cn : Nat) (M : List BK), Blk w gh 94 #[.slice Af nf cf, .slice Ao no co, .int .i64 (d : Int), .slice (some ⟨gn, 0, none⟩) nn cn] ∧
    RBX w (HS w gh gn) (.slice Af nf cf) lf ∧ ROsX w (HS w gh gn) (.slice Ao no co) os ∧ M.length = nn ∧ M.map Prod.fst = applL lf (os.take d) ∧ RowS (fun b => b ≠ gh) w gn cn M
  ok : OkAll lf os
  good : ∃ f, Good lf f
  le : d ≤ os.length
/-- all but some blocks are as they were -/
structure Kept (T : Nat → Prop) (w w' : World) : Prop where
  os : w'.os = w.os
  tape : w'.tape = w.tape
  output : w'.output = w.output
  size : w.heap.size ≤ w'.heap.size
  block : ∀ i, i < w.heap.size → ¬ T i → w'.heap[i]? = w.heap[i]?
section
variable {T T' : Nat → Prop} {w w' w'' : World} {gh gn : Nat} {lf : List Bl} {os : List Opn} {d : Nat}
theorem Kept.of (h : Below w.heap.size w w') : Kept T w w' := ⟨h.os, h.tape, h.output, h.size, fun i hi _ => h.block i hi⟩
theorem Kept.below {B : Nat} (h : Kept T w w') (hB : B ≤ w.heap.size) (hT : ∀ i, i < B → ¬ T i) : Below B w w' := ⟨h.os, h.tape, h.output, h.size, fun i hi => h.block i (by omega) (hT i hi)⟩
theorem Kept.trans (h : Kept T w w') (k : Kept T' w' w'') (hT : ∀ i, i < w.heap.size → T' i → T i) : Kept T w w'' :=
  ⟨k.os.trans h.os, k.tape.trans h.tape, k.output.trans h.output, Nat.le_trans h.size k.size, fun i hi hn => (k.block i (Nat.lt_of_lt_of_le hi h.size) fun e => hn (hT i hi e)).trans (h.block i hi hn)⟩
theorem Kept.blk {g : Nat} {t : TypeId} {cs : Array Value} (h : Kept T w w') (hb : Blk w g t cs) (hT : ¬ T g) : Blk w' g t cs := (h.block g hb.lt hT).trans hb
theorem Kept.weak (h : Kept T w w') (hT : ∀ i, T i → T' i) : Kept T' w w' := ⟨h.os, h.tape, h.output, h.size, fun i hi hn => h.block i hi fun e => hn (hT i e)⟩
theorem Kept.cell (h : Kept T w w') {p : Addr} (hp : p.block < w.heap.size) (hT : ¬ T p.block) : w'.cell? p = w.cell? p := World.cell?_of_block (h.block _ hp hT)
theorem Kept.rbx {S : Nat → Prop} {v : Value} {l : List Bl} (h : Kept T w w') (hr : RBX w S v l) (hS : ∀ b, S b → b < w.heap.size ∧ ¬ T b) : RBX w' S v l := hr.keep fun _ hp => h.cell (hS _ hp).1 (hS _ hp).2
theorem HistM.lt (h : HistM w gh gn lf os d) : gh < w.heap.size ∧ gn < w.heap.size := by
  obtain ⟨Af, nf, cf, Ao, no, co, nn, cn, M, h1, _, _, _, _, h6⟩ := h.mem
  exact ⟨h1.lt, h6.lt⟩
theorem HistM.below (h : HistM w gh gn lf os d) (hb : Below w.heap.size w w') : HistM w' gh gn lf os d := by
  obtain ⟨hne, ⟨Af, nf, cf, Ao, no, co, nn, cn, M, h1, h2, h3, h4, h5, h6⟩, hok, hg, hle⟩ := h
  have hw : ∀ b, HS w gh gn b → HS w' gh gn b := fun b hb' => ⟨Nat.lt_of_lt_of_le hb'.1 hb.size, hb'.2⟩
  have hk : ∀ p : Addr, HS w gh gn p.block → w'.cell? p = w.cell? p := fun _ hp => hb.cell hp.1
  exact ⟨hne, ⟨Af, nf, cf, Ao, no, co, nn, cn, M, h1.below hb h1.lt, (h2.keep hk).weak hw, (h3.keep hk).weak hw, h4, h5, h6.below hb⟩, hok, hg, hle⟩
/-- the base as it is now -/
theorem HistM.now (h : HistM w gh gn lf os d) : ∃ f, Good (applL lf (os.take d)) f := by
  obtain ⟨f, G⟩ := h.good
  exact h.ok.good G d h.le
end

set_option maxRecDepth 100000 in
set_option maxHeartbeats 2000000 in
/-- tree.New at a base with an error -/
theorem new_bad (l : List Bl) (f : Int → Option Int) (hf : DepOk l f) (A : Option Addr) (n c : Nat) (w : World) (B : Nat) (hB : B ≤ w.heap.size) (h : RB w B (.slice A n c) l) (hne : baseE l f ≠ 0) :
    Calls Tryz.prog 17 #[.slice A n c] w fun e w' => e = .returned (.tuple #[.pointer none, .int .i64 (baseE l f)]) ∧ Below w.heap.size w w' := by
  have HC := Lib.hid (treeCheck_any l f A n c w B hB h hf)
  obtain ⟨er, her⟩ : ∃ er, er = baseE l f := ⟨_, rfl⟩
  rw [← her] at HC hne ⊢
  have h0' : (er != 0) = true := by simpa using hne
  clear her hne h
  go_enter Tryz.func17, Tryz.ntmps17
  go_wp2_with fail
  refine HC.out.mono ?_
  rintro e w1 ⟨rfl, hb1⟩
  have HB1 := Lib.hid hb1
  clear hb1
  go_wp2_with fail
  go_ret2
  exact ⟨rfl, HB1.out⟩
/-- what New leaves -/
def NewR (l : List Bl) (w : World) (e : Ending) (w' : World) : Prop := ∃ gh gn, e = .returned (.tuple #[.pointer (some ⟨gh, 0, none⟩), .int .i64 0]) ∧ HistM w' gh gn l [] 0 ∧ w.heap.size ≤ gh ∧ w.heap.size ≤ gn ∧ Below w.heap.size w w'
set_option maxRecDepth 100000 in
set_option maxHeartbeats 4000000 in
/-- tree.New -/
theorem new_any (l : List Bl) (f : Int → Option Int) (G : Good l f) (A : Option Addr) (n c : Nat) (w : World) (B : Nat) (hB : B ≤ w.heap.size) (h : RB w B (.slice A n c) l) :
    Calls Tryz.prog 17 #[.slice A n c] w (NewR l w) := by
  have HC := Lib.hid (treeCheck_any l f A n c w B hB h fun _ => G.dep)
  rw [G.clean] at HC
  have hn0 : 0 < n := by
    obtain ⟨r, hr, _⟩ := G.kids.root
    have := (List.getElem?_eq_some_iff.1 hr).1
    have := h.len.1
    omega
  have hn1 : n ≤ 100000 := by have := G.kids.short; have := h.len.1; omega
  have HCB := Lib.hid fun W (hW : Below w.heap.size w W) => copyBaseS_any l A n c W B (Nat.le_trans hB hW.size) (h.below (hW.mono hB)) hn0 hn1
  have HG := Lib.hid G
  clear h G hn0 hn1
  go_enter Tryz.func17, Tryz.ntmps17
  go_wp2_with fail
  refine HC.out.mono ?_
  rintro e w1 ⟨rfl, hb1⟩
  have HB1 := Lib.hid hb1
  clear hb1
  go_wp2_with fail
  refine (HCB.out w1 HB1.out).mono ?_
  rintro e w2 ⟨g2, n2, M2, rfl, hl2, hm2, hg2, hr2, hb2⟩
  have HB2 : Hid (Below w.heap.size w w2) := HB1.out.trans (hb2.mono HB1.out.size)
  have HX2 := Lib.hid hr2.rbx
  rw [hl2, hm2] at HX2
  have hgl := hr2.lt
  have hz1 := HB1.out.size
  have hz2 := hb2.size
  have HLT2 : Hid (w.heap.size ≤ g2 ∧ g2 < w2.heap.size) := ⟨by omega, hgl⟩
  clear hb2 hl2 hm2 hr2 hg2 hgl
  go_wp2_with fail
  refine (HCB.out w2 HB2.out).mono ?_
  rintro e w3 ⟨g3, n3, M3, rfl, hl3, hm3, hg3, hr3, hb3⟩
  have HB3 : Hid (Below w.heap.size w w3) := HB2.out.trans (hb3.mono HB2.out.size)
  have HX3 := Lib.hid ((HX2.out.keep (w' := w3) fun p hp => hb3.cell (by
    rcases hp with e | e
    · rw [e]; exact HLT2.out.2
    · exact e.1.1)).weak (S' := fun b => b < w2.heap.size) fun b hb => by
      rcases hb with e | e
      · rw [e]; exact HLT2.out.2
      · exact e.1.1)
  have HR3 := Lib.hid hr3
  have HL3 := Lib.hid hl3
  have HM3 := Lib.hid hm3
  have HG3 := Lib.hid hg3
  have HZ3 : Hid (w2.heap.size ≤ w3.heap.size) := hb3.size
  clear hb3 hl3 hm3 hr3 hg3
  go_wp2_with fail
  go_ret2
  have hal : Below w3.heap.size w3 (w3.alloc (.cells #[.slice (some ⟨g2, 0, none⟩) n2 n2, .slice none 0 0, .int .i64 ((0 : Nat) : Int), .slice (some ⟨g3, 0, none⟩) n3 n3] 94)) := (Below.refl _ _).alloc (Nat.le_refl _) _
  have hgl3 := HR3.out.lt
  have hg3 := HG3.out
  have hz3 := HZ3.out
  refine ⟨w3.heap.size, g3, rfl, ⟨by omega, ⟨_, _, _, none, 0, 0, n3, n3, M3, Blk.new w3 _ _, (HX3.out.keep fun p hp => hal.cell (by have hp : p.block < w2.heap.size := hp; omega)).weak fun b hb => by
    have hb : b < w2.heap.size := hb
    exact ⟨Nat.lt_of_lt_of_le (show b < w3.heap.size by omega) (by simp), by omega, by omega⟩, ⟨none, 0, 0, [], rfl, rfl, rfl, ⟨Nat.le_refl _, by omega⟩, ⟨rfl, fun h => absurd h (by omega)⟩, fun x hx => by cases hx⟩, HL3.out, HM3.out, (HR3.out.weak fun b hb _ => Nat.ne_of_lt hb).below hal⟩, fun k o hk => by simp at hk, ⟨f, HG.out⟩, Nat.le_refl _⟩, HB3.out.size, by omega, HB3.out.trans (hal.mono HB3.out.size)⟩
set_option maxRecDepth 100000 in
set_option maxHeartbeats 2000000 in
/-- the method Base -/
theorem histBase_any (w : World) (gh gn : Nat) (lf : List Bl) (os : List Opn) (d : Nat) (h : HistM w gh gn lf os d) :
    Calls Tryz.prog 27 #[.pointer (some ⟨gh, 0, none⟩)] w (CopyBaseS (applL lf (os.take d)) w) := by
  obtain ⟨f, G⟩ := h.now
  obtain ⟨_, ⟨Af, nf, cf, Ao, no, co, nn, cn, M, h1, _, _, h4, h5, h6⟩, _, _, _⟩ := h
  have hrb := h6.rb
  rw [h4, h5] at hrb
  have hn0 : 0 < nn := by
    obtain ⟨r, hr, _⟩ := G.kids.root
    have := (List.getElem?_eq_some_iff.1 hr).1
    have := hrb.len.1
    omega
  have hn1 : nn ≤ 100000 := by have := G.kids.short; have := hrb.len.1; omega
  have HCB := Lib.hid (copyBaseS_any (applL lf (os.take d)) _ nn cn w w.heap.size (Nat.le_refl _) hrb hn0 hn1)
  have c3 : w.cell? ⟨gh, 3, none⟩ = some (.slice (some ⟨gn, 0, none⟩) nn cn) := h1.cell 3
  clear h1 h4 h5 h6 hrb G hn0 hn1
  go_enter Tryz.func27, Tryz.ntmps27
  go_wp2_with fail
  refine HCB.out.mono ?_
  rintro e w1 ⟨g1, n1, M1, rfl, hh⟩
  have HH := Lib.hid hh
  clear hh
  go_wp2_with fail
  go_ret
  exact ⟨g1, n1, M1, rfl, HH.out⟩
set_option maxRecDepth 100000 in
set_option maxHeartbeats 2000000 in
/-- the method Length -/
theorem histLen_any (w : World) (gh gn : Nat) (lf : List Bl) (os : List Opn) (d : Nat) (h : HistM w gh gn lf os d) :
    Calls Tryz.prog 25 #[.pointer (some ⟨gh, 0, none⟩)] w fun e w' => e = .returned (.tuple #[.int .i64 (d : Int), .int .i64 ((os.length : Int) - (d : Int))]) ∧ Below w.heap.size w w' := by
  have hle := h.le
  obtain ⟨_, ⟨Af, nf, cf, Ao, no, co, nn, cn, M, h1, _, h3, _⟩, _, _, _⟩ := h
  have hno := (h3.reads (B := w.heap.size) fun b hb => hb.1).len
  have hn : no = os.length := hno.1
  rw [← hn] at hle ⊢
  have hnb : no * 144 ≤ 140737488351232 := hno.2.2
  have c2 : w.cell? ⟨gh, 2, none⟩ = some (.int .i64 (d : Int)) := h1.cell 2
  have c1 : w.cell? ⟨gh, 1, none⟩ = some (.slice Ao no co) := h1.cell 1
  clear h1 h3 hno hn
  go_enter Tryz.func25, Tryz.ntmps25
  go_upto_region 1 with fail
  go_quiet (fail)
  go_wp2_with fail
  go_ret2
  exact ⟨rfl, bdrew (Below.refl _ _) nq⟩
end Go.Proofs.YtmkicfjcgbfaaaaGreat
namespace Go.Proofs.YtmkicfjcgbfaaaaGreat
open Go.RowKit

theorem opV_flat (M : List (Opn × Value)) : (M.flatMap opV).length = M.length * 13 := by
  induction M with
  | nil => rfl
  | cons a M ih => rw [List.flatMap_cons, List.length_append, ih, List.length_cons, opV_len]; omega
theorem opV_take (M : List (Opn × Value)) (i : Nat) (hi : i ≤ M.length) : (M.flatMap opV).take (i * 13) = (M.take i).flatMap opV := by
  conv => lhs; rw [← List.take_append_drop i M, List.flatMap_append]
  rw [List.take_append_of_le_length (by rw [opV_flat, List.length_take]; omega), List.take_of_length_le (by rw [opV_flat, List.length_take]; omega)]
/-- the first operations of a row -/
theorem ROsX.take {w : World} {S : Nat → Prop} {A : Option Addr} {n c : Nat} {l : List Opn} (h : ROsX w S (.slice A n c) l) {k : Nat} (hk : k ≤ n) : ROsX w S (.slice A k c) (l.take k) := by
  obtain ⟨A', n', c', M, h1, e, h2, h3, h4, h5⟩ := h
  injection e with e1 e2 e3
  subst e1 e2 e3
  refine ⟨A, k, c, M.take k, by rw [← h1, List.map_take], rfl, by rw [List.length_take]; omega, ⟨by omega, by omega⟩, ?_, fun x hx => h5 x (List.mem_of_mem_take hx)⟩
  refine ⟨by rw [opV_flat, List.length_take]; omega, fun h0 => ?_⟩
  obtain ⟨ad, hA, hS, hc⟩ := h4.2 (by omega)
  refine ⟨ad, hA, hS, fun j u hu => hc j u ?_⟩
  rw [← opV_take M k (by omega), List.getElem?_take] at hu
  split at hu
  · exact hu
  · cases hu
section
variable {w w' : World} {gh gn : Nat} {lf : List Bl} {os : List Opn} {d : Nat}
/-- a history whose base is another row -/
theorem HistM.turn (h : HistM w gh gn lf os d) {Af Ao : Option Addr} {nf cf no co : Nat} (hf : RBX w (HS w gh gn) (.slice Af nf cf) lf) (ho : ROsX w (HS w gh gn) (.slice Ao no co) os) {g' cap' n' d' : Nat} {M' : List BK} (hd : d' ≤ os.length) (hz : w.heap.size ≤ w'.heap.size)
    (hk : ∀ b, HS w gh gn b → w'.heap[b]? = w.heap[b]?) (hb : Blk w' gh 94 #[.slice Af nf cf, .slice Ao no co, .int .i64 (d' : Int), .slice (some ⟨g', 0, none⟩) n' cap']) (hl : M'.length = n') (hm : M'.map Prod.fst = applL lf (os.take d')) (hr : RowS (fun b => b ≠ gh) w' g' cap' M') (hg : g' = gn ∨ w.heap.size ≤ g') : HistM w' gh g' lf os d' := by
  have hgl := h.lt
  have hw : ∀ b, HS w gh gn b → HS w' gh g' b := fun b hb' => ⟨Nat.lt_of_lt_of_le hb'.1 hz, hb'.2.1, by
    have := hb'.1
    rcases hg with e | e
    · rw [e]; exact hb'.2.2
    · omega⟩
  have hc : ∀ p : Addr, HS w gh gn p.block → w'.cell? p = w.cell? p := fun p hp => World.cell?_of_block (hk _ hp)
  refine ⟨?_, ⟨Af, nf, cf, Ao, no, co, n', cap', M', hb, (hf.keep hc).weak hw, (ho.keep hc).weak hw, hl, hm, hr⟩, h.ok, h.good, hd⟩
  rcases hg with e | e
  · rw [e]; exact h.ne
  · have := hgl.1; omega
end

/-- what a step back leaves -/
def BackR (gh : Nat) (lf : List Bl) (os : List Opn) (n : Nat) (v : Value) (w : World) (e : Ending) (w' : World) : Prop := ∃ gn', e = .returned v ∧ HistM w' gh gn' lf os n ∧ w.heap.size ≤ gn' ∧ Kept (fun b => b = gh) w w'
set_option maxRecDepth 100000 in
set_option maxHeartbeats 8000000 in
/-- the method rewind -/
theorem rewind_any (w : World) (gh gn : Nat) (lf : List Bl) (os : List Opn) (d n : Nat) (h : HistM w gh gn lf os d) (hn : n ≤ os.length) :
    Calls Tryz.prog 73 #[.pointer (some ⟨gh, 0, none⟩), .int .i64 (n : Int)] w (BackR gh lf os n (.tuple #[]) w) := by
  have H := Lib.hid h
  obtain ⟨f, G⟩ := h.good
  have hgl := h.lt
  have hok := h.ok
  obtain ⟨_, ⟨Af, nf, cf, Ao, no, co, nn, cn, M, h1, h2, h3, _, _, _⟩, _, _, _⟩ := h
  have hno := (h3.reads (B := w.heap.size) fun b hb => hb.1).len
  have hnf := (h2.reads (B := w.heap.size) fun b hb => hb.1).len
  have hn0 : 0 < nf := by
    obtain ⟨r, hr, _⟩ := G.kids.root
    have := (List.getElem?_eq_some_iff.1 hr).1
    omega
  have hn1 : nf ≤ 100000 := by have := G.kids.short; omega
  obtain ⟨w1, hw1⟩ : ∃ w1, w1 = w.setCell ⟨gh, 2, none⟩ (.int .i64 (n : Int)) := ⟨_, rfl⟩
  have hz1 : w1.heap.size = w.heap.size := by rw [hw1]; simp [World.setCell]
  have hf1 : ∀ b, b ≠ gh → w1.heap[b]? = w.heap[b]? := fun b hb => by rw [hw1]; exact Below.heap_setCell w _ _ b hb
  have hc1 : ∀ p : Addr, HS w gh gn p.block → w1.cell? p = w.cell? p := fun p hp => World.cell?_of_block (hf1 _ hp.2.1)
  have P1 : Blk w1 gh 94 #[.slice Af nf cf, .slice Ao no co, .int .i64 (n : Int), .slice (some ⟨gn, 0, none⟩) nn cn] := by
    rw [hw1]; exact h1.set_ 2 _
  have r1 := (h2.keep hc1).reads (B := w.heap.size) fun b hb => hb.1
  have HCB := Lib.hid fun W (hW : Below w1.heap.size w1 W) => copyBaseS_any lf Af nf cf W w.heap.size (by have := hW.size; omega) (r1.below (hW.mono (Nat.le_of_eq hz1.symm))) hn0 hn1
  have htk := (h3.take (k := n) (by omega)).keep hc1
  have HDN : Hid (∀ (W : World) (g2 n2 : Nat) (M2 : List BK), RowS (fun b => b ≠ gh) W g2 n2 M2 → M2.length = n2 → M2.map Prod.fst = lf → Below w1.heap.size w1 W → w1.heap.size ≤ g2 →
      Calls Tryz.prog 61 #[.slice (some ⟨g2, 0, none⟩) n2 n2, .slice Ao n co] W fun e w' => ∃ (g' cap' n' : Nat) (M' : List BK), e = .returned (.slice (some ⟨g', 0, none⟩) n' cap') ∧ (M'.length = n' ∧ M'.map Prod.fst = applL lf (os.take n) ∧ RowS (fun b => b ≠ gh) w' g' cap' M' ∧ w1.heap.size ≤ g') ∧ Below w1.heap.size w1 w') := by
    intro W g2 n2 M2 hr hl hm hW hg
    have hzz := hW.size
    have hgl := hgl.1
    refine (doneS_any W (S := fun b => b ≠ gh) (fun b hb => by omega) g2 n2 n2 M2 lf (os.take n) hr hl hm Ao n co ((htk.keep fun p hp => hW.cell (by have := hp.1; omega)).weak fun b hb => ⟨by have := hb.1; omega, by have := hb.1; omega⟩) (hok.pre n)).mono ?_
    rintro e w' ⟨g', cap', n', M', rfl, q1, q2, q3, q4, q5⟩
    refine ⟨g', cap', n', M', rfl, ⟨q1, q2, q3, ?_⟩, below_own hW q4 hg⟩
    rcases q5 with e | e
    · rw [e]; exact hg
    · omega
  have HFIN : Hid (∀ (W : World) (g' cap' n' : Nat) (M' : List BK), M'.length = n' ∧ M'.map Prod.fst = applL lf (os.take n) ∧ RowS (fun b => b ≠ gh) W g' cap' M' ∧ w1.heap.size ≤ g' → Below w1.heap.size w1 W → BackR gh lf os n (.tuple #[]) w (.returned (.tuple #[])) (W.setCell ⟨gh, 3, none⟩ (.slice (some ⟨g', 0, none⟩) n' cap'))) := by
    intro W g' cap' n' M' ⟨q1, q2, q3, q4⟩ hW
    have hgh := hgl.1
    have hne : g' ≠ gh := by omega
    have hzz := hW.size
    have hzs : (W.setCell ⟨gh, 3, none⟩ (.slice (some ⟨g', 0, none⟩) n' cap')).heap.size = W.heap.size := by simp [World.setCell]
    have hfr : ∀ b, b ≠ gh → (W.setCell ⟨gh, 3, none⟩ (.slice (some ⟨g', 0, none⟩) n' cap')).heap[b]? = W.heap[b]? := fun b hb => Below.heap_setCell W _ _ b hb
    have hall : ∀ b, b < w.heap.size → b ≠ gh → (W.setCell ⟨gh, 3, none⟩ (.slice (some ⟨g', 0, none⟩) n' cap')).heap[b]? = w.heap[b]? := fun b hb hb2 => by
      rw [hfr b hb2, hW.block b (by omega), hf1 b hb2]
    refine ⟨g', rfl, H.out.turn h2 h3 hn (by omega) (fun b hb => hall b hb.1 hb.2.1) ((P1.below hW P1.lt).set_ 3 _) q1 q2 (q3.keep (fun b hb => hfr b ?_) (by omega)) (.inr (by omega)), by omega, ?_⟩
    · rcases hb with e | e
      · rw [e]; exact hne
      · exact e.2
    · exact ⟨by rw [show (W.setCell ⟨gh, 3, none⟩ _).os = W.os from rfl, hW.os, hw1]; rfl, by rw [show (W.setCell ⟨gh, 3, none⟩ _).tape = W.tape from rfl, hW.tape, hw1]; rfl, by rw [show (W.setCell ⟨gh, 3, none⟩ _).output = W.output from rfl, hW.output, hw1]; rfl, by omega, fun b hb hb2 => hall b hb hb2⟩
  have HWK : Hid (∀ W, Below w1.heap.size w1 W → (∀ i, W.cell? ⟨gh, i, none⟩ = (#[.slice Af nf cf, .slice Ao no co, .int .i64 (n : Int), .slice (some ⟨gn, 0, none⟩) nn cn] : Array Value)[i]?) ∧ W.frozen? ⟨gh, 3, none⟩ = false) := fun W hW => ⟨fun i => (P1.below hW P1.lt).cell i, (P1.below hW P1.lt).frozen 3⟩
  have f2 := h1.frozen 2
  have c2 := h1.cell 2
  have HR1 : Hid (∀ (W : World) (g2 n2 : Nat) (M2 : List BK), w1.heap.size ≤ W.heap.size → RowS (fun b => w1.heap.size ≤ b) W g2 n2 M2 → RowS (fun b => b ≠ gh) W g2 n2 M2) := fun W g2 n2 M2 _ hr => hr.weak fun b _ hb => by have := hgl.1; omega
  have hnn : (n : Int) ≤ (no : Int) := by omega
  have hnc : no ≤ co := hno.2.1
  have hnb : no * 144 ≤ 140737488351232 := hno.2.2
  have HW1 := Lib.hid hw1
  have HZ1 := Lib.hid hz1
  have hk0 : (0 : Int) ≤ (n : Int) := by omega
  have hk2 : (n : Int) ≤ (co : Int) := by omega
  clear h1 h2 h3 hno hnf hn0 hn1 hw1 hz1 hf1 hc1 P1 r1 htk hok G hgl hn
  go_enter Tryz.func73, Tryz.ntmps73
  go_upto_region 1 with fail
  rw [← HW1.out]
  clear c2 f2
  obtain ⟨e0, f3⟩ := HWK.out w1 (Below.refl _ _)
  have c0 := e0 0
  have c1 := e0 1
  have c3 := e0 3
  clear e0
  go_region_with (first
    | (go_at_call 62; refine (HCB.out _ (by first | with_reducible exact (Below.refl _ _).drew | with_reducible exact Below.refl _ _ | exact (Below.refl _ _).drew)).mono ?_; rintro e w3 ⟨g3, n3, M3, rfl, hl3, hm3, hg3, hr3, hb3⟩; have HB3 : Hid (Below w1.heap.size w1 w3) := (by first | exact (Below.refl w1.heap.size w1).drew.trans hb3 | exact hb3); have HG3 : Hid (w1.heap.size ≤ g3) := hg3; have HR3 := Lib.hid (HR1.out w3 g3 n3 M3 hb3.size hr3); have HL3 := Lib.hid hl3; have HM3 := Lib.hid hm3; obtain ⟨e0, k3⟩ := HWK.out w3 HB3.out; have d0 := e0 0; have d1 := e0 1; have d3 := e0 3; clear e0 hb3 hg3 hr3 hl3 hm3)
    | (go_at_call 61; refine (HDN.out _ g3 n3 M3 (by first | exact HR3.out | exact HR3.out.drew) HL3.out HM3.out (by first | exact HB3.out | exact HB3.out.drew) HG3.out).mono ?_; rintro e w4 ⟨g4, cap4, n4, M4, rfl, hh4, hb4⟩; have HH4 := Lib.hid hh4; have HB4 := Lib.hid hb4; obtain ⟨e0, k4⟩ := HWK.out w4 HB4.out; have q3 := e0 3; clear e0 hh4 hb4))
  all_goals
    go_wp2_with fail
    go_end0
    exact HFIN.out _ _ _ _ _ HH4.out HB4.out
end Go.Proofs.YtmkicfjcgbfaaaaGreat
