/-
  DERIVED. The walks of tree.path and the reference's PathOf. Conditions: sizes; a base without error.
  The walk of tree.Check. Conditions: sizes.
  The walk of tree.copyBase: a base of the call's own. Conditions: sizes.
  By an AI agent.
-/
import Derived.Test.YtmkicfjcgbfaaaaGreatTg17
import Derived.Test.YtmkicfjcgbfaaaaGreatTg11
import Derived.Test.YtmkicfjcgbfaaaaGreatTg05
import Derived.Test.YtmkicfjcgbfaaaaGreatTg02
import Derived.Lib.OwnBridge
import Derived.Test.YtmkicfjcgbfaaaaGreatTg16
import Derived.Test.YtmkicfjcgbfaaaaGreatTg14
import Derived.Laws.OwnMore
namespace Go.Proofs.YtmkicfjcgbfaaaaGreat
open Go.RowKit

/-- slices.Reverse of a row of the call's own -/
theorem revI_any {w : World} {base n : Nat} {v : Value} {L : List Int} (h : w.ownsRow base 3 1 v n (L.map (.int .i64))) (hs : n ≤ 100000) (w0 : World) (hb : Below base w0 w) :
    Calls Tryz.prog 135 #[v] w fun e w' => e = .returned (.tuple #[]) ∧ w'.ownsRow base 3 1 v n (L.reverse.map (.int .i64)) ∧ Below base w0 w' := by
  rcases h.2 with ⟨rfl, h0⟩ | ⟨g0, cap0, cur, rfl, _⟩
  · have hL : L = [] := by
      have := h.1
      rw [h0, List.length_map] at this
      exact List.eq_nil_of_length_eq_zero (by omega)
    subst hL h0
    refine (Tryz.slices_Reverse_int_empty none 0 w).mono ?_
    rintro e w' ⟨rfl, rfl⟩
    exact ⟨rfl, h, hb⟩
  · obtain ⟨g, cap, e, hg, hlt, hnc, hcm, hl, hH⟩ := Lib.holds_of_ownsRow h (by intro e; injection e with e; cases e)
    injection e with e1 _ e3
    injection e1 with e1
    injection e1 with e1
    subst e1 e3
    rw [← hl]
    refine (Tryz.slices_Reverse_int g0 0 cap0 L w hH (by omega)).mono ?_
    rintro e w' ⟨rfl, q, rfl⟩
    refine ⟨rfl, ?_, Lib.below_putRow hb hg⟩
    have := Lib.ownsRow_putRow (q := q) (k := n) h (ys := L.reverse) (by rw [List.length_reverse]; exact hl) (Nat.le_refl _)
    rw [List.take_of_length_le (by rw [List.length_reverse]; omega)] at this
    rw [hl]
    exact this

set_option maxHeartbeats 4000000 in
/-- tree.path -/
theorem path_any (l : List Bl) (K : Kids l) (A : Option Addr) (n c : Nat) (id : Int) (d : Nat) (hd : Dp l id d) (hd40 : d ≤ 40) (w : World) (B : Nat) (hB : B ≤ w.heap.size) (h : RB w B (.slice A n c) l) :
    Calls Tryz.prog 66 #[.slice A n c, .int .i64 id] w fun e w' => (∃ A' n', e = .returned (.slice A' n' n') ∧ RInX w' (fun b => w.heap.size ≤ b ∧ b < w'.heap.size) (.slice A' n' n') (pth l d id)) ∧ Below w.heap.size w w' := by
  obtain ⟨i0, hi, hq0, hq1, hq2⟩ := info_parts int_info
  have HIX := Lib.hid fun (x : Int) (W : World) (hx : I64 x) (hW : Below w.heap.size w W) => index_any l A n c x W B (Nat.le_trans hB hW.size) (h.below (hW.mono hB)) K.rise K.ids hx
  have H := Lib.hid h
  have KK := Lib.hid K
  have HP64 := Lib.hid (pth_i64 K hd)
  have HLEN := Lib.hid (pth_len (l := l) d id)
  obtain ⟨P, hP⟩ : ∃ P, P = pth l d id := ⟨_, rfl⟩
  rw [← hP] at HP64 HLEN ⊢
  have HDD := Lib.hid hd
  have HPP := Lib.hid hP
  clear h K hd hP
  go_enter Tryz.func66, Tryz.ntmps66
  go_wp2_with fail
  go_loopg [1, 5] d (fun gg s1 s5 wr => ∃ (x : Int) (d' t : Nat) (v : Value) (L : List Int), s1 = .int .i64 x ∧ v = s5 ∧ d' ≤ gg ∧ Hid (Dp l x d') ∧ Hid (pth l d' x ++ L.reverse = P) ∧ Hid (t = L.length) ∧ Hid (wr.ownsRow w.heap.size 3 1 v t (L.map (.int .i64))) ∧ Hid (Below w.heap.size w wr))
  case atStart => exact ⟨id, d, 0, _, [], rfl, rfl, Nat.le_refl _, HDD, (by show _ = _; rw [HPP.out]; simp), rfl, World.ownsRow_nil _ _ _ _, Below.refl _ _⟩
  case round =>
    obtain ⟨x, d', t, v, L, rfl, rfl, hdg, hdp, hpl, ht, hown, hbel⟩ := hrel
    obtain ⟨W1, rfl⟩ : ∃ W1, W1 = wr := ⟨_, rfl⟩
    have hzr : w.heap.size ≤ W1.heap.size := hbel.out.size
    have hts : t + d' = d := by
      have h1 := congrArg List.length hpl.out
      rw [List.length_append, List.length_reverse, pth_len, HLEN.out, ← ht.out] at h1
      omega
    rcases d' with _ | d'
    · have hx0 : x = 0 := (Dp.zero_iff KK.out hdp.out).2 rfl
      subst hx0
      have hL : Hid (L.reverse = P) := hpl.out
      have HRV := Lib.hid (revI_any hown.out (by omega) w hbel.out)
      go_wp2_with fail
      refine HRV.out.mono ?_
      rintro e w2 ⟨rfl, ho2, hb2⟩
      rw [hL.out] at ho2
      obtain ⟨A', c', rfl, h0, h1, h2⟩ := RInX.of_own ho2 (by rw [HLEN.out]; omega) (by omega) HP64.out
      have hcc : t ≤ c' := by
        obtain ⟨_, _, _, e, _, h3, _⟩ := h1
        injection e with _ e1 e2
        omega
      have HCL := Lib.hid (clipI_any A' t c' w2 hcc h0)
      have HB2 := Lib.hid hb2
      have HR2 := Lib.hid (h2.weak (S' := fun b => w.heap.size ≤ b ∧ b < w2.heap.size) fun b hb => hb.2)
      clear ho2 h0 h1 h2 hcc hb2
      go_wp2_with fail
      refine HCL.out.mono ?_
      rintro e w3 ⟨rfl, rfl⟩
      go_wp2_with fail
      go_ret
      exact ⟨⟨A', t, rfl, HR2.out⟩, HB2.out⟩
    · obtain ⟨hx0, hdu⟩ := Dp.up KK.out hdp.out
      obtain ⟨p, bx, hp, hlp, hbi⟩ := hdp.out.blk KK.out
      have hbx := List.mem_of_getElem? hlp
      have hx64 : I64 x := by have := KK.out.ids bx hbx; unfold I64; omega
      have hpar : parOf l x = bx.parent := by rw [← hbi]; exact parOf_eq KK.out hbx
      rw [hpar] at hdu
      have hpn : p < n := by have := (List.getElem?_eq_some_iff.1 hlp).1; have := H.out.len.1; omega
      obtain ⟨b, off, Ak, nk, ck, Ap, np, cp, rfl, hbb, g0, g1, g2, g3, g4, _, _⟩ := H.out.at_ hlp
      have HDU := Lib.hid hdu
      have HPL : Hid (pth l d' bx.parent ++ (L ++ [x]).reverse = P) := by
        show _ = _
        rw [List.reverse_append, ← hpl.out, pth, hpar]
        simp
      have HT2 : Hid (t + 1 = (L ++ [x]).length) := by show _ = _; rw [List.length_append, ← ht.out]; rfl
      have hx0' : (x != 0) = true := by simpa using hx0
      have hb1 : t + 1 ≤ maxLen := by unfold maxLen; omega
      have hb2 : (t + 1) * 8 ≤ 140737488355328 := by omega
      have HR1 : Hid (Reads (W1.alloc (.cells #[.int .i64 x] 3)) (W1.heap.size + 1) 1 (some ⟨W1.heap.size, 0, none⟩) 1 [.int .i64 x]) := Reads.blk (Blk.new _ _ _) rfl
      have hbase : w.heap.size ≤ (W1.alloc (.cells #[.int .i64 x] 3)).heap.size := by simp; omega
      have hone : ∀ u ∈ [Value.int .i64 x], u.oneCell' = true := ints_one [x]
      have HOW := Lib.hid (hown.out.alloc (.cells #[.int .i64 x] 3))
      have HBA := Lib.hid (hbel.out.alloc hzr (.cells #[.int .i64 x] 3))
      have HVB : Hid (∀ g, v.ownBlock = some g → w.heap.size ≤ g) := fun g hg => (own_block_lt hown.out g hg).1
      have HX := Lib.hid fun W hW => HIX.out x W hx64 hW
      rw [hp] at HX
      have HL3 : Hid (L.map (Value.int .i64) ++ [Value.int .i64 x] = (L ++ [x]).map (Value.int .i64)) := by show _ = _; simp
      have y0 : (0 : Int) ≤ (p : Int) := by omega
      have y1 : (p : Int) < (n : Int) := by omega
      clear hx0 hdu hp hlp hbi hbx hpar g0 g2 g3 g4
      go_wp2_with (at_builtin; refine wpList_append_any _ rfl _ _ 34 rfl w.heap.size 3 i0 (.int .i64 0) 1 8 Tryz.underlying34 hi hq0 hq1 hq2 rfl (by decide) v t _ rfl HOW.out _ _ 1 1 _ rfl HR1.out hone hb1 hb2 hbase ?_)
      intro v2 w2 hown2 hg2 hat2
      rw [HL3.out] at hown2
      have HO2 := Lib.hid hown2
      have HB2 : Hid (Below w.heap.size w w2) := HBA.out.grown hg2 (Nat.le_trans hzr (by simp)) (fun g hg => HVB.out g hg)
      have HX2 := Lib.hid (HX.out w2 HB2.out)
      clear hown2 hg2 hat2 hb1 hb2 hbase hone
      go_wp2_with fail
      refine HX2.out.mono ?_
      rintro e w3 ⟨rfl, hb3⟩
      have HO3 := Lib.hid (own_below HO2.out hb3)
      have HB3 : Hid (Below w.heap.size w w3) := HB2.out.trans (hb3.mono HB2.out.size)
      have g1 := (HB3.out.cell (p := ⟨b, off + p * 5 + 1, none⟩) (by show b < _; omega)).trans g1
      clear hb3
      go_wp2_with fail
      go_roundg d'
      case measure => omega
      case rel => exact ⟨bx.parent, d', t + 1, v2, L ++ [x], rfl, rfl, Nat.le_refl _, HDU, HPL, HT2, HO3, HB3⟩

set_option maxHeartbeats 4000000 in
theorem pathOf_walk (l : List Bl) (K : Kids l) (A : Option Addr) (n c : Nat) (id : Int) (d : Nat) (hd : Dp l id d) (hd40 : d ≤ 40) (w : World) (B : Nat) (hB : B ≤ w.heap.size) (h : RB w B (.slice A n c) l)
    (IH : ∀ (k : Int) (d' : Nat) (W : World), d = d' + 1 → Dp l k d' → Below w.heap.size w W → Calls Tryz.prog 75 #[.slice A n c, .int .i64 k] W fun e w' => ∃ v, e = .returned v ∧ w'.ownsRow W.heap.size 3 1 v d' ((pth l d' k).map (.int .i64)) ∧ Below W.heap.size W w') :
    Calls Tryz.prog 75 #[.slice A n c, .int .i64 id] w fun e w' => ∃ v, e = .returned v ∧ w'.ownsRow w.heap.size 3 1 v d ((pth l d id).map (.int .i64)) ∧ Below w.heap.size w w' := by
  obtain ⟨i0, hi, hq0, hq1, hq2⟩ := info_parts int_info
  rcases d with _ | d'
  · have hx0 : id = 0 := (Dp.zero_iff K hd).2 rfl
    subst hx0
    clear h IH hd
    go_enter Tryz.func75, Tryz.ntmps75
    go_wp2_with fail
    go_ret
    exact ⟨_, rfl, World.ownsRow_nil _ _ _ _, Below.refl _ _⟩
  · obtain ⟨hx0, hdu⟩ := Dp.up K hd
    obtain ⟨p, bx, hp, hlp, hbi⟩ := hd.blk K
    have hbx := List.mem_of_getElem? hlp
    have hpar : parOf l id = bx.parent := by rw [← hbi]; exact parOf_eq K hbx
    have HPT : Hid (pth l (d' + 1) id = pth l d' bx.parent ++ [id]) := by show _ = _; rw [pth, hpar]
    rw [hpar] at hdu
    have hpn : p < n := by have := (List.getElem?_eq_some_iff.1 hlp).1; have := h.len.1; omega
    have HX := at_any l A n c id w B hB h
    rw [hp] at HX
    have HX := Lib.hid HX
    obtain ⟨b, off, Ak, nk, ck, Ap, np, cp, rfl, hbb, g0, g1, g2, g3, g4, _, _⟩ := h.at_ hlp
    have HI := Lib.hid fun W hW => IH bx.parent d' W rfl hdu hW
    have hx0' : (id == 0) = false := by simpa using hx0
    have y0 : (0 : Int) ≤ (p : Int) := by omega
    have y1 : (p : Int) < (n : Int) := by omega
    clear h IH hd hdu hp hlp hbi hbx hpar g0 g2 g3 g4 hx0
    go_enter Tryz.func75, Tryz.ntmps75
    go_wp2_with fail
    refine HX.out.mono ?_
    rintro e w1 ⟨rfl, hb1⟩
    have HB1 := Lib.hid hb1
    have g1 := (hb1.cell (p := ⟨b, off + p * 5 + 1, none⟩) (by show b < _; omega)).trans g1
    have HI2 := Lib.hid (HI.out w1 hb1)
    clear hb1
    go_wp2_with fail
    refine HI2.out.mono ?_
    rintro e w2 ⟨v, rfl, ho, hb2⟩
    have HB2 : Hid (Below w.heap.size w w2) := HB1.out.trans (hb2.mono HB1.out.size)
    have hzr : w.heap.size ≤ w2.heap.size := HB2.out.size
    have hz1 : w.heap.size ≤ w1.heap.size := HB1.out.size
    have HO := Lib.hid (ho.mono hz1)
    clear ho hb2
    have hb1 : d' + 1 ≤ maxLen := by unfold maxLen; omega
    have hb2 : (d' + 1) * 8 ≤ 140737488355328 := by omega
    have HR1 : Hid (Reads (w2.alloc (.cells #[.int .i64 id] 3)) (w2.heap.size + 1) 1 (some ⟨w2.heap.size, 0, none⟩) 1 [.int .i64 id]) := Reads.blk (Blk.new _ _ _) rfl
    have hbase : w.heap.size ≤ (w2.alloc (.cells #[.int .i64 id] 3)).heap.size := by simp; omega
    have hone : ∀ u ∈ [Value.int .i64 id], u.oneCell' = true := ints_one [id]
    have HOW := Lib.hid (HO.out.alloc (.cells #[.int .i64 id] 3))
    have HBA := Lib.hid (HB2.out.alloc hzr (.cells #[.int .i64 id] 3))
    have HVB : Hid (∀ g, v.ownBlock = some g → w.heap.size ≤ g) := fun g hg => (own_block_lt HO.out g hg).1
    go_wp2_with (at_builtin; refine wpList_append_any _ rfl _ _ 34 rfl w.heap.size 3 i0 (.int .i64 0) 1 8 Tryz.underlying34 hi hq0 hq1 hq2 rfl (by decide) v d' _ rfl HOW.out _ _ 1 1 _ rfl HR1.out hone hb1 hb2 hbase ?_)
    intro v2 w3 hown2 hg2 hat2
    have HO3 : Hid (w3.ownsRow w.heap.size 3 1 v2 (d' + 1) ((pth l (d' + 1) id).map (.int .i64))) := by
      show w3.ownsRow _ _ _ _ _ _
      rw [HPT.out, List.map_append]; exact hown2
    have HB3 : Hid (Below w.heap.size w w3) := HBA.out.grown hg2 (Nat.le_trans hzr (by simp)) (fun g hg => HVB.out g hg)
    clear hown2 hg2 hat2
    go_wp2_with fail
    go_ret
    exact ⟨_, rfl, HO3.out, HB3.out⟩
/-- the reference's PathOf -/
theorem pathOf_own (l : List Bl) (K : Kids l) (A : Option Addr) (n c : Nat) (B : Nat) : ∀ (d : Nat) (id : Int) (w : World), Dp l id d → d ≤ 40 → B ≤ w.heap.size → RB w B (.slice A n c) l →
    Calls Tryz.prog 75 #[.slice A n c, .int .i64 id] w fun e w' => ∃ v, e = .returned v ∧ w'.ownsRow w.heap.size 3 1 v d ((pth l d id).map (.int .i64)) ∧ Below w.heap.size w w'
  | 0, id, w, hd, h40, hB, h => pathOf_walk l K A n c id 0 hd h40 w B hB h fun k d' W e => by omega
  | d + 1, id, w, hd, h40, hB, h => pathOf_walk l K A n c id (d + 1) hd h40 w B hB h fun k d' W e hk hW => by
    obtain rfl : d = d' := by omega
    exact pathOf_own l K A n c B d k W hk (by omega) (Nat.le_trans hB hW.size) (h.below (hW.mono hB))
theorem pathOf_any (l : List Bl) (K : Kids l) (A : Option Addr) (n c : Nat) (B d : Nat) (id : Int) (w : World) (hd : Dp l id d) (h40 : d ≤ 40) (hB : B ≤ w.heap.size) (h : RB w B (.slice A n c) l) :
    Calls Tryz.prog 75 #[.slice A n c, .int .i64 id] w (IntsR (pth l d id) w) :=
  (pathOf_own l K A n c B d id w hd h40 hB h).mono fun e w' ⟨v, he, ho, hb⟩ => by
    subst he
    exact IntsR.of_own ho (pth_len d id).symm (by omega) (pth_i64 K hd) hb
end Go.Proofs.YtmkicfjcgbfaaaaGreat
namespace Go.Proofs.YtmkicfjcgbfaaaaGreat
open Go.RowKit

set_option maxHeartbeats 4000000 in
/-- tree.Check -/
theorem treeCheck_any (l : List Bl) (f : Int → Option Int) (A : Option Addr) (n c : Nat) (w : World) (B : Nat) (hB : B ≤ w.heap.size) (h : RB w B (.slice A n c) l) (hf : DepOk l f) :
    Calls Tryz.prog 10 #[.slice A n c] w fun e w' => e = .returned (.int .i64 (baseE l f)) ∧ Below w.heap.size w w' := by
  obtain ⟨V, hV⟩ : ∃ V, V = baseE l f := ⟨_, rfl⟩
  rw [← hV]
  unfold baseE at hV
  have hn := h.len
  rw [← hn.1] at hV
  by_cases h0 : n = 0
  · subst h0
    rw [if_pos rfl] at hV
    subst hV
    clear h hn hf
    go_enter Tryz.func10, Tryz.ntmps10
    go_wp2_with fail
    go_ret
    exact ⟨rfl, Below.refl _ _⟩
  rw [if_neg h0] at hV
  have h0' : ((n : Int) == 0) = false := by simpa using h0
  by_cases h1 : 2000 < n
  · rw [if_pos h1] at hV
    have h1' : (2000 : Int) < (n : Int) := by omega
    subst hV
    clear h hn hf h0 h1
    go_enter Tryz.func10, Tryz.ntmps10
    go_wp2_with fail
    go_ret
    exact ⟨rfl, Below.refl _ _⟩
  rw [if_neg h1] at hV
  have h1' : ¬ (2000 : Int) < (n : Int) := by omega
  have HBK := Lib.hid fun (k : Nat) (x : Bl) (W : World) (hx : l[k]? = some x) (hW : Below w.heap.size w W) => checkBlock_any l A n c k x W B (Nat.le_trans hB hW.size) (h.below (hW.mono hB)) hx
  have HCK := Lib.hid fun (W : World) (hr : Rise l) (hi : IdsIn l) (hW : Below w.heap.size w W) => checkKids_any l A n c W B (Nat.le_trans hB hW.size) (h.below (hW.mono hB)) hr hi
  have HDP := Lib.hid fun (W : World) (K : Kids l) (hW : Below w.heap.size w W) => depths_any l A n c W B (Nat.le_trans hB hW.size) (h.below (hW.mono hB)) K
  have HE := Lib.hid (intElem (P := Tryz.prog) (e := 3) Tryz.underlying3 int_zero)
  have H := Lib.hid h
  have HN := Lib.hid hn
  have HV := Lib.hid hV
  have HF := Lib.hid hf
  have H0 := Lib.hid h0
  have H1 := Lib.hid h1
  obtain ⟨U, hU⟩ : ∃ U, U = blksErr none l := ⟨_, rfl⟩
  rw [← hU] at HV
  have HU : Hid (U = blksErr (prevB l 0) (l.drop 0)) := hU
  have HU0 : Hid (U = 0 → blksErr none l = 0) := fun e => hU.symm.trans e
  clear h hn hV hf h0 hU
  go_enter Tryz.func10, Tryz.ntmps10
  go_wp2_with fail
  go_loopg [21] n (fun gg s21 wr => ∃ i : Nat, i + gg = n ∧ s21 = .int .i64 (i : Int) ∧ Hid (U = blksErr (prevB l i) (l.drop i)) ∧ Hid (Below w.heap.size w wr))
  case atStart => exact ⟨0, by omega, rfl, HU, Below.refl _ _⟩
  case round =>
    obtain ⟨i, hig, rfl, hno, hbel⟩ := hrel
    obtain ⟨W1, rfl⟩ : ∃ W1, W1 = wr := ⟨_, rfl⟩
    by_cases hk : i < n
    case pos =>
      obtain ⟨x, hx⟩ : ∃ x, l[i]? = some x := ⟨_, List.getElem?_eq_getElem (by have := HN.out.1; omega)⟩
      have hst := hno.out.trans (blksErr_at hx)
      have HX := HBK.out i x W1 hx hbel.out
      obtain ⟨e, he⟩ : ∃ e, e = blkErr (prevB l i) x := ⟨_, rfl⟩
      rw [← he] at hst HX
      have HX := Lib.hid HX
      have j0 : (0 : Int) ≤ (i : Int) := by omega
      have j1 : (i : Int) < (n : Int) := by omega
      clear hx he
      by_cases hz : e = 0
      · have HS := Lib.hid (hst.trans (if_neg (fun h => h hz)))
        subst hz
        clear hst
        go_wp2_with fail
        refine HX.out.mono ?_
        rintro e w2 ⟨rfl, hb⟩
        have HB2 : Hid (Below w.heap.size w w2) := hbel.out.trans (hb.mono hbel.out.size)
        clear hb
        go_wp2_with fail
        go_roundg (n - (i + 1))
        case measure => omega
        case rel => exact ⟨i + 1, by omega, by go_num, HS, HB2⟩
      · have hs := hst.trans (if_pos hz)
        have HZ := Lib.hid (HV.out.trans ((if_pos (by rw [hs]; exact hz)).trans hs))
        have hz' : (e != 0) = true := by simpa using hz
        clear hst hs hz
        go_wp2_with fail
        refine HX.out.mono ?_
        rintro e' w2 ⟨rfl, hb⟩
        have HB2 : Hid (Below w.heap.size w w2) := hbel.out.trans (hb.mono hbel.out.size)
        clear hb
        go_wp2_with fail
        go_ret
        exact ⟨by rw [HZ.out]; rfl, HB2.out⟩
    case neg =>
    obtain rfl : n = i := by omega
    have hu : U = 0 := hno.out.trans (by rw [List.drop_of_length_le (by rw [← HN.out.1]; exact Nat.le_refl _)]; cases prevB l n <;> rfl)
    have hb0 := HU0.out hu
    have HV2 := Lib.hid (HV.out.trans (if_neg (fun h => h hu)))
    have HX := HCK.out W1 (rise_of hb0) (ids_of hb0) hbel.out
    have HK : Hid (allKids l l = 0 → Kids l) := fun h3 => kids_of (by have := HN.out.1; have := H0.out; omega) (by have := HN.out.1; have := H1.out; omega) hb0 h3
    obtain ⟨e, he⟩ : ∃ e, e = allKids l l := ⟨_, rfl⟩
    rw [← he] at HX HV2 HK
    have HX := Lib.hid HX
    clear he hu hb0 hno
    by_cases hz : e = 0
    case neg =>
      have HZ := Lib.hid (HV2.out.trans (if_pos hz))
      have hz' : (e != 0) = true := by simpa using hz
      clear hz
      go_wp2_with fail
      refine HX.out.mono ?_
      rintro e' w2 ⟨rfl, hb⟩
      have HB2 : Hid (Below w.heap.size w w2) := hbel.out.trans (hb.mono hbel.out.size)
      clear hb
      go_wp2_with fail
      go_ret
      exact ⟨by rw [HZ.out]; rfl, HB2.out⟩
    have KK := Lib.hid (HK.out hz)
    have HV3 := Lib.hid (HV2.out.trans (if_neg (fun h => h hz)))
    subst hz
    clear HV HV2
    go_wp2_with fail
    refine HX.out.mono ?_
    rintro e' w2 ⟨rfl, hb⟩
    have HB2 : Hid (Below w.heap.size w w2) := hbel.out.trans (hb.mono hbel.out.size)
    have HY := Lib.hid (HDP.out w2 KK.out HB2.out)
    clear hb
    go_wp2_with fail
    refine HY.out.mono ?_
    rintro e' w3 ⟨⟨bm, km, f', rfl, hm, hdep⟩, hb⟩
    obtain rfl : f' = f := hdep.uniq (HF.out KK.out)
    have HB3 : Hid (Below w.heap.size w w3) := HB2.out.trans (hb.mono HB2.out.size)
    have HM := Lib.hid hm
    have HD := Lib.hid hdep
    clear hb hm hdep
    go_wp2_with fail
    go_loopg [40] n (fun gg s40 wr => ∃ i : Nat, i + gg = n ∧ s40 = .int .i64 (i : Int) ∧ Hid (V = lvlE f' (l.drop i)) ∧ Hid (IM wr bm km f') ∧ Hid (Below w.heap.size w wr))
    case atStart => exact ⟨0, by omega, rfl, HV3, HM, HB3⟩
    case round =>
      obtain ⟨i, hig, rfl, hno, hm, hbel⟩ := hrel
      by_cases hk : i < n
      case neg =>
        obtain rfl : n = i := by omega
        have hu : V = 0 := hno.out.trans (by rw [List.drop_of_length_le (by rw [← HN.out.1]; exact Nat.le_refl _)]; rfl)
        have HZ := Lib.hid hu
        clear hu
        go_wp2_with fail
        go_ret
        exact ⟨by rw [HZ.out]; rfl, hbel.out⟩
      obtain ⟨x, hx⟩ : ∃ x, l[i]? = some x := ⟨_, List.getElem?_eq_getElem (by have := HN.out.1; omega)⟩
      obtain ⟨b, off, Ak, nk, ck, Ap, np, cp, rfl, hbb, g0, g1, g2, g3, g4, _, _⟩ := (H.out.below (hbel.out.mono hB)).at_ hx
      have hst := hno.out.trans (lvlE_at hx)
      have hxi := KK.out.ids.i64 (List.mem_of_getElem? hx)
      have hlk := (hm.out.alloc (.cells #[.int .i64 x.id, .int .i64 x.parent, .slice Ak nk ck, .string x.text, .slice Ap np cp] 38)).look_ok HE.out Tryz.underlying3 Tryz.underlying86 hxi
      have HMA := Lib.hid (hm.out.alloc (.cells #[.int .i64 x.id, .int .i64 x.parent, .slice Ak nk ck, .string x.text, .slice Ap np cp] 38))
      have HAL := Lib.hid (hbel.out.alloc hbel.out.size (.cells #[.int .i64 x.id, .int .i64 x.parent, .slice Ak nk ck, .string x.text, .slice Ap np cp] 38))
      have j0 : (0 : Int) ≤ (i : Int) := by omega
      have j1 : (i : Int) < (n : Int) := by omega
      clear hx
      cases hfx : f' x.id with
      | none =>
        rw [hfx] at hlk hst
        dsimp only [Option.getD_none, Option.isSome_none] at hlk
        have HZ := Lib.hid (hst.trans (if_pos rfl))
        clear hst hfx
        go_wp2_with fail
        go_ret
        exact ⟨by rw [HZ.out]; rfl, HAL.out⟩
      | some d =>
        rw [hfx] at hlk hst
        dsimp only [Option.getD_some, Option.isSome_some] at hlk hst
        have hst := hst.trans (if_neg (by simp))
        clear hfx
        by_cases hd : 40 < d
        · have HZ := Lib.hid (hst.trans (if_pos hd))
          clear hst
          go_wp2_with fail
          go_ret
          exact ⟨by rw [HZ.out]; rfl, HAL.out⟩
        · have HZ := Lib.hid (hst.trans (if_neg hd))
          clear hst
          go_wp2_with fail
          go_roundg (n - (i + 1))
          case measure => omega
          case rel => exact ⟨i + 1, by omega, by go_num, HZ, HMA, HAL⟩
end Go.Proofs.YtmkicfjcgbfaaaaGreat
namespace Go.Proofs.YtmkicfjcgbfaaaaGreat
open Go.RowKit

section
variable {w : World} {g cap : Nat} {M : List BK}
theorem set_same {k : Nat} {x : BK} (hx : M[k]? = some x) : M.set k x = M := by
  obtain ⟨hk, rfl⟩ := List.getElem?_eq_some_iff.1 hx
  exact List.set_getElem_self hk
theorem size_put (w : World) (a : Addr) (u : Value) : (w.setCell a u).heap.size = w.heap.size := by simp [World.setCell]
/-- a block stored whole, with other kids' and properties' memory -/
theorem RowB.putKP (h : RowB w g cap M) {k : Nat} {x : BK} {kv pv : Value} (hx : M[k]? = some x) (hk : RInX w (fun b => b < w.heap.size ∧ b ≠ g) kv x.1.kids) (hp : RPrX w (fun b => b < w.heap.size ∧ b ≠ g) pv x.1.props) :
    RowB (((((w.setCell ⟨g, k * 5, none⟩ (.int .i64 x.1.id)).setCell ⟨g, k * 5 + 1, none⟩ (.int .i64 x.1.parent)).setCell ⟨g, k * 5 + 2, none⟩ kv).setCell ⟨g, k * 5 + 3, none⟩ (.string x.1.text)).setCell ⟨g, k * 5 + 4, none⟩ pv) g cap (M.set k (x.1, kv, pv)) := by
  have hm := List.mem_of_getElem? hx
  have hkl := (List.getElem?_eq_some_iff.1 hx).1
  have o : ∀ (w : World) (i : Nat) (u : Value) (p : Addr), p.block ≠ g → (w.setCell ⟨g, i, none⟩ u).cell? p = w.cell? p := fun w i u p hne => World.cell?_setCell_other _ _ p _ (by intro e; subst e; exact hne rfl)
  have s0 := h.store hx (j := 0) (y := x) (u := .int .i64 x.1.id) (by omega) rfl (h.nest x hm)
  rw [set_same hx] at s0
  have s1 := s0.store hx (j := 1) (y := x) (u := .int .i64 x.1.parent) (by omega) rfl (s0.nest x hm)
  rw [set_same hx] at s1
  have s2 := s1.store hx (j := 2) (y := (x.1, kv, x.2.2)) (u := kv) (by omega) rfl ⟨(hk.keep fun p hp => by rw [o _ _ _ _ hp.2, o _ _ _ _ hp.2]).weak fun b hb => ⟨by rw [size_put, size_put]; exact hb.1, hb.2⟩, (s1.nest x hm).2⟩
  have hx2 : (M.set k (x.1, kv, x.2.2))[k]? = some (x.1, kv, x.2.2) := by rw [List.getElem?_set, if_pos rfl, if_pos hkl]
  have s3 := s2.store hx2 (j := 3) (y := (x.1, kv, x.2.2)) (u := .string x.1.text) (by omega) rfl (s2.nest _ (List.mem_of_getElem? hx2))
  rw [set_same hx2] at s3
  have s4 := s3.store hx2 (j := 4) (y := (x.1, kv, pv)) (u := pv) (by omega) rfl ⟨(s3.nest _ (List.mem_of_getElem? hx2)).1, (hp.keep fun p hp => by rw [o _ _ _ _ hp.2, o _ _ _ _ hp.2, o _ _ _ _ hp.2, o _ _ _ _ hp.2]).weak fun b hb => ⟨by rw [size_put, size_put, size_put, size_put]; exact hb.1, hb.2⟩⟩
  rw [List.set_set] at s4
  exact s4
end

theorem blV_one (x : BK) (h1 : ∃ A n c, x.2.1 = .slice A n c) (h2 : ∃ A n c, x.2.2 = .slice A n c) : ∀ v ∈ blV x, v.oneCell' = true := by
  obtain ⟨x, k, p⟩ := x
  obtain ⟨A, n, c, rfl⟩ : ∃ A n c, k = .slice A n c := h1
  obtain ⟨A', n', c', rfl⟩ : ∃ A n c, p = .slice A n c := h2
  intro v hv
  simp only [blV, List.mem_cons, List.not_mem_nil, or_false] at hv
  rcases hv with rfl | rfl | rfl | rfl | rfl <;> rfl
theorem NB_put {w : World} {g : Nat} {S : Nat → Prop} {x : BK} (h : NB w (fun b => (b < w.heap.size ∧ b ≠ g) ∧ S b) x) (i : Nat) (u : Value) : NB (w.setCell ⟨g, i, none⟩ u) (fun b => (b < (w.setCell ⟨g, i, none⟩ u).heap.size ∧ b ≠ g) ∧ S b) x :=
  NB_ok _ _ _ _ x h (fun p hp => World.cell?_setCell_other _ _ p _ (by intro e; subst e; exact hp.1.2 rfl)) fun b hb => ⟨⟨by rw [size_put]; exact hb.1.1, hb.1.2⟩, hb.2⟩
/-- what copyBase leaves, its nested memory new -/
def CopyBaseS (l : List Bl) (w : World) (e : Ending) (w' : World) : Prop := ∃ (g n : Nat) (M : List BK), e = .returned (.slice (some ⟨g, 0, none⟩) n n) ∧ M.length = n ∧ M.map Prod.fst = l ∧ w.heap.size ≤ g ∧ RowS (fun b => w.heap.size ≤ b) w' g n M ∧ Below w.heap.size w w'
/-- what copyBase leaves -/
def CopyBaseR (l : List Bl) (w : World) (e : Ending) (w' : World) : Prop := ∃ (g n : Nat) (M : List BK), e = .returned (.slice (some ⟨g, 0, none⟩) n n) ∧ M.length = n ∧ M.map Prod.fst = l ∧ w.heap.size ≤ g ∧ RowB w' g n M ∧ Below w.heap.size w w'
set_option maxRecDepth 100000 in
set_option maxHeartbeats 4000000 in
/-- tree.copyBase -/
theorem copyBaseS_any (l : List Bl) (A : Option Addr) (n c : Nat) (w : World) (B : Nat) (hB : B ≤ w.heap.size) (h : RB w B (.slice A n c) l) (hn0 : 0 < n) (hn1 : n ≤ 100000) :
    Calls Tryz.prog 62 #[.slice A n c] w (CopyBaseS l w) := by
  obtain ⟨A', n', c', M0, hM, e, hn, hnc, hr, hnest⟩ := h
  injection e with e1 e2 e3
  subst e1 e2 e3
  obtain ⟨i0, hi0, hz0, hz1, hz2⟩ := info_parts block_info
  obtain ⟨ad, rfl, hab, hcells⟩ := hr.2 hn0
  have hcl : (M0.flatMap blV).length = n * 5 := hr.1
  obtain ⟨mk, hmk0⟩ : ∃ mk, mk = madeCells bZ.cells (n * 5) := ⟨_, rfl⟩
  have hmks : mk.size = n * 5 := by rw [hmk0, size_madeCells]
  have hmk : (Instr.makeSlice 22 (.int .i64 (n : Int)) (.int .i64 (n : Int))).run Tryz.prog w = .ok (.slice (some ⟨w.heap.size, 0, none⟩) n n) (w.alloc (.cells mk 38)) := by
    have := run_make (P := Tryz.prog) w 22 38 i0 bZ Tryz.underlying22 hi0 hz0 .i64 .i64 n n (by omega) (Int.le_refl _) (by rw [hz2]; omega) (by omega)
    simp only [Int.toNat_natCast, hz1, ← hmk0] at this
    exact this
  obtain ⟨w1, hw1⟩ : ∃ w1, w1 = w.alloc (.cells mk 38) := ⟨_, rfl⟩
  have hb1 : Below w.heap.size w w1 := by rw [hw1]; exact (Below.refl _ _).alloc (Nat.le_refl _) _
  have hk1 : Blk w1 w.heap.size 38 mk := by rw [hw1]; exact Blk.new w _ _
  obtain ⟨g, hg⟩ : ∃ g, g = w.heap.size := ⟨_, rfl⟩
  rw [← hw1] at hmk
  rw [← hg] at hk1
  have hzz : (Tryz.prog.info? 38).map (·.size) = some 5 := by rw [hi0]; simp [hz1]
  obtain ⟨w2, hw2⟩ : ∃ w2, w2 = w1.setRow g (M0.flatMap blV).toArray := ⟨_, rfl⟩
  have hcp : ∀ ty, (Builtin.copy_ #[22, 22] ty #[.slice (some ⟨g, 0, none⟩) n n, .slice (some ad) n c]).run Tryz.prog w1 = .ok (goInt (Nat.min n n)) w2 := fun ty => by
    have := run_copy_rowN (P := Tryz.prog) w1 22 22 ty 38 g 0 n n ad n c 5 mk 38 (M0.flatMap blV) Tryz.underlying22 hzz hk1 (by rw [hcl]; show _ = min n n * 5; rw [Nat.min_self]) (fun j v hj => by
      rw [hb1.cell (by rw [block_of_add]; omega)]; exact hcells j v hj) (by rw [hcl, hmks]; omega) (fun v hv => by
      obtain ⟨x, hx, hv⟩ := List.mem_flatMap.1 hv
      exact blV_one x (by obtain ⟨A, n, c, e, _⟩ := (hnest x hx).1; exact ⟨A, n, c, e⟩) (hnest x hx).2.slice v hv)
    rw [hcl, List.take_zero, List.nil_append, List.drop_of_length_le (by rw [Array.length_toList, hmks]; omega), List.append_nil, ← hw2] at this
    exact this
  have hR2 : RowB w2 g n M0 := by
    refine ⟨⟨[], by rw [hw2, List.append_nil]; exact setRow_heap w1 g _ _ _ _ hk1, by rw [← hn]; rfl⟩, by unfold maxLen; omega, by omega, fun x hx => ?_⟩
    have hk : ∀ p : Addr, p.block < B → w2.cell? p = w.cell? p := fun p hp => by
      rw [hw2, cell_setRow_other _ _ _ _ (by omega)]; exact hb1.cell (by omega)
    have hsz : w2.heap.size = w1.heap.size := by rw [hw2, setRow_size]
    have hz : w.heap.size ≤ w1.heap.size := hb1.size
    exact ⟨((RInX.of (hnest x hx).1).keep hk).weak fun b hb => ⟨by omega, by omega⟩, ((RPrX.of (hnest x hx).2).keep hk).weak fun b hb => ⟨by omega, by omega⟩⟩
  have HR2 := Lib.hid hR2
  have HB2 : Hid (Below w.heap.size w w2) := by
    show Below _ _ _
    rw [hw2]
    exact ⟨hb1.os, hb1.tape, hb1.output, by rw [setRow_size]; exact hb1.size, fun k hk => (setRow_other _ _ _ _ (by omega)).trans (hb1.block k hk)⟩
  have HML := Lib.hid hM
  have HN := Lib.hid hn
  have HG := Lib.hid hg
  have HGE : Hid (w.heap.size ≤ g) := by show _ ≤ _; omega
  clear hR2 hw2 hk1 hb1 hmks hmk0 hcl hr hnest hcells hM hn hzz hi0 hz0 hz1 hz2 hab
  go_enter Tryz.func62, Tryz.ntmps62
  rw [hg] at hcp
  clear hg hw1
  go_upto_region 2 with fail
  go_wp2_with (at_builtin; refine wpList_copy_runI _ rfl _ _ 22 22 rfl _ _ rfl rfl (hcp _) ?_)
  obtain ⟨gg0, hgg0⟩ : ∃ gg0, gg0 = w.heap.size := ⟨_, rfl⟩
  have HGG := Lib.hid hgg0
  rw [← hgg0]
  clear hgg0 hcp hmk
  go_loopg [13] n (fun gg s13 wr => ∃ (k : Nat) (M : List BK), k + gg = n ∧ s13 = .int .i64 (k : Int) ∧ Hid (M.length = n) ∧ Hid (M.map Prod.fst = l) ∧ Hid (RowB wr gg0 n M) ∧ Hid (Below w.heap.size w wr) ∧ Hid (∀ (j : Nat) (x : BK), j < k → M[j]? = some x → NB wr (fun b => (b < wr.heap.size ∧ b ≠ gg0) ∧ w.heap.size ≤ b) x))
  case atStart => exact ⟨0, M0, by omega, rfl, HN.out.symm, HML, by rw [HGG.out, ← HG.out]; exact HR2, HB2, fun j x hj => by omega⟩
  case round =>
    obtain ⟨k, M, hkg, rfl, hml, hmm, hrow, hbel, hfar⟩ := hrel
    have hgw := hrow.out.lt
    by_cases hk : k < n
    · obtain ⟨⟨x, xk, xp⟩, hx⟩ : ∃ x, M[k]? = some x := ⟨_, List.getElem?_eq_getElem (by have := hml.out; omega)⟩
      have hns := hrow.out.nest _ (List.mem_of_getElem? hx)
      obtain ⟨hnk, hnp⟩ := hns
      obtain ⟨Kx, nx, cx, rfl⟩ : ∃ A n c, xk = .slice A n c := by
        obtain ⟨A, n, c, e, _⟩ := hnk
        exact ⟨A, n, c, e⟩
      obtain ⟨Px, mx, ex, rfl⟩ : ∃ A n c, xp = .slice A n c := (hnp.reads (B := wr.heap.size) fun b hb => hb.1).slice
      have HCB := Lib.hid (copyBlock_any x Kx Px nx cx mx ex wr wr.heap.size (Nat.le_refl _) (hnk.reads fun b hb => hb.1) (hnp.reads fun b hb => hb.1))
      dsimp only [AB] at HCB
      have HX := Lib.hid hx
      have c0 : wr.cell? ⟨gg0, k * 5, none⟩ = some (.int .i64 x.id) := hrow.out.cell (i := 0) hx rfl
      have c1 : wr.cell? ⟨gg0, k * 5 + 1, none⟩ = some (.int .i64 x.parent) := hrow.out.cell hx rfl
      have c2 : wr.cell? ⟨gg0, k * 5 + 2, none⟩ = some (.slice Kx nx cx) := hrow.out.cell hx rfl
      have c3 : wr.cell? ⟨gg0, k * 5 + 3, none⟩ = some (.string x.text) := hrow.out.cell hx rfl
      have c4 : wr.cell? ⟨gg0, k * 5 + 4, none⟩ = some (.slice Px mx ex) := hrow.out.cell hx rfl
      have j0 : (0 : Int) ≤ (k : Int) := by omega
      have j1 : (k : Int) < (n : Int) := by omega
      clear hx hnk hnp
      go_wp2_with fail
      refine HCB.out.mono ?_
      rintro e w3 ⟨⟨K', n', c', P', m', e', rfl, hk', hp'⟩, hb3⟩
      dsimp only [AB]
      have HR3 := Lib.hid (hrow.out.below hb3)
      have HB3 : Hid (Below w.heap.size w w3) := hbel.out.trans (hb3.mono hbel.out.size)
      have HK3 : Hid (RInX w3 (fun b => b < w3.heap.size ∧ b ≠ gg0) (.slice K' n' c') x.kids) := hk'.weak fun b hb => ⟨hb.2, by omega⟩
      have HP3 : Hid (RPrX w3 (fun b => b < w3.heap.size ∧ b ≠ gg0) (.slice P' m' e') x.props) := hp'.weak fun b hb => ⟨hb.2, by omega⟩
      have HF3 : Hid (∀ (j : Nat) (y : BK), j < k → M[j]? = some y → NB w3 (fun b => (b < w3.heap.size ∧ b ≠ gg0) ∧ w.heap.size ≤ b) y) := fun j y hj hy => NB_ok _ _ _ _ y (hfar.out j y hj hy) (fun p hp => hb3.cell hp.1.1) fun b hb => ⟨⟨Nat.lt_of_lt_of_le hb.1.1 hb3.size, hb.1.2⟩, hb.2⟩
      have hzr := hbel.out.size
      have HN3 : Hid (NB w3 (fun b => (b < w3.heap.size ∧ b ≠ gg0) ∧ w.heap.size ≤ b) ((x, Value.slice K' n' c', Value.slice P' m' e') : BK)) := ⟨hk'.weak fun b hb => ⟨⟨hb.2, by omega⟩, by omega⟩, hp'.weak fun b hb => ⟨⟨hb.2, by omega⟩, by omega⟩⟩
      clear hb3 hk' hp' hzr c0 c1 c2 c3 c4
      have c0 : w3.cell? ⟨gg0, k * 5, none⟩ = some (.int .i64 x.id) := HR3.out.cell (i := 0) HX.out rfl
      have c1 : w3.cell? ⟨gg0, k * 5 + 1, none⟩ = some (.int .i64 x.parent) := HR3.out.cell HX.out rfl
      have c2 : w3.cell? ⟨gg0, k * 5 + 2, none⟩ = some (.slice Kx nx cx) := HR3.out.cell HX.out rfl
      have c3 : w3.cell? ⟨gg0, k * 5 + 3, none⟩ = some (.string x.text) := HR3.out.cell HX.out rfl
      have c4 : w3.cell? ⟨gg0, k * 5 + 4, none⟩ = some (.slice Px mx ex) := HR3.out.cell HX.out rfl
      have f0 := HR3.out.frozen (k * 5)
      have f1 := HR3.out.frozen (k * 5 + 1)
      have f2 := HR3.out.frozen (k * 5 + 2)
      have f3 := HR3.out.frozen (k * 5 + 3)
      have f4 := HR3.out.frozen (k * 5 + 4)
      go_wp2_with fail
      go_roundg (n - (k + 1))
      case measure => omega
      case rel =>
        have hge : w.heap.size ≤ gg0 := by rw [HGG.out]; exact Nat.le_refl _
        have hC := HR3.out.putKP HX.out HK3.out HP3.out
        dsimp only at hC
        have hD := ((((HB3.out.setCell (p := ⟨gg0, k * 5, none⟩) hge (.int .i64 x.id)).setCell (p := ⟨gg0, k * 5 + 1, none⟩) hge (.int .i64 x.parent)).setCell (p := ⟨gg0, k * 5 + 2, none⟩) hge (.slice K' n' c')).setCell (p := ⟨gg0, k * 5 + 3, none⟩) hge (.string x.text)).setCell (p := ⟨gg0, k * 5 + 4, none⟩) hge (.slice P' m' e')
        have hA : (M.set k (x, Value.slice K' n' c', Value.slice P' m' e')).length = n := by rw [List.length_set]; exact hml.out
        have hE : (M.set k (x, Value.slice K' n' c', Value.slice P' m' e')).map Prod.fst = l := by
          rw [← hmm.out, List.map_set]
          obtain ⟨hkk, hke⟩ := List.getElem?_eq_some_iff.1 HX.out
          refine List.ext_getElem? fun i => ?_
          rw [List.getElem?_set]
          split
          · rename_i e
            subst e
            rw [if_pos (by rw [List.length_map]; exact hkk), List.getElem?_map, HX.out]; rfl
          · rfl
        have hFF : ∀ (j : Nat) (y : BK), j < k + 1 → (M.set k (x, Value.slice K' n' c', Value.slice P' m' e'))[j]? = some y → NB (((((w3.setCell ⟨gg0, k * 5, none⟩ (.int .i64 x.id)).setCell ⟨gg0, k * 5 + 1, none⟩ (.int .i64 x.parent)).setCell ⟨gg0, k * 5 + 2, none⟩ (.slice K' n' c')).setCell ⟨gg0, k * 5 + 3, none⟩ (.string x.text)).setCell ⟨gg0, k * 5 + 4, none⟩ (.slice P' m' e')) (fun b => (b < (((((w3.setCell ⟨gg0, k * 5, none⟩ (.int .i64 x.id)).setCell ⟨gg0, k * 5 + 1, none⟩ (.int .i64 x.parent)).setCell ⟨gg0, k * 5 + 2, none⟩ (.slice K' n' c')).setCell ⟨gg0, k * 5 + 3, none⟩ (.string x.text)).setCell ⟨gg0, k * 5 + 4, none⟩ (.slice P' m' e')).heap.size ∧ b ≠ gg0) ∧ w.heap.size ≤ b) y := fun j y hj hy => by
          refine NB_put (NB_put (NB_put (NB_put (NB_put ?_ _ _) _ _) _ _) _ _) _ _
          rw [List.getElem?_set] at hy
          split at hy
          · split at hy
            · obtain rfl := Option.some.inj hy
              exact HN3.out
            · cases hy
          · exact HF3.out j y (by omega) hy
        have HFF := Lib.hid hFF
        have HA := Lib.hid hA
        have HC := Lib.hid hC
        have HD := Lib.hid hD
        have HE := Lib.hid hE
        have hs : k + 1 + (n - (k + 1)) = n := by omega
        have hv : Value.int .i64 ((k : Int) + 1) = Value.int .i64 ((k + 1 : Nat) : Int) := by go_num
        exact ⟨k + 1, _, hs, hv, HA, HE, HC, HD, HFF⟩
    · obtain rfl : n = k := by omega
      go_wp2_with fail
      go_ret
      exact ⟨gg0, n, M, rfl, hml.out, hmm.out, by rw [HGG.out]; exact Nat.le_refl _, ⟨hrow.out, fun y hy => by
        obtain ⟨j, hj⟩ := List.mem_iff_getElem?.1 hy
        have hjl := (List.getElem?_eq_some_iff.1 hj).1
        exact hfar.out j y (by have := hml.out; omega) hj⟩, hbel.out⟩
/-- tree.copyBase -/
theorem copyBase_any (l : List Bl) (A : Option Addr) (n c : Nat) (w : World) (B : Nat) (hB : B ≤ w.heap.size) (h : RB w B (.slice A n c) l) (hn0 : 0 < n) (hn1 : n ≤ 100000) :
    Calls Tryz.prog 62 #[.slice A n c] w (CopyBaseR l w) := by
  refine (copyBaseS_any l A n c w B hB h hn0 hn1).mono ?_
  rintro e w' ⟨g, n, M, h1, h2, h3, h4, h5, h6⟩
  exact ⟨g, n, M, h1, h2, h3, h4, h5.toRowB, h6⟩
end Go.Proofs.YtmkicfjcgbfaaaaGreat
