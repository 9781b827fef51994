/-
  DERIVED. The walk of tree.Check. Conditions: sizes.
  The walks of tree.below and the reference's OrderOf. Conditions: sizes; a base without error.
  The walks of tree.Depth, Path, Below, PageOf, Pages, Order, NextId, Empty and the reference's NextOf. Conditions: sizes.
  By an AI agent.
-/
import Derived.Test.YtmkicfjcgbfaaaaGreatDoorTc16
import Derived.Test.YtmkicfjcgbfaaaaGreatDoorTc12
import Derived.Test.YtmkicfjcgbfaaaaGreatDoorTc09
import Derived.Test.YtmkicfjcgbfaaaaGreatDoorTc04
import Derived.Test.YtmkicfjcgbfaaaaGreatDoorTc19
namespace Go.Proofs.YtmkicfjcgbfaaaaGreatDoor
open Go.RowKit

set_option maxHeartbeats 4000000 in
/-- tree.Check -/
theorem treeCheck_any (l : List Bl) (f : Int → Option Int) (A : Option Addr) (n c : Nat) (w : World) (B : Nat) (hB : B ≤ w.heap.size) (h : RB w B (.slice A n c) l) (hf : DepOk l f) :
    Calls Tryz.prog 24 #[.slice A n c] w fun e w' => e = .returned (.int .i64 (baseE l f)) ∧ Below w.heap.size w w' := by
  obtain ⟨V, hV⟩ : ∃ V, V = baseE l f := ⟨_, rfl⟩
  rw [← hV]
  unfold baseE at hV
  have hn := h.len
  rw [← hn.1] at hV
  by_cases h0 : n = 0
  · subst h0
    rw [if_pos rfl] at hV
    subst hV
    clear h hn hf
    go_enter Tryz.func24, Tryz.ntmps24
    go_wp2_with fail
    go_ret
    exact ⟨rfl, Below.refl _ _⟩
  rw [if_neg h0] at hV
  have h0' : ((n : Int) == 0) = false := by simpa using h0
  by_cases h1 : 2000 < n
  · rw [if_pos h1] at hV
    have h1' : (2000 : Int) < (n : Int) := by omega
    subst hV
    clear h hn hf h0 h1
    go_enter Tryz.func24, Tryz.ntmps24
    go_wp2_with fail
    go_ret
    exact ⟨rfl, Below.refl _ _⟩
  rw [if_neg h1] at hV
  have h1' : ¬ (2000 : Int) < (n : Int) := by omega
  have HBK := Lib.hid fun (k : Nat) (x : Bl) (W : World) (hx : l[k]? = some x) (hW : Below w.heap.size w W) => checkBlock_any l A n c k x W B (Nat.le_trans hB hW.size) (h.below (hW.mono hB)) hx
  have HCK := Lib.hid fun (W : World) (hr : Rise l) (hi : IdsIn l) (hW : Below w.heap.size w W) => checkKids_any l A n c W B (Nat.le_trans hB hW.size) (h.below (hW.mono hB)) hr hi
  have HDP := Lib.hid fun (W : World) (K : Kids l) (hW : Below w.heap.size w W) => depths_any l A n c W B (Nat.le_trans hB hW.size) (h.below (hW.mono hB)) K
  have HE := Lib.hid (intElem (P := Tryz.prog) (e := 3) Tryz.underlying3 int_zero)
  have H := Lib.hid h
  have HN := Lib.hid hn
  have HV := Lib.hid hV
  have HF := Lib.hid hf
  have H0 := Lib.hid h0
  have H1 := Lib.hid h1
  obtain ⟨U, hU⟩ : ∃ U, U = blksErr none l := ⟨_, rfl⟩
  rw [← hU] at HV
  have HU : Hid (U = blksErr (prevB l 0) (l.drop 0)) := hU
  have HU0 : Hid (U = 0 → blksErr none l = 0) := fun e => hU.symm.trans e
  clear h hn hV hf h0 hU
  go_enter Tryz.func24, Tryz.ntmps24
  go_wp2_with fail
  go_loopg [21] n (fun gg s21 wr => ∃ i : Nat, i + gg = n ∧ s21 = .int .i64 (i : Int) ∧ Hid (U = blksErr (prevB l i) (l.drop i)) ∧ Hid (Below w.heap.size w wr))
  case atStart => exact ⟨0, by omega, rfl, HU, Below.refl _ _⟩
  case round =>
    obtain ⟨i, hig, rfl, hno, hbel⟩ := hrel
    obtain ⟨W1, rfl⟩ : ∃ W1, W1 = wr := ⟨_, rfl⟩
    by_cases hk : i < n
    case pos =>
      obtain ⟨x, hx⟩ : ∃ x, l[i]? = some x := ⟨_, List.getElem?_eq_getElem (by have := HN.out.1; omega)⟩
      have hst := hno.out.trans (blksErr_at hx)
      have HX := HBK.out i x W1 hx hbel.out
      obtain ⟨e, he⟩ : ∃ e, e = blkErr (prevB l i) x := ⟨_, rfl⟩
      rw [← he] at hst HX
      have HX := Lib.hid HX
      have j0 : (0 : Int) ≤ (i : Int) := by omega
      have j1 : (i : Int) < (n : Int) := by omega
      clear hx he
      by_cases hz : e = 0
      · have HS := Lib.hid (hst.trans (if_neg (fun h => h hz)))
        subst hz
        clear hst
        go_wp2_with fail
        refine HX.out.mono ?_
        rintro e w2 ⟨rfl, hb⟩
        have HB2 : Hid (Below w.heap.size w w2) := hbel.out.trans (hb.mono hbel.out.size)
        clear hb
        go_wp2_with fail
        go_roundg (n - (i + 1))
        case measure => omega
        case rel => exact ⟨i + 1, by omega, by go_num, HS, HB2⟩
      · have hs := hst.trans (if_pos hz)
        have HZ := Lib.hid (HV.out.trans ((if_pos (by rw [hs]; exact hz)).trans hs))
        have hz' : (e != 0) = true := by simpa using hz
        clear hst hs hz
        go_wp2_with fail
        refine HX.out.mono ?_
        rintro e' w2 ⟨rfl, hb⟩
        have HB2 : Hid (Below w.heap.size w w2) := hbel.out.trans (hb.mono hbel.out.size)
        clear hb
        go_wp2_with fail
        go_ret
        exact ⟨by rw [HZ.out]; rfl, HB2.out⟩
    case neg =>
    obtain rfl : n = i := by omega
    have hu : U = 0 := hno.out.trans (by rw [List.drop_of_length_le (by rw [← HN.out.1]; exact Nat.le_refl _)]; cases prevB l n <;> rfl)
    have hb0 := HU0.out hu
    have HV2 := Lib.hid (HV.out.trans (if_neg (fun h => h hu)))
    have HX := HCK.out W1 (rise_of hb0) (ids_of hb0) hbel.out
    have HK : Hid (allKids l l = 0 → Kids l) := fun h3 => kids_of (by have := HN.out.1; have := H0.out; omega) (by have := HN.out.1; have := H1.out; omega) hb0 h3
    obtain ⟨e, he⟩ : ∃ e, e = allKids l l := ⟨_, rfl⟩
    rw [← he] at HX HV2 HK
    have HX := Lib.hid HX
    clear he hu hb0 hno
    by_cases hz : e = 0
    case neg =>
      have HZ := Lib.hid (HV2.out.trans (if_pos hz))
      have hz' : (e != 0) = true := by simpa using hz
      clear hz
      go_wp2_with fail
      refine HX.out.mono ?_
      rintro e' w2 ⟨rfl, hb⟩
      have HB2 : Hid (Below w.heap.size w w2) := hbel.out.trans (hb.mono hbel.out.size)
      clear hb
      go_wp2_with fail
      go_ret
      exact ⟨by rw [HZ.out]; rfl, HB2.out⟩
    have KK := Lib.hid (HK.out hz)
    have HV3 := Lib.hid (HV2.out.trans (if_neg (fun h => h hz)))
    subst hz
    clear HV HV2
    go_wp2_with fail
    refine HX.out.mono ?_
    rintro e' w2 ⟨rfl, hb⟩
    have HB2 : Hid (Below w.heap.size w w2) := hbel.out.trans (hb.mono hbel.out.size)
    have HY := Lib.hid (HDP.out w2 KK.out HB2.out)
    clear hb
    go_wp2_with fail
    refine HY.out.mono ?_
    rintro e' w3 ⟨⟨bm, km, f', rfl, hm, hdep⟩, hb⟩
    obtain rfl : f' = f := hdep.uniq (HF.out KK.out)
    have HB3 : Hid (Below w.heap.size w w3) := HB2.out.trans (hb.mono HB2.out.size)
    have HM := Lib.hid hm
    have HD := Lib.hid hdep
    clear hb hm hdep
    go_wp2_with fail
    go_loopg [40] n (fun gg s40 wr => ∃ i : Nat, i + gg = n ∧ s40 = .int .i64 (i : Int) ∧ Hid (V = lvlE f' (l.drop i)) ∧ Hid (IM wr bm km f') ∧ Hid (Below w.heap.size w wr))
    case atStart => exact ⟨0, by omega, rfl, HV3, HM, HB3⟩
    case round =>
      obtain ⟨i, hig, rfl, hno, hm, hbel⟩ := hrel
      by_cases hk : i < n
      case neg =>
        obtain rfl : n = i := by omega
        have hu : V = 0 := hno.out.trans (by rw [List.drop_of_length_le (by rw [← HN.out.1]; exact Nat.le_refl _)]; rfl)
        have HZ := Lib.hid hu
        clear hu
        go_wp2_with fail
        go_ret
        exact ⟨by rw [HZ.out]; rfl, hbel.out⟩
      obtain ⟨x, hx⟩ : ∃ x, l[i]? = some x := ⟨_, List.getElem?_eq_getElem (by have := HN.out.1; omega)⟩
      obtain ⟨b, off, Ak, nk, ck, Ap, np, cp, rfl, hbb, g0, g1, g2, g3, g4, _, _⟩ := (H.out.below (hbel.out.mono hB)).at_ hx
      have hst := hno.out.trans (lvlE_at hx)
      have hxi := KK.out.ids.i64 (List.mem_of_getElem? hx)
      have hlk := (hm.out.alloc (.cells #[.int .i64 x.id, .int .i64 x.parent, .slice Ak nk ck, .string x.text, .slice Ap np cp] 52)).look_ok HE.out Tryz.underlying3 Tryz.underlying91 hxi
      have HMA := Lib.hid (hm.out.alloc (.cells #[.int .i64 x.id, .int .i64 x.parent, .slice Ak nk ck, .string x.text, .slice Ap np cp] 52))
      have HAL := Lib.hid (hbel.out.alloc hbel.out.size (.cells #[.int .i64 x.id, .int .i64 x.parent, .slice Ak nk ck, .string x.text, .slice Ap np cp] 52))
      have j0 : (0 : Int) ≤ (i : Int) := by omega
      have j1 : (i : Int) < (n : Int) := by omega
      clear hx
      cases hfx : f' x.id with
      | none =>
        rw [hfx] at hlk hst
        dsimp only [Option.getD_none, Option.isSome_none] at hlk
        have HZ := Lib.hid (hst.trans (if_pos rfl))
        clear hst hfx
        go_wp2_with fail
        go_ret
        exact ⟨by rw [HZ.out]; rfl, HAL.out⟩
      | some d =>
        rw [hfx] at hlk hst
        dsimp only [Option.getD_some, Option.isSome_some] at hlk hst
        have hst := hst.trans (if_neg (by simp))
        clear hfx
        by_cases hd : 40 < d
        · have HZ := Lib.hid (hst.trans (if_pos hd))
          clear hst
          go_wp2_with fail
          go_ret
          exact ⟨by rw [HZ.out]; rfl, HAL.out⟩
        · have HZ := Lib.hid (hst.trans (if_neg hd))
          clear hst
          go_wp2_with fail
          go_roundg (n - (i + 1))
          case measure => omega
          case rel => exact ⟨i + 1, by omega, by go_num, HZ, HMA, HAL⟩
end Go.Proofs.YtmkicfjcgbfaaaaGreatDoor
namespace Go.Proofs.YtmkicfjcgbfaaaaGreatDoor
open Go.RowKit

set_option maxHeartbeats 4000000 in
theorem below_walk (l : List Bl) (K : Kids l) (A : Option Addr) (n c : Nat) (id : Int) (d m : Nat) (hd : Dp l id d) (w : World) (B : Nat) (hB : B ≤ w.heap.size) (h : RB w B (.slice A n c) l)
    (IH : ∀ (k : Int) (W : World), Dp l k (d + 1) → Below w.heap.size w W → Calls Tryz.prog 13 #[.slice A n c, .int .i64 k] W (IntsR (ord l m k) W)) :
    Calls Tryz.prog 13 #[.slice A n c, .int .i64 id] w (IntsR (ord l (m + 1) id) w) := by
  obtain ⟨i0, hi, hq0, hq1, hq2⟩ := info_parts int_info
  obtain ⟨p, bx, hp, hlp, hbi⟩ := hd.blk K
  have hbx := List.mem_of_getElem? hlp
  have HO : Hid (ord l (m + 1) id = bx.kids.flatMap fun k => k :: ord l m k) := ord_at hp hlp m
  have HS : Hid ((bx.kids.flatMap fun k => k :: ord l m k).length ≤ 2000) := by
    show _ ≤ _
    rw [← HO.out]
    exact Nat.le_trans (ord_short K _ hd) K.short
  have H64 : Hid (∀ x ∈ bx.kids.flatMap fun k => k :: ord l m k, I64 x) := by
    show ∀ x ∈ _, _
    rw [← HO.out]
    exact ord_i64 K _ hd
  have HIX := index_any l A n c id w B hB h K.rise K.ids (by rw [← hbi]; exact (by have := K.ids bx hbx; unfold I64; omega))
  rw [hp] at HIX
  have HIX := Lib.hid HIX
  have HN := Lib.hid h.len
  have hpn : p < n := by have := (List.getElem?_eq_some_iff.1 hlp).1; have := h.len.1; omega
  obtain ⟨b, off, Ak, nk, ck, Ap, np, cp, rfl, hbb, g0, g1, g2, g3, g4, hK, _⟩ := h.at_ hlp
  have HK := Lib.hid hK
  have HKL := Lib.hid hK.len
  have HKD : Hid (∀ k ∈ bx.kids, Dp l k (d + 1)) := fun k hk => .step bx d k (hbi ▸ hd) hbx hk
  have HI := Lib.hid IH
  have y0 : (0 : Int) ≤ (p : Int) := by omega
  have y1 : (p : Int) < (n : Int) := by omega
  clear h hd hp hlp hbi hbx hK IH g0 g1 g3 g4
  go_enter Tryz.func13, Tryz.ntmps13
  go_wp2_with fail
  refine HIX.out.mono ?_
  rintro e w1 ⟨rfl, hb1⟩
  have HB1 := Lib.hid hb1
  have g2 := (hb1.cell (p := ⟨b, off + p * 5 + 2, none⟩) (by show b < _; omega)).trans g2
  clear hb1
  go_wp2_with fail
  go_loopg [5, 16] nk (fun gg s5 s16 wr => ∃ (j t : Nat) (v : Value), j + gg = nk ∧ v = s5 ∧ s16 = .int .i64 (j : Int) ∧ Hid (t = ((bx.kids.take j).flatMap fun k => k :: ord l m k).length) ∧ Hid (wr.ownsRow w.heap.size 3 1 v t (((bx.kids.take j).flatMap fun k => k :: ord l m k).map (.int .i64))) ∧ Hid (Below w.heap.size w wr))
  case atStart => exact ⟨0, 0, _, by omega, rfl, rfl, rfl, World.ownsRow_nil _ _ _ _, HB1⟩
  case round =>
    obtain ⟨j, t, v, hjg, rfl, rfl, ht, hown, hbel⟩ := hrel
    obtain ⟨W1, rfl⟩ : ∃ W1, W1 = wr := ⟨_, rfl⟩
    have hzr : w.heap.size ≤ W1.heap.size := hbel.out.size
    have hbk : nk ≤ ck ∧ nk * 8 ≤ 140737488351232 := HKL.out.2
    have hts : t ≤ 2000 := by
      have := flat_take_le (fun k => k :: ord l m k) bx.kids j
      have := HS.out
      have := ht.out
      omega
    by_cases hj : j < nk
    case neg =>
      obtain rfl : nk = j := by omega
      have HF : Hid (IntsR (ord l (m + 1) id) w (.returned v) W1) := by
        show IntsR _ _ _ _
        have e : bx.kids.take nk = bx.kids := List.take_of_length_le (by rw [← HKL.out.1]; exact Nat.le_refl _)
        have h1 := hown.out
        have h2 := ht.out
        rw [e] at h1 h2
        rw [HO.out]
        exact IntsR.of_own h1 h2 (by omega) H64.out hbel.out
      go_wp2_with fail
      go_ret
      exact HF.out
    obtain ⟨k, hkk⟩ : ∃ k, bx.kids[j]? = some k := ⟨_, List.getElem?_eq_getElem (by have := HKL.out.1; omega)⟩
    obtain ⟨bk, ok, rfl, hbk2, q0⟩ := HK.out.at_ hkk
    have q0 := (hbel.out.cell (p := ⟨bk, ok + j, none⟩) (by show bk < _; omega)).trans q0
    have z0 : (0 : Int) ≤ (j : Int) := by omega
    have z1 : (j : Int) < (nk : Int) := by omega
    have HT : Hid ((bx.kids.take (j + 1)).flatMap (fun k => k :: ord l m k) = (bx.kids.take j).flatMap (fun k => k :: ord l m k) ++ (k :: ord l m k)) := by
      show _ = _
      obtain ⟨hk, e⟩ := List.getElem?_eq_some_iff.1 hkk
      rw [List.take_succ_eq_append_getElem hk, e, List.flatMap_append]
      simp
    have HL2 : Hid (t + 1 + (ord l m k).length ≤ 2000) := by
      show _ ≤ _
      have h1 := flat_take_le (fun k => k :: ord l m k) bx.kids (j + 1)
      rw [HT.out, List.length_append, List.length_cons] at h1
      have := HS.out
      have := ht.out
      omega
    have HX := Lib.hid fun W hW => HI.out k W (HKD.out k (List.mem_of_getElem? hkk)) hW
    clear hkk
    have hb1 : t + 1 ≤ maxLen := by unfold maxLen; omega
    have hb2 : (t + 1) * 8 ≤ 140737488355328 := by omega
    have HR1 : Hid (Reads (W1.alloc (.cells #[.int .i64 k] 3)) (W1.heap.size + 1) 1 (some ⟨W1.heap.size, 0, none⟩) 1 [.int .i64 k]) := Reads.blk (Blk.new _ _ _) rfl
    have hbase : w.heap.size ≤ (W1.alloc (.cells #[.int .i64 k] 3)).heap.size := by simp; omega
    have hone : ∀ u ∈ [Value.int .i64 k], u.oneCell' = true := ints_one [k]
    have HOW := Lib.hid (hown.out.alloc (.cells #[.int .i64 k] 3))
    have HBA := Lib.hid (hbel.out.alloc hzr (.cells #[.int .i64 k] 3))
    have HVB : Hid (∀ g, v.ownBlock = some g → w.heap.size ≤ g) := fun g hg => (own_block_lt hown.out g hg).1
    go_wp2_with (at_builtin; refine wpList_append_any _ rfl _ _ 43 rfl w.heap.size 3 i0 (.int .i64 0) 1 8 Tryz.underlying43 hi hq0 hq1 hq2 rfl (by decide) v t _ rfl HOW.out _ _ 1 1 _ rfl HR1.out hone hb1 hb2 hbase ?_)
    intro v2 w2 hown2 hg2 hat2
    have HO2 := Lib.hid hown2
    have HB2 : Hid (Below w.heap.size w w2) := HBA.out.grown hg2 (Nat.le_trans hzr (by simp)) (fun g hg => HVB.out g hg)
    have HX2 := Lib.hid (HX.out w2 HB2.out)
    clear hown2 hg2 hat2
    go_wp2_with fail
    refine HX2.out.mono ?_
    rintro e w3 ⟨⟨A3, n3, c3, rfl, h30, h31, h32, h33⟩, hb3⟩
    obtain ⟨hr3, hn3⟩ := h31.reads1 (B := w3.heap.size) (fun b hb => hb.2)
    have HO3 := Lib.hid (own_below HO2.out hb3)
    have HB3 : Hid (Below w.heap.size w w3) := HB2.out.trans (hb3.mono HB2.out.size)
    have HR3 := Lib.hid hr3
    have HN3 := Lib.hid hn3
    have hc1 : t + 1 + n3 ≤ maxLen := by have := HL2.out; unfold maxLen; omega
    have hc2 : (t + 1 + n3) * 8 ≤ 140737488355328 := by have := HL2.out; omega
    have hbase3 : w.heap.size ≤ w3.heap.size := HB3.out.size
    have hone3 := ints_one (ord l m k)
    have HVB2 : Hid (∀ g, v2.ownBlock = some g → w.heap.size ≤ g) := fun g hg => (own_block_lt HO2.out g hg).1
    clear h30 h31 h32 h33 hb3 hr3 hn3 hb1 hb2 hbase hone
    go_wp2_with (at_builtin; refine wpList_append_any _ rfl _ _ 43 rfl w.heap.size 3 i0 (.int .i64 0) 1 8 Tryz.underlying43 hi hq0 hq1 hq2 rfl (by decide) v2 (t + 1) _ rfl HO3.out _ A3 n3 c3 _ rfl HR3.out hone3 hc1 hc2 hbase3 ?_)
    intro v4 w4 hown4 hg4 hat4
    have HO4 : Hid (w4.ownsRow w.heap.size 3 1 v4 (t + 1 + n3) (((bx.kids.take (j + 1)).flatMap fun k => k :: ord l m k).map (.int .i64))) := by
      show w4.ownsRow _ _ _ _ _ _
      rw [HT.out, List.map_append, List.map_cons]
      exact hown4
    have HT4 : Hid (t + 1 + n3 = ((bx.kids.take (j + 1)).flatMap fun k => k :: ord l m k).length) := by
      show _ = _
      rw [HT.out, List.length_append, List.length_cons, ← ht.out, HN3.out]; omega
    have HB4 : Hid (Below w.heap.size w w4) := HB3.out.grown hg4 hbase3 (fun g hg => HVB2.out g hg)
    clear hown4 hg4 hat4
    go_wp2_with fail
    go_roundg (nk - (j + 1))
    case measure => omega
    case rel => exact ⟨j + 1, t + 1 + n3, v4, by omega, rfl, by go_num, HT4, HO4, HB4⟩
/-- tree.below -/
theorem treeBelow_any (l : List Bl) (K : Kids l) (hlow : ∀ id d, Dp l id d → d ≤ 40) (A : Option Addr) (n c : Nat) (B : Nat) : ∀ (m : Nat) (id : Int) (d : Nat) (w : World), Dp l id d → d + m = 41 → B ≤ w.heap.size → RB w B (.slice A n c) l →
    Calls Tryz.prog 13 #[.slice A n c, .int .i64 id] w (IntsR (ord l m id) w)
  | 0, id, d, w, hd, hm, hB, h => by have := hlow id d hd; omega
  | m + 1, id, d, w, hd, hm, hB, h => below_walk l K A n c id d m hd w B hB h fun k W hk hW => treeBelow_any l K hlow A n c B m k (d + 1) W hk (by omega) (Nat.le_trans hB hW.size) (h.below (hW.mono hB))
end Go.Proofs.YtmkicfjcgbfaaaaGreatDoor
namespace Go.Proofs.YtmkicfjcgbfaaaaGreatDoor
open Go.RowKit

def zB : Bl := ⟨0, 0, [], ⟨#[]⟩, []⟩
theorem RInX.nil (w : World) (S : Nat → Prop) : RInX w S (.slice none 0 0) [] := ⟨none, 0, 0, rfl, rfl, ⟨Nat.le_refl _, by omega⟩, ⟨rfl, fun h => absurd h (by omega)⟩, fun x hx => by cases hx⟩
theorem RPrX.nil (w : World) (S : Nat → Prop) : RPrX w S (.slice none 0 0) [] := ⟨none, 0, 0, [], rfl, rfl, rfl, ⟨Nat.le_refl _, by omega⟩, ⟨rfl, fun h => absurd h (by omega)⟩, fun x hx => by cases hx⟩

/-- the error of a base, and of a block that must be there -/
def ciE (l : List Bl) (f : Int → Option Int) (id : Int) : Int := if baseE l f ≠ 0 then baseE l f else if posOf l id < 0 then 7 else 0
def dOf (f : Int → Option Int) (id : Int) : Nat := ((f id).getD 0).toNat
section
variable {l : List Bl} {f : Int → Option Int} {id : Int}
theorem Good.low' (G : Good l f) : ∀ id d, Dp l id d → d ≤ 40 := fun _ _ h => G.low h
theorem Good.at_ (G : Good l f) (h : 0 ≤ posOf l id) : Dp l id (dOf f id) ∧ dOf f id ≤ 40 := by
  obtain ⟨_, b, h2, h3⟩ := posOf_lt h
  obtain ⟨d, h4, h5, h6⟩ := G.dp (List.mem_of_getElem? h2)
  rw [h3] at h4 h5
  have : dOf f id = d := by unfold dOf; rw [h4]; rfl
  rw [this]; exact ⟨h5, h6⟩
end

set_option maxHeartbeats 1000000 in
theorem checkId_any (l : List Bl) (f : Int → Option Int) (A : Option Addr) (n c : Nat) (id : Int) (hid : I64 id) (w : World) (B : Nat) (hB : B ≤ w.heap.size) (h : RB w B (.slice A n c) l) (hf : DepOk l f) :
    Calls Tryz.prog 11 #[.slice A n c, .int .i64 id] w fun e w' => e = .returned (.int .i64 (ciE l f id)) ∧ Below w.heap.size w w' := by
  have HC := treeCheck_any l f A n c w B hB h hf
  obtain ⟨V, hV⟩ : ∃ V, V = ciE l f id := ⟨_, rfl⟩
  rw [← hV]
  unfold ciE at hV
  have HI : Hid (baseE l f = 0 → ∀ W, Below w.heap.size w W → Calls Tryz.prog 16 #[.slice A n c, .int .i64 id] W fun e w' => e = .returned (.int .i64 (posOf l id)) ∧ Below W.heap.size W w') := fun h0 W hW => by
    have G := good_of h0 hf
    exact index_any l A n c id W B (Nat.le_trans hB hW.size) (h.below (hW.mono hB)) G.kids.rise G.kids.ids hid
  obtain ⟨E, hE⟩ : ∃ E, E = baseE l f := ⟨_, rfl⟩
  rw [← hE] at HC hV HI
  have HC := Lib.hid HC
  clear h hf hE
  by_cases h0 : E = 0
  · have HI' := Lib.hid (HI.out h0)
    rw [if_neg (fun e => e h0)] at hV
    subst h0
    by_cases hp : posOf l id < 0
    · rw [if_pos hp] at hV
      subst hV
      go_enter Tryz.func11, Tryz.ntmps11
      go_wp2_with fail
      refine HC.out.mono ?_
      rintro e w1 ⟨rfl, hb1⟩
      have HB1 := Lib.hid hb1
      have HX := Lib.hid (HI'.out w1 hb1)
      clear hb1
      go_wp2_with fail
      refine HX.out.mono ?_
      rintro e w2 ⟨rfl, hb2⟩
      have HB2 : Hid (Below w.heap.size w w2) := HB1.out.trans (hb2.mono HB1.out.size)
      clear hb2
      go_wp2_with fail
      go_ret
      exact ⟨rfl, HB2.out⟩
    · rw [if_neg hp] at hV
      subst hV
      go_enter Tryz.func11, Tryz.ntmps11
      go_wp2_with fail
      refine HC.out.mono ?_
      rintro e w1 ⟨rfl, hb1⟩
      have HB1 := Lib.hid hb1
      have HX := Lib.hid (HI'.out w1 hb1)
      clear hb1
      go_wp2_with fail
      refine HX.out.mono ?_
      rintro e w2 ⟨rfl, hb2⟩
      have HB2 : Hid (Below w.heap.size w w2) := HB1.out.trans (hb2.mono HB1.out.size)
      clear hb2
      go_wp2_with fail
      go_ret
      exact ⟨rfl, HB2.out⟩
  · rw [if_pos h0] at hV
    have h0' : (E != 0) = true := by simpa using h0
    subst hV
    clear HI h0
    go_enter Tryz.func11, Tryz.ntmps11
    go_wp2_with fail
    refine HC.out.mono ?_
    rintro e w1 ⟨rfl, hb1⟩
    have HB1 := Lib.hid hb1
    clear hb1
    go_wp2_with fail
    go_ret
    exact ⟨rfl, HB1.out⟩
end Go.Proofs.YtmkicfjcgbfaaaaGreatDoor
