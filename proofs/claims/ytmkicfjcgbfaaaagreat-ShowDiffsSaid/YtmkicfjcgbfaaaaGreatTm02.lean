/-
  DERIVED. The walks of tree.below and the reference's OrderOf. Conditions: sizes; a base without error.
  The walks of tree.Depth, Path, Below, PageOf, Pages, Order, NextId, Empty and the reference's NextOf. Conditions: sizes.
  The walks of tree.Pages, Order, NextId, Empty and the reference's NextOf. Conditions: sizes.
  The contract of the iterator that slices.Backward hands back, over ids of a base. Conditions: sizes.
  Where a block is among its parent's, in plain Lean. Conditions: none.
  By an AI agent.
-/
import Derived.Test.YtmkicfjcgbfaaaaGreatTg17
import Derived.Test.YtmkicfjcgbfaaaaGreatTg11
import Derived.Test.YtmkicfjcgbfaaaaGreatTg05
import Derived.Test.YtmkicfjcgbfaaaaGreatTg19
import Derived.RangeFuncNested
import Derived.RangeFuncBound
import Derived.RangeFuncCalls
import Derived.RangeFuncLeaves
import Derived.RangeFuncBox
import Derived.Shelf.Abstract
import Derived.Shelf.RegionOpen
import Derived.WalkKit
import Derived.OwnWalkIn
import Derived.TacticsInMore
import Derived.LoopNIn
import Derived.LoopIn
import Derived.Test.YtmkicfjcgbfaaaaGreatTg26
import Derived.Test.YtmkicfjcgbfaaaaGreatTg27
import Derived.Test.YtmkicfjcgbfaaaaGreatTg28
import Derived.Test.YtmkicfjcgbfaaaaGreatTg37
namespace Go.Proofs.YtmkicfjcgbfaaaaGreat
open Go.RowKit

set_option maxHeartbeats 4000000 in
theorem below_walk (l : List Bl) (K : Kids l) (A : Option Addr) (n c : Nat) (id : Int) (d m : Nat) (hd : Dp l id d) (w : World) (B : Nat) (hB : B ≤ w.heap.size) (h : RB w B (.slice A n c) l)
    (IH : ∀ (k : Int) (W : World), Dp l k (d + 1) → Below w.heap.size w W → Calls Tryz.prog 64 #[.slice A n c, .int .i64 k] W (IntsR (ord l m k) W)) :
    Calls Tryz.prog 64 #[.slice A n c, .int .i64 id] w (IntsR (ord l (m + 1) id) w) := by
  obtain ⟨i0, hi, hq0, hq1, hq2⟩ := info_parts int_info
  obtain ⟨p, bx, hp, hlp, hbi⟩ := hd.blk K
  have hbx := List.mem_of_getElem? hlp
  have HO : Hid (ord l (m + 1) id = bx.kids.flatMap fun k => k :: ord l m k) := ord_at hp hlp m
  have HS : Hid ((bx.kids.flatMap fun k => k :: ord l m k).length ≤ 2000) := by
    show _ ≤ _
    rw [← HO.out]
    exact Nat.le_trans (ord_short K _ hd) K.short
  have H64 : Hid (∀ x ∈ bx.kids.flatMap fun k => k :: ord l m k, I64 x) := by
    show ∀ x ∈ _, _
    rw [← HO.out]
    exact ord_i64 K _ hd
  have HIX := index_any l A n c id w B hB h K.rise K.ids (by rw [← hbi]; exact (by have := K.ids bx hbx; unfold I64; omega))
  rw [hp] at HIX
  have HIX := Lib.hid HIX
  have HN := Lib.hid h.len
  have hpn : p < n := by have := (List.getElem?_eq_some_iff.1 hlp).1; have := h.len.1; omega
  obtain ⟨b, off, Ak, nk, ck, Ap, np, cp, rfl, hbb, g0, g1, g2, g3, g4, hK, _⟩ := h.at_ hlp
  have HK := Lib.hid hK
  have HKL := Lib.hid hK.len
  have HKD : Hid (∀ k ∈ bx.kids, Dp l k (d + 1)) := fun k hk => .step bx d k (hbi ▸ hd) hbx hk
  have HI := Lib.hid IH
  have y0 : (0 : Int) ≤ (p : Int) := by omega
  have y1 : (p : Int) < (n : Int) := by omega
  clear h hd hp hlp hbi hbx hK IH g0 g1 g3 g4
  go_enter Tryz.func64, Tryz.ntmps64
  go_wp2_with fail
  refine HIX.out.mono ?_
  rintro e w1 ⟨rfl, hb1⟩
  have HB1 := Lib.hid hb1
  have g2 := (hb1.cell (p := ⟨b, off + p * 5 + 2, none⟩) (by show b < _; omega)).trans g2
  clear hb1
  go_wp2_with fail
  go_loopg [5, 16] nk (fun gg s5 s16 wr => ∃ (j t : Nat) (v : Value), j + gg = nk ∧ v = s5 ∧ s16 = .int .i64 (j : Int) ∧ Hid (t = ((bx.kids.take j).flatMap fun k => k :: ord l m k).length) ∧ Hid (wr.ownsRow w.heap.size 3 1 v t (((bx.kids.take j).flatMap fun k => k :: ord l m k).map (.int .i64))) ∧ Hid (Below w.heap.size w wr))
  case atStart => exact ⟨0, 0, _, by omega, rfl, rfl, rfl, World.ownsRow_nil _ _ _ _, HB1⟩
  case round =>
    obtain ⟨j, t, v, hjg, rfl, rfl, ht, hown, hbel⟩ := hrel
    obtain ⟨W1, rfl⟩ : ∃ W1, W1 = wr := ⟨_, rfl⟩
    have hzr : w.heap.size ≤ W1.heap.size := hbel.out.size
    have hbk : nk ≤ ck ∧ nk * 8 ≤ 140737488351232 := HKL.out.2
    have hts : t ≤ 2000 := by
      have := flat_take_le (fun k => k :: ord l m k) bx.kids j
      have := HS.out
      have := ht.out
      omega
    by_cases hj : j < nk
    case neg =>
      obtain rfl : nk = j := by omega
      have HF : Hid (IntsR (ord l (m + 1) id) w (.returned v) W1) := by
        show IntsR _ _ _ _
        have e : bx.kids.take nk = bx.kids := List.take_of_length_le (by rw [← HKL.out.1]; exact Nat.le_refl _)
        have h1 := hown.out
        have h2 := ht.out
        rw [e] at h1 h2
        rw [HO.out]
        exact IntsR.of_own h1 h2 (by omega) H64.out hbel.out
      go_wp2_with fail
      go_ret
      exact HF.out
    obtain ⟨k, hkk⟩ : ∃ k, bx.kids[j]? = some k := ⟨_, List.getElem?_eq_getElem (by have := HKL.out.1; omega)⟩
    obtain ⟨bk, ok, rfl, hbk2, q0⟩ := HK.out.at_ hkk
    have q0 := (hbel.out.cell (p := ⟨bk, ok + j, none⟩) (by show bk < _; omega)).trans q0
    have z0 : (0 : Int) ≤ (j : Int) := by omega
    have z1 : (j : Int) < (nk : Int) := by omega
    have HT : Hid ((bx.kids.take (j + 1)).flatMap (fun k => k :: ord l m k) = (bx.kids.take j).flatMap (fun k => k :: ord l m k) ++ (k :: ord l m k)) := by
      show _ = _
      obtain ⟨hk, e⟩ := List.getElem?_eq_some_iff.1 hkk
      rw [List.take_succ_eq_append_getElem hk, e, List.flatMap_append]
      simp
    have HL2 : Hid (t + 1 + (ord l m k).length ≤ 2000) := by
      show _ ≤ _
      have h1 := flat_take_le (fun k => k :: ord l m k) bx.kids (j + 1)
      rw [HT.out, List.length_append, List.length_cons] at h1
      have := HS.out
      have := ht.out
      omega
    have HX := Lib.hid fun W hW => HI.out k W (HKD.out k (List.mem_of_getElem? hkk)) hW
    clear hkk
    have hb1 : t + 1 ≤ maxLen := by unfold maxLen; omega
    have hb2 : (t + 1) * 8 ≤ 140737488355328 := by omega
    have HR1 : Hid (Reads (W1.alloc (.cells #[.int .i64 k] 3)) (W1.heap.size + 1) 1 (some ⟨W1.heap.size, 0, none⟩) 1 [.int .i64 k]) := Reads.blk (Blk.new _ _ _) rfl
    have hbase : w.heap.size ≤ (W1.alloc (.cells #[.int .i64 k] 3)).heap.size := by simp; omega
    have hone : ∀ u ∈ [Value.int .i64 k], u.oneCell' = true := ints_one [k]
    have HOW := Lib.hid (hown.out.alloc (.cells #[.int .i64 k] 3))
    have HBA := Lib.hid (hbel.out.alloc hzr (.cells #[.int .i64 k] 3))
    have HVB : Hid (∀ g, v.ownBlock = some g → w.heap.size ≤ g) := fun g hg => (own_block_lt hown.out g hg).1
    go_wp2_with (at_builtin; refine wpList_append_any _ rfl _ _ 34 rfl w.heap.size 3 i0 (.int .i64 0) 1 8 Tryz.underlying34 hi hq0 hq1 hq2 rfl (by decide) v t _ rfl HOW.out _ _ 1 1 _ rfl HR1.out hone hb1 hb2 hbase ?_)
    intro v2 w2 hown2 hg2 hat2
    have HO2 := Lib.hid hown2
    have HB2 : Hid (Below w.heap.size w w2) := HBA.out.grown hg2 (Nat.le_trans hzr (by simp)) (fun g hg => HVB.out g hg)
    have HX2 := Lib.hid (HX.out w2 HB2.out)
    clear hown2 hg2 hat2
    go_wp2_with fail
    refine HX2.out.mono ?_
    rintro e w3 ⟨⟨A3, n3, c3, rfl, h30, h31, h32, h33⟩, hb3⟩
    obtain ⟨hr3, hn3⟩ := h31.reads1 (B := w3.heap.size) (fun b hb => hb.2)
    have HO3 := Lib.hid (own_below HO2.out hb3)
    have HB3 : Hid (Below w.heap.size w w3) := HB2.out.trans (hb3.mono HB2.out.size)
    have HR3 := Lib.hid hr3
    have HN3 := Lib.hid hn3
    have hc1 : t + 1 + n3 ≤ maxLen := by have := HL2.out; unfold maxLen; omega
    have hc2 : (t + 1 + n3) * 8 ≤ 140737488355328 := by have := HL2.out; omega
    have hbase3 : w.heap.size ≤ w3.heap.size := HB3.out.size
    have hone3 := ints_one (ord l m k)
    have HVB2 : Hid (∀ g, v2.ownBlock = some g → w.heap.size ≤ g) := fun g hg => (own_block_lt HO2.out g hg).1
    clear h30 h31 h32 h33 hb3 hr3 hn3 hb1 hb2 hbase hone
    go_wp2_with (at_builtin; refine wpList_append_any _ rfl _ _ 34 rfl w.heap.size 3 i0 (.int .i64 0) 1 8 Tryz.underlying34 hi hq0 hq1 hq2 rfl (by decide) v2 (t + 1) _ rfl HO3.out _ A3 n3 c3 _ rfl HR3.out hone3 hc1 hc2 hbase3 ?_)
    intro v4 w4 hown4 hg4 hat4
    have HO4 : Hid (w4.ownsRow w.heap.size 3 1 v4 (t + 1 + n3) (((bx.kids.take (j + 1)).flatMap fun k => k :: ord l m k).map (.int .i64))) := by
      show w4.ownsRow _ _ _ _ _ _
      rw [HT.out, List.map_append, List.map_cons]
      exact hown4
    have HT4 : Hid (t + 1 + n3 = ((bx.kids.take (j + 1)).flatMap fun k => k :: ord l m k).length) := by
      show _ = _
      rw [HT.out, List.length_append, List.length_cons, ← ht.out, HN3.out]; omega
    have HB4 : Hid (Below w.heap.size w w4) := HB3.out.grown hg4 hbase3 (fun g hg => HVB2.out g hg)
    clear hown4 hg4 hat4
    go_wp2_with fail
    go_roundg (nk - (j + 1))
    case measure => omega
    case rel => exact ⟨j + 1, t + 1 + n3, v4, by omega, rfl, by go_num, HT4, HO4, HB4⟩
/-- tree.below -/
theorem treeBelow_any (l : List Bl) (K : Kids l) (hlow : ∀ id d, Dp l id d → d ≤ 40) (A : Option Addr) (n c : Nat) (B : Nat) : ∀ (m : Nat) (id : Int) (d : Nat) (w : World), Dp l id d → d + m = 41 → B ≤ w.heap.size → RB w B (.slice A n c) l →
    Calls Tryz.prog 64 #[.slice A n c, .int .i64 id] w (IntsR (ord l m id) w)
  | 0, id, d, w, hd, hm, hB, h => by have := hlow id d hd; omega
  | m + 1, id, d, w, hd, hm, hB, h => below_walk l K A n c id d m hd w B hB h fun k W hk hW => treeBelow_any l K hlow A n c B m k (d + 1) W hk (by omega) (Nat.le_trans hB hW.size) (h.below (hW.mono hB))
set_option maxHeartbeats 4000000 in
theorem order_walk (l : List Bl) (K : Kids l) (A : Option Addr) (n c : Nat) (id : Int) (d m : Nat) (hd : Dp l id d) (w : World) (B : Nat) (hB : B ≤ w.heap.size) (h : RB w B (.slice A n c) l)
    (IH : ∀ (k : Int) (W : World), Dp l k (d + 1) → Below w.heap.size w W → Calls Tryz.prog 114 #[.slice A n c, .int .i64 k] W (IntsR (ord l m k) W)) :
    Calls Tryz.prog 114 #[.slice A n c, .int .i64 id] w (IntsR (ord l (m + 1) id) w) := by
  obtain ⟨i0, hi, hq0, hq1, hq2⟩ := info_parts int_info
  obtain ⟨p, bx, hp, hlp, hbi⟩ := hd.blk K
  have hbx := List.mem_of_getElem? hlp
  have HO : Hid (ord l (m + 1) id = bx.kids.flatMap fun k => k :: ord l m k) := ord_at hp hlp m
  have HS : Hid ((bx.kids.flatMap fun k => k :: ord l m k).length ≤ 2000) := by
    show _ ≤ _
    rw [← HO.out]
    exact Nat.le_trans (ord_short K _ hd) K.short
  have H64 : Hid (∀ x ∈ bx.kids.flatMap fun k => k :: ord l m k, I64 x) := by
    show ∀ x ∈ _, _
    rw [← HO.out]
    exact ord_i64 K _ hd
  have HIX := at_any l A n c id w B hB h
  rw [hp] at HIX
  have HIX := Lib.hid HIX
  have HN := Lib.hid h.len
  have hpn : p < n := by have := (List.getElem?_eq_some_iff.1 hlp).1; have := h.len.1; omega
  obtain ⟨b, off, Ak, nk, ck, Ap, np, cp, rfl, hbb, g0, g1, g2, g3, g4, hK, _⟩ := h.at_ hlp
  have HK := Lib.hid hK
  have HKL := Lib.hid hK.len
  have HKD : Hid (∀ k ∈ bx.kids, Dp l k (d + 1)) := fun k hk => .step bx d k (hbi ▸ hd) hbx hk
  have HI := Lib.hid IH
  have y0 : (0 : Int) ≤ (p : Int) := by omega
  have y1 : (p : Int) < (n : Int) := by omega
  clear h hd hp hlp hbi hbx hK IH g0 g1 g3 g4
  go_enter Tryz.func114, Tryz.ntmps114
  go_wp2_with fail
  refine HIX.out.mono ?_
  rintro e w1 ⟨rfl, hb1⟩
  have HB1 := Lib.hid hb1
  have g2 := (hb1.cell (p := ⟨b, off + p * 5 + 2, none⟩) (by show b < _; omega)).trans g2
  clear hb1
  go_wp2_with fail
  go_loopg [5, 16] nk (fun gg s5 s16 wr => ∃ (j t : Nat) (v : Value), j + gg = nk ∧ v = s5 ∧ s16 = .int .i64 (j : Int) ∧ Hid (t = ((bx.kids.take j).flatMap fun k => k :: ord l m k).length) ∧ Hid (wr.ownsRow w.heap.size 3 1 v t (((bx.kids.take j).flatMap fun k => k :: ord l m k).map (.int .i64))) ∧ Hid (Below w.heap.size w wr))
  case atStart => exact ⟨0, 0, _, by omega, rfl, rfl, rfl, World.ownsRow_nil _ _ _ _, HB1⟩
  case round =>
    obtain ⟨j, t, v, hjg, rfl, rfl, ht, hown, hbel⟩ := hrel
    obtain ⟨W1, rfl⟩ : ∃ W1, W1 = wr := ⟨_, rfl⟩
    have hzr : w.heap.size ≤ W1.heap.size := hbel.out.size
    have hbk : nk ≤ ck ∧ nk * 8 ≤ 140737488351232 := HKL.out.2
    have hts : t ≤ 2000 := by
      have := flat_take_le (fun k => k :: ord l m k) bx.kids j
      have := HS.out
      have := ht.out
      omega
    by_cases hj : j < nk
    case neg =>
      obtain rfl : nk = j := by omega
      have HF : Hid (IntsR (ord l (m + 1) id) w (.returned v) W1) := by
        show IntsR _ _ _ _
        have e : bx.kids.take nk = bx.kids := List.take_of_length_le (by rw [← HKL.out.1]; exact Nat.le_refl _)
        have h1 := hown.out
        have h2 := ht.out
        rw [e] at h1 h2
        rw [HO.out]
        exact IntsR.of_own h1 h2 (by omega) H64.out hbel.out
      go_wp2_with fail
      go_ret
      exact HF.out
    obtain ⟨k, hkk⟩ : ∃ k, bx.kids[j]? = some k := ⟨_, List.getElem?_eq_getElem (by have := HKL.out.1; omega)⟩
    obtain ⟨bk, ok, rfl, hbk2, q0⟩ := HK.out.at_ hkk
    have q0 := (hbel.out.cell (p := ⟨bk, ok + j, none⟩) (by show bk < _; omega)).trans q0
    have z0 : (0 : Int) ≤ (j : Int) := by omega
    have z1 : (j : Int) < (nk : Int) := by omega
    have HT : Hid ((bx.kids.take (j + 1)).flatMap (fun k => k :: ord l m k) = (bx.kids.take j).flatMap (fun k => k :: ord l m k) ++ (k :: ord l m k)) := by
      show _ = _
      obtain ⟨hk, e⟩ := List.getElem?_eq_some_iff.1 hkk
      rw [List.take_succ_eq_append_getElem hk, e, List.flatMap_append]
      simp
    have HL2 : Hid (t + 1 + (ord l m k).length ≤ 2000) := by
      show _ ≤ _
      have h1 := flat_take_le (fun k => k :: ord l m k) bx.kids (j + 1)
      rw [HT.out, List.length_append, List.length_cons] at h1
      have := HS.out
      have := ht.out
      omega
    have HX := Lib.hid fun W hW => HI.out k W (HKD.out k (List.mem_of_getElem? hkk)) hW
    clear hkk
    have hb1 : t + 1 ≤ maxLen := by unfold maxLen; omega
    have hb2 : (t + 1) * 8 ≤ 140737488355328 := by omega
    have HR1 : Hid (Reads (W1.alloc (.cells #[.int .i64 k] 3)) (W1.heap.size + 1) 1 (some ⟨W1.heap.size, 0, none⟩) 1 [.int .i64 k]) := Reads.blk (Blk.new _ _ _) rfl
    have hbase : w.heap.size ≤ (W1.alloc (.cells #[.int .i64 k] 3)).heap.size := by simp; omega
    have hone : ∀ u ∈ [Value.int .i64 k], u.oneCell' = true := ints_one [k]
    have HOW := Lib.hid (hown.out.alloc (.cells #[.int .i64 k] 3))
    have HBA := Lib.hid (hbel.out.alloc hzr (.cells #[.int .i64 k] 3))
    have HVB : Hid (∀ g, v.ownBlock = some g → w.heap.size ≤ g) := fun g hg => (own_block_lt hown.out g hg).1
    go_wp2_with (at_builtin; refine wpList_append_any _ rfl _ _ 34 rfl w.heap.size 3 i0 (.int .i64 0) 1 8 Tryz.underlying34 hi hq0 hq1 hq2 rfl (by decide) v t _ rfl HOW.out _ _ 1 1 _ rfl HR1.out hone hb1 hb2 hbase ?_)
    intro v2 w2 hown2 hg2 hat2
    have HO2 := Lib.hid hown2
    have HB2 : Hid (Below w.heap.size w w2) := HBA.out.grown hg2 (Nat.le_trans hzr (by simp)) (fun g hg => HVB.out g hg)
    have HX2 := Lib.hid (HX.out w2 HB2.out)
    clear hown2 hg2 hat2
    go_wp2_with fail
    refine HX2.out.mono ?_
    rintro e w3 ⟨⟨A3, n3, c3, rfl, h30, h31, h32, h33⟩, hb3⟩
    obtain ⟨hr3, hn3⟩ := h31.reads1 (B := w3.heap.size) (fun b hb => hb.2)
    have HO3 := Lib.hid (own_below HO2.out hb3)
    have HB3 : Hid (Below w.heap.size w w3) := HB2.out.trans (hb3.mono HB2.out.size)
    have HR3 := Lib.hid hr3
    have HN3 := Lib.hid hn3
    have hc1 : t + 1 + n3 ≤ maxLen := by have := HL2.out; unfold maxLen; omega
    have hc2 : (t + 1 + n3) * 8 ≤ 140737488355328 := by have := HL2.out; omega
    have hbase3 : w.heap.size ≤ w3.heap.size := HB3.out.size
    have hone3 := ints_one (ord l m k)
    have HVB2 : Hid (∀ g, v2.ownBlock = some g → w.heap.size ≤ g) := fun g hg => (own_block_lt HO2.out g hg).1
    clear h30 h31 h32 h33 hb3 hr3 hn3 hb1 hb2 hbase hone
    go_wp2_with (at_builtin; refine wpList_append_any _ rfl _ _ 34 rfl w.heap.size 3 i0 (.int .i64 0) 1 8 Tryz.underlying34 hi hq0 hq1 hq2 rfl (by decide) v2 (t + 1) _ rfl HO3.out _ A3 n3 c3 _ rfl HR3.out hone3 hc1 hc2 hbase3 ?_)
    intro v4 w4 hown4 hg4 hat4
    have HO4 : Hid (w4.ownsRow w.heap.size 3 1 v4 (t + 1 + n3) (((bx.kids.take (j + 1)).flatMap fun k => k :: ord l m k).map (.int .i64))) := by
      show w4.ownsRow _ _ _ _ _ _
      rw [HT.out, List.map_append, List.map_cons]
      exact hown4
    have HT4 : Hid (t + 1 + n3 = ((bx.kids.take (j + 1)).flatMap fun k => k :: ord l m k).length) := by
      show _ = _
      rw [HT.out, List.length_append, List.length_cons, ← ht.out, HN3.out]; omega
    have HB4 : Hid (Below w.heap.size w w4) := HB3.out.grown hg4 hbase3 (fun g hg => HVB2.out g hg)
    clear hown4 hg4 hat4
    go_wp2_with fail
    go_roundg (nk - (j + 1))
    case measure => omega
    case rel => exact ⟨j + 1, t + 1 + n3, v4, by omega, rfl, by go_num, HT4, HO4, HB4⟩
/-- the reference's OrderOf -/
theorem orderOf_any (l : List Bl) (K : Kids l) (hlow : ∀ id d, Dp l id d → d ≤ 40) (A : Option Addr) (n c : Nat) (B : Nat) : ∀ (m : Nat) (id : Int) (d : Nat) (w : World), Dp l id d → d + m = 41 → B ≤ w.heap.size → RB w B (.slice A n c) l →
    Calls Tryz.prog 114 #[.slice A n c, .int .i64 id] w (IntsR (ord l m id) w)
  | 0, id, d, w, hd, hm, hB, h => by have := hlow id d hd; omega
  | m + 1, id, d, w, hd, hm, hB, h => order_walk l K A n c id d m hd w B hB h fun k W hk hW => orderOf_any l K hlow A n c B m k (d + 1) W hk (by omega) (Nat.le_trans hB hW.size) (h.below (hW.mono hB))
end Go.Proofs.YtmkicfjcgbfaaaaGreat
namespace Go.Proofs.YtmkicfjcgbfaaaaGreat
open Go.RowKit

def zB : Bl := ⟨0, 0, [], ⟨#[]⟩, []⟩
theorem RInX.nil (w : World) (S : Nat → Prop) : RInX w S (.slice none 0 0) [] := ⟨none, 0, 0, rfl, rfl, ⟨Nat.le_refl _, by omega⟩, ⟨rfl, fun h => absurd h (by omega)⟩, fun x hx => by cases hx⟩
theorem RPrX.nil (w : World) (S : Nat → Prop) : RPrX w S (.slice none 0 0) [] := ⟨none, 0, 0, [], rfl, rfl, rfl, ⟨Nat.le_refl _, by omega⟩, ⟨rfl, fun h => absurd h (by omega)⟩, fun x hx => by cases hx⟩

/-- the error of a base, and of a block that must be there -/
def ciE (l : List Bl) (f : Int → Option Int) (id : Int) : Int := if baseE l f ≠ 0 then baseE l f else if posOf l id < 0 then 7 else 0
def cinE (l : List Bl) (f : Int → Option Int) (id : Int) : Int := if ciE l f id ≠ 0 then ciE l f id else if id ≠ 0 then 0 else 7
def dOf (f : Int → Option Int) (id : Int) : Nat := ((f id).getD 0).toNat
section
variable {l : List Bl} {f : Int → Option Int} {id : Int}
theorem Good.low' (G : Good l f) : ∀ id d, Dp l id d → d ≤ 40 := fun _ _ h => G.low h
theorem Good.at_ (G : Good l f) (h : 0 ≤ posOf l id) : Dp l id (dOf f id) ∧ dOf f id ≤ 40 := by
  obtain ⟨_, b, h2, h3⟩ := posOf_lt h
  obtain ⟨d, h4, h5, h6⟩ := G.dp (List.mem_of_getElem? h2)
  rw [h3] at h4 h5
  have : dOf f id = d := by unfold dOf; rw [h4]; rfl
  rw [this]; exact ⟨h5, h6⟩
theorem ciE_zero (h : ciE l f id = 0) (hf : DepOk l f) : Good l f ∧ 0 ≤ posOf l id := by
  unfold ciE at h
  by_cases h1 : baseE l f = 0
  · rw [if_neg (fun e => e h1)] at h
    by_cases h2 : posOf l id < 0
    · rw [if_pos h2] at h; omega
    · exact ⟨good_of h1 hf, by omega⟩
  · rw [if_pos h1] at h; exact absurd h h1
end

set_option maxHeartbeats 1000000 in
theorem checkId_any (l : List Bl) (f : Int → Option Int) (A : Option Addr) (n c : Nat) (id : Int) (hid : I64 id) (w : World) (B : Nat) (hB : B ≤ w.heap.size) (h : RB w B (.slice A n c) l) (hf : DepOk l f) :
    Calls Tryz.prog 65 #[.slice A n c, .int .i64 id] w fun e w' => e = .returned (.int .i64 (ciE l f id)) ∧ Below w.heap.size w w' := by
  have HC := treeCheck_any l f A n c w B hB h hf
  obtain ⟨V, hV⟩ : ∃ V, V = ciE l f id := ⟨_, rfl⟩
  rw [← hV]
  unfold ciE at hV
  have HI : Hid (baseE l f = 0 → ∀ W, Below w.heap.size w W → Calls Tryz.prog 105 #[.slice A n c, .int .i64 id] W fun e w' => e = .returned (.int .i64 (posOf l id)) ∧ Below W.heap.size W w') := fun h0 W hW => by
    have G := good_of h0 hf
    exact index_any l A n c id W B (Nat.le_trans hB hW.size) (h.below (hW.mono hB)) G.kids.rise G.kids.ids hid
  obtain ⟨E, hE⟩ : ∃ E, E = baseE l f := ⟨_, rfl⟩
  rw [← hE] at HC hV HI
  have HC := Lib.hid HC
  clear h hf hE
  by_cases h0 : E = 0
  · have HI' := Lib.hid (HI.out h0)
    rw [if_neg (fun e => e h0)] at hV
    subst h0
    by_cases hp : posOf l id < 0
    · rw [if_pos hp] at hV
      subst hV
      go_enter Tryz.func65, Tryz.ntmps65
      go_wp2_with fail
      refine HC.out.mono ?_
      rintro e w1 ⟨rfl, hb1⟩
      have HB1 := Lib.hid hb1
      have HX := Lib.hid (HI'.out w1 hb1)
      clear hb1
      go_wp2_with fail
      refine HX.out.mono ?_
      rintro e w2 ⟨rfl, hb2⟩
      have HB2 : Hid (Below w.heap.size w w2) := HB1.out.trans (hb2.mono HB1.out.size)
      clear hb2
      go_wp2_with fail
      go_ret
      exact ⟨rfl, HB2.out⟩
    · rw [if_neg hp] at hV
      subst hV
      go_enter Tryz.func65, Tryz.ntmps65
      go_wp2_with fail
      refine HC.out.mono ?_
      rintro e w1 ⟨rfl, hb1⟩
      have HB1 := Lib.hid hb1
      have HX := Lib.hid (HI'.out w1 hb1)
      clear hb1
      go_wp2_with fail
      refine HX.out.mono ?_
      rintro e w2 ⟨rfl, hb2⟩
      have HB2 : Hid (Below w.heap.size w w2) := HB1.out.trans (hb2.mono HB1.out.size)
      clear hb2
      go_wp2_with fail
      go_ret
      exact ⟨rfl, HB2.out⟩
  · rw [if_pos h0] at hV
    have h0' : (E != 0) = true := by simpa using h0
    subst hV
    clear HI h0
    go_enter Tryz.func65, Tryz.ntmps65
    go_wp2_with fail
    refine HC.out.mono ?_
    rintro e w1 ⟨rfl, hb1⟩
    have HB1 := Lib.hid hb1
    clear hb1
    go_wp2_with fail
    go_ret
    exact ⟨rfl, HB1.out⟩
set_option maxHeartbeats 1000000 in
theorem checkInner_any (l : List Bl) (f : Int → Option Int) (A : Option Addr) (n c : Nat) (id : Int) (hid : I64 id) (w : World) (B : Nat) (hB : B ≤ w.heap.size) (h : RB w B (.slice A n c) l) (hf : DepOk l f) :
    Calls Tryz.prog 101 #[.slice A n c, .int .i64 id] w fun e w' => e = .returned (.int .i64 (cinE l f id)) ∧ Below w.heap.size w w' := by
  have HC := checkId_any l f A n c id hid w B hB h hf
  obtain ⟨V, hV⟩ : ∃ V, V = cinE l f id := ⟨_, rfl⟩
  rw [← hV]
  unfold cinE at hV
  obtain ⟨E, hE⟩ : ∃ E, E = ciE l f id := ⟨_, rfl⟩
  rw [← hE] at HC hV
  have HC := Lib.hid HC
  clear h hf hE
  by_cases h0 : E = 0
  · rw [if_neg (fun e => e h0)] at hV
    subst h0
    by_cases hp : id = 0
    · rw [if_neg (fun e => e hp)] at hV
      subst hV
      have hp' : (id != 0) = false := by simpa using hp
      clear hp
      go_enter Tryz.func101, Tryz.ntmps101
      go_wp2_with fail
      refine HC.out.mono ?_
      rintro e w1 ⟨rfl, hb1⟩
      have HB1 := Lib.hid hb1
      clear hb1
      go_wp2_with fail
      go_ret
      exact ⟨rfl, HB1.out⟩
    · rw [if_pos hp] at hV
      subst hV
      have hp' : (id != 0) = true := by simpa using hp
      clear hp
      go_enter Tryz.func101, Tryz.ntmps101
      go_wp2_with fail
      refine HC.out.mono ?_
      rintro e w1 ⟨rfl, hb1⟩
      have HB1 := Lib.hid hb1
      clear hb1
      go_wp2_with fail
      go_ret
      exact ⟨rfl, HB1.out⟩
  · rw [if_pos h0] at hV
    have h0' : (E != 0) = true := by simpa using h0
    subst hV
    clear h0
    go_enter Tryz.func101, Tryz.ntmps101
    go_wp2_with fail
    refine HC.out.mono ?_
    rintro e w1 ⟨rfl, hb1⟩
    have HB1 := Lib.hid hb1
    clear hb1
    go_wp2_with fail
    go_ret
    exact ⟨rfl, HB1.out⟩

def depV (l : List Bl) (f : Int → Option Int) (id : Int) : Int := if ciE l f id = 0 then (dOf f id : Int) else 0
def pathL (l : List Bl) (f : Int → Option Int) (id : Int) : List Int := if ciE l f id = 0 then pth l (dOf f id) id else []
def belL (l : List Bl) (f : Int → Option Int) (id : Int) : List Int := if ciE l f id = 0 then ord l (41 - dOf f id) id else []
def pageV (l : List Bl) (f : Int → Option Int) (id : Int) : Int := if cinE l f id = 0 then ((pth l (dOf f id) id)[0]?).getD 0 else 0
/-- ints and an error -/
def IntsE (L : List Int) (E : Int) (w : World) (e : Ending) (w' : World) : Prop := (∃ A n c, e = .returned (.tuple #[.slice A n c, .int .i64 E]) ∧ RInX w' (fun b => w.heap.size ≤ b ∧ b < w'.heap.size) (.slice A n c) L) ∧ Below w.heap.size w w'
set_option maxHeartbeats 1000000 in
theorem treePath_any (l : List Bl) (f : Int → Option Int) (A : Option Addr) (n c : Nat) (id : Int) (hid : I64 id) (w : World) (B : Nat) (hB : B ≤ w.heap.size) (h : RB w B (.slice A n c) l) (hf : DepOk l f) :
    Calls Tryz.prog 13 #[.slice A n c, .int .i64 id] w (IntsE (pathL l f id) (ciE l f id) w) := by
  have HC := checkId_any l f A n c id hid w B hB h hf
  have HP : Hid (ciE l f id = 0 → ∀ W, Below w.heap.size w W → Calls _ _ _ W _) := fun h0 W hW => by
    obtain ⟨G, hp⟩ := ciE_zero h0 hf
    obtain ⟨h1, h2⟩ := G.at_ hp
    exact path_any l G.kids A n c id (dOf f id) h1 h2 W B (Nat.le_trans hB hW.size) (h.below (hW.mono hB))
  obtain ⟨V, hV⟩ : ∃ V, V = pathL l f id := ⟨_, rfl⟩
  rw [← hV]
  unfold pathL at hV
  obtain ⟨E, hE⟩ : ∃ E, E = ciE l f id := ⟨_, rfl⟩
  rw [← hE] at HC hV HP ⊢
  have HC := Lib.hid HC
  clear h hf hE
  by_cases h0 : E = 0
  · rw [if_pos h0] at hV
    have HP' := Lib.hid (HP.out h0)
    subst h0
    have HV := Lib.hid hV
    clear hV
    go_enter Tryz.func13, Tryz.ntmps13
    go_wp2_with fail
    refine HC.out.mono ?_
    rintro e w1 ⟨rfl, hb1⟩
    have HB1 := Lib.hid hb1
    have HX := Lib.hid (HP'.out w1 hb1)
    have hz1 := hb1.size
    clear hb1
    go_wp2_with fail
    refine HX.out.mono ?_
    rintro e w2 ⟨⟨A', n', rfl, hr⟩, hb2⟩
    rw [← HV.out] at hr
    have HB2 : Hid (Below w.heap.size w w2) := HB1.out.trans (hb2.mono hz1)
    have HR := Lib.hid (hr.weak (S' := fun b => w.heap.size ≤ b ∧ b < w2.heap.size) fun b hb => ⟨by omega, hb.2⟩)
    clear hb2 hr
    go_wp2_with fail
    go_ret2
    exact ⟨⟨_, _, _, rfl, HR.out⟩, HB2.out⟩
  · rw [if_neg h0] at hV
    have h0' : (E != 0) = true := by simpa using h0
    have HV := Lib.hid hV
    clear HP h0 hV
    go_enter Tryz.func13, Tryz.ntmps13
    go_wp2_with fail
    refine HC.out.mono ?_
    rintro e w1 ⟨rfl, hb1⟩
    have HB1 := Lib.hid hb1
    clear hb1
    go_wp2_with fail
    go_ret2
    exact ⟨⟨_, _, _, rfl, by rw [HV.out]; exact RInX.nil _ _⟩, HB1.out⟩
end Go.Proofs.YtmkicfjcgbfaaaaGreat
namespace Go.Proofs.YtmkicfjcgbfaaaaGreat
open Go.RowKit

def kids0 (l : List Bl) : List Int := match l[0]? with | some x => x.kids | none => []
def pagesL (l : List Bl) (f : Int → Option Int) : List Int := if baseE l f = 0 then kids0 l else []
def orderL (l : List Bl) (f : Int → Option Int) : List Int := if baseE l f = 0 then ord l 41 0 else []
def lastId (l : List Bl) : Int := match l[l.length - 1]? with | some x => x.id | none => 0
def nextP (l : List Bl) : Int := if 1000000 < lastId l + 1 then -1 else lastId l + 1
def nextV (l : List Bl) (f : Int → Option Int) : Int := if baseE l f = 0 then nextP l else -1
/-- ints that are returned -/
def Ints1 (L : List Int) (w : World) (e : Ending) (w' : World) : Prop := (∃ A n c, e = .returned (.slice A n c) ∧ RInX w' (fun b => w.heap.size ≤ b ∧ b < w'.heap.size) (.slice A n c) L) ∧ Below w.heap.size w w'

set_option maxHeartbeats 1000000 in
theorem pages_any (l : List Bl) (f : Int → Option Int) (A : Option Addr) (n c : Nat) (w : World) (B : Nat) (hB : B ≤ w.heap.size) (h : RB w B (.slice A n c) l) (hf : DepOk l f) :
    Calls Tryz.prog 15 #[.slice A n c] w (Ints1 (pagesL l f) w) := by
  have HC := treeCheck_any l f A n c w B hB h hf
  obtain ⟨V, hV⟩ : ∃ V, V = pagesL l f := ⟨_, rfl⟩
  rw [← hV]
  unfold pagesL at hV
  have HG : Hid (baseE l f = 0 → 0 < l.length) := fun h0 => by
    obtain ⟨r, hr, _⟩ := (good_of h0 hf).kids.root
    exact (List.getElem?_eq_some_iff.1 hr).1
  obtain ⟨E, hE⟩ : ∃ E, E = baseE l f := ⟨_, rfl⟩
  rw [← hE] at HC hV HG
  have HC := Lib.hid HC
  by_cases h0 : E = 0
  · rw [if_pos h0] at hV
    have hl := HG.out h0
    obtain ⟨x, hx⟩ : ∃ x, l[0]? = some x := ⟨_, List.getElem?_eq_getElem hl⟩
    have hk : kids0 l = x.kids := by unfold kids0; rw [hx]
    rw [hk] at hV
    have hn0 : 0 < n := by have := h.len.1; omega
    obtain ⟨b, off, Ak, nk, ck, Ap, np, cp, rfl, hbb, g0, g1, g2, g3, g4, hK, _⟩ := h.at_ hx
    rw [Nat.zero_mul, Nat.add_zero] at g2
    have HCK := Lib.hid fun W (hW : Below w.heap.size w W) => cloneI_any Ak nk ck x.kids W B (hK.below (hW.mono hB))
    have hn0' : (0 : Int) < (n : Int) := by omega
    subst h0
    have HV := Lib.hid hV
    clear h hf hE hV hl hx hk hK g0 g1 g3 g4
    go_enter Tryz.func15, Tryz.ntmps15
    go_wp2_with fail
    refine HC.out.mono ?_
    rintro e w1 ⟨rfl, hb1⟩
    have HB1 := Lib.hid hb1
    have g2 := (hb1.cell (p := ⟨b, off + 2, none⟩) (by show b < _; omega)).trans g2
    have HX := Lib.hid (HCK.out w1 hb1)
    have hz1 := hb1.size
    clear hb1
    go_wp2_with fail
    refine HX.out.mono ?_
    rintro e w2 ⟨⟨A', n', c', rfl, hr0, _, hr, hcc⟩, hb2⟩
    rw [← HV.out] at hr
    have HCL := Lib.hid (clipI_any A' n' c' w2 hcc hr0)
    have HB2 : Hid (Below w.heap.size w w2) := HB1.out.trans (hb2.mono hz1)
    have HR := Lib.hid (hr.weak (S' := fun b => w.heap.size ≤ b ∧ b < w2.heap.size) fun b hb => ⟨by omega, hb.2⟩)
    clear hb2 hr hr0 hcc
    go_wp2_with fail
    refine HCL.out.mono ?_
    rintro e w3 ⟨rfl, rfl⟩
    go_wp2_with fail
    go_ret
    exact ⟨⟨_, _, _, rfl, HR.out⟩, HB2.out⟩
  · rw [if_neg h0] at hV
    have h0' : (E != 0) = true := by simpa using h0
    have HV := Lib.hid hV
    clear h hf hE hV h0
    go_enter Tryz.func15, Tryz.ntmps15
    go_wp2_with fail
    refine HC.out.mono ?_
    rintro e w1 ⟨rfl, hb1⟩
    have HB1 := Lib.hid hb1
    clear hb1
    go_wp2_with fail
    go_ret
    exact ⟨⟨_, _, _, rfl, by rw [HV.out]; exact RInX.nil _ _⟩, HB1.out⟩
set_option maxHeartbeats 1000000 in
theorem order_any (l : List Bl) (f : Int → Option Int) (A : Option Addr) (n c : Nat) (w : World) (B : Nat) (hB : B ≤ w.heap.size) (h : RB w B (.slice A n c) l) (hf : DepOk l f) :
    Calls Tryz.prog 12 #[.slice A n c] w (Ints1 (orderL l f) w) := by
  have HC := treeCheck_any l f A n c w B hB h hf
  obtain ⟨V, hV⟩ : ∃ V, V = orderL l f := ⟨_, rfl⟩
  rw [← hV]
  unfold orderL at hV
  have HP : Hid (baseE l f = 0 → ∀ W, Below w.heap.size w W → Calls Tryz.prog 64 #[.slice A n c, .int .i64 0] W (IntsR (ord l 41 0) W)) := fun h0 W hW => by
    have G := good_of h0 hf
    exact treeBelow_any l G.kids G.low' A n c B 41 0 0 W .root (by omega) (Nat.le_trans hB hW.size) (h.below (hW.mono hB))
  obtain ⟨E, hE⟩ : ∃ E, E = baseE l f := ⟨_, rfl⟩
  rw [← hE] at HC hV HP
  have HC := Lib.hid HC
  clear h hf hE
  by_cases h0 : E = 0
  · rw [if_pos h0] at hV
    have HP' := Lib.hid (HP.out h0)
    subst h0
    have HV := Lib.hid hV
    clear hV
    go_enter Tryz.func12, Tryz.ntmps12
    go_wp2_with fail
    refine HC.out.mono ?_
    rintro e w1 ⟨rfl, hb1⟩
    have HB1 := Lib.hid hb1
    have HX := Lib.hid (HP'.out w1 hb1)
    have hz1 := hb1.size
    clear hb1
    go_wp2_with fail
    refine HX.out.mono ?_
    rintro e w2 ⟨⟨A', n', c', rfl, hr0, _, hr, hcc⟩, hb2⟩
    rw [← HV.out] at hr
    have HCL := Lib.hid (clipI_any A' n' c' w2 hcc hr0)
    have HB2 : Hid (Below w.heap.size w w2) := HB1.out.trans (hb2.mono hz1)
    have HR := Lib.hid (hr.weak (S' := fun b => w.heap.size ≤ b ∧ b < w2.heap.size) fun b hb => ⟨by omega, hb.2⟩)
    clear hb2 hr hr0 hcc
    go_wp2_with fail
    refine HCL.out.mono ?_
    rintro e w3 ⟨rfl, rfl⟩
    go_wp2_with fail
    go_ret
    exact ⟨⟨_, _, _, rfl, HR.out⟩, HB2.out⟩
  · rw [if_neg h0] at hV
    have h0' : (E != 0) = true := by simpa using h0
    have HV := Lib.hid hV
    clear HP h0 hV
    go_enter Tryz.func12, Tryz.ntmps12
    go_wp2_with fail
    refine HC.out.mono ?_
    rintro e w1 ⟨rfl, hb1⟩
    have HB1 := Lib.hid hb1
    clear hb1
    go_wp2_with fail
    go_ret
    exact ⟨⟨_, _, _, rfl, by rw [HV.out]; exact RInX.nil _ _⟩, HB1.out⟩

set_option maxHeartbeats 1000000 in
theorem nextId_any (l : List Bl) (A : Option Addr) (n c : Nat) (w : World) (B : Nat) (h : RB w B (.slice A n c) l) (hl : 0 < l.length) (hi : IdsIn l) :
    Calls Tryz.prog 106 #[.slice A n c] w fun e w' => e = .returned (.int .i64 (nextP l)) ∧ w' = w := by
  have hn := h.len
  obtain ⟨x, hx⟩ : ∃ x, l[l.length - 1]? = some x := ⟨_, List.getElem?_eq_getElem (by omega)⟩
  obtain ⟨b, off, Ak, nk, ck, Ap, np, cp, rfl, hbb, g0, _⟩ := h.at_ hx
  have hxi := hi x (List.mem_of_getElem? hx)
  have hla : lastId l = x.id := by unfold lastId; rw [hx]
  obtain ⟨V, hV⟩ : ∃ V, V = nextP l := ⟨_, rfl⟩
  rw [← hV]
  unfold nextP at hV
  rw [hla] at hV
  obtain ⟨q, hq⟩ : ∃ q : Nat, n = q + 1 := ⟨n - 1, by omega⟩
  have e : l.length - 1 = q := by omega
  rw [e] at g0
  have hq0 : (0 : Int) ≤ (q : Int) := by omega
  have hq1 : (q : Int) < (n : Int) := by omega
  have HQ : Hid (((n : Int) - 1) = (q : Int)) := by show _ = _; omega
  have hn1 : (1 : Int) ≤ (n : Int) := by omega
  have hnb : n * 80 ≤ 140737488351232 := hn.2.2
  have i0 : 0 ≤ x.id := hxi.1
  have i1 : x.id ≤ 1000000 := hxi.2
  clear h hl hi hn hx hla hq e hxi
  have hq' := HQ.out
  by_cases hb : 1000000 < x.id + 1
  · rw [if_pos hb] at hV
    subst hV
    go_enter Tryz.func106, Tryz.ntmps106
    go_wp2_with fail
    go_ret
    exact ⟨rfl, rfl⟩
  · rw [if_neg hb] at hV
    have HV := Lib.hid hV
    clear hV
    go_enter Tryz.func106, Tryz.ntmps106
    go_wp2_with fail
    go_ret
    exact ⟨by rw [HV.out]; rfl, rfl⟩
set_option maxHeartbeats 1000000 in
theorem nextOf_any (l : List Bl) (A : Option Addr) (n c : Nat) (w : World) (B : Nat) (h : RB w B (.slice A n c) l) (hl : 0 < l.length) (hi : IdsIn l) :
    Calls Tryz.prog 111 #[.slice A n c] w fun e w' => e = .returned (.int .i64 (nextP l)) ∧ w' = w := by
  have hn := h.len
  obtain ⟨x, hx⟩ : ∃ x, l[l.length - 1]? = some x := ⟨_, List.getElem?_eq_getElem (by omega)⟩
  obtain ⟨b, off, Ak, nk, ck, Ap, np, cp, rfl, hbb, g0, _⟩ := h.at_ hx
  have hxi := hi x (List.mem_of_getElem? hx)
  have hla : lastId l = x.id := by unfold lastId; rw [hx]
  obtain ⟨V, hV⟩ : ∃ V, V = nextP l := ⟨_, rfl⟩
  rw [← hV]
  unfold nextP at hV
  rw [hla] at hV
  obtain ⟨q, hq⟩ : ∃ q : Nat, n = q + 1 := ⟨n - 1, by omega⟩
  have e : l.length - 1 = q := by omega
  rw [e] at g0
  have hq0 : (0 : Int) ≤ (q : Int) := by omega
  have hq1 : (q : Int) < (n : Int) := by omega
  have HQ : Hid (((n : Int) - 1) = (q : Int)) := by show _ = _; omega
  have hn1 : (1 : Int) ≤ (n : Int) := by omega
  have hnb : n * 80 ≤ 140737488351232 := hn.2.2
  have i0 : 0 ≤ x.id := hxi.1
  have i1 : x.id ≤ 1000000 := hxi.2
  clear h hl hi hn hx hla hq e hxi
  have hq' := HQ.out
  by_cases hb : 1000000 < x.id + 1
  · rw [if_pos hb] at hV
    subst hV
    go_enter Tryz.func111, Tryz.ntmps111
    go_wp2_with fail
    go_ret
    exact ⟨rfl, rfl⟩
  · rw [if_neg hb] at hV
    have HV := Lib.hid hV
    clear hV
    go_enter Tryz.func111, Tryz.ntmps111
    go_wp2_with fail
    go_ret
    exact ⟨by rw [HV.out]; rfl, rfl⟩
set_option maxHeartbeats 1000000 in
theorem nextId2_any (l : List Bl) (f : Int → Option Int) (A : Option Addr) (n c : Nat) (w : World) (B : Nat) (hB : B ≤ w.heap.size) (h : RB w B (.slice A n c) l) (hf : DepOk l f) :
    Calls Tryz.prog 55 #[.slice A n c] w fun e w' => e = .returned (.int .i64 (nextV l f)) ∧ Below w.heap.size w w' := by
  have HC := treeCheck_any l f A n c w B hB h hf
  obtain ⟨V, hV⟩ : ∃ V, V = nextV l f := ⟨_, rfl⟩
  rw [← hV]
  unfold nextV at hV
  have HP : Hid (baseE l f = 0 → ∀ W, Below w.heap.size w W → Calls Tryz.prog 106 #[.slice A n c] W _) := fun h0 W hW => by
    have G := good_of h0 hf
    obtain ⟨r, hr, _⟩ := G.kids.root
    exact nextId_any l A n c W B (h.below (hW.mono hB)) (List.getElem?_eq_some_iff.1 hr).1 G.kids.ids
  obtain ⟨E, hE⟩ : ∃ E, E = baseE l f := ⟨_, rfl⟩
  rw [← hE] at HC hV HP
  have HC := Lib.hid HC
  clear h hf hE
  by_cases h0 : E = 0
  · rw [if_pos h0] at hV
    have HP' := Lib.hid (HP.out h0)
    subst h0
    have HV := Lib.hid hV
    clear hV
    go_enter Tryz.func55, Tryz.ntmps55
    go_wp2_with fail
    refine HC.out.mono ?_
    rintro e w1 ⟨rfl, hb1⟩
    have HB1 := Lib.hid hb1
    have HX := Lib.hid (HP'.out w1 hb1)
    clear hb1
    go_wp2_with fail
    refine HX.out.mono ?_
    rintro e w2 ⟨rfl, rfl⟩
    go_wp2_with fail
    go_ret
    exact ⟨by rw [HV.out]; rfl, HB1.out⟩
  · rw [if_neg h0] at hV
    have h0' : (E != 0) = true := by simpa using h0
    subst hV
    clear HP h0
    go_enter Tryz.func55, Tryz.ntmps55
    go_wp2_with fail
    refine HC.out.mono ?_
    rintro e w1 ⟨rfl, hb1⟩
    have HB1 := Lib.hid hb1
    clear hb1
    go_wp2_with fail
    go_ret
    exact ⟨rfl, HB1.out⟩
/-- the base of the root alone in a row -/
theorem empty_row (w : World) : RB (w.alloc (.cells #[.int .i64 0, .int .i64 0, .slice none 0 0, .string ⟨#[]⟩, .slice none 0 0] 38)) (w.heap.size + 1) (.slice (some ⟨w.heap.size, 0, none⟩) 1 1) [zB] :=
  ⟨some ⟨w.heap.size, 0, none⟩, 1, 1, [(zB, .slice none 0 0, .slice none 0 0)], rfl, rfl, rfl, ⟨Nat.le_refl _, by omega⟩, Reads.blk (Blk.new w 38 _) rfl, fun x hx => by
    obtain rfl : x = (zB, Value.slice none 0 0, Value.slice none 0 0) := by simpa using hx
    exact ⟨(RInX.nil w (fun _ => True)).imp fun _ h => by
      obtain ⟨n, c, h⟩ := h
      exact ⟨n, c, h.1, h.2.1, h.2.2.1, ⟨h.2.2.2.1.1, fun hn => absurd hn (by rw [h.2.1]; simp)⟩, h.2.2.2.2⟩, ⟨none, 0, 0, [], rfl, rfl, rfl, ⟨Nat.le_refl _, by omega⟩, ⟨rfl, fun h => absurd h (by omega)⟩, fun x hx => by cases hx⟩⟩⟩
set_option maxHeartbeats 400000 in
theorem empty_any (w : World) :
    Calls Tryz.prog 56 #[] w fun e w' => e = .returned (.slice (some ⟨w.heap.size, 0, none⟩) 1 1) ∧ w' = w.alloc (.cells #[.int .i64 0, .int .i64 0, .slice none 0 0, .string ⟨#[]⟩, .slice none 0 0] 38) := by
  go_enter Tryz.func56, Tryz.ntmps56
  go_wp2_with fail
  go_ret
  exact ⟨rfl, rfl⟩
end Go.Proofs.YtmkicfjcgbfaaaaGreat
namespace Go.Proofs.YtmkicfjcgbfaaaaGreat
open Go.RowKit Go.Shelf

attribute [local go_sem] Oper.semAt_some

/-- a number that is a block's id -/
abbrev IdOf (l : List Bl) := { x : Int // ∃ b ∈ l, b.id = x }
def encB {l : List Bl} (x : IdOf l × Nat) : Array Value := #[.int .i64 (x.2 : Int), .int .i64 x.1.1]
/-- what has come when the next place is j - 1 -/
def come {l : List Bl} (L : List (IdOf l)) (j : Nat) : List (IdOf l × Nat) := (L.zipIdx.drop j).reverse
theorem come_end {l : List Bl} (L : List (IdOf l)) : come L L.length = [] := by
  unfold come
  rw [List.drop_of_length_le (by rw [List.length_zipIdx]; exact Nat.le_refl _)]; rfl
theorem come_step {l : List Bl} {L : List (IdOf l)} {j : Nat} {x : IdOf l} (h : L[j]? = some x) : come L j = come L (j + 1) ++ [(x, j)] := by
  unfold come
  have hl := (List.getElem?_eq_some_iff.1 h).1
  have hz : j < L.zipIdx.length := by rw [List.length_zipIdx]; exact hl
  rw [List.drop_eq_getElem_cons hz, List.reverse_cons]
  congr 2
  have := (List.getElem?_eq_some_iff.1 h).2
  rw [List.getElem_zipIdx, this]; simp
theorem come_len {l : List Bl} (L : List (IdOf l)) (j : Nat) : (come L j).length = L.length - j := by
  unfold come
  rw [List.length_reverse, List.length_drop, List.length_zipIdx]
theorem come_ids {l : List Bl} (L : List (IdOf l)) : (come L 0).map Prod.fst = L.reverse := by
  unfold come
  rw [List.drop_zero, List.map_reverse, List.zipIdx_map_fst]
/-- two blocks are kept, and the heap does not shrink -/
structure K2 (a b : Nat) (W W' : World) : Prop where
  size : W.heap.size ≤ W'.heap.size
  fst : W'.heap[a]? = W.heap[a]?
  snd : W'.heap[b]? = W.heap[b]?
theorem K2.trans {a b : Nat} {A B C : World} (h : K2 a b A B) (k : K2 a b B C) : K2 a b A C := ⟨Nat.le_trans h.size k.size, k.fst.trans h.fst, k.snd.trans h.snd⟩
theorem K2.of_below {a b B : Nat} {W W' : World} (h : Below B W W') (ha : a < B) (hb : b < B) : K2 a b W W' := ⟨h.size, h.block a ha, h.block b hb⟩
theorem K2.put {a b : Nat} {w : World} (ha : a < w.heap.size) (hb : b < w.heap.size) (W : World) (l : Nat) (o o' : Obj) (hl : w.heap.size ≤ l) (_ : W.heap[l]? = some o) (_ : o.isCells = false) (_ : o.isWalk = false) : K2 a b W (W.putObj l o') :=
  ⟨by simp, World.putObj_heap_other (by omega), World.putObj_heap_other (by omega)⟩
theorem K2.cell1 {a b : Nat} {W W' : World} (h : K2 a b W W') (i : Nat) : W'.cell? ⟨a, i, none⟩ = W.cell? ⟨a, i, none⟩ := World.cell?_of_block (a := ⟨a, i, none⟩) h.fst
theorem K2.cell2 {a b : Nat} {W W' : World} (h : K2 a b W W') (i : Nat) : W'.cell? ⟨b, i, none⟩ = W.cell? ⟨b, i, none⟩ := World.cell?_of_block (a := ⟨b, i, none⟩) h.snd

set_option maxRecDepth 100000 in
set_option maxHeartbeats 4000000 in
theorem back1_in {bl : List Bl} (n : Nat) (hn : 1 ≤ n) (l Bs b off len cap : Nat) (zs : List (IdOf bl)) (hlen : len = zs.length) (hreach : len ≤ 100000) (J Jx : List (IdOf bl × Nat) → World → Prop)
    (hY : ∀ pre x W, J pre W → pre.length < len → YieldAt Fence.wide (n - 1) Tryz.prog l (encB x) W fun e W' =>
      (e = .returned (.bool true) ∧ J (pre ++ [x]) W' ∧ K2 Bs b W W') ∨ (e = .returned (.bool false) ∧ Jx (pre ++ [x]) W'))
    (W : World) (hBs : W.cell? ⟨Bs, 0, none⟩ = some (.slice (some ⟨b, off, none⟩) len cap)) (hc : ∀ j x, zs[j]? = some x → W.cell? ⟨b, off + j, none⟩ = some (.int .i64 x.1)) (h0 : J [] W) :
    CallsIn Fence.wide n Tryz.prog 168 #[.func (.yield l) #[] #[], .pointer (some ⟨Bs, 0, none⟩)] W fun e W' => (∃ v, e = .returned v) ∧
      ((∃ ys, ys = come zs 0 ∧ J ys W') ∨ (∃ pre, True ∧ Jx pre W')) := by
  have HC := Lib.hid hc
  have HL := Lib.hid hlen
  clear hc hlen
  refine callsIn_of_wp Tryz.func168 rfl trivial ?_ rfl
  simp only [Tryz.ntmps168, List.size_toArray, List.length_cons, List.length_nil, Nat.reduceAdd, Nat.reduceSub, Array.replicate_succ, Array.replicate_zero, List.push_toArray, List.append_toArray, List.nil_append, List.cons_append]
  gi_wp2
  gi_loopw [3] (fun p wr => ∃ (j : Nat) (t : Int), p = .int .i64 t ∧ t + 1 = (j : Int) ∧ j ≤ len ∧ J (come zs j) wr ∧ Hid (K2 Bs b W wr))
    (fun p _ => (intOf p + 1).toNat)
  case atStart => exact ⟨len, (len : Int) - 1, by go_num, by omega, Nat.le_refl _, by rw [HL.out, come_end]; exact h0, ⟨Nat.le_refl _, rfl, rfl⟩⟩
  case round =>
    obtain ⟨j, t, rfl, htj, hj, hJ, hk⟩ := hrel
    have hBs' := (hk.out.cell1 0).trans hBs
    rcases j with _ | j
    · obtain rfl : t = -1 := by omega
      gi_wp2
      go_end0
      exact ⟨⟨_, rfl⟩, .inl ⟨_, rfl, hJ⟩⟩
    · obtain rfl : t = (j : Int) := by omega
      obtain ⟨x, hx⟩ : ∃ x, zs[j]? = some x := ⟨_, List.getElem?_eq_getElem (by have := HL.out; omega)⟩
      have hcx := (hk.out.cell2 (off + j)).trans (HC.out j x hx)
      have j0 : (0 : Int) ≤ (j : Int) := by omega
      have j1 : (j : Int) < (len : Int) := by omega
      have hln : (come zs (j + 1)).length < len := by rw [come_len]; have := HL.out; omega
      have HX := Lib.hid hx
      clear htj hx
      obtain ⟨fn, tmps, assign, body, hy, hR⟩ := hY (come zs (j + 1)) (x, j) wr hJ hln
      dsimp only [encB] at hy
      gi_wp2
      refine hR.mono ?_
      rintro e W3 (⟨rfl, hJ3, hk3⟩ | ⟨rfl, hJx3⟩)
      · have HK3 : Hid (K2 Bs b W W3) := hk.out.trans hk3
        rw [← come_step HX.out] at hJ3
        gi_wp2
        go_roundw
        case rel => exact ⟨j, (j : Int) - 1, by go_num, by omega, by omega, hJ3, HK3⟩
        case measure => simp [intOf]
      · gi_wp2
        refine bodyPost_ret (results_none rfl _ _ _) rfl ?_
        exact ⟨⟨_, rfl⟩, .inr ⟨_, trivial, hJx3⟩⟩
theorem back_stops {bl : List Bl} (n : Nat) (hn : 1 ≤ n) (Bs b off len cap : Nat) (zs : List (IdOf bl)) (hlen : len = zs.length) (hreach : len ≤ 100000) (w : World) (hBs : Bs < w.heap.size) (hb : b < w.heap.size) (hs : w.cell? ⟨Bs, 0, none⟩ = some (.slice (some ⟨b, off, none⟩) len cap)) (hc : ∀ j x, zs[j]? = some x → w.cell? ⟨b, off + j, none⟩ = some (.int .i64 x.1)) :
    SeqStopsK Fence.wide n Tryz.prog 168 #[.pointer (some ⟨Bs, 0, none⟩)] encB (K2 Bs b) (fun ys => ys = come zs 0) (fun _ => True) len w := fun l J Jx W hW _ _ hY h0 =>
  back1_in n hn l Bs b off len cap zs hlen hreach J Jx hY W ((hW.cell (p := ⟨Bs, 0, none⟩) hBs).trans hs) (fun j x hx => (hW.cell (p := ⟨b, off + j, none⟩) hb).trans (hc j x hx)) h0
set_option maxHeartbeats 1000000 in
/-- slices.Backward at ints -/
theorem back_any (A : Option Addr) (n c : Nat) (w : World) :
    Calls Tryz.prog 146 #[.slice A n c] w fun e w' => e = .returned (.func (.func 168) #[] #[.pointer (some ⟨w.heap.size, 0, none⟩)]) ∧ w' = w.alloc (.cells #[.slice A n c] 34) := by
  go_enter Tryz.func146, Tryz.ntmps146
  go_wp2_with fail
  go_ret
  exact ⟨rfl, rfl⟩
end Go.Proofs.YtmkicfjcgbfaaaaGreat
namespace Go.Proofs.YtmkicfjcgbfaaaaGreat
open Go.RowKit

/-- where a block is among its parent's -/
structure At (l : List Bl) (id : Int) (p q i : Nat) (x y : Bl) : Prop where
  hx : l[p]? = some x
  hxi : x.id = id
  hy : l[q]? = some y
  hyi : y.id = x.parent
  hk : y.kids[i]? = some id
  ix : ixOf y.kids id = i
  p0 : 0 < p
theorem Good.mv {l : List Bl} {f : Int → Option Int} (G : Good l f) {id : Int} (h : 0 < posOf l id) : ∃ p q i x y, At l id p q i x y := by
  obtain ⟨p, x, d, hp, hx, hxi, _⟩ := G.blk_at (Int.le_of_lt h)
  have h0 : x.id ≠ 0 := by
    rw [hxi]
    intro e
    obtain ⟨r, hr, hr0, _⟩ := G.kids.root
    have hz := posOf_of G.kids.rise hr
    rw [hr0] at hz
    rw [e] at h
    omega
  obtain ⟨q, y, hy, hyi, hin⟩ := G.par_at (List.mem_of_getElem? hx) h0
  rw [hxi] at hin
  rcases ixOf_spec y.kids id with ⟨_, h2⟩ | ⟨i, h1, h2, _⟩
  · exact absurd hin h2
  · exact ⟨p, q, i, x, y, hx, hxi, hy, hyi, h2, h1, by omega⟩
section
variable {l : List Bl} {f : Int → Option Int} {id : Int} {p q i : Nat} {x y : Bl}
theorem At.pp (h : At l id p q i x y) (G : Good l f) : posOf l id = (p : Int) := by rw [← h.hxi]; exact posOf_of G.kids.rise h.hx
theorem At.qq (h : At l id p q i x y) (G : Good l f) : posOf l x.parent = (q : Int) := by rw [← h.hyi]; exact posOf_of G.kids.rise h.hy
theorem Good.i64 (G : Good l f) (hx : l[p]? = some x) : I64 x.id := by have := G.kids.ids x (List.mem_of_getElem? hx); unfold I64; omega
theorem At.idI (h : At l id p q i x y) (G : Good l f) : I64 id := by rw [← h.hxi]; exact G.i64 h.hx
theorem At.parI (h : At l id p q i x y) (G : Good l f) : I64 x.parent := by rw [← h.hyi]; exact G.i64 h.hy
theorem cin_good (G : Good l f) : cinE l f id = if posOf l id ≤ 0 then 7 else 0 := by
  unfold cinE ciE
  rw [G.clean]
  simp only [ne_eq, not_true_eq_false, if_false]
  by_cases h1 : posOf l id < 0
  · rw [if_pos h1, if_pos (by omega), if_pos (by omega)]
  · rw [if_neg h1, if_neg (by simp)]
    by_cases h2 : id = 0
    · rw [if_neg (by simpa using h2), if_pos ((G.pos_root (by omega)).2 h2)]
    · rw [if_pos h2, if_neg (fun h => h2 ((G.pos_root (by omega)).1 h))]
end
end Go.Proofs.YtmkicfjcgbfaaaaGreat
