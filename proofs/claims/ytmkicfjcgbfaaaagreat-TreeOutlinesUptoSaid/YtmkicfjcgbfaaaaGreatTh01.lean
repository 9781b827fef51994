/-
  DERIVED. The contract of the iterator that slices.Backward hands back, over ids of a base. Conditions: sizes.
  The walks of tree.below and the reference's OrderOf. Conditions: sizes; a base without error.
  The walks of tree.Depth, Path, Below, PageOf, Pages, Order, NextId, Empty and the reference's NextOf. Conditions: sizes.
  The walk of tree.Inverse. Conditions: sizes.
  The walks of tree.among, checked, Indent, Outdent. Conditions: sizes.
  The walks of tree.Pages, Order, NextId, Empty and the reference's NextOf. Conditions: sizes.
  The same properties, blocks and bases: plain law, the walks of tree.Same and its closures. Conditions: sizes.
  By an AI agent.
-/
import Derived.RangeFuncNested
import Derived.RangeFuncBound
import Derived.RangeFuncCalls
import Derived.RangeFuncLeaves
import Derived.RangeFuncBox
import Derived.Shelf.Abstract
import Derived.Shelf.RegionOpen
import Derived.WalkKit
import Derived.OwnWalkIn
import Derived.TacticsInMore
import Derived.LoopNIn
import Derived.LoopIn
import Derived.Test.YtmkicfjcgbfaaaaGreatTg26
import Derived.Test.YtmkicfjcgbfaaaaGreatTg17
import Derived.Test.YtmkicfjcgbfaaaaGreatTg11
import Derived.Test.YtmkicfjcgbfaaaaGreatTg05
import Derived.Test.YtmkicfjcgbfaaaaGreatTg19
import Derived.Test.YtmkicfjcgbfaaaaGreatTg31
import Derived.Test.YtmkicfjcgbfaaaaGreatTg36
import Derived.Test.YtmkicfjcgbfaaaaGreatTg27
import Derived.Test.YtmkicfjcgbfaaaaGreatTg37
import Derived.Test.YtmkicfjcgbfaaaaGreatTg09
import Derived.Test.YtmkicfjcgbfaaaaGreatTg10
import Derived.Test.YtmkicfjcgbfaaaaGreatTg04
namespace Go.Proofs.YtmkicfjcgbfaaaaGreat
open Go.RowKit Go.Shelf

attribute [local go_sem] Oper.semAt_some

/-- two blocks are kept, and the heap does not shrink -/
structure K2 (a b : Nat) (W W' : World) : Prop where
  size : W.heap.size ≤ W'.heap.size
  fst : W'.heap[a]? = W.heap[a]?
  snd : W'.heap[b]? = W.heap[b]?
theorem K2.trans {a b : Nat} {A B C : World} (h : K2 a b A B) (k : K2 a b B C) : K2 a b A C := ⟨Nat.le_trans h.size k.size, k.fst.trans h.fst, k.snd.trans h.snd⟩
theorem K2.put {a b : Nat} {w : World} (ha : a < w.heap.size) (hb : b < w.heap.size) (W : World) (l : Nat) (o o' : Obj) (hl : w.heap.size ≤ l) (_ : W.heap[l]? = some o) (_ : o.isCells = false) (_ : o.isWalk = false) : K2 a b W (W.putObj l o') :=
  ⟨by simp, World.putObj_heap_other (by omega), World.putObj_heap_other (by omega)⟩
end Go.Proofs.YtmkicfjcgbfaaaaGreat
namespace Go.Proofs.YtmkicfjcgbfaaaaGreat
open Go.RowKit

set_option maxHeartbeats 4000000 in
theorem below_walk (l : List Bl) (K : Kids l) (A : Option Addr) (n c : Nat) (id : Int) (d m : Nat) (hd : Dp l id d) (w : World) (B : Nat) (hB : B ≤ w.heap.size) (h : RB w B (.slice A n c) l)
    (IH : ∀ (k : Int) (W : World), Dp l k (d + 1) → Below w.heap.size w W → Calls Tryz.prog 64 #[.slice A n c, .int .i64 k] W (IntsR (ord l m k) W)) :
    Calls Tryz.prog 64 #[.slice A n c, .int .i64 id] w (IntsR (ord l (m + 1) id) w) := by
  obtain ⟨i0, hi, hq0, hq1, hq2⟩ := info_parts int_info
  obtain ⟨p, bx, hp, hlp, hbi⟩ := hd.blk K
  have hbx := List.mem_of_getElem? hlp
  have HO : Hid (ord l (m + 1) id = bx.kids.flatMap fun k => k :: ord l m k) := ord_at hp hlp m
  have HS : Hid ((bx.kids.flatMap fun k => k :: ord l m k).length ≤ 2000) := by
    show _ ≤ _
    rw [← HO.out]
    exact Nat.le_trans (ord_short K _ hd) K.short
  have H64 : Hid (∀ x ∈ bx.kids.flatMap fun k => k :: ord l m k, I64 x) := by
    show ∀ x ∈ _, _
    rw [← HO.out]
    exact ord_i64 K _ hd
  have HIX := index_any l A n c id w B hB h K.rise K.ids (by rw [← hbi]; exact (by have := K.ids bx hbx; unfold I64; omega))
  rw [hp] at HIX
  have HIX := Lib.hid HIX
  have HN := Lib.hid h.len
  have hpn : p < n := by have := (List.getElem?_eq_some_iff.1 hlp).1; have := h.len.1; omega
  obtain ⟨b, off, Ak, nk, ck, Ap, np, cp, rfl, hbb, g0, g1, g2, g3, g4, hK, _⟩ := h.at_ hlp
  have HK := Lib.hid hK
  have HKL := Lib.hid hK.len
  have HKD : Hid (∀ k ∈ bx.kids, Dp l k (d + 1)) := fun k hk => .step bx d k (hbi ▸ hd) hbx hk
  have HI := Lib.hid IH
  have y0 : (0 : Int) ≤ (p : Int) := by omega
  have y1 : (p : Int) < (n : Int) := by omega
  clear h hd hp hlp hbi hbx hK IH g0 g1 g3 g4
  go_enter Tryz.func64, Tryz.ntmps64
  go_wp2_with fail
  refine HIX.out.mono ?_
  rintro e w1 ⟨rfl, hb1⟩
  have HB1 := Lib.hid hb1
  have g2 := (hb1.cell (p := ⟨b, off + p * 5 + 2, none⟩) (by show b < _; omega)).trans g2
  clear hb1
  go_wp2_with fail
  go_loopg [5, 16] nk (fun gg s5 s16 wr => ∃ (j t : Nat) (v : Value), j + gg = nk ∧ v = s5 ∧ s16 = .int .i64 (j : Int) ∧ Hid (t = ((bx.kids.take j).flatMap fun k => k :: ord l m k).length) ∧ Hid (wr.ownsRow w.heap.size 3 1 v t (((bx.kids.take j).flatMap fun k => k :: ord l m k).map (.int .i64))) ∧ Hid (Below w.heap.size w wr))
  case atStart => exact ⟨0, 0, _, by omega, rfl, rfl, rfl, World.ownsRow_nil _ _ _ _, HB1⟩
  case round =>
    obtain ⟨j, t, v, hjg, rfl, rfl, ht, hown, hbel⟩ := hrel
    obtain ⟨W1, rfl⟩ : ∃ W1, W1 = wr := ⟨_, rfl⟩
    have hzr : w.heap.size ≤ W1.heap.size := hbel.out.size
    have hbk : nk ≤ ck ∧ nk * 8 ≤ 140737488351232 := HKL.out.2
    have hts : t ≤ 2000 := by
      have := flat_take_le (fun k => k :: ord l m k) bx.kids j
      have := HS.out
      have := ht.out
      omega
    by_cases hj : j < nk
    case neg =>
      obtain rfl : nk = j := by omega
      have HF : Hid (IntsR (ord l (m + 1) id) w (.returned v) W1) := by
        show IntsR _ _ _ _
        have e : bx.kids.take nk = bx.kids := List.take_of_length_le (by rw [← HKL.out.1]; exact Nat.le_refl _)
        have h1 := hown.out
        have h2 := ht.out
        rw [e] at h1 h2
        rw [HO.out]
        exact IntsR.of_own h1 h2 (by omega) H64.out hbel.out
      go_wp2_with fail
      go_ret
      exact HF.out
    obtain ⟨k, hkk⟩ : ∃ k, bx.kids[j]? = some k := ⟨_, List.getElem?_eq_getElem (by have := HKL.out.1; omega)⟩
    obtain ⟨bk, ok, rfl, hbk2, q0⟩ := HK.out.at_ hkk
    have q0 := (hbel.out.cell (p := ⟨bk, ok + j, none⟩) (by show bk < _; omega)).trans q0
    have z0 : (0 : Int) ≤ (j : Int) := by omega
    have z1 : (j : Int) < (nk : Int) := by omega
    have HT : Hid ((bx.kids.take (j + 1)).flatMap (fun k => k :: ord l m k) = (bx.kids.take j).flatMap (fun k => k :: ord l m k) ++ (k :: ord l m k)) := by
      show _ = _
      obtain ⟨hk, e⟩ := List.getElem?_eq_some_iff.1 hkk
      rw [List.take_succ_eq_append_getElem hk, e, List.flatMap_append]
      simp
    have HL2 : Hid (t + 1 + (ord l m k).length ≤ 2000) := by
      show _ ≤ _
      have h1 := flat_take_le (fun k => k :: ord l m k) bx.kids (j + 1)
      rw [HT.out, List.length_append, List.length_cons] at h1
      have := HS.out
      have := ht.out
      omega
    have HX := Lib.hid fun W hW => HI.out k W (HKD.out k (List.mem_of_getElem? hkk)) hW
    clear hkk
    have hb1 : t + 1 ≤ maxLen := by unfold maxLen; omega
    have hb2 : (t + 1) * 8 ≤ 140737488355328 := by omega
    have HR1 : Hid (Reads (W1.alloc (.cells #[.int .i64 k] 3)) (W1.heap.size + 1) 1 (some ⟨W1.heap.size, 0, none⟩) 1 [.int .i64 k]) := Reads.blk (Blk.new _ _ _) rfl
    have hbase : w.heap.size ≤ (W1.alloc (.cells #[.int .i64 k] 3)).heap.size := by simp; omega
    have hone : ∀ u ∈ [Value.int .i64 k], u.oneCell' = true := ints_one [k]
    have HOW := Lib.hid (hown.out.alloc (.cells #[.int .i64 k] 3))
    have HBA := Lib.hid (hbel.out.alloc hzr (.cells #[.int .i64 k] 3))
    have HVB : Hid (∀ g, v.ownBlock = some g → w.heap.size ≤ g) := fun g hg => (own_block_lt hown.out g hg).1
    go_wp2_with (at_builtin; refine wpList_append_any _ rfl _ _ 34 rfl w.heap.size 3 i0 (.int .i64 0) 1 8 Tryz.underlying34 hi hq0 hq1 hq2 rfl (by decide) v t _ rfl HOW.out _ _ 1 1 _ rfl HR1.out hone hb1 hb2 hbase ?_)
    intro v2 w2 hown2 hg2 hat2
    have HO2 := Lib.hid hown2
    have HB2 : Hid (Below w.heap.size w w2) := HBA.out.grown hg2 (Nat.le_trans hzr (by simp)) (fun g hg => HVB.out g hg)
    have HX2 := Lib.hid (HX.out w2 HB2.out)
    clear hown2 hg2 hat2
    go_wp2_with fail
    refine HX2.out.mono ?_
    rintro e w3 ⟨⟨A3, n3, c3, rfl, h30, h31, h32, h33⟩, hb3⟩
    obtain ⟨hr3, hn3⟩ := h31.reads1 (B := w3.heap.size) (fun b hb => hb.2)
    have HO3 := Lib.hid (own_below HO2.out hb3)
    have HB3 : Hid (Below w.heap.size w w3) := HB2.out.trans (hb3.mono HB2.out.size)
    have HR3 := Lib.hid hr3
    have HN3 := Lib.hid hn3
    have hc1 : t + 1 + n3 ≤ maxLen := by have := HL2.out; unfold maxLen; omega
    have hc2 : (t + 1 + n3) * 8 ≤ 140737488355328 := by have := HL2.out; omega
    have hbase3 : w.heap.size ≤ w3.heap.size := HB3.out.size
    have hone3 := ints_one (ord l m k)
    have HVB2 : Hid (∀ g, v2.ownBlock = some g → w.heap.size ≤ g) := fun g hg => (own_block_lt HO2.out g hg).1
    clear h30 h31 h32 h33 hb3 hr3 hn3 hb1 hb2 hbase hone
    go_wp2_with (at_builtin; refine wpList_append_any _ rfl _ _ 34 rfl w.heap.size 3 i0 (.int .i64 0) 1 8 Tryz.underlying34 hi hq0 hq1 hq2 rfl (by decide) v2 (t + 1) _ rfl HO3.out _ A3 n3 c3 _ rfl HR3.out hone3 hc1 hc2 hbase3 ?_)
    intro v4 w4 hown4 hg4 hat4
    have HO4 : Hid (w4.ownsRow w.heap.size 3 1 v4 (t + 1 + n3) (((bx.kids.take (j + 1)).flatMap fun k => k :: ord l m k).map (.int .i64))) := by
      show w4.ownsRow _ _ _ _ _ _
      rw [HT.out, List.map_append, List.map_cons]
      exact hown4
    have HT4 : Hid (t + 1 + n3 = ((bx.kids.take (j + 1)).flatMap fun k => k :: ord l m k).length) := by
      show _ = _
      rw [HT.out, List.length_append, List.length_cons, ← ht.out, HN3.out]; omega
    have HB4 : Hid (Below w.heap.size w w4) := HB3.out.grown hg4 hbase3 (fun g hg => HVB2.out g hg)
    clear hown4 hg4 hat4
    go_wp2_with fail
    go_roundg (nk - (j + 1))
    case measure => omega
    case rel => exact ⟨j + 1, t + 1 + n3, v4, by omega, rfl, by go_num, HT4, HO4, HB4⟩
/-- tree.below -/
theorem treeBelow_any (l : List Bl) (K : Kids l) (hlow : ∀ id d, Dp l id d → d ≤ 40) (A : Option Addr) (n c : Nat) (B : Nat) : ∀ (m : Nat) (id : Int) (d : Nat) (w : World), Dp l id d → d + m = 41 → B ≤ w.heap.size → RB w B (.slice A n c) l →
    Calls Tryz.prog 64 #[.slice A n c, .int .i64 id] w (IntsR (ord l m id) w)
  | 0, id, d, w, hd, hm, hB, h => by have := hlow id d hd; omega
  | m + 1, id, d, w, hd, hm, hB, h => below_walk l K A n c id d m hd w B hB h fun k W hk hW => treeBelow_any l K hlow A n c B m k (d + 1) W hk (by omega) (Nat.le_trans hB hW.size) (h.below (hW.mono hB))
set_option maxHeartbeats 4000000 in
theorem order_walk (l : List Bl) (K : Kids l) (A : Option Addr) (n c : Nat) (id : Int) (d m : Nat) (hd : Dp l id d) (w : World) (B : Nat) (hB : B ≤ w.heap.size) (h : RB w B (.slice A n c) l)
    (IH : ∀ (k : Int) (W : World), Dp l k (d + 1) → Below w.heap.size w W → Calls Tryz.prog 114 #[.slice A n c, .int .i64 k] W (IntsR (ord l m k) W)) :
    Calls Tryz.prog 114 #[.slice A n c, .int .i64 id] w (IntsR (ord l (m + 1) id) w) := by
  obtain ⟨i0, hi, hq0, hq1, hq2⟩ := info_parts int_info
  obtain ⟨p, bx, hp, hlp, hbi⟩ := hd.blk K
  have hbx := List.mem_of_getElem? hlp
  have HO : Hid (ord l (m + 1) id = bx.kids.flatMap fun k => k :: ord l m k) := ord_at hp hlp m
  have HS : Hid ((bx.kids.flatMap fun k => k :: ord l m k).length ≤ 2000) := by
    show _ ≤ _
    rw [← HO.out]
    exact Nat.le_trans (ord_short K _ hd) K.short
  have H64 : Hid (∀ x ∈ bx.kids.flatMap fun k => k :: ord l m k, I64 x) := by
    show ∀ x ∈ _, _
    rw [← HO.out]
    exact ord_i64 K _ hd
  have HIX := at_any l A n c id w B hB h
  rw [hp] at HIX
  have HIX := Lib.hid HIX
  have HN := Lib.hid h.len
  have hpn : p < n := by have := (List.getElem?_eq_some_iff.1 hlp).1; have := h.len.1; omega
  obtain ⟨b, off, Ak, nk, ck, Ap, np, cp, rfl, hbb, g0, g1, g2, g3, g4, hK, _⟩ := h.at_ hlp
  have HK := Lib.hid hK
  have HKL := Lib.hid hK.len
  have HKD : Hid (∀ k ∈ bx.kids, Dp l k (d + 1)) := fun k hk => .step bx d k (hbi ▸ hd) hbx hk
  have HI := Lib.hid IH
  have y0 : (0 : Int) ≤ (p : Int) := by omega
  have y1 : (p : Int) < (n : Int) := by omega
  clear h hd hp hlp hbi hbx hK IH g0 g1 g3 g4
  go_enter Tryz.func114, Tryz.ntmps114
  go_wp2_with fail
  refine HIX.out.mono ?_
  rintro e w1 ⟨rfl, hb1⟩
  have HB1 := Lib.hid hb1
  have g2 := (hb1.cell (p := ⟨b, off + p * 5 + 2, none⟩) (by show b < _; omega)).trans g2
  clear hb1
  go_wp2_with fail
  go_loopg [5, 16] nk (fun gg s5 s16 wr => ∃ (j t : Nat) (v : Value), j + gg = nk ∧ v = s5 ∧ s16 = .int .i64 (j : Int) ∧ Hid (t = ((bx.kids.take j).flatMap fun k => k :: ord l m k).length) ∧ Hid (wr.ownsRow w.heap.size 3 1 v t (((bx.kids.take j).flatMap fun k => k :: ord l m k).map (.int .i64))) ∧ Hid (Below w.heap.size w wr))
  case atStart => exact ⟨0, 0, _, by omega, rfl, rfl, rfl, World.ownsRow_nil _ _ _ _, HB1⟩
  case round =>
    obtain ⟨j, t, v, hjg, rfl, rfl, ht, hown, hbel⟩ := hrel
    obtain ⟨W1, rfl⟩ : ∃ W1, W1 = wr := ⟨_, rfl⟩
    have hzr : w.heap.size ≤ W1.heap.size := hbel.out.size
    have hbk : nk ≤ ck ∧ nk * 8 ≤ 140737488351232 := HKL.out.2
    have hts : t ≤ 2000 := by
      have := flat_take_le (fun k => k :: ord l m k) bx.kids j
      have := HS.out
      have := ht.out
      omega
    by_cases hj : j < nk
    case neg =>
      obtain rfl : nk = j := by omega
      have HF : Hid (IntsR (ord l (m + 1) id) w (.returned v) W1) := by
        show IntsR _ _ _ _
        have e : bx.kids.take nk = bx.kids := List.take_of_length_le (by rw [← HKL.out.1]; exact Nat.le_refl _)
        have h1 := hown.out
        have h2 := ht.out
        rw [e] at h1 h2
        rw [HO.out]
        exact IntsR.of_own h1 h2 (by omega) H64.out hbel.out
      go_wp2_with fail
      go_ret
      exact HF.out
    obtain ⟨k, hkk⟩ : ∃ k, bx.kids[j]? = some k := ⟨_, List.getElem?_eq_getElem (by have := HKL.out.1; omega)⟩
    obtain ⟨bk, ok, rfl, hbk2, q0⟩ := HK.out.at_ hkk
    have q0 := (hbel.out.cell (p := ⟨bk, ok + j, none⟩) (by show bk < _; omega)).trans q0
    have z0 : (0 : Int) ≤ (j : Int) := by omega
    have z1 : (j : Int) < (nk : Int) := by omega
    have HT : Hid ((bx.kids.take (j + 1)).flatMap (fun k => k :: ord l m k) = (bx.kids.take j).flatMap (fun k => k :: ord l m k) ++ (k :: ord l m k)) := by
      show _ = _
      obtain ⟨hk, e⟩ := List.getElem?_eq_some_iff.1 hkk
      rw [List.take_succ_eq_append_getElem hk, e, List.flatMap_append]
      simp
    have HL2 : Hid (t + 1 + (ord l m k).length ≤ 2000) := by
      show _ ≤ _
      have h1 := flat_take_le (fun k => k :: ord l m k) bx.kids (j + 1)
      rw [HT.out, List.length_append, List.length_cons] at h1
      have := HS.out
      have := ht.out
      omega
    have HX := Lib.hid fun W hW => HI.out k W (HKD.out k (List.mem_of_getElem? hkk)) hW
    clear hkk
    have hb1 : t + 1 ≤ maxLen := by unfold maxLen; omega
    have hb2 : (t + 1) * 8 ≤ 140737488355328 := by omega
    have HR1 : Hid (Reads (W1.alloc (.cells #[.int .i64 k] 3)) (W1.heap.size + 1) 1 (some ⟨W1.heap.size, 0, none⟩) 1 [.int .i64 k]) := Reads.blk (Blk.new _ _ _) rfl
    have hbase : w.heap.size ≤ (W1.alloc (.cells #[.int .i64 k] 3)).heap.size := by simp; omega
    have hone : ∀ u ∈ [Value.int .i64 k], u.oneCell' = true := ints_one [k]
    have HOW := Lib.hid (hown.out.alloc (.cells #[.int .i64 k] 3))
    have HBA := Lib.hid (hbel.out.alloc hzr (.cells #[.int .i64 k] 3))
    have HVB : Hid (∀ g, v.ownBlock = some g → w.heap.size ≤ g) := fun g hg => (own_block_lt hown.out g hg).1
    go_wp2_with (at_builtin; refine wpList_append_any _ rfl _ _ 34 rfl w.heap.size 3 i0 (.int .i64 0) 1 8 Tryz.underlying34 hi hq0 hq1 hq2 rfl (by decide) v t _ rfl HOW.out _ _ 1 1 _ rfl HR1.out hone hb1 hb2 hbase ?_)
    intro v2 w2 hown2 hg2 hat2
    have HO2 := Lib.hid hown2
    have HB2 : Hid (Below w.heap.size w w2) := HBA.out.grown hg2 (Nat.le_trans hzr (by simp)) (fun g hg => HVB.out g hg)
    have HX2 := Lib.hid (HX.out w2 HB2.out)
    clear hown2 hg2 hat2
    go_wp2_with fail
    refine HX2.out.mono ?_
    rintro e w3 ⟨⟨A3, n3, c3, rfl, h30, h31, h32, h33⟩, hb3⟩
    obtain ⟨hr3, hn3⟩ := h31.reads1 (B := w3.heap.size) (fun b hb => hb.2)
    have HO3 := Lib.hid (own_below HO2.out hb3)
    have HB3 : Hid (Below w.heap.size w w3) := HB2.out.trans (hb3.mono HB2.out.size)
    have HR3 := Lib.hid hr3
    have HN3 := Lib.hid hn3
    have hc1 : t + 1 + n3 ≤ maxLen := by have := HL2.out; unfold maxLen; omega
    have hc2 : (t + 1 + n3) * 8 ≤ 140737488355328 := by have := HL2.out; omega
    have hbase3 : w.heap.size ≤ w3.heap.size := HB3.out.size
    have hone3 := ints_one (ord l m k)
    have HVB2 : Hid (∀ g, v2.ownBlock = some g → w.heap.size ≤ g) := fun g hg => (own_block_lt HO2.out g hg).1
    clear h30 h31 h32 h33 hb3 hr3 hn3 hb1 hb2 hbase hone
    go_wp2_with (at_builtin; refine wpList_append_any _ rfl _ _ 34 rfl w.heap.size 3 i0 (.int .i64 0) 1 8 Tryz.underlying34 hi hq0 hq1 hq2 rfl (by decide) v2 (t + 1) _ rfl HO3.out _ A3 n3 c3 _ rfl HR3.out hone3 hc1 hc2 hbase3 ?_)
    intro v4 w4 hown4 hg4 hat4
    have HO4 : Hid (w4.ownsRow w.heap.size 3 1 v4 (t + 1 + n3) (((bx.kids.take (j + 1)).flatMap fun k => k :: ord l m k).map (.int .i64))) := by
      show w4.ownsRow _ _ _ _ _ _
      rw [HT.out, List.map_append, List.map_cons]
      exact hown4
    have HT4 : Hid (t + 1 + n3 = ((bx.kids.take (j + 1)).flatMap fun k => k :: ord l m k).length) := by
      show _ = _
      rw [HT.out, List.length_append, List.length_cons, ← ht.out, HN3.out]; omega
    have HB4 : Hid (Below w.heap.size w w4) := HB3.out.grown hg4 hbase3 (fun g hg => HVB2.out g hg)
    clear hown4 hg4 hat4
    go_wp2_with fail
    go_roundg (nk - (j + 1))
    case measure => omega
    case rel => exact ⟨j + 1, t + 1 + n3, v4, by omega, rfl, by go_num, HT4, HO4, HB4⟩
/-- the reference's OrderOf -/
theorem orderOf_any (l : List Bl) (K : Kids l) (hlow : ∀ id d, Dp l id d → d ≤ 40) (A : Option Addr) (n c : Nat) (B : Nat) : ∀ (m : Nat) (id : Int) (d : Nat) (w : World), Dp l id d → d + m = 41 → B ≤ w.heap.size → RB w B (.slice A n c) l →
    Calls Tryz.prog 114 #[.slice A n c, .int .i64 id] w (IntsR (ord l m id) w)
  | 0, id, d, w, hd, hm, hB, h => by have := hlow id d hd; omega
  | m + 1, id, d, w, hd, hm, hB, h => order_walk l K A n c id d m hd w B hB h fun k W hk hW => orderOf_any l K hlow A n c B m k (d + 1) W hk (by omega) (Nat.le_trans hB hW.size) (h.below (hW.mono hB))
end Go.Proofs.YtmkicfjcgbfaaaaGreat
namespace Go.Proofs.YtmkicfjcgbfaaaaGreat
open Go.RowKit

theorem RInX.nil (w : World) (S : Nat → Prop) : RInX w S (.slice none 0 0) [] := ⟨none, 0, 0, rfl, rfl, ⟨Nat.le_refl _, by omega⟩, ⟨rfl, fun h => absurd h (by omega)⟩, fun x hx => by cases hx⟩
theorem RPrX.nil (w : World) (S : Nat → Prop) : RPrX w S (.slice none 0 0) [] := ⟨none, 0, 0, [], rfl, rfl, rfl, ⟨Nat.le_refl _, by omega⟩, ⟨rfl, fun h => absurd h (by omega)⟩, fun x hx => by cases hx⟩

/-- the error of a base, and of a block that must be there -/
def ciE (l : List Bl) (f : Int → Option Int) (id : Int) : Int := if baseE l f ≠ 0 then baseE l f else if posOf l id < 0 then 7 else 0
def dOf (f : Int → Option Int) (id : Int) : Nat := ((f id).getD 0).toNat
section
variable {l : List Bl} {f : Int → Option Int} {id : Int}
theorem Good.low' (G : Good l f) : ∀ id d, Dp l id d → d ≤ 40 := fun _ _ h => G.low h
theorem Good.at_ (G : Good l f) (h : 0 ≤ posOf l id) : Dp l id (dOf f id) ∧ dOf f id ≤ 40 := by
  obtain ⟨_, b, h2, h3⟩ := posOf_lt h
  obtain ⟨d, h4, h5, h6⟩ := G.dp (List.mem_of_getElem? h2)
  rw [h3] at h4 h5
  have : dOf f id = d := by unfold dOf; rw [h4]; rfl
  rw [this]; exact ⟨h5, h6⟩
end

set_option maxHeartbeats 1000000 in
theorem checkId_any (l : List Bl) (f : Int → Option Int) (A : Option Addr) (n c : Nat) (id : Int) (hid : I64 id) (w : World) (B : Nat) (hB : B ≤ w.heap.size) (h : RB w B (.slice A n c) l) (hf : DepOk l f) :
    Calls Tryz.prog 65 #[.slice A n c, .int .i64 id] w fun e w' => e = .returned (.int .i64 (ciE l f id)) ∧ Below w.heap.size w w' := by
  have HC := treeCheck_any l f A n c w B hB h hf
  obtain ⟨V, hV⟩ : ∃ V, V = ciE l f id := ⟨_, rfl⟩
  rw [← hV]
  unfold ciE at hV
  have HI : Hid (baseE l f = 0 → ∀ W, Below w.heap.size w W → Calls Tryz.prog 105 #[.slice A n c, .int .i64 id] W fun e w' => e = .returned (.int .i64 (posOf l id)) ∧ Below W.heap.size W w') := fun h0 W hW => by
    have G := good_of h0 hf
    exact index_any l A n c id W B (Nat.le_trans hB hW.size) (h.below (hW.mono hB)) G.kids.rise G.kids.ids hid
  obtain ⟨E, hE⟩ : ∃ E, E = baseE l f := ⟨_, rfl⟩
  rw [← hE] at HC hV HI
  have HC := Lib.hid HC
  clear h hf hE
  by_cases h0 : E = 0
  · have HI' := Lib.hid (HI.out h0)
    rw [if_neg (fun e => e h0)] at hV
    subst h0
    by_cases hp : posOf l id < 0
    · rw [if_pos hp] at hV
      subst hV
      go_enter Tryz.func65, Tryz.ntmps65
      go_wp2_with fail
      refine HC.out.mono ?_
      rintro e w1 ⟨rfl, hb1⟩
      have HB1 := Lib.hid hb1
      have HX := Lib.hid (HI'.out w1 hb1)
      clear hb1
      go_wp2_with fail
      refine HX.out.mono ?_
      rintro e w2 ⟨rfl, hb2⟩
      have HB2 : Hid (Below w.heap.size w w2) := HB1.out.trans (hb2.mono HB1.out.size)
      clear hb2
      go_wp2_with fail
      go_ret
      exact ⟨rfl, HB2.out⟩
    · rw [if_neg hp] at hV
      subst hV
      go_enter Tryz.func65, Tryz.ntmps65
      go_wp2_with fail
      refine HC.out.mono ?_
      rintro e w1 ⟨rfl, hb1⟩
      have HB1 := Lib.hid hb1
      have HX := Lib.hid (HI'.out w1 hb1)
      clear hb1
      go_wp2_with fail
      refine HX.out.mono ?_
      rintro e w2 ⟨rfl, hb2⟩
      have HB2 : Hid (Below w.heap.size w w2) := HB1.out.trans (hb2.mono HB1.out.size)
      clear hb2
      go_wp2_with fail
      go_ret
      exact ⟨rfl, HB2.out⟩
  · rw [if_pos h0] at hV
    have h0' : (E != 0) = true := by simpa using h0
    subst hV
    clear HI h0
    go_enter Tryz.func65, Tryz.ntmps65
    go_wp2_with fail
    refine HC.out.mono ?_
    rintro e w1 ⟨rfl, hb1⟩
    have HB1 := Lib.hid hb1
    clear hb1
    go_wp2_with fail
    go_ret
    exact ⟨rfl, HB1.out⟩
end Go.Proofs.YtmkicfjcgbfaaaaGreat
namespace Go.Proofs.YtmkicfjcgbfaaaaGreat
open Go.RowKit

end Go.Proofs.YtmkicfjcgbfaaaaGreat
namespace Go.Proofs.YtmkicfjcgbfaaaaGreat
open Go.RowKit

/-- where a block is among its parent's -/
structure At (l : List Bl) (id : Int) (p q i : Nat) (x y : Bl) : Prop where
  hx : l[p]? = some x
  hxi : x.id = id
  hy : l[q]? = some y
  hyi : y.id = x.parent
  hk : y.kids[i]? = some id
  ix : ixOf y.kids id = i
  p0 : 0 < p
section
variable {l : List Bl} {f : Int → Option Int} {id : Int} {p q i : Nat} {x y : Bl}
theorem At.pp (h : At l id p q i x y) (G : Good l f) : posOf l id = (p : Int) := by rw [← h.hxi]; exact posOf_of G.kids.rise h.hx
theorem Good.i64 (G : Good l f) (hx : l[p]? = some x) : I64 x.id := by have := G.kids.ids x (List.mem_of_getElem? hx); unfold I64; omega
end
end Go.Proofs.YtmkicfjcgbfaaaaGreat
namespace Go.Proofs.YtmkicfjcgbfaaaaGreat
open Go.RowKit

def lastId (l : List Bl) : Int := match l[l.length - 1]? with | some x => x.id | none => 0
end Go.Proofs.YtmkicfjcgbfaaaaGreat
namespace Go.Proofs.YtmkicfjcgbfaaaaGreat
open Go.RowKit


end Go.Proofs.YtmkicfjcgbfaaaaGreat
