/-
  DERIVED. The walk of the reference's copied, with a sort for the blocks that the new base leads to. Conditions: sizes.
  Bases in a row of the call's own (a row of slices), and a history turned beside them. Conditions: none.
  A base in a row of the call's own, with a sort: one block taken out, one put in. Conditions: sizes.
  A list of operations that came in, in memory. Conditions: none.
  A list of deeds that came in, in memory. Conditions: none.
  A base that came in: its blocks, numbers, properties and values in memory. Conditions: none.
  The walk of a history's Do. Conditions: sizes.
  The walk of a history's Ops. Conditions: sizes.
  By an AI agent.
-/
import Derived.Test.YtmkicfjcgbfaaaaGreatTg29
import Derived.Test.YtmkicfjcgbfaaaaGreatTg11
import Derived.Test.YtmkicfjcgbfaaaaGreatTg40
import Derived.Test.YtmkicfjcgbfaaaaGreatTg35
import Derived.Test.YtmkicfjcgbfaaaaGreatTg20
import Derived.Test.YtmkicfjcgbfaaaaGreatTg26
import Derived.Test.YtmkicfjcgbfaaaaGreatTg41
import Derived.Test.YtmkicfjcgbfaaaaGreatTg31
namespace Go.Proofs.YtmkicfjcgbfaaaaGreat
open Go.RowKit

/-- what a block leads to lies in blocks of a sort -/
abbrev NBS (S : Nat → Prop) : Nest BK := fun w T x => NB w (fun b => T b ∧ S b) x
theorem NBS_ok (S : Nat → Prop) : NestOk (NBS S) := fun _ _ _ _ _ h hk hS => NB_ok _ _ _ _ _ h (fun p hp => hk p hp.1) fun b hb => ⟨hS b hb.1, hb.2⟩
abbrev OutBS (S : Nat → Prop) := OutN blV 5 38 (NBS S)
theorem RBX.props_at {w : World} {S : Nat → Prop} {A : Option Addr} {n c : Nat} {l : List Bl} (h : RBX w S (.slice A n c) l) {k : Nat} {x : Bl} (hk : l[k]? = some x) {b off : Nat} (hA : A = some ⟨b, off, none⟩) {P : Option Addr} {np cp : Nat} (hc : w.cell? ⟨b, off + (k * 5 + 4), none⟩ = some (.slice P np cp)) : RPrX w S (.slice P np cp) x.props := by
  obtain ⟨A', n', c', M, h1, e, h2, h3, h4, h5⟩ := h
  injection e with e1 e2 e3
  subst e1 e2 e3
  obtain ⟨y, hy, rfl⟩ : ∃ y, M[k]? = some y ∧ y.1 = x := by
    rw [← h1, List.getElem?_map, Option.map_eq_some_iff] at hk
    exact hk
  have hkl := (List.getElem?_eq_some_iff.1 hy).1
  obtain ⟨ad, e, hb, hcc⟩ := h4.2 (by omega)
  obtain rfl : (⟨b, off, none⟩ : Addr) = ad := Option.some.inj (hA.symm.trans e)
  have := (h5 y (List.mem_of_getElem? hy)).2
  obtain ⟨⟨id, par, kids, txt, props⟩, kv, pv⟩ := y
  have hg : (M.flatMap blV)[k * 5 + 4]? = some pv := by
    rw [fm_get blV 5 blV_len M k 4 _ hy (by omega)]; rfl
  have h6 := hcc _ _ hg
  rw [Addr.add_lit] at h6
  have e := h6.symm.trans hc
  obtain rfl := Option.some.inj e
  exact this
/-- what copied leaves -/
def CopiedS (S : Nat → Prop) (l : List Bl) (w : World) (e : Ending) (w' : World) : Prop := ∃ (g cap n : Nat) (M : List BK), e = .returned (.slice (some ⟨g, 0, none⟩) n cap) ∧ M.length = n ∧ M.map Prod.fst = l ∧ w.heap.size ≤ g ∧ RowS S w' g cap M ∧ Below w.heap.size w w'
set_option maxRecDepth 100000 in
set_option maxHeartbeats 8000000 in
/-- the reference's copied -/
theorem copiedS_any (S : Nat → Prop) (l : List Bl) (A : Option Addr) (n c : Nat) (w : World) (B : Nat) (hB : B ≤ w.heap.size) (hS : ∀ b, w.heap.size ≤ b → S b) (hx : RBX w (fun b => b < B ∧ S b) (.slice A n c) l) (hn0 : 0 < n) (hn1 : n ≤ 100000) :
    Calls Tryz.prog 83 #[.slice A n c] w (CopiedS S l w) := by
  have h := hx.reads (B := B) fun b hb => hb.1
  have HX := Lib.hid hx
  have HS := Lib.hid hS
  clear hx hS
  obtain ⟨i0, hi, hq0, hq1, hq2⟩ := info_parts int_info
  obtain ⟨j0, hj, hr0, hr1, hr2⟩ := info_parts prop_info
  obtain ⟨k0, hki, hs0, hs1, hs2⟩ := info_parts block_info
  have HN := Lib.hid h.len
  have H := Lib.hid h
  clear h
  go_enter Tryz.func83, Tryz.ntmps83
  go_wp2_with fail
  go_loopg [3, 8] n (fun gg s3 s8 wr => ∃ (k : Nat) (v : Value) (M : List BK), k + gg = n ∧ v = s3 ∧ s8 = .int .i64 (k : Int) ∧ Hid (M.map Prod.fst = l.take k) ∧ Hid (OutBS S wr w.heap.size v M) ∧ Hid (Below w.heap.size w wr))
  case atStart => exact ⟨0, _, [], by omega, rfl, rfl, rfl, OutN.start _ _, Below.refl _ _⟩
  case round =>
    obtain ⟨k, v, M, hkg, rfl, rfl, hM, hown, hbel⟩ := hrel
    obtain ⟨W1, rfl⟩ : ∃ W1, W1 = wr := ⟨_, rfl⟩
    have hzr : w.heap.size ≤ W1.heap.size := hbel.out.size
    have HML : Hid (M.length = k) := by
      show _ = _
      have := congrArg List.length hM.out
      rw [List.length_map, List.length_take, ← HN.out.1] at this
      omega
    by_cases hk : k < n
    · obtain ⟨x, hx⟩ : ∃ x, l[k]? = some x := ⟨_, List.getElem?_eq_getElem (by have := HN.out.1; omega)⟩
      have HLK : Hid (l.take (k + 1) = l.take k ++ [x]) := by
        show _ = _
        rw [List.take_add_one, hx]; rfl
      obtain ⟨b, off, Kx, nkx, ckx, Px, npx, cpx, rfl, hbb, g0, g1, g2, g3, g4, hKx, hPx⟩ := (H.out.below (hbel.out.mono hB)).at_ hx
      have HPF : Hid (RPrX W1 (fun b => b < B ∧ S b) (.slice Px npx cpx) x.props) := (HX.out.keep (w' := W1) fun p hp => (hbel.out.mono hB).cell hp.1).props_at hx rfl (by rw [← g4, ← Nat.add_assoc])
      obtain ⟨xid, xpar, xks, xtx, xps⟩ := x
      dsimp only at g0 g1 g2 g3 g4 hKx hPx HPF
      obtain ⟨wa, hwa⟩ : ∃ wa, wa = W1.alloc (.cells #[.int .i64 xid, .int .i64 xpar, .slice Kx nkx ckx, .string xtx, .slice Px npx cpx] 38) := ⟨_, rfl⟩
      have hal : Below W1.heap.size W1 wa := by rw [hwa]; exact (Below.refl _ _).alloc (Nat.le_refl _) _
      have hza : wa.heap.size = W1.heap.size + 1 := by rw [hwa]; simp
      have Q0 : Hid (Blk wa W1.heap.size 38 #[.int .i64 xid, .int .i64 xpar, .slice Kx nkx ckx, .string xtx, .slice Px npx cpx]) := by rw [hwa]; exact Blk.new _ _ _
      have HBA : Hid (Below W1.heap.size W1 wa) := hal
      have HK := Lib.hid (hKx.below (hal.mono (Nat.le_trans hB hzr)))
      have i1 : (0 : Int) ≤ (k : Int) := by omega
      have i2 : (k : Int) < (n : Int) := by omega
      have HWA := Lib.hid hwa
      clear hx hwa hal hKx hPx
      go_upto_region 5 with fail
      rw [← HWA.out]
      clear g0 g1 g2 g3 g4
      have e0 := fun i => Q0.out.cell i
      have HKL := Lib.hid HK.out.len
      have HR1 : Hid (Reads (wa.alloc (.cells #[] 3)) B 1 Kx nkx (xks.map (.int .i64))) := HK.out.reads.below ((Below.refl _ _).alloc (by omega) _)
      have HO1 : Hid ((wa.alloc (.cells #[] 3)).ownsRow (W1.heap.size + 1) 3 1 (.slice (some ⟨W1.heap.size + 1, 0, none⟩) 0 0) 0 []) := own_empty (Nat.le_refl _) (by rw [← hza]; exact Blk.new _ _ _)
      have hone := ints_one xks
      have HC1 : Hid (0 + nkx ≤ maxLen) := by show _ ≤ _; unfold maxLen; have := HKL.out; omega
      have HC2 : Hid ((0 + nkx) * 8 ≤ 140737488355328) := by show _ ≤ _; have := HKL.out; omega
      have hbase : W1.heap.size + 1 ≤ (wa.alloc (.cells #[] 3)).heap.size := by simp; omega
      have Q1 : Hid (Blk (wa.alloc (.cells #[] 3)) W1.heap.size 38 #[.int .i64 xid, .int .i64 xpar, .slice Kx nkx ckx, .string xtx, .slice Px npx cpx]) := Q0.out.alloc _
      have e1 := fun i => Q1.out.cell i
      go_wp2_with (at_builtin; refine wpList_append_any _ rfl _ _ 34 rfl (W1.heap.size + 1) 3 i0 (.int .i64 0) 1 8 Tryz.underlying34 hi hq0 hq1 hq2 rfl (by decide) (.slice (some ⟨W1.heap.size + 1, 0, none⟩) 0 0) 0 [] rfl HO1.out B Kx nkx ckx (xks.map (.int .i64)) rfl HR1.out hone HC1.out HC2.out hbase ?_)
      intro v2 w2 hown2 hg2 hat2
      try rw [Nat.zero_add] at hown2
      try rw [List.nil_append] at hown2
      have hR2 := RInX.of_own hown2 HKL.out.1 (by have := HKL.out; omega) (fun z hz => HK.out.i64 hz)
      obtain ⟨A2, c2, rfl, _, hr2, _⟩ := hR2
      have hza2 : W1.heap.size + 2 ≤ w2.heap.size := by have := hg2.size; simp at this; omega
      have hne2 : ∀ {i : Nat}, some i = (Value.slice (some ⟨W1.heap.size + 1, 0, none⟩) 0 0).ownBlock → i = W1.heap.size + 1 := fun e => Option.some.inj e
      have hbl2 : Below W1.heap.size W1 w2 := (HBA.out.alloc HBA.out.size _).grown hg2 (by simp; omega) (fun g hg => by have := hne2 hg.symm; omega)
      have q2 := Q1.out.grown hg2 (fun e => by have := hne2 e; omega)
      obtain ⟨w3, hw3⟩ : ∃ w3, w3 = w2.setCell ⟨W1.heap.size, 2, none⟩ (.slice A2 nkx c2) := ⟨_, rfl⟩
      have hz3 : w3.heap.size = w2.heap.size := by rw [hw3]; simp [World.setCell]
      have Q3 : Hid (Blk w3 W1.heap.size 38 #[.int .i64 xid, .int .i64 xpar, .slice A2 nkx c2, .string xtx, .slice Px npx cpx]) := by rw [hw3]; exact q2.set_ 2 _
      have HB3 : Hid (Below W1.heap.size W1 w3) := by rw [hw3]; exact hbl2.setCell (p := ⟨W1.heap.size, 2, none⟩) (Nat.le_refl _) _
      have HK3 : Hid (RInX w3 (fun b => W1.heap.size + 1 ≤ b ∧ b < w3.heap.size) (.slice A2 nkx c2) xks) := by
        show RInX _ _ _ _
        rw [hz3]
        exact (hr2.keep fun p hp => by rw [hw3]; exact World.cell?_setCell_other _ _ _ _ (by intro e; subst e; exact absurd hp.2.1 (by show ¬ (W1.heap.size + 1 ≤ W1.heap.size); omega))).weak fun b hb => ⟨hb.2.1, hb.2.2⟩
      have HW3 := Lib.hid hw3
      have HZ3 : Hid (W1.heap.size + 2 ≤ w3.heap.size) := by show _ ≤ _; omega
      have F2 := Lib.hid q2
      clear hown2 hg2 hat2 hr2 e0 e1 hw3 hz3 hbl2 hne2 hza2 q2 hone hbase
      have e2 := fun i => F2.out.cell i
      have f2 := fun i => F2.out.frozen i
      go_upto_region 6 with fail
      rw [← HW3.out]
      clear e2 f2
      have hp3 : RPrX w3 (fun b => b < B ∧ S b) (.slice Px npx cpx) xps := HPF.out.keep fun p hp => HB3.out.cell (Nat.lt_of_lt_of_le hp.1 (Nat.le_trans hB hzr))
      obtain ⟨A', n', c', MP, hMP, e, hnp, hcp, hrp, hnp2⟩ := hp3
      injection e with e1 e2 e3
      subst e1 e2 e3
      have HMP := Lib.hid hMP
      have HNP := Lib.hid hnp
      have HCP := Lib.hid hcp
      have HNN := Lib.hid hnp2
      have hones := prs_one MP fun z hz => (hnp2 z hz).slice
      have HR5 : Hid (Reads (w3.alloc (.cells #[] 116)) B 6 Px npx (MP.flatMap prV)) := (hrp.reads (B := B) fun b hb => hb.1).below ((Below.refl _ _).alloc (by have := HZ3.out; omega) _)
      have HO5 : Hid ((w3.alloc (.cells #[] 116)).ownsRow w3.heap.size 116 6 (.slice (some ⟨w3.heap.size, 0, none⟩) 0 0) 0 []) := own_empty (Nat.le_refl _) (Blk.new _ _ _)
      have HC5 : Hid (0 + npx ≤ maxLen) := by show _ ≤ _; unfold maxLen; have := HCP.out; omega
      have HC6 : Hid ((0 + npx) * 80 ≤ 140737488355328) := by show _ ≤ _; have := HCP.out; omega
      have hbase : w3.heap.size ≤ (w3.alloc (.cells #[] 116)).heap.size := by simp
      have Q4 : Hid (Blk (w3.alloc (.cells #[] 116)) W1.heap.size 38 #[.int .i64 xid, .int .i64 xpar, .slice A2 nkx c2, .string xtx, .slice Px npx cpx]) := Q3.out.alloc _
      have e0 := fun i => Q3.out.cell i
      have e1 := fun i => Q4.out.cell i
      clear hMP hnp hcp hnp2 hrp
      go_wp2_with (at_builtin; refine wpList_append_any _ rfl _ _ 36 rfl w3.heap.size 116 j0 pZ 6 80 Tryz.underlying36 hj hr0 hr1 hr2 rfl (by decide) (.slice (some ⟨w3.heap.size, 0, none⟩) 0 0) 0 [] rfl HO5.out B Px npx cpx (MP.flatMap prV) rfl HR5.out hones HC5.out HC6.out hbase ?_)
      intro v5 w5 hown5 hg5 hat5
      try rw [Nat.zero_add] at hown5
      try rw [List.nil_append] at hown5
      have hR5 := RdX.of_own hown5
      obtain ⟨A5, c5, rfl, hc5, hr5⟩ := hR5
      have hne5 : ∀ {i : Nat}, some i = (Value.slice (some ⟨w3.heap.size, 0, none⟩) 0 0).ownBlock → i = w3.heap.size := fun e => Option.some.inj e
      have hza5 : w3.heap.size + 1 ≤ w5.heap.size := by have := hg5.size; simp at this; omega
      have hz3 := HZ3.out
      have hbl5 : Below W1.heap.size W1 w5 := (HB3.out.alloc HB3.out.size _).grown hg5 (by simp; omega) (fun g hg => by have := hne5 hg.symm; omega)
      have q5 := Q4.out.grown hg5 (fun e => by have := hne5 e; omega)
      obtain ⟨w6, hw6⟩ : ∃ w6, w6 = w5.setCell ⟨W1.heap.size, 4, none⟩ (.slice A5 npx c5) := ⟨_, rfl⟩
      have hz6 : w6.heap.size = w5.heap.size := by rw [hw6]; simp [World.setCell]
      have Q6 : Hid (Blk w6 W1.heap.size 38 #[.int .i64 xid, .int .i64 xpar, .slice A2 nkx c2, .string xtx, .slice A5 npx c5]) := by rw [hw6]; exact q5.set_ 4 _
      have HB6 : Hid (Below W1.heap.size W1 w6) := by rw [hw6]; exact hbl5.setCell (p := ⟨W1.heap.size, 4, none⟩) (Nat.le_refl _) _
      have hkeep : ∀ p : Addr, p.block ≠ W1.heap.size → p.block < w3.heap.size → w6.cell? p = w3.cell? p := fun p h1 h2 => by
        rw [hw6, World.cell?_setCell_other _ _ _ _ (by intro e; subst e; exact h1 rfl)]
        exact (World.cell?_of_block (hg5.block _ (by simp; omega) (fun e => by have := hne5 e; omega))).trans (World.cell?_alloc_lt _ _ _ h2)
      have HNB : Hid (NB w6 (fun b => (b < B ∧ S b ∨ W1.heap.size + 1 ≤ b) ∧ b < w6.heap.size) (⟨xid, xpar, xks, xtx, xps⟩, .slice A2 nkx c2, .slice A5 npx c5)) := by
        refine ⟨(HK3.out.keep fun p hp => hkeep p (by have := hp.1; omega) hp.2).weak fun b hb => ⟨.inr hb.1, by omega⟩, A5, npx, c5, MP, HMP.out, rfl, HNP.out, ⟨hc5, HCP.out.2⟩, (hr5.keep fun p hp => by rw [hw6]; exact World.cell?_setCell_other _ _ _ _ (by intro e; subst e; exact absurd hp.2.1 (by show ¬ (w3.heap.size ≤ W1.heap.size); omega))).weak fun b hb => ⟨.inr (by omega), by have := hb.2.2; omega⟩, fun z hz => ?_⟩
        exact ((HNN.out z hz).keep fun p hp => by
          have hp : p.block < B := hp.1
          exact hkeep p (by omega) (by omega)).weak fun b hb => ⟨.inl hb, by have hb : b < B := hb.1; omega⟩
      have HW6 := Lib.hid hw6
      have F5 := Lib.hid q5
      clear hown5 hg5 hat5 hr5 hc5 e0 e1 hw6 hz6 hbl5 hne5 hza5 q5 hones hbase hz3 hkeep
      have e5 := fun i => F5.out.cell i
      have f5 := fun i => F5.out.frozen i
      go_upto_region 7 with fail
      rw [← HW6.out]
      clear e5 f5
      have e6 := fun i => Q6.out.cell i
      obtain ⟨O, hO⟩ : ∃ O, O = Obj.cells #[.int .i64 xid, .int .i64 xpar, .slice A2 nkx c2, .string xtx, .slice A5 npx c5] 38 := ⟨_, rfl⟩
      have HOW := Lib.hid ((hown.out.below (NBS_ok S) HB6.out).below (NBS_ok S) ((Below.refl _ _).alloc (Nat.le_refl _) O))
      have HR7 : Hid (Reads (w6.alloc O) (w6.heap.size + 1) 5 (some ⟨w6.heap.size, 0, none⟩) 1 (blV (⟨xid, xpar, xks, xtx, xps⟩, .slice A2 nkx c2, .slice A5 npx c5))) := by rw [hO]; exact Reads.blk (Blk.new _ _ _) rfl
      have hone7 := blV_one (⟨xid, xpar, xks, xtx, xps⟩, .slice A2 nkx c2, .slice A5 npx c5) ⟨_, _, _, rfl⟩ ⟨_, _, _, rfl⟩
      have HC7 : Hid (M.length + 1 ≤ maxLen) := by show _ ≤ _; unfold maxLen; have := HML.out; omega
      have HC8 : Hid ((M.length + 1) * 80 ≤ 140737488355328) := by show _ ≤ _; have := HML.out; omega
      have hbase : w.heap.size ≤ (w6.alloc O).heap.size := by have := HB6.out.size; simp; omega
      have HNB7 : Hid (NB (w6.alloc O) (fun b => (b < B ∧ S b ∨ W1.heap.size + 1 ≤ b) ∧ b < w6.heap.size) (⟨xid, xpar, xks, xtx, xps⟩, .slice A2 nkx c2, .slice A5 npx c5)) := NB_ok _ _ _ _ _ HNB.out (fun p hp => World.cell?_alloc_lt _ _ _ hp.2) fun b hb => hb
      have HB7 : Hid (Below w.heap.size w (w6.alloc O)) := (hbel.out.trans (HB6.out.mono hzr)).alloc (Nat.le_trans hzr HB6.out.size) O
      rw [hO] at HOW HR7 hbase HNB7 HB7
      go_wp2_with (at_builtin; refine wpList_append_any _ rfl _ _ 22 rfl w.heap.size 38 k0 bZ 5 80 Tryz.underlying22 hki hs0 hs1 hs2 rfl (by decide) v M.length (M.flatMap blV) rfl HOW.out.own (w6.heap.size + 1) (some ⟨w6.heap.size, 0, none⟩) 1 1 (blV (⟨xid, xpar, xks, xtx, xps⟩, .slice A2 nkx c2, .slice A5 npx c5)) rfl HR7.out hone7 HC7.out HC8.out hbase ?_)
      intro v8 w8 hown8 hg8 hat8
      have HO8 : Hid (OutBS S w8 w.heap.size v8 (M ++ [(⟨xid, xpar, xks, xtx, xps⟩, .slice A2 nkx c2, .slice A5 npx c5)])) := HOW.out.app (NBS_ok S) (S := fun b => (b < B ∨ W1.heap.size + 1 ≤ b) ∧ b < w6.heap.size) (NB_ok _ _ _ _ _ HNB7.out (fun p _ => rfl) fun b hb => ⟨⟨hb.1.imp And.left id, hb.2⟩, hb.1.elim And.right fun h => HS.out b (by omega)⟩) (fun b hb => ⟨by have := hb.2; simp; omega, fun e => by
        have := (hown.out.blocks b e)
        have := hb.1
        omega⟩) hown8 hg8 (by simpa using hat8)
      have HB8 : Hid (Below w.heap.size w w8) := HB7.out.grown hg8 hbase (fun g hg => (hown.out.blocks g hg).1)
      have HM8 : Hid ((M ++ [((⟨xid, xpar, xks, xtx, xps⟩ : Bl), Value.slice A2 nkx c2, Value.slice A5 npx c5)]).map Prod.fst = l.take (k + 1)) := by
        show _ = _
        rw [HLK.out, List.map_append, hM.out]; rfl
      clear hown8 hg8 hat8 e6 hone7 hbase
      go_wp2_with fail
      go_roundg (n - (k + 1))
      case measure => omega
      case rel => exact ⟨k + 1, v8, _, by omega, rfl, by go_num, HM8, HO8, HB8⟩
    · obtain rfl : n = k := by omega
      have HF : Hid (CopiedS S l w (.returned v) W1) := by
        show CopiedS S _ _ _ _
        have e : M.map Prod.fst = l := by rw [hM.out, List.take_of_length_le (by rw [← HN.out.1]; exact Nat.le_refl _)]
        have hml := HML.out
        obtain ⟨g, cap, e2, hg, hr⟩ := RowS.of_own hown.out.own (by omega) (by omega) hown.out.nest
        subst e2
        rw [hml]
        exact ⟨g, cap, n, M, rfl, hml, e, hg, hr, hbel.out⟩
      go_wp2_with fail
      go_ret
      exact HF.out
end Go.Proofs.YtmkicfjcgbfaaaaGreat
namespace Go.Proofs.YtmkicfjcgbfaaaaGreat
open Go.RowKit

abbrev BV := List Bl × Value
abbrev slV : BV → List Value := fun x => [x.2]
/-- what a base leads to lies in blocks of a sort -/
abbrev NR (S : Nat → Prop) : Nest BV := fun w T x => RBX w (fun b => T b ∧ S b) x.2 x.1
theorem NR_ok (S : Nat → Prop) : NestOk (NR S) := fun _ _ _ _ _ h hk hS => (h.keep fun p hp => hk p hp.1).weak fun b hb => ⟨hS b hb.1, hb.2⟩
theorem RBX.slice {w : World} {S : Nat → Prop} {v : Value} {l : List Bl} (h : RBX w S v l) : ∃ A n c, v = .slice A n c := by
  obtain ⟨A, n, c, M, _, e, _⟩ := h
  exact ⟨A, n, c, e⟩
abbrev OutR (S : Nat → Prop) := OutN slV 1 22 (NR S)
theorem slV_flat : ∀ M : List BV, M.flatMap slV = M.map Prod.snd
  | [] => rfl
  | x :: M => by rw [List.flatMap_cons, List.map_cons, slV_flat M]; rfl
section
variable {S S' T : Nat → Prop} {w w' : World} {base gh gn : Nat} {v : Value} {M : List BV}
theorem OutN.weakR (h : OutR S w base v M) (hS : ∀ b, b < w.heap.size → S b → S' b) : OutR S' w base v M :=
  ⟨h.own, fun x hx => RBX.weak (h.nest x hx) fun b hb => ⟨hb.1, hS b hb.1.1 hb.2⟩⟩
/-- a base of the row, at its place -/
theorem OutN.atR (h : OutR S w base v M) {k : Nat} {x : BV} (hx : M[k]? = some x) : ∃ g c, v = .slice (some ⟨g, 0, none⟩) M.length c ∧ w.cell? ⟨g, k, none⟩ = some x.2 ∧ RBX w (fun b => b < w.heap.size ∧ S b) x.2 x.1 := by
  have hkl := (List.getElem?_eq_some_iff.1 hx).1
  obtain ⟨A, c, e, hc, hr⟩ := RdX.of_own h.own
  obtain ⟨ad, hA, hb, hcell⟩ := hr.2 (by omega)
  rcases h.own.2 with ⟨rfl, h0⟩ | ⟨g, cap, cur, rfl, hg, _⟩
  · have : M.length = 0 := h0
    omega
  · injection e with e1 e2 e3
    subst e1
    obtain rfl := Option.some.inj hA
    refine ⟨g, cap, rfl, ?_, RBX.weak (h.nest x (List.mem_of_getElem? hx)) fun b hb => ⟨hb.1.1, hb.2⟩⟩
    have := hcell k x.2 (by rw [slV_flat, List.getElem?_map, hx]; rfl)
    rwa [Addr.add_lit, Nat.zero_add] at this
/-- a deed of the history: the bases are as they were -/
theorem OutN.kept (h : OutR (fun b => b ≠ gh ∧ b ≠ gn) w base v M) (hk : Kept (fun b => b = gh ∨ b = gn) w w') (h1 : v.ownBlock ≠ some gh) (h2 : v.ownBlock ≠ some gn) (hS : ∀ b, b < w.heap.size → b ≠ gh → b ≠ gn → S b) : OutR S w' base v M := by
  refine ⟨?_, fun x hx => ?_⟩
  · obtain ⟨h3, h4⟩ := h.own
    refine ⟨h3, ?_⟩
    rcases h4 with h4 | ⟨g, cap, cur, rfl, hg, hh, h5⟩
    · exact .inl h4
    · refine .inr ⟨g, cap, cur, rfl, hg, ?_, h5⟩
      have hlt : g < w.heap.size := by
        rcases Nat.lt_or_ge g w.heap.size with h | h
        · exact h
        · rw [Array.getElem?_eq_none h] at hh; cases hh
      rw [hk.block g hlt fun e => e.elim (fun e => h1 (by rw [e]; rfl)) (fun e => h2 (by rw [e]; rfl))]
      exact hh
  · have := hk.rbx (h.nest x hx) fun b hb => ⟨hb.1.1, fun e => e.elim hb.2.1 hb.2.2⟩
    exact RBX.weak this fun b hb => ⟨⟨Nat.lt_of_lt_of_le hb.1.1 hk.size, hb.1.2⟩, hS b hb.1.1 hb.2.1 hb.2.2⟩
end
/-- a nest with a sort besides -/
abbrev NS {α : Type} (N : Nest α) (S : Nat → Prop) : Nest α := fun w T x => N w (fun b => T b ∧ S b) x
theorem NS_ok {α : Type} {N : Nest α} (hN : NestOk N) (S : Nat → Prop) : NestOk (NS N S) := fun _ _ _ _ _ h hk hS => hN _ _ _ _ _ h (fun p hp => hk p hp.1) fun b hb => ⟨hS b hb.1, hb.2⟩
/-- a deed of the history: a row of the call's own is as it was -/
theorem OutN.keptN {α : Type} {enc : α → List Value} {size base gh gn : Nat} {e : TypeId} {N : Nest α} {S : Nat → Prop} {w w' : World} {v : Value} {M : List α} (hN : NestOk N) (h : OutN enc size e (NS N fun b => b ≠ gh ∧ b ≠ gn) w base v M) (hk : Kept (fun b => b = gh ∨ b = gn) w w') (h1 : v.ownBlock ≠ some gh) (h2 : v.ownBlock ≠ some gn) (hS : ∀ b, b < w.heap.size → b ≠ gh → b ≠ gn → S b) : OutN enc size e (NS N S) w' base v M := by
  refine ⟨?_, fun x hx => ?_⟩
  · obtain ⟨h3, h4⟩ := h.own
    refine ⟨h3, ?_⟩
    rcases h4 with h4 | ⟨g, cap, cur, rfl, hg, hh, h5⟩
    · exact .inl h4
    · refine .inr ⟨g, cap, cur, rfl, hg, ?_, h5⟩
      have hlt : g < w.heap.size := by
        rcases Nat.lt_or_ge g w.heap.size with h | h
        · exact h
        · rw [Array.getElem?_eq_none h] at hh; cases hh
      rw [hk.block g hlt fun e => e.elim (fun e => h1 (by rw [e]; rfl)) (fun e => h2 (by rw [e]; rfl))]
      exact hh
  · exact hN _ _ _ _ x (h.nest x hx) (fun p hp => hk.cell hp.1.1 fun e => e.elim hp.2.1 hp.2.2) fun b hb => ⟨⟨Nat.lt_of_lt_of_le hb.1.1 hk.size, hb.1.2⟩, hS b hb.1.1 hb.2.1 hb.2.2⟩
theorem own_one {w : World} {g base : Nat} {t : TypeId} {v : Value} (hg : base ≤ g) (h : Blk w g t #[v]) : w.ownsRow base t 1 (.slice (some ⟨g, 0, none⟩) 1 1) 1 [v] :=
  ⟨by simp, .inr ⟨g, 1, #[v], rfl, hg, h, Nat.le_refl _, by decide, by simp, by simp⟩⟩
theorem OutN.plainS {α : Type} {enc : α → List Value} {size base : Nat} {e : TypeId} {N : Nest α} {S : Nat → Prop} {w : World} {v : Value} {M : List α} (hN : NestOk N) (h : OutN enc size e (NS N S) w base v M) : OutN enc size e N w base v M :=
  ⟨h.own, fun x hx => hN _ _ _ _ x (h.nest x hx) (fun _ _ => rfl) fun _ hb => hb.1⟩
theorem OutN.weakN {α : Type} {enc : α → List Value} {size base : Nat} {e : TypeId} {N : Nest α} {S S' : Nat → Prop} {w : World} {v : Value} {M : List α} (hN : NestOk N) (h : OutN enc size e (NS N S) w base v M) (hS : ∀ b, b < w.heap.size → S b → S' b) : OutN enc size e (NS N S') w base v M :=
  ⟨h.own, fun x hx => hN _ _ _ _ x (h.nest x hx) (fun _ _ => rfl) fun b hb => ⟨hb.1, hS b hb.1.1 hb.2⟩⟩
/-- a row in a new block -/
theorem OutN.joined {α : Type} {enc : α → List Value} {size : Nat} {e : TypeId} {N : Nest α} {w w' : World} {v : Value} {M : List α} (hN : NestOk N) (h : ∀ x ∈ M, N w (fun b => b < w.heap.size) x) (hown : w'.ownsRow w.heap.size e size v M.length (M.flatMap enc)) (hg : w.grownBy w' none) : OutN enc size e N w' w.heap.size v M :=
  ⟨hown, fun x hx => hN _ _ _ _ x (h x hx) (fun p hp => World.cell?_of_block (hg.block _ hp (by simp))) fun b hb => ⟨Nat.lt_of_lt_of_le hb hg.size, fun e => by
    have := (own_block_lt hown b e).1
    omega⟩⟩
/-- the bases that a history goes through -/
def goneB (l : List Bl) (os : List Opn) : List (List Bl) := (List.range (os.length + 1)).map fun k => applL l (os.take k)
theorem goneB_len (l : List Bl) (os : List Opn) : (goneB l os).length = os.length + 1 := by rw [goneB, List.length_map, List.length_range]
theorem goneB_at {l : List Bl} {os : List Opn} {k : Nat} (hk : k ≤ os.length) : (goneB l os)[k]? = some (applL l (os.take k)) := by
  rw [goneB, List.getElem?_map, List.getElem?_range (by omega)]; rfl
theorem goneB_app {l : List Bl} {os ls : List Opn} {d : Nat} (hd : d ≤ os.length) : goneB l (os.take d ++ ls) = (goneB l os).take (d + 1) ++ (List.range ls.length).map fun k => applL (applL l (os.take d)) (ls.take (k + 1)) := by
  have hl : (os.take d).length = d := by rw [List.length_take]; omega
  refine List.ext_getElem? fun k => ?_
  rcases Nat.lt_or_ge k (d + 1) with h | h
  · rw [List.getElem?_append_left (by rw [List.length_take, goneB_len]; omega), List.getElem?_take_of_lt h, goneB_at (by rw [List.length_append, hl]; omega), goneB_at (by omega), List.take_append_of_le_length (by omega), List.take_take, Nat.min_eq_left (by omega)]
  · rw [List.getElem?_append_right (by rw [List.length_take, goneB_len]; omega), List.length_take, goneB_len, Nat.min_eq_left (by omega), List.getElem?_map]
    rcases Nat.lt_or_ge (k - (d + 1)) ls.length with g | g
    · rw [goneB_at (by rw [List.length_append, hl]; omega), List.getElem?_range g, Option.map_some, List.take_append, hl, List.take_of_length_le (by omega)]
      unfold applL
      rw [List.foldl_append, show k - (d + 1) + 1 = k - d by omega]
    · rw [List.getElem?_eq_none (by rw [goneB_len, List.length_append, hl]; omega), List.getElem?_eq_none (by rw [List.length_range]; omega)]; rfl
end Go.Proofs.YtmkicfjcgbfaaaaGreat
namespace Go.Proofs.YtmkicfjcgbfaaaaGreat
open Go.RowKit

/-- what the reference's Applied leaves, with a sort -/
def ApplS (S : Nat → Prop) (l : List Bl) (w : World) (e : Ending) (w' : World) : Prop := ∃ A n c, e = .returned (.slice A n c) ∧ RBX w' (fun b => b < w'.heap.size ∧ S b) (.slice A n c) l ∧ Below w.heap.size w w'
section
variable {w w' : World} {g cap : Nat} {M : List BK} {S : Nat → Prop}
theorem RowS.rs (h : RowS S w g cap M) (hg : S g) : RBX w (fun b => b < w.heap.size ∧ S b) (.slice (some ⟨g, 0, none⟩) M.length cap) (M.map Prod.fst) :=
  ⟨_, _, _, M, rfl, rfl, rfl, ⟨h.len, by have := h.few; omega⟩, ⟨fmB_len M, fun _ => ⟨_, rfl, ⟨h.lt, hg⟩, fun j u hu => by rw [Addr.add_lit, Nat.zero_add]; exact h.cells hu⟩⟩, fun x hx => ⟨(h.far x hx).1.weak fun b hb => ⟨hb.1.1, hb.2⟩, (h.far x hx).2.weak fun b hb => ⟨hb.1.1, hb.2⟩⟩⟩
theorem RowS.rowd {R : Array Value} {M' : List BK} (hr : RowB (w.setRow g R) g cap M') (hn : ∀ x ∈ M', NB w (fun b => (b < w.heap.size ∧ b ≠ g) ∧ S b) x) : RowS S (w.setRow g R) g cap M' :=
  ⟨hr, fun x hx => by rw [setRow_size]; exact NB_ok _ _ _ _ x (hn x hx) (fun p hp => cell_setRow_other _ _ _ _ hp.1.2) fun b hb => hb⟩
theorem RowS.setRow (h : RowS S w g cap M) {M' : List BK} {sp : List Value} (hl : M'.length * 5 + sp.length = cap * 5) (hf : M'.length ≤ 100000) (hn : ∀ x ∈ M', NB w (fun b => (b < w.heap.size ∧ b ≠ g) ∧ S b) x) : RowS S (w.setRow g (M'.flatMap blV ++ sp).toArray) g cap M' :=
  .rowd (h.toRowB.setRow hl hf fun x hx => NB_ok _ _ _ _ x (hn x hx) (fun _ _ => rfl) fun _ hb => hb.1) hn
/-- the row without one block, by append(out[:i], out[i+1:]...) -/
theorem RowS.rem (h : RowS S w g cap M) {i : Nat} (hi : i < M.length) : ∃ R : Array Value, RowS S (w.setRow g R) g cap (M.take i ++ M.drop (i + 1)) ∧
    ∀ (ty : TypeId) (c0 : Nat) (ad : Addr), (0 < M.length - (i + 1) → ad = ⟨g, (i + 1) * 5, none⟩) → (Builtin.append_ #[22, 22] ty #[.slice (some ⟨g, 0, none⟩) i cap, .slice (some ad) (M.length - (i + 1)) c0]).run Tryz.prog w = .ok (.slice (some ⟨g, 0, none⟩) (M.length - 1) cap) (w.setRow g R) := by
  obtain ⟨R, h1, h2⟩ := h.toRowB.rem hi
  refine ⟨R, .rowd h1 fun x hx => ?_, h2⟩
  rcases List.mem_append.1 hx with hx | hx
  · exact h.far x (List.mem_of_mem_take hx)
  · exact h.far x (List.mem_of_mem_drop hx)
/-- one block behind the row -/
theorem RowS.app1 (h : RowS S w g cap M) (hl : M.length < 100000) {x : BK} {v' : Value} {base : Nat} (hx : NB w (fun b => (b < w.heap.size ∧ b ≠ g) ∧ S b) x) (hown : w'.ownsRow base 38 5 v' (M.length + 1) (M.flatMap blV ++ blV x)) (hg : w.grownBy w' (some g)) (hv : v'.ownBlock = some g ∨ v'.ownBlock = some w.heap.size) :
    ∃ g' cap', v' = .slice (some ⟨g', 0, none⟩) (M.length + 1) cap' ∧ base ≤ g' ∧ RowS S w' g' cap' (M ++ [x]) := by
  have hlen : (M ++ [x]).length = M.length + 1 := by rw [List.length_append]; rfl
  have hfm : (M ++ [x]).flatMap blV = M.flatMap blV ++ blV x := by rw [List.flatMap_append, List.flatMap_singleton]
  rw [← hlen, ← hfm] at hown
  obtain ⟨g', cap', e, hb, hr⟩ := RowS.of_own hown (by omega) (by omega) fun y hy => by
    have hy' : NB w (fun b => (b < w.heap.size ∧ b ≠ g) ∧ S b) y := by
      rcases List.mem_append.1 hy with hy | hy
      · exact h.far y hy
      · obtain rfl := List.mem_singleton.1 hy
        exact hx
    refine NB_ok _ _ _ _ y hy' (fun q hq => World.cell?_of_block (hg.block q.block hq.1.1 fun e => hq.1.2 (Option.some.inj e))) fun b hb' => ⟨⟨Nat.lt_of_lt_of_le hb'.1.1 hg.size, ?_⟩, hb'.2⟩
    rcases hv with e | e <;> rw [e]
    · exact fun e => hb'.1.2 (Option.some.inj e).symm
    · exact fun e => by have := Option.some.inj e; have := hb'.1.1; omega
  rw [hlen] at e
  exact ⟨g', cap', e, hb, hr⟩
/-- the blocks from a place on moved up by one, by copy(out[k+1:], out[k:]) -/
theorem RowS.shift {z : BK} (h : RowS S w g cap (M ++ [z])) {k : Nat} (hk : k ≤ M.length) (o : Nat) (ho : 0 < M.length - k → o = (k + 1) * 5) (ho2 : o ≤ cap * 5) : ∃ (R : Array Value) (y : BK), RowS S (w.setRow g R) g cap (M.take k ++ y :: M.drop k) ∧
    ∀ (ty : TypeId) (d0 c0 : Nat), (Builtin.copy_ #[22, 22] ty #[.slice (some ⟨g, o, none⟩) (M.length + 1 - (k + 1)) d0, .slice (some ⟨g, k * 5, none⟩) (M.length + 1 - k) c0]).run Tryz.prog w = .ok (goInt ((M.length + 1 - (k + 1) : Nat) : Int)) (w.setRow g R) := by
  obtain ⟨i0, hi0, hq0, hq1, hq2⟩ := info_parts block_info
  have hzz : (Tryz.prog.info? 38).map (·.size) = some 5 := by rw [hi0]; simp [hq1]
  obtain ⟨sp, h1, h2⟩ := h.row
  have hml : (M ++ [z]).length = M.length + 1 := by rw [List.length_append]; rfl
  rw [hml] at h2
  have hcl : ((M ++ [z]).flatMap blV ++ sp).length = cap * 5 := by rw [List.length_append, fmB_len, hml]; exact h2
  have hdl : ((M.drop k).flatMap blV).length = (M.length - k) * 5 := by rw [fmB_len, List.length_drop]
  have hmin : Nat.min (M.length + 1 - k) (M.length + 1 - (k + 1)) = M.length - k := by
    show min _ _ = _
    omega
  have hrun : ∀ (ty : TypeId) (d0 c0 : Nat), (Builtin.copy_ #[22, 22] ty #[.slice (some ⟨g, o, none⟩) (M.length + 1 - (k + 1)) d0, .slice (some ⟨g, k * 5, none⟩) (M.length + 1 - k) c0]).run Tryz.prog w = .ok (goInt ((M.length + 1 - (k + 1) : Nat) : Int)) (w.setRow g (((M ++ [z]).flatMap blV ++ sp).take o ++ (M.drop k).flatMap blV ++ ((M ++ [z]).flatMap blV ++ sp).drop (o + (M.length - k) * 5)).toArray) := fun ty d0 c0 => by
    have := run_copy_rowN (P := Tryz.prog) w 22 22 ty 38 g o (M.length + 1 - (k + 1)) d0 ⟨g, k * 5, none⟩ (M.length + 1 - k) c0 5 _ 38 ((M.drop k).flatMap blV) Tryz.underlying22 hzz h1 (by rw [hdl, hmin]) (fun j v hj => by
      have hjl := (List.getElem?_eq_some_iff.1 hj).1
      rw [Addr.add_lit]
      refine h.cells ?_
      rw [List.flatMap_append, List.getElem?_append_left (by rw [fmB_len]; rw [hdl] at hjl; omega)]
      rw [← fmB_drop, List.getElem?_drop] at hj
      exact hj) (by rw [hdl, List.size_toArray, hcl]; have hl := h.len; rw [hml] at hl; rcases Nat.eq_zero_or_pos (M.length - k) with e | e
                    · rw [e]; omega
                    · rw [ho e]; omega) (fun v hv => h.one v (by rw [← fmB_drop] at hv; rw [List.flatMap_append]; exact List.mem_append_left _ (List.mem_of_mem_drop hv)))
    rw [hmin, hdl, List.toList_toArray] at this
    rw [show M.length + 1 - (k + 1) = M.length - k by omega] at this ⊢
    exact this
  rcases Nat.eq_zero_or_pos (M.length - k) with e | e
  · obtain rfl : k = M.length := by omega
    refine ⟨_, z, ?_, hrun⟩
    have e2 : ((M ++ [z]).flatMap blV ++ sp).take o ++ (M.drop M.length).flatMap blV ++ ((M ++ [z]).flatMap blV ++ sp).drop (o + (M.length - M.length) * 5) = (M ++ [z]).flatMap blV ++ sp := by
      rw [List.drop_length, List.flatMap_nil, List.append_nil, Nat.sub_self, Nat.zero_mul, Nat.add_zero, List.take_append_drop]
    rw [e2, List.take_length, List.drop_length]
    refine h.setRow (M' := M ++ [z]) (by rw [hml]; exact h2) h.few fun x hx => h.far x hx
  · have hkl : k < M.length := by omega
    obtain rfl : o = (k + 1) * 5 := ho e
    refine ⟨_, M[k], ?_, hrun⟩
    have e1 : ((M ++ [z]).flatMap blV ++ sp).take ((k + 1) * 5) = (M.take k ++ [M[k]]).flatMap blV := by
      rw [List.take_append_of_le_length (by rw [fmB_len, hml]; omega), fmB_take, List.take_append_of_le_length (by omega), List.take_succ_eq_append_getElem hkl]
    have e2 : ((M ++ [z]).flatMap blV ++ sp).drop ((k + 1) * 5 + (M.length - k) * 5) = sp := by
      rw [show (k + 1) * 5 + (M.length - k) * 5 = ((M ++ [z]).flatMap blV).length by rw [fmB_len, hml]; omega, List.drop_left]
    have e3 : (M.take k ++ [M[k]]).flatMap blV ++ (M.drop k).flatMap blV = (M.take k ++ M[k] :: M.drop k).flatMap blV := by
      rw [← List.flatMap_append, List.append_assoc]; rfl
    have hl2 : (M.take k ++ M[k] :: M.drop k).length = M.length + 1 := by rw [List.length_append, List.length_cons, List.length_take, List.length_drop]; omega
    rw [e1, e2, e3]
    refine h.setRow (by rw [hl2]; exact h2) (by rw [hl2]; have := h.few; rw [hml] at this; exact this) fun x hx => h.far x (List.mem_append_left _ ?_)
    rcases List.mem_append.1 hx with hx | hx
    · exact List.mem_of_mem_take hx
    · rcases List.mem_cons.1 hx with rfl | hx
      · exact List.getElem_mem _
      · exact List.mem_of_mem_drop hx
/-- a new block stored whole at its place -/
theorem RowS.putNew {y : BK} {k : Nat} (h : RowS S w g cap M) (hy : M[k]? = some y) (id p : Int) (s : ByteArray) :
    RowS S (((((w.setCell ⟨g, k * 5, none⟩ (.int .i64 id)).setCell ⟨g, k * 5 + 1, none⟩ (.int .i64 p)).setCell ⟨g, k * 5 + 2, none⟩ (.slice none 0 0)).setCell ⟨g, k * 5 + 3, none⟩ (.string s)).setCell ⟨g, k * 5 + 4, none⟩ (.slice none 0 0)) g cap (M.set k (newB id p s)) := by
  obtain ⟨⟨yid, ypar, yks, ytx, yps⟩, ykv, ypv⟩ := y
  have hkl := (List.getElem?_eq_some_iff.1 hy).1
  have get : ∀ (M : List BK) (x : BK), k < M.length → (M.set k x)[k]? = some x := fun M x hl => by rw [List.getElem?_set, if_pos rfl, if_pos hl]
  have hn0 := h.far _ (List.mem_of_getElem? hy)
  have s0 := h.store hy (j := 0) (y := (⟨id, ypar, yks, ytx, yps⟩, ykv, ypv)) (u := .int .i64 id) (by omega) rfl (by exact hn0)
  have q0 := get M (⟨id, ypar, yks, ytx, yps⟩, ykv, ypv) hkl
  have s1 := s0.store q0 (j := 1) (y := (⟨id, p, yks, ytx, yps⟩, ykv, ypv)) (u := .int .i64 p) (by omega) rfl (by have := s0.far _ (List.mem_of_getElem? q0); exact this)
  have q1 := get (M.set k (⟨id, ypar, yks, ytx, yps⟩, ykv, ypv)) (⟨id, p, yks, ytx, yps⟩, ykv, ypv) (by rw [List.length_set]; exact hkl)
  have s2 := s1.store q1 (j := 2) (y := (⟨id, p, [], ytx, yps⟩, .slice none 0 0, ypv)) (u := .slice none 0 0) (by omega) rfl ⟨(newB_nest _ _ id p s).1, (s1.far _ (List.mem_of_getElem? q1)).2⟩
  rw [List.set_set] at s1 s2 q1
  rw [List.set_set] at s2
  have q2 := get M (⟨id, p, [], ytx, yps⟩, .slice none 0 0, ypv) hkl
  have s3 := s2.store q2 (j := 3) (y := (⟨id, p, [], s, yps⟩, .slice none 0 0, ypv)) (u := .string s) (by omega) rfl (by have := s2.far _ (List.mem_of_getElem? q2); exact this)
  have q3 := get (M.set k (⟨id, p, [], ytx, yps⟩, .slice none 0 0, ypv)) (⟨id, p, [], s, yps⟩, .slice none 0 0, ypv) (by rw [List.length_set]; exact hkl)
  have s4 := s3.store q3 (j := 4) (y := newB id p s) (u := .slice none 0 0) (by omega) rfl (newB_nest _ _ _ _ _)
  rw [List.set_set, List.set_set] at s4
  exact s4
end
end Go.Proofs.YtmkicfjcgbfaaaaGreat
namespace Go.Proofs.YtmkicfjcgbfaaaaGreat
open Go.ChangeShapes Go.WideShapes Go.RowKit

theorem cellsO : Tryz.prog.cellsOf 31 = 13 := by kernel_rfl

section
variable {H : Type} {enc : TypeId × Value → H} {W : World}
set_option maxRecDepth 100000 in
theorem op_open (fuel : Nat) (cs : List Value) (x : DataW H × List MemPlace)
    (h : DataW.trod enc Tryz.prog W 0 (fun _ => true) true fuel 31 cs = some x) (hp : ∀ y ∈ x.2, y.block < W.heap.size) (hfit : Fits Tryz.prog 31 x.1) : ∃ o : Opn × Value, opV o = cs ∧ RV W W.heap.size o.2 o.1.val.items ∧ OI o.1 := by
  obtain ⟨xs, n, rfl, rfl, hlen, hxl, hf⟩ := DataW.trod_struct Tryz.underlying31 h
  rw [cellsO] at hlen
  match cs, hlen with
  | [u0, u1, u2, u3, u4, u5, u6, u7, u8, u9, u10, u11, u12], _ =>
    match xs, hxl with
    | [y0, y1, y2, y3, y4, y5, y6, y7, y8], _ =>
      have g0 : DataW.trod enc Tryz.prog W 0 (fun _ => true) true n 3 (([u0, u1, u2, u3, u4, u5, u6, u7, u8, u9, u10, u11, u12].drop 0).take (Tryz.prog.cellsOf 3)) = some y0 := hf 0 _ rfl
      have g1 : DataW.trod enc Tryz.prog W 0 (fun _ => true) true n 3 (([u0, u1, u2, u3, u4, u5, u6, u7, u8, u9, u10, u11, u12].drop 1).take (Tryz.prog.cellsOf 3)) = some y1 := hf 1 _ rfl
      have g2 : DataW.trod enc Tryz.prog W 0 (fun _ => true) true n 3 (([u0, u1, u2, u3, u4, u5, u6, u7, u8, u9, u10, u11, u12].drop 2).take (Tryz.prog.cellsOf 3)) = some y2 := hf 2 _ rfl
      have g3 : DataW.trod enc Tryz.prog W 0 (fun _ => true) true n 3 (([u0, u1, u2, u3, u4, u5, u6, u7, u8, u9, u10, u11, u12].drop 3).take (Tryz.prog.cellsOf 3)) = some y3 := hf 3 _ rfl
      have g4 : DataW.trod enc Tryz.prog W 0 (fun _ => true) true n 3 (([u0, u1, u2, u3, u4, u5, u6, u7, u8, u9, u10, u11, u12].drop 4).take (Tryz.prog.cellsOf 3)) = some y4 := hf 4 _ rfl
      have g5 : DataW.trod enc Tryz.prog W 0 (fun _ => true) true n 3 (([u0, u1, u2, u3, u4, u5, u6, u7, u8, u9, u10, u11, u12].drop 5).take (Tryz.prog.cellsOf 3)) = some y5 := hf 5 _ rfl
      have g6 : DataW.trod enc Tryz.prog W 0 (fun _ => true) true n 9 (([u0, u1, u2, u3, u4, u5, u6, u7, u8, u9, u10, u11, u12].drop 6).take (Tryz.prog.cellsOf 9)) = some y6 := hf 6 _ rfl
      have g7 : DataW.trod enc Tryz.prog W 0 (fun _ => true) true n 9 (([u0, u1, u2, u3, u4, u5, u6, u7, u8, u9, u10, u11, u12].drop 7).take (Tryz.prog.cellsOf 9)) = some y7 := hf 7 _ rfl
      have g8 : DataW.trod enc Tryz.prog W 0 (fun _ => true) true n 29 (([u0, u1, u2, u3, u4, u5, u6, u7, u8, u9, u10, u11, u12].drop 8).take (Tryz.prog.cellsOf 29)) = some y8 := hf 8 _ rfl
      rw [cells_of_int] at g0 g1 g2 g3 g4 g5
      rw [cells_of_str] at g6 g7
      rw [cellsV] at g8
      change DataW.trod enc Tryz.prog W 0 (fun _ => true) true n 3 [u0] = some y0 at g0
      change DataW.trod enc Tryz.prog W 0 (fun _ => true) true n 3 [u1] = some y1 at g1
      change DataW.trod enc Tryz.prog W 0 (fun _ => true) true n 3 [u2] = some y2 at g2
      change DataW.trod enc Tryz.prog W 0 (fun _ => true) true n 3 [u3] = some y3 at g3
      change DataW.trod enc Tryz.prog W 0 (fun _ => true) true n 3 [u4] = some y4 at g4
      change DataW.trod enc Tryz.prog W 0 (fun _ => true) true n 3 [u5] = some y5 at g5
      change DataW.trod enc Tryz.prog W 0 (fun _ => true) true n 9 [u6] = some y6 at g6
      change DataW.trod enc Tryz.prog W 0 (fun _ => true) true n 9 [u7] = some y7 at g7
      change DataW.trod enc Tryz.prog W 0 (fun _ => true) true n 29 [u8, u9, u10, u11, u12] = some y8 at g8
      obtain ⟨k, e0, rfl, h0⟩ := DataW.trod_int Tryz.underlying3 g0
      obtain ⟨d, e1, rfl, h1⟩ := DataW.trod_int Tryz.underlying3 g1
      obtain ⟨p, e2, rfl, h2⟩ := DataW.trod_int Tryz.underlying3 g2
      obtain ⟨a, e3, rfl, h3⟩ := DataW.trod_int Tryz.underlying3 g3
      obtain ⟨f, e4, rfl, h4⟩ := DataW.trod_int Tryz.underlying3 g4
      obtain ⟨t, e5, rfl, h5⟩ := DataW.trod_int Tryz.underlying3 g5
      obtain ⟨s, e6, rfl, _⟩ := DataW.trod_string Tryz.underlying9 g6
      obtain ⟨nm, e7, rfl, _⟩ := DataW.trod_string Tryz.underlying9 g7
      simp at e0 e1 e2 e3 e4 e5 e6 e7
      subst e0 e1 e2 e3 e4 e5 e6 e7
      obtain ⟨v, hv, hq⟩ := val_open n _ y8 g8 (fun y hy => hp y (by simp [hy])) (hfit.part Tryz.underlying31 (j := 8) rfl rfl)
      have hs : s.size ≤ 140737488351232 := (hfit.part Tryz.underlying31 (j := 6) rfl rfl).string
      exact ⟨(⟨k, d, p, a, f, t, s, nm, v.1⟩, v.2), by rw [← hv]; rfl, ⟨n, hq⟩, i64_bounds h1, i64_bounds h2, i64_bounds h3, i64_bounds h4, i64_bounds h5, hs⟩
set_option maxRecDepth 100000 in
/-- operations that came in -/
theorem ops_open {u : Value} {d : DataW H} {p : List MemPlace} {r : Reach} {b0 : Nat} (hv : Value.okWide Tryz.prog W r b0 23 u) (h : DataW.Trod enc Tryz.prog W 0 (fun _ => true) true 23 u d p) (hp : ∀ x ∈ p, x.block < W.heap.size) (hfit : Fits Tryz.prog 23 d) :
    ∃ A n c, ∃ l, u = .slice A n c ∧ ROs W W.heap.size u l := by
  obtain ⟨a0, n0, c0, rfl⟩ := okWide_slice Tryz.underlying23 hv
  obtain ⟨fuel, hf⟩ := h
  obtain ⟨A, len, cap, M, e, h1, h2, h3, h4⟩ := open_list (en := opV) (Q := fun _ x => RV W W.heap.size x.2 x.1.val.items ∧ OI x.1) Tryz.underlying23 cellsO (by omega) (show _ = 144 by kernel_rfl) opV_len
    (fun m cs z hm htr hz hft => op_open m cs z htr hz hft) hf hp hfit
  exact ⟨a0, n0, c0, M.map Prod.fst, rfl, A, len, cap, M, rfl, e, h1, h2, h3, fun x hx => by
    obtain ⟨m, _, hq⟩ := h4 x hx
    exact hq⟩
end
end Go.Proofs.YtmkicfjcgbfaaaaGreat
namespace Go.Proofs.YtmkicfjcgbfaaaaGreat
open Go.ChangeShapes Go.WideShapes Go.RowKit

/-- a deed of a history -/
structure Dd where
  what : Int
  ops : List Opn
def dV : Dd × Value → List Value := fun x => [.int .i64 x.1.what, x.2]
theorem dV_len (x : Dd × Value) : (dV x).length = 2 := rfl
/-- deeds in memory -/
def RDs (W : World) (B : Nat) (v : Value) (l : List Dd) : Prop := ∃ A n c, ∃ M : List (Dd × Value), M.map Prod.fst = l ∧ v = .slice A n c ∧ n = M.length ∧ (n ≤ c ∧ n * 32 ≤ 140737488351232) ∧ Reads W B 2 A n (M.flatMap dV) ∧ ∀ x ∈ M, ROs W B x.2 x.1.ops
theorem cellsDd : Tryz.prog.cellsOf 50 = 2 := by kernel_rfl
theorem cells_of_ops : Tryz.prog.cellsOf 23 = 1 := by kernel_rfl

section
variable {H : Type} {enc : TypeId × Value → H} {W : World}
set_option maxRecDepth 100000 in
theorem opsrow_open {n : Nat} {u : Value} {y : DataW H × List MemPlace} (h : DataW.trod enc Tryz.prog W 0 (fun _ => true) true n 23 [u] = some y) (hp : ∀ x ∈ y.2, x.block < W.heap.size) (hfit : Fits Tryz.prog 23 y.1) : ∃ l, ROs W W.heap.size u l := by
  obtain ⟨A, len, cap, M, e, h1, h2, h3, h4⟩ := open_list (en := opV) (Q := fun _ x => RV W W.heap.size x.2 x.1.val.items ∧ OI x.1) Tryz.underlying23 cellsO (by omega) (show _ = 144 by kernel_rfl) opV_len
    (fun m cs z hm htr hz hft => op_open m cs z htr hz hft) h hp hfit
  exact ⟨M.map Prod.fst, A, len, cap, M, rfl, e, h1, h2, h3, fun x hx => by
    obtain ⟨m, _, hq⟩ := h4 x hx
    exact hq⟩
set_option maxRecDepth 100000 in
theorem deed_open (fuel : Nat) (cs : List Value) (x : DataW H × List MemPlace)
    (h : DataW.trod enc Tryz.prog W 0 (fun _ => true) true fuel 50 cs = some x) (hp : ∀ y ∈ x.2, y.block < W.heap.size) (hfit : Fits Tryz.prog 50 x.1) : ∃ d : Dd × Value, dV d = cs ∧ ROs W W.heap.size d.2 d.1.ops := by
  obtain ⟨xs, n, rfl, rfl, hlen, hxl, hf⟩ := DataW.trod_struct Tryz.underlying50 h
  rw [cellsDd] at hlen
  match cs, hlen with
  | [u0, u1], _ =>
    match xs, hxl with
    | [y0, y1], _ =>
      have g0 : DataW.trod enc Tryz.prog W 0 (fun _ => true) true n 3 (([u0, u1].drop 0).take (Tryz.prog.cellsOf 3)) = some y0 := hf 0 _ rfl
      have g1 : DataW.trod enc Tryz.prog W 0 (fun _ => true) true n 23 (([u0, u1].drop 1).take (Tryz.prog.cellsOf 23)) = some y1 := hf 1 _ rfl
      rw [cells_of_int] at g0
      rw [cells_of_ops] at g1
      change DataW.trod enc Tryz.prog W 0 (fun _ => true) true n 3 [u0] = some y0 at g0
      change DataW.trod enc Tryz.prog W 0 (fun _ => true) true n 23 [u1] = some y1 at g1
      obtain ⟨k, e0, rfl, _⟩ := DataW.trod_int Tryz.underlying3 g0
      simp at e0
      subst e0
      obtain ⟨l, hl⟩ := opsrow_open g1 (fun y hy => hp y (by simp [hy])) (hfit.part Tryz.underlying50 (j := 1) rfl rfl)
      exact ⟨(⟨k, l⟩, u1), rfl, hl⟩
set_option maxRecDepth 100000 in
/-- deeds that came in -/
theorem deeds_open {u : Value} {d : DataW H} {p : List MemPlace} {r : Reach} {b0 : Nat} (hv : Value.okWide Tryz.prog W r b0 44 u) (h : DataW.Trod enc Tryz.prog W 0 (fun _ => true) true 44 u d p) (hp : ∀ x ∈ p, x.block < W.heap.size) (hfit : Fits Tryz.prog 44 d) :
    ∃ A n c, ∃ l, u = .slice A n c ∧ RDs W W.heap.size u l := by
  obtain ⟨a0, n0, c0, rfl⟩ := okWide_slice Tryz.underlying44 hv
  obtain ⟨fuel, hf⟩ := h
  obtain ⟨A, len, cap, M, e, h1, h2, h3, h4⟩ := open_list (en := dV) (Q := fun _ x => ROs W W.heap.size x.2 x.1.ops) Tryz.underlying44 cellsDd (by omega) (show _ = 32 by kernel_rfl) dV_len
    (fun m cs z hm htr hz hft => deed_open m cs z htr hz hft) hf hp hfit
  exact ⟨a0, n0, c0, M.map Prod.fst, rfl, A, len, cap, M, rfl, e, h1, h2, h3, fun x hx => by
    obtain ⟨m, _, hq⟩ := h4 x hx
    exact hq⟩
end
section
variable {w w' : World} {B n c : Nat} {A : Option Addr} {l : List Dd}
theorem RDs.below {v : Value} (h : RDs w B v l) (hb : Below B w w') : RDs w' B v l := by
  obtain ⟨A, n, c, M, h1, h2, h3, h4, h5, h6⟩ := h
  exact ⟨A, n, c, M, h1, h2, h3, h4, h5.below hb, fun x hx => (h6 x hx).below hb⟩
theorem RDs.len (h : RDs w B (.slice A n c) l) : n = l.length ∧ n ≤ c ∧ n * 32 ≤ 140737488351232 := by
  obtain ⟨A', n', c', M, h1, e, h2, h3, h4, h5⟩ := h
  injection e with e1 e2 e3
  subst e1 e2 e3
  exact ⟨by rw [h2, ← h1, List.length_map], h3⟩
theorem RDs.at_ (h : RDs w B (.slice A n c) l) {k : Nat} {x : Dd} (hk : l[k]? = some x) : ∃ b off Ao no co, A = some ⟨b, off, none⟩ ∧ b < B ∧ w.cell? ⟨b, off + k * 2, none⟩ = some (.int .i64 x.what) ∧ w.cell? ⟨b, off + k * 2 + 1, none⟩ = some (.slice Ao no co) ∧ ROs w B (.slice Ao no co) x.ops := by
  obtain ⟨A', n', c', M, h1, e, h2, h3, h4, h5⟩ := h
  injection e with e1 e2 e3
  subst e1 e2 e3
  obtain ⟨y, hy, rfl⟩ : ∃ y, M[k]? = some y ∧ y.1 = x := by
    rw [← h1, List.getElem?_map, Option.map_eq_some_iff] at hk
    exact hk
  obtain ⟨b, off, e, hb, hc⟩ := h4.plain_at (by omega) dV_len h2 hy
  have h6 := h5 y (List.mem_of_getElem? hy)
  obtain ⟨⟨wh, os⟩, v⟩ := y
  obtain ⟨Ao, no, co, rfl⟩ : ∃ Ao no co, v = .slice Ao no co := by
    obtain ⟨Ao, no, co, _, _, e, _⟩ := h6
    exact ⟨Ao, no, co, e⟩
  exact ⟨b, off, Ao, no, co, e, hb, hc 0 _ rfl, hc 1 _ rfl, h6⟩
end
end Go.Proofs.YtmkicfjcgbfaaaaGreat
namespace Go.Proofs.YtmkicfjcgbfaaaaGreat
open Go.ChangeShapes Go.WideShapes Go.RowKit

theorem cellsB : Tryz.prog.cellsOf 38 = 5 := by kernel_rfl
theorem cells_of_ints : Tryz.prog.cellsOf 34 = 1 := by kernel_rfl

section
variable {H : Type} {enc : TypeId × Value → H} {W : World}
theorem ints_flat : ∀ M : List Int, M.map (Value.int .i64) = M.flatMap fun x => [Value.int .i64 x]
  | [] => rfl
  | x :: M => by rw [List.map_cons, List.flatMap_cons, ints_flat M]; rfl
set_option maxRecDepth 100000 in
theorem ints_open {fuel : Nat} {u : Value} {y : DataW H × List MemPlace} (h : DataW.trod enc Tryz.prog W 0 (fun _ => true) true fuel 34 [u] = some y) (hp : ∀ x ∈ y.2, x.block < W.heap.size) (hfit : Fits Tryz.prog 34 y.1) : ∃ ks, RIn W W.heap.size u ks := by
  obtain ⟨A, len, cap, M, rfl, h1, h2, h3, h4⟩ := open_list (en := fun x : Int => [Value.int .i64 x]) (Q := fun _ x => I64 x) Tryz.underlying34 cells_of_int (by omega) (show _ = 8 by kernel_rfl) (fun _ => rfl)
    (fun m cs z hm htr hz hft => by
      obtain ⟨k, e0, rfl, hk⟩ := DataW.trod_int Tryz.underlying3 htr
      exact ⟨k, e0.symm, i64_bounds hk⟩) h hp hfit
  exact ⟨M, A, len, cap, rfl, h1, h2, by rw [show M.map (Value.int .i64) = M.flatMap fun x => [Value.int .i64 x] from ints_flat M]; exact h3, fun x hx => by
    obtain ⟨m, _, hq⟩ := h4 x hx
    exact hq⟩

set_option maxRecDepth 100000 in
theorem block_open (fuel : Nat) (cs : List Value) (x : DataW H × List MemPlace)
    (h : DataW.trod enc Tryz.prog W 0 (fun _ => true) true fuel 38 cs = some x) (hp : ∀ y ∈ x.2, y.block < W.heap.size) (hfit : Fits Tryz.prog 38 x.1) : ∃ b : Bl × Value × Value, blV b = cs ∧ RIn W W.heap.size b.2.1 b.1.kids ∧ RPr W W.heap.size b.2.2 b.1.props := by
  obtain ⟨xs, n, rfl, rfl, hlen, hxl, hf⟩ := DataW.trod_struct Tryz.underlying38 h
  rw [cellsB] at hlen
  match cs, hlen with
  | [u0, u1, u2, u3, u4], _ =>
    match xs, hxl with
    | [y0, y1, y2, y3, y4], _ =>
      have g0 : DataW.trod enc Tryz.prog W 0 (fun _ => true) true n 3 (([u0, u1, u2, u3, u4].drop 0).take (Tryz.prog.cellsOf 3)) = some y0 := hf 0 _ rfl
      have g1 : DataW.trod enc Tryz.prog W 0 (fun _ => true) true n 3 (([u0, u1, u2, u3, u4].drop 1).take (Tryz.prog.cellsOf 3)) = some y1 := hf 1 _ rfl
      have g2 : DataW.trod enc Tryz.prog W 0 (fun _ => true) true n 34 (([u0, u1, u2, u3, u4].drop 2).take (Tryz.prog.cellsOf 34)) = some y2 := hf 2 _ rfl
      have g3 : DataW.trod enc Tryz.prog W 0 (fun _ => true) true n 9 (([u0, u1, u2, u3, u4].drop 3).take (Tryz.prog.cellsOf 9)) = some y3 := hf 3 _ rfl
      have g4 : DataW.trod enc Tryz.prog W 0 (fun _ => true) true n 36 (([u0, u1, u2, u3, u4].drop 4).take (Tryz.prog.cellsOf 36)) = some y4 := hf 4 _ rfl
      rw [cells_of_int] at g0 g1
      rw [cells_of_ints] at g2
      rw [cells_of_str] at g3
      rw [cells_of_props] at g4
      change DataW.trod enc Tryz.prog W 0 (fun _ => true) true n 3 [u0] = some y0 at g0
      change DataW.trod enc Tryz.prog W 0 (fun _ => true) true n 3 [u1] = some y1 at g1
      change DataW.trod enc Tryz.prog W 0 (fun _ => true) true n 34 [u2] = some y2 at g2
      change DataW.trod enc Tryz.prog W 0 (fun _ => true) true n 9 [u3] = some y3 at g3
      change DataW.trod enc Tryz.prog W 0 (fun _ => true) true n 36 [u4] = some y4 at g4
      obtain ⟨k, e0, rfl, _⟩ := DataW.trod_int Tryz.underlying3 g0
      obtain ⟨i, e1, rfl, _⟩ := DataW.trod_int Tryz.underlying3 g1
      obtain ⟨s, e3, rfl, _⟩ := DataW.trod_string Tryz.underlying9 g3
      simp at e0 e1 e3
      subst e0 e1 e3
      obtain ⟨ks, hk⟩ := ints_open g2 (fun y hy => hp y (by simp [hy])) (hfit.part Tryz.underlying38 (j := 2) rfl rfl)
      obtain ⟨ps, hq⟩ := props_open g4 (fun y hy => hp y (by simp [hy])) (hfit.part Tryz.underlying38 (j := 4) rfl rfl)
      exact ⟨(⟨k, i, ks, s, ps⟩, u2, u4), rfl, hk, hq⟩

set_option maxRecDepth 100000 in
/-- a base that came in -/
theorem base_open {u : Value} {d : DataW H} {p : List MemPlace} {r : Reach} {b0 : Nat} (hv : Value.okWide Tryz.prog W r b0 22 u) (h : DataW.Trod enc Tryz.prog W 0 (fun _ => true) true 22 u d p) (hp : ∀ x ∈ p, x.block < W.heap.size) (hfit : Fits Tryz.prog 22 d) :
    ∃ A n c, ∃ l, u = .slice A n c ∧ RB W W.heap.size u l := by
  obtain ⟨a0, n0, c0, rfl⟩ := okWide_slice Tryz.underlying22 hv
  obtain ⟨fuel, hf⟩ := h
  obtain ⟨A, len, cap, M, e, h1, h2, h3, h4⟩ := open_list (en := blV) (Q := fun _ x => RIn W W.heap.size x.2.1 x.1.kids ∧ RPr W W.heap.size x.2.2 x.1.props) Tryz.underlying22 cellsB (by omega) (show _ = 80 by kernel_rfl) blV_len
    (fun m cs z hm htr hz hft => block_open m cs z htr hz hft) hf hp hfit
  exact ⟨a0, n0, c0, M.map Prod.fst, rfl, A, len, cap, M, rfl, e, h1, h2, h3, fun x hx => by
    obtain ⟨m, _, hq⟩ := h4 x hx
    exact hq⟩
end
end Go.Proofs.YtmkicfjcgbfaaaaGreat
namespace Go.Proofs.YtmkicfjcgbfaaaaGreat
open Go.RowKit

/-- what Do leaves -/
def Do1R (gh : Nat) (lf : List Bl) (os : List Opn) (d : Nat) (o : Opn) (er : Int) (w : World) (e : Ending) (w' : World) : Prop :=
  (er ≠ 0 ∧ e = .returned (.int .i64 er) ∧ Below w.heap.size w w') ∨ (er = 0 ∧ e = .returned (.int .i64 0) ∧ ∃ gn', HistM w' gh gn' lf (os.take d ++ [o]) (d + 1) ∧ w.heap.size ≤ gn' ∧ Kept (fun b => b = gh) w w')
set_option maxRecDepth 100000 in
set_option maxHeartbeats 4000000 in
/-- the method Do -/
theorem do_any (w : World) (gh gn : Nat) (lf : List Bl) (os : List Opn) (d : Nat) (h : HistM w gh gn lf os d) (hd : d < 5000) (f : Int → Option Int) (G : Good (applL lf (os.take d)) f) (o : Opn) (hoi : OI o) (Av : Option Addr) (nv cv : Nat) (hv : RVX w (fun b => b < w.heap.size ∧ b ≠ gh) (.slice Av nv cv) o.val.items) :
    Calls Tryz.prog 23 #[.pointer (some ⟨gh, 0, none⟩), AO (o, .slice Av nv cv)] w (Do1R gh lf os d o (opErr (applL lf (os.take d)) f o) w) := by
  obtain ⟨wb, hwb⟩ : ∃ wb, wb = (w.alloc (.cells (opC o (.slice Av nv cv)) 31)).alloc (.cells (opC o (.slice Av nv cv)) 31) := ⟨_, rfl⟩
  have hb0 : Below w.heap.size w (w.alloc (.cells (opC o (.slice Av nv cv)) 31)) := (Below.refl _ _).alloc (Nat.le_refl _) _
  have hbb : Below w.heap.size w wb := by rw [hwb]; exact hb0.alloc hb0.size _
  have hz : wb.heap.size = w.heap.size + 2 := by rw [hwb]; simp
  have P0 : Hid (Blk (w.alloc (.cells (opC o (.slice Av nv cv)) 31)) w.heap.size 31 (opC o (.slice Av nv cv))) := Blk.new _ _ _
  have P1 : Blk wb (w.heap.size + 1) 31 (opV (o, .slice Av nv cv)).toArray := by
    rw [hwb]
    have := Blk.new (w.alloc (.cells (opC o (.slice Av nv cv)) 31)) 31 (opC o (.slice Av nv cv))
    have h2 : (w.alloc (.cells (opC o (.slice Av nv cv)) 31)).heap.size = w.heap.size + 1 := by simp
    rw [h2] at this
    exact this
  have hgh := h.lt.1
  have hros : ROsX wb (fun b => b < wb.heap.size ∧ b ≠ gh) (.slice (some ⟨w.heap.size + 1, 0, none⟩) 1 1) [o] := ROsX.one P1 ⟨by omega, by omega⟩ ((hv.keep fun p hp => hbb.cell hp.1).weak fun b hb => ⟨by have := hb.1; omega, hb.2⟩) hoi
  have hgood := h.good
  have HDA : Hid (Calls Tryz.prog 24 #[.pointer (some ⟨gh, 0, none⟩), .slice (some ⟨w.heap.size + 1, 0, none⟩) 1 1] wb (Do1R gh lf os d o (opErr (applL lf (os.take d)) f o) w)) := by
    refine (doAll_any wb gh gn lf os d (h.below hbb) [o] _ 1 1 hros (by show d + 1 ≤ 5000; omega)).mono ?_
    rintro e w' (⟨k, er, h1, ⟨o2, f2, h2, h3, h4, h5⟩, rfl, h6⟩ | ⟨h1, rfl, ⟨h2, _⟩ | ⟨_, _, gn', h2, h3, h4⟩⟩)
    · obtain rfl : k = 0 := by
        have := (List.getElem?_eq_some_iff.1 h2).1
        simpa using this
      obtain rfl : o = o2 := by simpa using h2
      have h3 : Good (applL lf (os.take d)) f2 := h3
      have h4 : opErr (applL lf (os.take d)) f2 o = er := h4
      rw [G.uniq h3, h4]
      exact .inl ⟨h5, rfl, hbb.trans (h6.mono hbb.size)⟩
    · cases h2
    · obtain ⟨f2, h5, h6⟩ := h1 0 o rfl
      have h5 : Good (applL lf (os.take d)) f2 := h5
      have h6 : opErr (applL lf (os.take d)) f2 o = 0 := h6
      rw [G.uniq h5, h6]
      exact .inr ⟨rfl, rfl, gn', h2, by omega, (Kept.of hbb).trans h4 fun _ _ e => e⟩
  obtain ⟨er, her⟩ : ∃ er, er = opErr (applL lf (os.take d)) f o := ⟨_, rfl⟩
  rw [← her] at HDA ⊢
  have HWB := Lib.hid hwb
  dsimp only [AO, opC] at HWB P0 ⊢
  have e0 := fun i => P0.out.cell i
  clear hwb hb0 hbb hz P1 hros hgood hv her h G hgh
  go_enter Tryz.func23, Tryz.ntmps23
  go_upto_region 1 with fail
  go_wp2_with (rw [← HWB.out]; refine HDA.out.mono ?_)
  rintro e w2 (⟨h1, rfl, h2⟩ | ⟨h1, rfl, h2⟩)
  · have H1 := Lib.hid h1
    have H2 := Lib.hid h2
    clear h1 h2
    go_wp2_with fail
    go_ret
    exact .inl ⟨H1.out, rfl, H2.out⟩
  · have H1 := Lib.hid h1
    have H2 := Lib.hid h2
    clear h1 h2
    go_wp2_with fail
    go_ret
    exact .inr ⟨H1.out, rfl, H2.out⟩
end Go.Proofs.YtmkicfjcgbfaaaaGreat
namespace Go.Proofs.YtmkicfjcgbfaaaaGreat
open Go.RowKit

/-- what an operation leads to -/
def NO : Nest (Opn × Value) := fun w S x => RVX w S x.2 x.1.val.items
theorem NO_ok : NestOk NO := fun _ _ _ _ _ h hk hS => (h.keep hk).weak hS
abbrev OutO := OutN opV 13 31 NO
theorem OutO.ros {w : World} {base : Nat} {v : Value} {M : List (Opn × Value)} (h : OutO w base v M) (hi : ∀ x ∈ M, OI x.1) (hb : M.length * 144 ≤ 140737488351232) : ∃ A c, v = .slice A M.length c ∧ ROs w w.heap.size (.slice A M.length M.length) (M.map Prod.fst) ∧ M.length ≤ c ∧ (A = none → M.length = 0 ∧ c = 0) := by
  obtain ⟨A, c, e, hR⟩ := own_reads h.own
  refine ⟨A, c, e, ⟨A, _, _, M, rfl, rfl, rfl, ⟨Nat.le_refl _, hb⟩, hR, fun x hx => ⟨(h.nest x hx).reads fun b hb => hb.1, hi x hx⟩⟩, ?_, ?_⟩
  · rcases h.own.2 with ⟨e2, h0⟩ | ⟨g, cap, cur, e2, _, _, hle, _⟩
    · omega
    · rw [e] at e2; injection e2 with _ _ e3; omega
  · rintro rfl
    rcases h.own.2 with ⟨e2, h0⟩ | ⟨g, cap, cur, e2, _⟩
    · rw [e] at e2; injection e2 with _ _ e3
      exact ⟨h0, e3⟩
    · rw [e] at e2; injection e2 with e3; cases e3
set_option maxRecDepth 100000 in
set_option maxHeartbeats 8000000 in
/-- the method Ops -/
theorem histOps_any (w : World) (gh gn : Nat) (lf : List Bl) (os : List Opn) (d : Nat) (h : HistM w gh gn lf os d) (hd5 : d ≤ 5000) :
    Calls Tryz.prog 29 #[.pointer (some ⟨gh, 0, none⟩)] w fun e w' => (∃ A n c, e = .returned (.slice A n c) ∧ ROs w' w'.heap.size (.slice A n c) (os.take d)) ∧ Below w.heap.size w w' := by
  obtain ⟨i0, hi, hz0, hz1, hz2⟩ := info_parts op_info
  have hle := h.le
  obtain ⟨_, ⟨Af, nf, cf, Ao, no, co, nn, cn, M0, h1, _, h3, _, _, _⟩, _, _, _⟩ := h
  have hno := (h3.reads (B := w.heap.size) fun b hb => hb.1).len
  have hro := (h3.take (k := d) (by omega)).reads (B := w.heap.size) fun b hb => hb.1
  obtain ⟨L, hL⟩ : ∃ L, L = os.take d := ⟨_, rfl⟩
  have hdL : d = L.length := by rw [hL, List.length_take]; omega
  rw [← hL] at hro ⊢
  have c1 := h1.cell 1
  have c2 := h1.cell 2
  have hnc : no ≤ co := hno.2.1
  have hnb : no * 144 ≤ 140737488351232 := hno.2.2
  have hk0 : (0 : Int) ≤ (d : Int) := by omega
  have hk2 : (d : Int) ≤ (co : Int) := by omega
  have hk3 : (d : Int) ≤ (no : Int) := by omega
  have HRO := Lib.hid hro
  have HDL := Lib.hid hdL
  clear h1 h3 hno hro hL hdL hle
  go_enter Tryz.func29, Tryz.ntmps29
  go_upto_region 2 with fail
  go_quiet (fail)
  obtain ⟨w0, hw0⟩ : ∃ w0, w0 = w.drewN nq := ⟨_, rfl⟩
  have HB0 : Hid (Below w.heap.size w w0) := by rw [hw0]; exact bdrew (Below.refl _ _) nq
  rw [← hw0]
  clear hw0 c1 c2
  go_wp2_with fail
  go_loopg [3, 16] d (fun gg s3 s16 wr => ∃ (k : Nat) (v : Value) (M : List (Opn × Value)), k + gg = d ∧ v = s3 ∧ s16 = .int .i64 (k : Int) ∧ Hid (M.map Prod.fst = L.take k) ∧ Hid (∀ x ∈ M, OI x.1) ∧ Hid (OutO wr w0.heap.size v M) ∧ Hid (Below w0.heap.size w0 wr))
  case atStart => exact ⟨0, _, [], by omega, rfl, rfl, rfl, fun x hx => (by cases hx), OutN.start _ _, Below.refl _ _⟩
  case round =>
    obtain ⟨k, v, M, hkg, rfl, rfl, hM, hoi, hout, hb⟩ := hrel
    obtain ⟨W1, rfl⟩ : ∃ W1, W1 = wr := ⟨_, rfl⟩
    have hz0' : w0.heap.size ≤ W1.heap.size := hb.out.size
    have hml : M.length = k := by
      have := congrArg List.length hM.out
      rw [List.length_map, List.length_take] at this
      have := HDL.out
      omega
    have HML := Lib.hid hml
    have hm5 : M.length ≤ 5000 := by omega
    clear hml
    have HBW : Hid (Below w.heap.size w W1) := HB0.out.trans (hb.out.mono HB0.out.size)
    by_cases hk : k < d
    · obtain ⟨o, hko⟩ : ∃ o, L[k]? = some o := ⟨_, List.getElem?_eq_getElem (by have := HDL.out; omega)⟩
      have HLK : Hid (L.take (k + 1) = L.take k ++ [o]) := by
        show _ = _
        rw [List.take_add_one, hko]; rfl
      obtain ⟨b, off, Av, nv, cv, rfl, hbb, hc, hrv, hoo⟩ := (HRO.out.below HBW.out).at_ hko
      have HOI := Lib.hid hoo
      have hw1 : w.heap.size ≤ W1.heap.size := HBW.out.size
      have HRV : Hid (RV W1 W1.heap.size (.slice Av nv cv) o.val.items) := hrv.more hw1
      obtain ⟨ok, oi, op, oa, of, ot, ox, on, ⟨vk, vi, vt, vs, vl⟩⟩ := o
      have g0 : W1.cell? ⟨b, off + k * 13, none⟩ = some (.int .i64 ok) := hc 0 _ rfl
      have g1 : W1.cell? ⟨b, off + k * 13 + 1, none⟩ = some (.int .i64 oi) := hc 1 _ rfl
      have g2 : W1.cell? ⟨b, off + k * 13 + 2, none⟩ = some (.int .i64 op) := hc 2 _ rfl
      have g3 : W1.cell? ⟨b, off + k * 13 + 3, none⟩ = some (.int .i64 oa) := hc 3 _ rfl
      have g4 : W1.cell? ⟨b, off + k * 13 + 4, none⟩ = some (.int .i64 of) := hc 4 _ rfl
      have g5 : W1.cell? ⟨b, off + k * 13 + 5, none⟩ = some (.int .i64 ot) := hc 5 _ rfl
      have g6 : W1.cell? ⟨b, off + k * 13 + 6, none⟩ = some (.string ox) := hc 6 _ rfl
      have g7 : W1.cell? ⟨b, off + k * 13 + 7, none⟩ = some (.string on) := hc 7 _ rfl
      have g8 : W1.cell? ⟨b, off + k * 13 + 8, none⟩ = some (.int .i64 vk) := hc 8 _ rfl
      have g9 : W1.cell? ⟨b, off + k * 13 + 9, none⟩ = some (.int .i64 vi) := hc 9 _ rfl
      have g10 : W1.cell? ⟨b, off + k * 13 + 10, none⟩ = some (.int .i64 vt) := hc 10 _ rfl
      have g11 : W1.cell? ⟨b, off + k * 13 + 11, none⟩ = some (.string vs) := hc 11 _ rfl
      have g12 : W1.cell? ⟨b, off + k * 13 + 12, none⟩ = some (.slice Av nv cv) := hc 12 _ rfl
      have j0 : (0 : Int) ≤ (k : Int) := by omega
      have j1 : (k : Int) < (d : Int) := by omega
      obtain ⟨wa, hwa⟩ : ∃ wa, wa = W1.alloc (.cells #[.int .i64 ok, .int .i64 oi, .int .i64 op, .int .i64 oa, .int .i64 of, .int .i64 ot, .string ox, .string on, .int .i64 vk, .int .i64 vi, .int .i64 vt, .string vs, .slice Av nv cv] 31) := ⟨_, rfl⟩
      have hal : Below W1.heap.size W1 wa := by rw [hwa]; exact (Below.refl _ _).alloc (Nat.le_refl _) _
      have P0 : Hid (Blk wa W1.heap.size 31 #[.int .i64 ok, .int .i64 oi, .int .i64 op, .int .i64 oa, .int .i64 of, .int .i64 ot, .string ox, .string on, .int .i64 vk, .int .i64 vi, .int .i64 vt, .string vs, .slice Av nv cv]) := by rw [hwa]; exact Blk.new _ _ _
      have HBA : Hid (Below w0.heap.size w0 wa) := hb.out.trans (hal.mono hz0')
      have HOA := Lib.hid (OutN.below NO_ok hout.out hal)
      have HCP := Lib.hid (copyOp_any ⟨ok, oi, op, oa, of, ot, ox, on, ⟨vk, vi, vt, vs, vl⟩⟩ Av nv cv wa wa.heap.size (Nat.le_refl _) ((HRV.out.below hal).more hal.size))
      unfold CopyOR at HCP
      dsimp only [AO, Vl.kind, Vl.int_, Vl.to_, Vl.text, Vl.items] at HCP
      have HWA := Lib.hid hwa
      clear hko hbb hc hrv hoo hwa hal
      go_upto_region 5 with fail
      rw [← HWA.out]
      clear g0 g1 g2 g3 g4 g5 g6 g7 g8 g9 g10 g11 g12
      have e0 := fun i => P0.out.cell i
      go_wp2_with fail
      refine HCP.out.mono ?_
      rintro e w2 ⟨⟨A2, n2, c2, rfl, hr2⟩, hb2⟩
      have HB2 : Hid (Below w0.heap.size w0 w2) := HBA.out.trans (hb2.mono HBA.out.size)
      have HO2 := Lib.hid (OutN.below NO_ok HOA.out hb2)
      have hob := own_block_lt HOA.out.own
      have HV2 : Hid (RVX w2 (fun b => b < w2.heap.size ∧ v.ownBlock ≠ some b) (.slice A2 n2 c2) vl) := hr2.weak fun b hb => ⟨hb.2, fun e => by have := (hob b e).2; omega⟩
      have hzw : w0.heap.size ≤ w2.heap.size := HB2.out.size
      have HRD : Hid (Reads (w2.alloc (.cells #[.int .i64 ok, .int .i64 oi, .int .i64 op, .int .i64 oa, .int .i64 of, .int .i64 ot, .string ox, .string on, .int .i64 vk, .int .i64 vi, .int .i64 vt, .string vs, .slice A2 n2 c2] 31)) (w2.heap.size + 1) 13 (some ⟨w2.heap.size, 0, none⟩) 1 [.int .i64 ok, .int .i64 oi, .int .i64 op, .int .i64 oa, .int .i64 of, .int .i64 ot, .string ox, .string on, .int .i64 vk, .int .i64 vi, .int .i64 vt, .string vs, .slice A2 n2 c2]) :=
        ⟨rfl, fun _ => ⟨_, rfl, by simp, row_new _ _ [.int .i64 ok, .int .i64 oi, .int .i64 op, .int .i64 oa, .int .i64 of, .int .i64 ot, .string ox, .string on, .int .i64 vk, .int .i64 vi, .int .i64 vt, .string vs, .slice A2 n2 c2] _ rfl⟩⟩
      have HO7 := Lib.hid (OutN.below NO_ok HO2.out ((Below.refl w2.heap.size w2).alloc (Nat.le_refl _) (.cells #[.int .i64 ok, .int .i64 oi, .int .i64 op, .int .i64 oa, .int .i64 of, .int .i64 ot, .string ox, .string on, .int .i64 vk, .int .i64 vi, .int .i64 vt, .string vs, .slice A2 n2 c2] 31)))
      have HM5 : Hid (M.length ≤ 5000) := hm5
      clear hr2 hb2 hob e0
      go_wp2_with (at_builtin; refine wpList_append_any _ rfl _ _ 23 rfl w0.heap.size 31 i0 opZ 13 144 Tryz.underlying23 hi hz0 hz1 hz2 rfl (by decide) v M.length _ rfl HO7.out.own (w2.heap.size + 1) (some ⟨w2.heap.size, 0, none⟩) 1 1 [.int .i64 ok, .int .i64 oi, .int .i64 op, .int .i64 oa, .int .i64 of, .int .i64 ot, .string ox, .string on, .int .i64 vk, .int .i64 vi, .int .i64 vt, .string vs, .slice A2 n2 c2] rfl HRD.out (opV_one (⟨ok, oi, op, oa, of, ot, ox, on, ⟨vk, vi, vt, vs, vl⟩⟩, .slice A2 n2 c2) ⟨_, _, _, rfl⟩) (by unfold maxLen; have := HM5.out; omega) (by have := HM5.out; omega) (by simp; omega) ?_; intro v7 w7 hown7 hg7 hat7)
      have HOF : Hid (OutO w7 w0.heap.size v7 (M ++ [((⟨ok, oi, op, oa, of, ot, ox, on, ⟨vk, vi, vt, vs, vl⟩⟩ : Opn), .slice A2 n2 c2)])) :=
        OutN.app NO_ok HO7.out (x := ((⟨ok, oi, op, oa, of, ot, ox, on, ⟨vk, vi, vt, vs, vl⟩⟩ : Opn), (Value.slice A2 n2 c2))) (S := fun b => b < w2.heap.size ∧ v.ownBlock ≠ some b) (HV2.out.keep fun p hp => World.cell?_alloc_lt _ _ _ hp.1) (fun b hb => ⟨Nat.lt_of_lt_of_le hb.1 (by simp), hb.2⟩) hown7 hg7 hat7
      have HB7 : Hid (Below w0.heap.size w0 w7) := (HB2.out.alloc hzw _).grown hg7 (by simp; omega) (fun g h => (own_block_lt HO7.out.own g h).1)
      clear hown7 hg7 hat7
      go_wp2_with fail
      go_roundg (d - (k + 1))
      case measure => omega
      case rel =>
        refine ⟨k + 1, v7, _, by omega, rfl, by go_num, ?_, ?_, HOF, HB7⟩
        · show _ = _
          rw [HLK.out, List.map_append, hM.out]; rfl
        · intro x hx
          rcases List.mem_append.1 hx with hx | hx
          · exact hoi.out x hx
          · obtain rfl : x = _ := List.mem_singleton.1 hx
            exact HOI.out
    · obtain rfl : k = d := by omega
      obtain ⟨Aq, cq, rfl, hros, hlq, hnone⟩ := hout.out.ros hoi.out (by have := hm5; omega)
      have hml2 : M.map Prod.fst = L := by rw [hM.out, HDL.out, List.take_length]
      rw [hml2] at hros
      have HR := Lib.hid hros
      have HCL := Lib.hid fun W => clipO_any Aq M.length cq W hlq hnone
      clear hros hml2 hnone
      go_wp2_with fail
      refine (HCL.out _).mono ?_
      rintro e w4 ⟨rfl, hw⟩
      rw [hw]
      clear hw
      go_wp2_with fail
      go_ret
      exact ⟨⟨Aq, _, _, rfl, HR.out⟩, HBW.out⟩
end Go.Proofs.YtmkicfjcgbfaaaaGreat
