/-
  DERIVED. The walk of show.Diff. Conditions: sizes. By an AI agent.
-/
import Derived.Test.YtmkicfjcgbfaaaaGreatTm04
import Derived.Test.YtmkicfjcgbfaaaaGreatTm03
import Derived.Test.YtmkicfjcgbfaaaaGreatTm02
import Derived.Test.YtmkicfjcgbfaaaaGreatTm01
import Derived.Test.YtmkicfjcgbfaaaaGreatTg12
import Derived.Deep.RegionHeld3
namespace Go.Proofs.YtmkicfjcgbfaaaaGreat
open Go.RowKit

/-- the operations of Diff -/
def dfO (la : List Bl) (r : Bl) (lb : List Bl) : List Opn := (awayK la r).flatMap (awayO la) ++ (ord lb 41 0).flatMap (bldO lb)
theorem RV.none_any {w : World} {B : Nat} {S : Nat → Prop} {v : Value} (h : RV w B v []) : RVX w S v [] := by
  obtain ⟨d, h⟩ := h
  cases d with
  | zero =>
    obtain ⟨_, A, c, e⟩ := h
    exact ⟨0, rfl, A, c, e⟩
  | succ d =>
    obtain ⟨A, n, c, M, h1, h2, h3, _⟩ := h
    obtain rfl : M = [] := List.map_eq_nil_iff.1 h1
    exact ⟨0, rfl, A, c, by rw [h2, h3]; rfl⟩
theorem OutN.apps {α : Type} {enc : α → List Value} {size base : Nat} {e : TypeId} {N : Nest α} {w w' : World} {v v' : Value} {M Ms : List α} (hN : NestOk N) (h : OutN enc size e N w base v M) {S : Nat → Prop} (hx : ∀ x ∈ Ms, N w S x) (hS : ∀ b, S b → b < w.heap.size ∧ v.ownBlock ≠ some b)
    (hown : w'.ownsRow base e size v' (M.length + Ms.length) (M.flatMap enc ++ Ms.flatMap enc)) (hg : w.grownBy w' v.ownBlock) (hat : v'.ownBlock = v.ownBlock ∨ v'.ownBlock = some w.heap.size) : OutN enc size e N w' base v' (M ++ Ms) := by
  have key : ∀ b, b < w.heap.size ∧ v.ownBlock ≠ some b → b < w'.heap.size ∧ v'.ownBlock ≠ some b := fun b ⟨h2, h3⟩ => by
    refine ⟨Nat.lt_of_lt_of_le h2 hg.size, ?_⟩
    rcases hat with g | g
    · rw [g]; exact h3
    · rw [g]; intro e; injection e with e; omega
  refine ⟨by rw [List.length_append, List.flatMap_append]; exact hown, fun y hy => ?_⟩
  rcases List.mem_append.1 hy with hy | hy
  · exact hN _ _ _ _ y (h.nest y hy) (fun _ hp => World.cell?_of_block (hg.block _ hp.1 (fun e => hp.2 e.symm))) key
  · exact hN _ _ _ _ y (hx y hy) (fun _ hp => World.cell?_of_block (hg.block _ (hS _ hp).1 (fun e => (hS _ hp).2 e.symm))) fun b hb => key b (hS b hb)
section
variable {l : List Bl} {f : Int → Option Int}
theorem blkAt_few (G : Good l f) (k : Int) : (blkAt l k).props.length ≤ 20 := by
  unfold blkAt
  cases h : l[(posOf l k).toNat]? with
  | none => exact Nat.zero_le _
  | some b => exact (cp_ok (G.tree.loc b (List.mem_of_getElem? h)).2.2).1
theorem away_len (G : Good l f) : ∀ ks : List Int, (ks.flatMap (awayO l)).length ≤ 21 * ks.length
  | [] => Nat.zero_le _
  | k :: ks => by
    have h1 := away_len G ks
    have h2 := blkAt_few G k
    have h3 : (awayO l k).length = (blkAt l k).props.length + 1 := by unfold awayO; rw [List.length_append, List.length_map]; rfl
    rw [List.flatMap_cons, List.length_append, List.length_cons]
    omega
theorem bld_len (G : Good l f) : ∀ ks : List Int, (ks.flatMap (bldO l)).length ≤ 21 * ks.length
  | [] => Nat.zero_le _
  | k :: ks => by
    have h1 := bld_len G ks
    have h2 := blkAt_few G k
    have h3 : (bldO l k).length = (blkAt l k).props.length + 1 := by unfold bldO; rw [List.length_cons, List.length_map]
    rw [List.flatMap_cons, List.length_append, List.length_cons]
    omega
theorem bldO_len (l : List Bl) (k : Int) : (bldO l k).length = (blkAt l k).props.length + 1 := by unfold bldO; rw [List.length_cons, List.length_map]
/-- what has been taken away behind some pages -/
def awayT (l : List Bl) (r : Bl) (j : Nat) : List Opn := ((r.kids.take j).flatMap fun p => (p :: ord l 40 p).reverse).flatMap (awayO l)
theorem awayT_succ {r : Bl} {j : Nat} {p : Int} (h : r.kids[j]? = some p) : awayT l r (j + 1) = awayT l r j ++ (p :: ord l 40 p).reverse.flatMap (prO l) := by
  unfold awayT
  rw [List.take_add_one, h, Option.toList_some, List.flatMap_append, List.flatMap_append]
  congr 1
  rw [List.flatMap_cons, List.flatMap_nil, List.append_nil]; rfl
theorem awayT_len (G : Good l f) {r : Bl} (hr : r ∈ l) (hr0 : r.id = 0) (j : Nat) : (awayT l r j).length ≤ 42000 := by
  have h1 := away_len G ((r.kids.take j).flatMap fun p => (p :: ord l 40 p).reverse)
  have h2 : ((r.kids.take j).flatMap fun p => (p :: ord l 40 p).reverse).length ≤ 2000 := by
    have e1 : ∀ L : List Int, (L.flatMap fun p => (p :: ord l 40 p).reverse).length = (L.flatMap fun p => p :: ord l 40 p).length := fun L => by
      induction L with
      | nil => rfl
      | cons a L ih => rw [List.flatMap_cons, List.flatMap_cons, List.length_append, List.length_append, ih, List.length_reverse]
    rw [e1]
    have h3 := flat_take_le (fun p => p :: ord l 40 p) r.kids j
    have h4 : ord l 41 0 = r.kids.flatMap fun k => k :: ord l 40 k := by
      have := ord_blk G.kids 40 hr
      rwa [hr0] at this
    rw [← h4] at h3
    have h5 := ord_short G.kids 41 (.root (l := l))
    have := G.kids.short
    omega
  unfold awayT
  omega
theorem bldT_len (G : Good l f) (k : Nat) : (((ord l 41 0).take k).flatMap (bldO l)).length ≤ 42000 := by
  have h1 := bld_len G ((ord l 41 0).take k)
  have h2 : ((ord l 41 0).take k).length ≤ (ord l 41 0).length := by rw [List.length_take]; omega
  have h5 := ord_short G.kids 41 (.root (l := l))
  have := G.kids.short
  omega
theorem ixOf_idx {L ka kb : List Int} {k : Int} (e : L = ka ++ k :: kb) (hn : k ∉ ka) : ixOf L k = (L.idxOf k : Int) := by
  have h1 : L.idxOf k = ka.length := by rw [e, List.idxOf_append, if_neg hn, List.idxOf_cons_self, Nat.zero_add]
  rcases ixOf_spec L k with ⟨_, h⟩ | ⟨i, hi, hx, hlt⟩
  · exact absurd (by rw [e]; simp) h
  · rw [hi, h1]
    congr 1
    rcases Nat.lt_trichotomy i ka.length with h | h | h
    · rw [e, List.getElem?_append_left h] at hx
      exact absurd (List.mem_of_getElem? hx) hn
    · exact h
    · refine absurd (List.mem_of_getElem? (i := ka.length) ?_) hlt
      rw [List.getElem?_take, if_pos h, e, List.getElem?_append_right (Nat.le_refl _), Nat.sub_self]; rfl
end
/-- what stands between two worlds is as it was; a row of the call's own lies elsewhere -/
structure Mid (B : Nat) (w4 wr : World) (v : Value) : Prop where
  size : w4.heap.size ≤ wr.heap.size
  same : ∀ i, B ≤ i → i < w4.heap.size → wr.heap[i]? = w4.heap[i]?
  own : ∀ g, v.ownBlock = some g → g < B ∨ w4.heap.size ≤ g
theorem Mid.below {B : Nat} {w4 wr wr' : World} {v : Value} (h : Mid B w4 wr v) (hb : Below wr.heap.size wr wr') : Mid B w4 wr' v :=
  ⟨Nat.le_trans h.size hb.size, fun i h1 h2 => (hb.block i (Nat.lt_of_lt_of_le h2 h.size)).trans (h.same i h1 h2), h.own⟩
theorem Mid.grown {B n : Nat} {w4 wr wr' : World} {v v' : Value} (h : Mid B w4 wr v) (hg : wr.grownBy wr' v.ownBlock) (hat : v'.ownBlock = v.ownBlock ∨ v'.ownBlock = some n) (hn : w4.heap.size ≤ n) : Mid B w4 wr' v' :=
  ⟨Nat.le_trans h.size hg.size, fun i h1 h2 => (hg.block i (Nat.lt_of_lt_of_le h2 h.size) fun e => by
    rcases h.own i e.symm with h | h
    · omega
    · omega).trans (h.same i h1 h2), fun g hg' => by
    rcases hat with e | e
    · rw [e] at hg'; exact h.own g hg'
    · rw [e] at hg'
      exact .inr (by rw [← Option.some.inj hg']; exact hn)⟩
theorem Mid.cell {B : Nat} {w4 wr : World} {v : Value} (h : Mid B w4 wr v) {p : Addr} (h1 : B ≤ p.block) (h2 : p.block < w4.heap.size) : wr.cell? p = w4.cell? p := World.cell?_of_block (h.same _ h1 h2)
theorem MapI.mid {w w' : World} {b n : Nat} {F : Int → Option Int} (h : MapI w b n F) (e : w'.heap[b]? = w.heap[b]?) : MapI w' b n F := by
  obtain ⟨D, ⟨es, clock, h1, h2⟩, h3⟩ := h
  exact ⟨D, ⟨es, clock, e.trans h1, h2⟩, h3⟩
/-- what Diff leaves -/
def DiffR (os : List Opn) (w : World) (e : Ending) (w' : World) : Prop := (∃ A n c, e = .returned (.tuple #[.slice A n c, .int .i64 0]) ∧ ROs w' w'.heap.size (.slice A n c) os) ∧ Below w.heap.size w w'

set_option maxRecDepth 100000 in
set_option maxHeartbeats 4000000 in
/-- Diff where a base has an error, or both are the same -/
theorem diff_none (la lb : List Bl) (f1 f2 : Int → Option Int) (hf1 : DepOk la f1) (hf2 : DepOk lb f2) (A1 A2 : Option Addr) (n1 c1 n2 c2 : Nat) (w : World) (h1 : RB w w.heap.size (.slice A1 n1 c1) la) (h2 : RB w w.heap.size (.slice A2 n2 c2) lb) (er : Int) (her : er = if baseE la f1 ≠ 0 then baseE la f1 else baseE lb f2) (hs : er ≠ 0 ∨ sameBs la lb = true) :
    Calls Tryz.prog 31 #[.slice A1 n1 c1, .slice A2 n2 c2] w fun e w' => e = .returned (.tuple #[.slice none 0 0, .int .i64 er]) ∧ Below w.heap.size w w' := by
  have HC1 := Lib.hid fun W (hW : Below w.heap.size w W) => treeCheck_any la f1 A1 n1 c1 W w.heap.size hW.size (h1.below hW) hf1
  have HC2 := Lib.hid fun W (hW : Below w.heap.size w W) => treeCheck_any lb f2 A2 n2 c2 W w.heap.size hW.size (h2.below hW) hf2
  have HSM := Lib.hid fun W (hW : Below w.heap.size w W) => same_any la lb A1 A2 n1 c1 n2 c2 W w.heap.size hW.size (h1.below hW) (h2.below hW)
  obtain ⟨e1, he1⟩ : ∃ e1, e1 = baseE la f1 := ⟨_, rfl⟩
  obtain ⟨e2, he2⟩ : ∃ e2, e2 = baseE lb f2 := ⟨_, rfl⟩
  obtain ⟨sm, hsm⟩ : ∃ sm, sm = sameBs la lb := ⟨_, rfl⟩
  rw [← he1] at HC1 her
  rw [← he2] at HC2 her
  rw [← hsm] at HSM hs
  have HER := Lib.hid her
  have HS := Lib.hid hs
  clear he1 he2 hsm h1 h2 her hs hf1 hf2
  go_enter Tryz.func31, Tryz.ntmps31
  have PZ : Hid (Blk (w.alloc (.cells #[.slice A1 n1 c1, .slice A2 n2 c2] 22)) w.heap.size 22 #[.slice A1 n1 c1, .slice A2 n2 c2]) := Blk.new _ _ _
  have BZ : Hid (Below w.heap.size w (w.alloc (.cells #[.slice A1 n1 c1, .slice A2 n2 c2] 22))) := (Below.refl _ _).alloc (Nat.le_refl _) _
  go_wp2_with fail
  go_loopg [25] 2 (fun gg s25 wr => ∃ j : Nat, j + gg = 2 ∧ s25 = .int .i64 (j : Int) ∧ Hid ((1 ≤ j → e1 = 0) ∧ (2 ≤ j → e2 = 0)) ∧ Hid (Blk wr w.heap.size 22 #[.slice A1 n1 c1, .slice A2 n2 c2]) ∧ Hid (Below w.heap.size w wr))
  case atStart => exact ⟨0, rfl, rfl, ⟨fun h => (by omega), fun h => (by omega)⟩, PZ, BZ⟩
  case round =>
    obtain ⟨j, hjg, rfl, hz, hp, hb⟩ := hrel
    obtain ⟨W1, rfl⟩ : ∃ W1, W1 = wr := ⟨_, rfl⟩
    by_cases hj : j < 2
    · obtain ⟨A, n, c, ej, hcell, HCK, hzn, hze⟩ : ∃ A n c ej, W1.cell? ⟨w.heap.size, j, none⟩ = some (.slice A n c) ∧ Hid (Calls Tryz.prog 10 #[.slice A n c] W1 fun e w' => e = .returned (.int .i64 ej) ∧ Below W1.heap.size W1 w') ∧ (ej = 0 → (1 ≤ j + 1 → e1 = 0) ∧ (2 ≤ j + 1 → e2 = 0)) ∧ (ej ≠ 0 → er = ej) := by
        rcases Nat.lt_or_ge j 1 with h | h
        · obtain rfl : j = 0 := by omega
          exact ⟨A1, n1, c1, e1, hp.out.cell 0, HC1.out W1 hb.out, fun h => ⟨fun _ => h, fun h => by omega⟩, fun h => by rw [HER.out, if_pos h]⟩
        · obtain rfl : j = 1 := by omega
          have h1 := hz.out.1 (by omega)
          exact ⟨A2, n2, c2, e2, hp.out.cell 1, HC2.out W1 hb.out, fun h => ⟨fun _ => h1, fun _ => h⟩, fun h => by rw [HER.out, if_neg (by rw [h1]; decide)]⟩
      have HZN := Lib.hid hzn
      have HZE := Lib.hid hze
      have j0 : (0 : Int) ≤ (j : Int) := by omega
      have j1 : (j : Int) < 2 := by omega
      have hw1 : w.heap.size ≤ W1.heap.size := hb.out.size
      clear hzn hze
      go_wp2_with fail
      refine HCK.out.mono ?_
      rintro e w2 ⟨rfl, hb2⟩
      have HB2 : Hid (Below w.heap.size w w2) := hb.out.trans (hb2.mono hw1)
      have HP2 := Lib.hid (hp.out.below hb2 hp.out.lt)
      clear hb2 hcell
      by_cases he : ej = 0
      · subst he
        have HZ2 : Hid ((1 ≤ j + 1 → e1 = 0) ∧ (2 ≤ j + 1 → e2 = 0)) := HZN.out rfl
        go_wp2_with fail
        go_roundg (2 - (j + 1))
        case measure => omega
        case rel => exact ⟨j + 1, by omega, by go_num, HZ2, HP2, HB2⟩
      · have he' : (ej != 0) = true := by simpa using he
        obtain rfl := HZE.out he
        clear he
        go_wp2_with fail
        go_ret2
        exact ⟨rfl, HB2.out⟩
    · obtain rfl : j = 2 := by omega
      have h1 := hz.out.1 (by omega)
      have h2 := hz.out.2 (by omega)
      have h0 : er = 0 := by rw [HER.out, if_neg (by rw [h1]; decide), h2]
      have hst : sm = true := HS.out.resolve_left fun h => h h0
      subst hst
      have HS2 := Lib.hid (HSM.out W1 hb.out)
      have hw1 : w.heap.size ≤ W1.heap.size := hb.out.size
      subst h0
      clear h1 h2
      go_wp2_with fail
      refine HS2.out.mono ?_
      rintro e w2 ⟨rfl, hb2⟩
      have HB2 : Hid (Below w.heap.size w w2) := hb.out.trans (hb2.mono hw1)
      clear hb2
      go_wp2_with fail
      go_ret2
      exact ⟨rfl, HB2.out⟩

set_option maxRecDepth 100000 in
set_option maxHeartbeats 16000000 in
/-- Diff of two bases without error that are not the same -/
theorem diff_good (la lb : List Bl) (f1 f2 : Int → Option Int) (G1 : Good la f1) (G2 : Good lb f2) (r : Bl) (hr : la[0]? = some r) (A1 A2 : Option Addr) (n1 c1 n2 c2 : Nat) (w : World) (h1 : RB w w.heap.size (.slice A1 n1 c1) la) (h2 : RB w w.heap.size (.slice A2 n2 c2) lb) (hs : sameBs la lb = false) :
    Calls Tryz.prog 31 #[.slice A1 n1 c1, .slice A2 n2 c2] w (DiffR (dfO la r lb) w) := by
  obtain ⟨m0, mhi, mz0, mz1, mz2⟩ := info_parts op_info
  have hrm := List.mem_of_getElem? hr
  have hr0 : r.id = 0 := by
    obtain ⟨r', h, h0, _⟩ := G1.kids.root
    rw [hr] at h
    rw [Option.some.inj h]; exact h0
  have HC1 := Lib.hid fun W (hW : Below w.heap.size w W) => treeCheck_any la f1 A1 n1 c1 W w.heap.size hW.size (h1.below hW) fun _ => G1.dep
  have HC2 := Lib.hid fun W (hW : Below w.heap.size w W) => treeCheck_any lb f2 A2 n2 c2 W w.heap.size hW.size (h2.below hW) fun _ => G2.dep
  rw [G1.clean] at HC1
  rw [G2.clean] at HC2
  have HSM := Lib.hid fun W (hW : Below w.heap.size w W) => same_any la lb A1 A2 n1 c1 n2 c2 W w.heap.size hW.size (h1.below hW) (h2.below hW)
  rw [hs] at HSM
  have HAT := Lib.hid fun W (hW : Below w.heap.size w W) => showAt_any lb A2 n2 c2 W w.heap.size hW.size (h2.below hW) G2.kids.rise G2.kids.ids
  have HORD := Lib.hid fun W (hW : Below w.heap.size w W) => order_any lb f2 A2 n2 c2 W w.heap.size hW.size (h2.below hW) fun _ => G2.dep
  rw [show orderL lb f2 = ord lb 41 0 from if_pos G2.clean] at HORD
  have HPR := Lib.hid fun (p : Int) (hp : p ∈ r.kids) W (hW : Below w.heap.size w W) => by
    have hdp : Dp la p 1 := .step r 0 p (by rw [hr0]; exact .root) hrm hp
    obtain ⟨q, b, e1, e2, e3⟩ := hdp.blk G1.kids
    have hp0 : 0 < posOf la p := by
      have := pos_pos G1.kids (List.mem_of_getElem? e2) (by rw [e3]; exact (G1.kids.kid r hrm p hp).1)
      rw [e3] at this
      omega
    obtain ⟨p', q', i', x', y', hat⟩ := G1.mv hp0
    exact treePrune_ok la f1 G1 A1 n1 c1 p p' q' i' x' y' hat 1 hdp (by omega) W ((h1.below hW).more hW.size)
  obtain ⟨b1, off1, Ak, nk, ck, Ap, np, cp, rfl, hb1, _, _, q2, _, _, hK, _⟩ := h1.at_ hr
  rw [Nat.zero_mul, Nat.add_zero] at q2
  have HK := Lib.hid hK
  have HKL := Lib.hid hK.len
  have hnk : nk ≤ ck ∧ nk * 8 ≤ 140737488351232 := hK.len.2
  have hn1 : 0 < n1 := by
    have := (List.getElem?_eq_some_iff.1 hr).1
    have := h1.len.1
    omega
  have hn1' : (0 : Int) < (n1 : Int) := by omega
  have HQ2 := Lib.hid q2
  have HN2 := Lib.hid h2.len
  have hn2b : n2 ≤ c2 ∧ n2 * 80 ≤ 140737488351232 := h2.len.2
  have H2 := Lib.hid h2
  have HG1 := Lib.hid G1
  have HG2 := Lib.hid G2
  have HRM := Lib.hid hrm
  have HR0 := Lib.hid hr0
  obtain ⟨ks, hks⟩ : ∃ ks, ks = ord lb 41 0 := ⟨_, rfl⟩
  rw [← hks] at HORD
  have HKS := Lib.hid hks
  clear hks h1 h2 hs G1 G2 hr hrm hr0 q2 hK
  have PZ : Hid (Blk (w.alloc (.cells #[.slice (some ⟨b1, off1, none⟩) n1 c1, .slice A2 n2 c2] 22)) w.heap.size 22 #[.slice (some ⟨b1, off1, none⟩) n1 c1, .slice A2 n2 c2]) := Blk.new _ _ _
  have BZ : Hid (Below w.heap.size w (w.alloc (.cells #[.slice (some ⟨b1, off1, none⟩) n1 c1, .slice A2 n2 c2] 22))) := (Below.refl _ _).alloc (Nat.le_refl _) _
  go_enter Tryz.func31, Tryz.ntmps31
  go_wp2_with fail
  go_loopg [25] 2 (fun gg s25 wr => ∃ j : Nat, j + gg = 2 ∧ s25 = .int .i64 (j : Int) ∧ Hid (Blk wr w.heap.size 22 #[.slice (some ⟨b1, off1, none⟩) n1 c1, .slice A2 n2 c2]) ∧ Hid (Below w.heap.size w wr))
  case atStart => exact ⟨0, rfl, rfl, PZ, BZ⟩
  case round =>
    obtain ⟨j, hjg, rfl, hp, hb⟩ := hrel
    obtain ⟨W1, rfl⟩ : ∃ W1, W1 = wr := ⟨_, rfl⟩
    have hw1 : w.heap.size ≤ W1.heap.size := hb.out.size
    by_cases hj : j < 2
    · obtain ⟨A, n, c, hcell, HCK⟩ : ∃ A n c, W1.cell? ⟨w.heap.size, j, none⟩ = some (.slice A n c) ∧ Hid (Calls Tryz.prog 10 #[.slice A n c] W1 fun e w' => e = .returned (.int .i64 0) ∧ Below W1.heap.size W1 w') := by
        rcases Nat.lt_or_ge j 1 with h | h
        · obtain rfl : j = 0 := by omega
          exact ⟨_, n1, c1, hp.out.cell 0, HC1.out W1 hb.out⟩
        · obtain rfl : j = 1 := by omega
          exact ⟨A2, n2, c2, hp.out.cell 1, HC2.out W1 hb.out⟩
      have j0 : (0 : Int) ≤ (j : Int) := by omega
      have j1 : (j : Int) < 2 := by omega
      go_wp2_with fail
      refine HCK.out.mono ?_
      rintro e w2 ⟨rfl, hb2⟩
      have HB2 : Hid (Below w.heap.size w w2) := hb.out.trans (hb2.mono hw1)
      have HP2 := Lib.hid (hp.out.below hb2 hp.out.lt)
      clear hb2 hcell
      go_wp2_with fail
      go_roundg (2 - (j + 1))
      case measure => omega
      case rel => exact ⟨j + 1, by omega, by go_num, HP2, HB2⟩
    · obtain rfl : j = 2 := by omega
      have HS2 := Lib.hid (HSM.out W1 hb.out)
      clear hj hjg
      go_wp2_with fail
      refine HS2.out.mono ?_
      rintro e w2 ⟨rfl, hb2⟩
      have HB2 : Hid (Below w.heap.size w w2) := hb.out.trans (hb2.mono hw1)
      have q2 : w2.cell? ⟨b1, off1 + 2, none⟩ = some (.slice Ak nk ck) := (HB2.out.cell (p := ⟨b1, off1 + 2, none⟩) hb1).trans HQ2.out
      clear hb2
      go_wp2_with fail
      clear q2
      go_loopg [9, 43] nk (fun gg s9 s43 wr => ∃ (j : Nat) (v : Value) (M : List (Opn × Value)), j + gg = nk ∧ v = s9 ∧ s43 = .int .i64 (j : Int) ∧ Hid (M.map Prod.fst = awayT la r j) ∧ Hid (∀ x ∈ M, OI x.1) ∧ Hid (OutO wr w.heap.size v M) ∧ Hid (Below w.heap.size w wr))
      case atStart => exact ⟨0, _, [], by omega, rfl, rfl, rfl, fun x hx => (by cases hx), OutN.start _ _, HB2⟩
      case round =>
        obtain ⟨j, v, M, hjg, rfl, rfl, hM, hoi, hout, hb3⟩ := hrel
        obtain ⟨W2, rfl⟩ : ∃ W2, W2 = wr := ⟨_, rfl⟩
        have hw2 : w.heap.size ≤ W2.heap.size := hb3.out.size
        have HML : Hid (M.length ≤ 42000) := by
          show _ ≤ _
          have h1 := congrArg List.length hM.out
          rw [List.length_map] at h1
          rw [h1]; exact awayT_len HG1.out HRM.out HR0.out j
        by_cases hj : j < nk
        · obtain ⟨p, hp⟩ : ∃ p, r.kids[j]? = some p := ⟨_, List.getElem?_eq_getElem (by have := HKL.out.1; omega)⟩
          obtain ⟨bk, offk, rfl, hbk, g0⟩ := (HK.out.below hb3.out).at_ hp
          have HP := Lib.hid (HPR.out p (List.mem_of_getElem? hp) W2 hb3.out)
          have HTS := Lib.hid (awayT_succ (l := la) hp)
          have HTL := Lib.hid (awayT_len HG1.out HRM.out HR0.out (j + 1))
          have j0 : (0 : Int) ≤ (j : Int) := by omega
          have j1 : (j : Int) < (nk : Int) := by omega
          obtain ⟨PO, hPO⟩ : ∃ PO, PO = (p :: ord la 40 p).reverse.flatMap (prO la) := ⟨_, rfl⟩
          rw [show 41 - 1 = 40 from rfl, ← hPO] at HP
          rw [← hPO] at HTS
          have HPZ : Hid (∀ o ∈ PO, o.val.items = []) := by
            show ∀ o ∈ PO, _
            intro o ho
            rw [hPO] at ho
            obtain ⟨k, _, ho⟩ := List.mem_flatMap.1 ho
            unfold prO at ho
            rcases List.mem_append.1 ho with ho | ho
            · obtain ⟨q, _, rfl⟩ := List.mem_map.1 ho; rfl
            · rw [List.mem_singleton.1 ho]; rfl
          clear hp hPO
          go_wp2_with fail
          refine HP.out.mono ?_
          rintro e w3 ⟨⟨A', n', c', rfl, hros⟩, hb4⟩
          have HB4 : Hid (Below w.heap.size w w3) := hb3.out.trans (hb4.mono hw2)
          have hz4 := hb4.size
          have HO3 := Lib.hid (hout.out.below NO_ok hb4)
          obtain ⟨Ax, nx, cx, Ms, hms, e, hnx, ⟨hcx, hbx⟩, hrd, hxs⟩ := hros
          injection e with e1 e2 e3
          subst e1 e2 e3
          have HMS := Lib.hid hms
          have HNX := Lib.hid hnx
          have HXS := Lib.hid hxs
          have HRD := Lib.hid hrd
          have hone : Hid (∀ u ∈ Ms.flatMap opV, u.oneCell' = true) := by
            show ∀ u ∈ _, _
            intro u hu
            obtain ⟨x, hx, hu⟩ := List.mem_flatMap.1 hu
            obtain ⟨A9, n9, c9, e⟩ := (hxs x hx).1.slice
            exact opV_one x ⟨A9, n9, c9, e⟩ u hu
          have hsum : M.length + n' ≤ 42000 := by
            have h1 := congrArg List.length hM.out
            have h2 := HTL.out
            have h3 := congrArg List.length hms
            rw [List.length_map] at h1 h3
            rw [HTS.out, List.length_append] at h2
            omega
          have hb1' : Hid (M.length + n' ≤ maxLen) := by show _ ≤ _; unfold maxLen; omega
          have hb2' : Hid ((M.length + n') * 144 ≤ 140737488355328) := by show _ ≤ _; omega
          have hbase : w.heap.size ≤ w3.heap.size := HB4.out.size
          clear hb4 hms hnx hxs hrd g0
          go_wp2_with (at_builtin; refine wpList_append_any _ rfl _ _ 23 rfl w.heap.size 31 m0 opZ 13 144 Tryz.underlying23 mhi mz0 mz1 mz2 rfl (by decide) v M.length (M.flatMap opV) rfl HO3.out.own w3.heap.size A' n' c' (Ms.flatMap opV) rfl HRD.out hone.out hb1'.out hb2'.out hbase ?_)
          intro v4 w4 hown4 hg4 hat4
          have hblk := own_block_lt HO3.out.own
          have HO4 : Hid (OutO w4 w.heap.size v4 (M ++ Ms)) := HO3.out.apps NO_ok (S := fun _ => False) (fun x hx => by
            obtain ⟨h1, _⟩ := HXS.out x hx
            have h2 : x.1.val.items = [] := HPZ.out x.1 (by rw [← HMS.out]; exact List.mem_map.2 ⟨x, hx, rfl⟩)
            show RVX _ _ _ _
            rw [h2] at h1 ⊢
            exact h1.none_any) (fun b hb => hb.elim) (by rw [← HNX.out]; exact hown4) hg4 hat4
          have HB5 : Hid (Below w.heap.size w w4) := HB4.out.grown hg4 hbase (fun g hg => (hblk g hg).1)
          have HM4 : Hid ((M ++ Ms).map Prod.fst = awayT la r (j + 1)) := by
            show _ = _
            rw [List.map_append, hM.out, HMS.out, HTS.out]
          have HOI4 : Hid (∀ x ∈ M ++ Ms, OI x.1) := fun x hx => by
            rcases List.mem_append.1 hx with hx | hx
            · exact hoi.out x hx
            · exact (HXS.out x hx).2
          clear hown4 hg4 hat4 hblk hbase
          go_wp2_with fail
          go_roundg (nk - (j + 1))
          case measure => omega
          case rel => exact ⟨j + 1, v4, _, by omega, rfl, by go_num, HM4, HOI4, HO4, HB5⟩
        · obtain rfl : j = nk := by omega
          have HAW : Hid (M.map Prod.fst = (awayK la r).flatMap (awayO la)) := by
            show _ = _
            rw [hM.out]
            unfold awayT awayK
            rw [List.take_of_length_le (by rw [← HKL.out.1]; exact Nat.le_refl _)]
          have HAT2 := Lib.hid (HAT.out W2 hb3.out)
          unfold AtM at HAT2
          clear hj hjg
          go_wp2_with fail
          refine HAT2.out.mono ?_
          rintro e w3 ⟨bm, nm, F, rfl, hmap, hF, hbm, hb4⟩
          have HB4 : Hid (Below w.heap.size w w3) := hb3.out.trans (hb4.mono hw2)
          have HMAP := Lib.hid hmap
          have HF := Lib.hid hF
          have HZ23 : Hid (W2.heap.size ≤ w3.heap.size) := hb4.size
          have HO3 := Lib.hid (hout.out.below NO_ok hb4)
          have HORD2 := Lib.hid (HORD.out w3 HB4.out)
          unfold Ints1 at HORD2
          clear hmap hF hb4
          go_wp2_with fail
          refine HORD2.out.mono ?_
          rintro e w4 ⟨⟨Ao, no, co, rfl, hro⟩, hb5⟩
          have HB5 : Hid (Below w.heap.size w w4) := HB4.out.trans (hb5.mono HB4.out.size)
          have HMAP4 := Lib.hid (HMAP.out.below hb5 HMAP.out.lt_)
          have HO4 := Lib.hid (HO3.out.below NO_ok hb5)
          have HRO := Lib.hid hro
          have hro2 : RIn w4 w4.heap.size (.slice Ao no co) ks := hro.reads fun b hb => hb.2
          have HNO := Lib.hid hro2.len
          have hnob : no ≤ co ∧ no * 8 ≤ 140737488351232 := hro2.len.2
          have HBM := Lib.hid hbm
          have hz23 : W2.heap.size ≤ w3.heap.size := HZ23.out
          have MID4 : Hid (Mid W2.heap.size w4 w4 v) := ⟨Nat.le_refl _, fun _ _ _ => rfl, fun g hg => .inl (hout.out.blocks g hg).2⟩
          clear hro2 hbm
          have hmlt : bm < w4.heap.size := HMAP4.out.lt_
          have hw4 : w.heap.size ≤ w4.heap.size := HB5.out.size
          clear hb5 hro
          go_wp2_with fail
          go_loopg [9, 62] no (fun gg s9 s62 wr => ∃ (k : Nat) (v2 : Value) (M2 : List (Opn × Value)), k + gg = no ∧ v2 = s9 ∧ s62 = .int .i64 (k : Int) ∧ Hid (M2.map Prod.fst = (awayK la r).flatMap (awayO la) ++ (ks.take k).flatMap (bldO lb)) ∧ Hid (∀ x ∈ M2, OI x.1) ∧ Hid (OutO wr w.heap.size v2 M2) ∧ Hid (Below w.heap.size w wr) ∧ Hid (Mid W2.heap.size w4 wr v2))
          case atStart => exact ⟨0, v, M, by omega, rfl, rfl, by show _ = _; rw [HAW.out]; simp, hoi, HO4, HB5, MID4⟩
          case round =>
            obtain ⟨k, v2, M2, hkg, rfl, rfl, hM2, hoi2, hout2, HBW, hmid⟩ := hrel
            obtain ⟨W3, rfl⟩ : ∃ W3, W3 = wr := ⟨_, rfl⟩
            have hw3 : w4.heap.size ≤ W3.heap.size := hmid.out.size
            have HRO3 : Hid (RIn W3 W3.heap.size (.slice Ao no co) ks) := (HRO.out.keep (w' := W3) fun p hp => hmid.out.cell (by have := hp.1; omega) hp.2).reads fun b hb => Nat.lt_of_lt_of_le hb.2 hw3
            have HM3 := Lib.hid (MapI.mid HMAP4.out (hmid.out.same bm HBM.out hmlt))
            have HL1 : Hid (((awayK la r).flatMap (awayO la)).length ≤ 42000) := by
              show _ ≤ _
              have h1 := awayT_len HG1.out HRM.out HR0.out r.kids.length
              unfold awayT at h1
              rw [List.take_length] at h1
              exact h1
            have HML2 : Hid (M2.length ≤ 84000) := by
              show _ ≤ _
              have h1 := congrArg List.length hM2.out
              have h2 := bldT_len HG2.out k
              have h3 := HL1.out
              rw [← HKS.out] at h2
              rw [List.length_map, List.length_append] at h1
              omega
            by_cases hk : k < no
            · obtain ⟨id, hid⟩ : ∃ id, ks[k]? = some id := ⟨_, List.getElem?_eq_getElem (by have := HNO.out.1; omega)⟩
              obtain ⟨bo, offo, rfl, hbo, g0⟩ := HRO3.out.at_ hid
              obtain ⟨b, hbm2, hbid, hb0⟩ := ord_block HG2.out (k := id) (by rw [← HKS.out]; exact List.mem_of_getElem? hid)
              obtain ⟨y, hym, hyp, hky, _⟩ := HG2.out.tree.par b hbm2 (by rw [hbid]; exact hb0)
              obtain ⟨ka, kb, hkk⟩ := List.append_of_mem hky
              have hnd := HG2.out.kids.nod y hym
              rw [hkk] at hnd
              have hka : b.id ∉ ka := fun h => (List.nodup_append.1 hnd).2.2 _ h _ (by simp) rfl
              have hixo := ixOf_idx hkk hka
              obtain ⟨p, hp⟩ := List.mem_iff_getElem?.1 hbm2
              obtain ⟨q, hq⟩ := List.mem_iff_getElem?.1 hym
              have hpn : p < n2 := by have := (List.getElem?_eq_some_iff.1 hp).1; have := HN2.out.1; omega
              have hqn : q < n2 := by have := (List.getElem?_eq_some_iff.1 hq).1; have := HN2.out.1; omega
              have hids : ∀ x ∈ lb, I64 x.id := fun x hx => by have := HG2.out.kids.ids x hx; unfold I64; omega
              have hl1 := HM3.out.look sd_elem Tryz.underlying3 Tryz.underlying86 (hids b hbm2)
              rw [HF.out p b hp] at hl1
              have HOB : Hid (putInO lb id = ⟨1, b.id, b.parent, (y.kids.idxOf b.id : Int), 0, 0, b.text, ⟨#[]⟩, zV⟩ ∧ bldO lb id = putInO lb id :: b.props.map fun p => ⟨5, b.id, 0, 0, 0, 0, ⟨#[]⟩, p.name, p.val⟩) := by
                show _ ∧ _
                have e1 := (blkAt_mem HG2.out.kids hbm2).1
                have e2 := (blkAt_mem HG2.out.kids hym).1
                rw [hbid] at e1 ⊢
                rw [hyp] at e2
                unfold bldO putInO
                rw [e1, e2]
                exact ⟨rfl, rfl⟩
              have HTK : Hid (ks.take (k + 1) = ks.take k ++ [id]) := by
                show _ = _
                rw [List.take_add_one, hid]; rfl
              have htx : b.text.size ≤ 140737488351232 := Nat.le_trans (txt_size (HG2.out.tree.loc b hbm2).1) (by decide)
              obtain ⟨pl, hpl⟩ : ∃ pl, pl = y.kids.idxOf b.id := ⟨_, rfl⟩
              rw [← hpl] at HOB hixo
              have hpl5 : pl ≤ 500 := by
                rw [hpl]
                have h1 := HG2.out.kids.few y hym
                have h2 := List.idxOf_le_length (a := b.id) (l := y.kids)
                omega
              obtain ⟨b2, off2, Kx, nkx, ckx, Px, npx, cpx, rfl, hb2b, x0, x1, x2, x3, x4, _, hPx⟩ := (H2.out.below HBW.out).at_ hp
              obtain ⟨b2', off2', Ky, nky, cky, Py, npy, cpy, e2, _, y0, y1, y2, y3, y4, hKy, _⟩ := (H2.out.below HBW.out).at_ hq
              obtain ⟨rfl, rfl⟩ : b2 = b2' ∧ off2 = off2' := by injection e2 with e; injection e with e1 e2; exact ⟨e1, e2⟩
              have hpar : I64 b.parent := by rw [← hyp]; exact hids y hym
              have hidI : I64 b.id := hids b hbm2
              rw [hyp] at y0
              have HFY : Hid (F b.parent = some (q : Int)) := by
                show _ = _
                rw [← hyp]; exact HF.out q y hq
              have HIX := Lib.hid fun W (hW : Below W3.heap.size W3 W) => indexI_any y.kids Ky nky cky b.id W w.heap.size (hKy.below (hW.mono (Nat.le_trans hw4 hw3)))
              rw [hixo] at HIX
              obtain ⟨xid, xpar, xks, xtx, xps⟩ := b
              dsimp only at x0 x1 x2 x3 x4 hPx hl1 HOB HIX HFY hbid hpar hidI htx
              subst hbid
              have HPX := Lib.hid hPx
              have HPL := Lib.hid hPx.len
              have hpxb : npx ≤ cpx ∧ npx * 80 ≤ 140737488351232 := hPx.len.2
              have HIDI := Lib.hid hidI
              have HPARI := Lib.hid hpar
              have k0 : (0 : Int) ≤ (k : Int) := by omega
              have k1 : (k : Int) < (no : Int) := by omega
              have p0 : (0 : Int) ≤ (p : Int) := by omega
              have p1 : (p : Int) < (n2 : Int) := by omega
              have q0 : (0 : Int) ≤ (q : Int) := by omega
              have q1 : (q : Int) < (n2 : Int) := by omega
              have hKy2 : W3.cell? ⟨b2, off2 + (q * 5 + 2), none⟩ = some (.slice Ky nky cky) := by rw [← Nat.add_assoc]; exact y2
              obtain ⟨wa, hwa⟩ : ∃ wa, wa = W3.alloc (.cells #[.int .i64 xid, .int .i64 xpar, .slice Kx nkx ckx, .string xtx, .slice Px npx cpx] 38) := ⟨_, rfl⟩
              have hal : Below W3.heap.size W3 wa := by rw [hwa]; exact (Below.refl _ _).alloc (Nat.le_refl _) _
              have hza : W3.heap.size < wa.heap.size := by rw [hwa]; simp
              have QA : Hid (Blk wa W3.heap.size 38 #[.int .i64 xid, .int .i64 xpar, .slice Kx nkx ckx, .string xtx, .slice Px npx cpx]) := by rw [hwa]; exact Blk.new _ _ _
              have HMA := Lib.hid (HM3.out.below hal (Nat.lt_of_lt_of_le hmlt hw3))
              have hl2 := HMA.out.look sd_elem Tryz.underlying3 Tryz.underlying86 hpar
              rw [HFY.out] at hl2
              have y2a : wa.cell? ⟨b2, off2 + q * 5 + 2, none⟩ = some (.slice Ky nky cky) := (hal.cell (p := ⟨b2, off2 + q * 5 + 2, none⟩) (by show b2 < _; omega)).trans y2
              have HWA := Lib.hid hwa
              have HOA := Lib.hid (hout2.out.below NO_ok hal)
              have HBA : Hid (Below w.heap.size w wa) := HBW.out.trans (hal.mono HBW.out.size)
              have MIDA := Lib.hid (hmid.out.below hal)
              clear hid hbm2 hb0 hym hyp hky hkk hnd hka hixo hp hq hids e2 y0 y1 y2 y3 y4 hKy hPx hpl hwa hKy2
              go_upto_region 22 with fail
              rw [← HWA.out]
              clear x0 x1 x2 x3 x4
              have c1 := QA.out.cell 1
              go_wp2_with fail
              refine (HIX.out wa (by rw [HWA.out]; exact (Below.refl _ _).alloc (Nat.le_refl _) _)).mono ?_
              rintro e w5 ⟨rfl, hw5⟩
              rw [hw5]
              clear hw5 y2a hl1 hl2
              have c0 := QA.out.cell 0
              have c3 := QA.out.cell 3
              have c4 := QA.out.cell 4
              obtain ⟨O, hO⟩ : ∃ O, O = Obj.cells #[.int .i64 1, .int .i64 xid, .int .i64 xpar, .int .i64 (pl : Int), .int .i64 0, .int .i64 0, .string xtx, .string ⟨#[]⟩, .int .i64 0, .int .i64 0, .int .i64 0, .string ⟨#[]⟩, .slice none 0 0] 31 := ⟨_, rfl⟩
              have HRD : Hid (Reads (wa.alloc O) (wa.heap.size + 1) 13 (some ⟨wa.heap.size, 0, none⟩) 1 (opV ((⟨1, xid, xpar, (pl : Int), 0, 0, xtx, ⟨#[]⟩, zV⟩ : Opn), .slice none 0 0))) := by rw [hO]; exact ⟨rfl, fun _ => ⟨_, rfl, by simp, row_new _ _ (opV ((⟨1, xid, xpar, (pl : Int), 0, 0, xtx, ⟨#[]⟩, zV⟩ : Opn), .slice none 0 0)) _ rfl⟩⟩
              have HOX := Lib.hid (HOA.out.below NO_ok ((Below.refl _ _).alloc (Nat.le_refl _) O))
              have QO := Lib.hid (QA.out.alloc O)
              have MIDO := Lib.hid (MIDA.out.below ((Below.refl _ _).alloc (Nat.le_refl _) O))
              have HBO : Hid (Below w.heap.size w (wa.alloc O)) := HBA.out.alloc HBA.out.size O
              have hb1' : Hid (M2.length + 1 ≤ maxLen) := by show _ ≤ _; unfold maxLen; have := HML2.out; omega
              have hb2' : Hid ((M2.length + 1) * 144 ≤ 140737488355328) := by show _ ≤ _; have := HML2.out; omega
              have hbase : w.heap.size ≤ (wa.alloc O).heap.size := by have := HBA.out.size; simp; omega
              have hone : Hid (∀ u ∈ opV ((⟨1, xid, xpar, (pl : Int), 0, 0, xtx, ⟨#[]⟩, zV⟩ : Opn), Value.slice none 0 0), u.oneCell' = true) := opV_one _ ⟨_, _, _, rfl⟩
              have hsz : Hid ((wa.alloc O).heap.size = wa.heap.size + 1) := by show _ = _; simp
              rw [hO] at HRD HOX QO MIDO HBO hbase hsz
              clear hO
              go_wp2_with (at_builtin; refine wpList_append_any _ rfl _ _ 23 rfl w.heap.size 31 m0 opZ 13 144 Tryz.underlying23 mhi mz0 mz1 mz2 rfl (by decide) v2 M2.length (M2.flatMap opV) rfl HOX.out.own (wa.heap.size + 1) (some ⟨wa.heap.size, 0, none⟩) 1 1 (opV ((⟨1, xid, xpar, (pl : Int), 0, 0, xtx, ⟨#[]⟩, zV⟩ : Opn), .slice none 0 0)) rfl HRD.out hone.out hb1'.out hb2'.out hbase ?_)
              intro v6 w6 hown6 hg6 hat6
              have hblk := own_block_lt HOX.out.own
              have hat6' : v6.ownBlock = v2.ownBlock ∨ v6.ownBlock = some (wa.heap.size + 1) := by simpa using hat6
              have HO6 : Hid (OutO w6 w.heap.size v6 (M2 ++ [((⟨1, xid, xpar, (pl : Int), 0, 0, xtx, ⟨#[]⟩, zV⟩ : Opn), .slice none 0 0)])) := HOX.out.app NO_ok (x := ((⟨1, xid, xpar, (pl : Int), 0, 0, xtx, ⟨#[]⟩, zV⟩ : Opn), Value.slice none 0 0)) (S := fun _ => False) (RVX.nil _ _) (fun b hb => hb.elim) hown6 hg6 (by simpa using hat6)
              have HB6 : Hid (Below w.heap.size w w6) := HBO.out.grown hg6 hbase (fun g hg => (hblk g hg).1)
              have MID6 := Lib.hid (MIDO.out.grown hg6 hat6' (by omega))
              have hv2 : ∀ g, v2.ownBlock = some g → g < W3.heap.size := fun g hg => (hout2.out.blocks g hg).2
              have Q6 := Lib.hid (QO.out.grown hg6 fun e => by have := hv2 _ e.symm; omega)
              have HM6 : Hid ((M2 ++ [((⟨1, xid, xpar, (pl : Int), 0, 0, xtx, ⟨#[]⟩, zV⟩ : Opn), Value.slice none 0 0)]).map Prod.fst = M2.map Prod.fst ++ [putInO lb xid]) := by
                show _ = _
                rw [List.map_append, HOB.out.1]; rfl
              have HOI6 : Hid (∀ x ∈ M2 ++ [((⟨1, xid, xpar, (pl : Int), 0, 0, xtx, ⟨#[]⟩, zV⟩ : Opn), Value.slice none 0 0)], OI x.1) := fun x hx => by
                rcases List.mem_append.1 hx with hx | hx
                · exact hoi2.out x hx
                · obtain rfl := List.mem_singleton.1 hx
                  exact ⟨HIDI.out, HPARI.out, by show I64 (pl : Int); unfold I64; omega, by show I64 0; unfold I64; omega, by show I64 0; unfold I64; omega, htx⟩
              have HL20 : Hid (npx ≤ 20) := by
                show _ ≤ _
                have h1 := blkAt_few HG2.out xid
                have h2 := congrArg List.length HOB.out.2
                rw [HPL.out.1]
                have h3 := bldO_len lb xid
                rw [h3, List.length_cons, List.length_map] at h2
                omega
              obtain ⟨T6, hT6⟩ : ∃ T6, T6 = M2 ++ [((⟨1, xid, xpar, (pl : Int), 0, 0, xtx, ⟨#[]⟩, zV⟩ : Opn), Value.slice none 0 0)] := ⟨_, rfl⟩
              have HT6L : Hid (T6.length = M2.length + 1) := by show _ = _; rw [hT6, List.length_append]; rfl
              rw [← hT6] at HO6 HM6 HOI6
              have hpx20 : npx ≤ 20 := HL20.out
              clear hown6 hg6 hat6 hat6' hblk hbase c0 c1 c3 hT6
              have c4 := Q6.out.cell 4
              go_wp2_with fail
              clear c4
              go_loopg [9, 95] npx (fun gg s9 s95 wr => ∃ (j : Nat) (v3 : Value) (M3 : List (Opn × Value)), j + gg = npx ∧ v3 = s9 ∧ s95 = .int .i64 (j : Int) ∧ Hid (M3.map Prod.fst = T6.map Prod.fst ++ (xps.take j).map fun p => (⟨5, xid, 0, 0, 0, 0, ⟨#[]⟩, p.name, p.val⟩ : Opn)) ∧ Hid (∀ x ∈ M3, OI x.1) ∧ Hid (OutO wr w.heap.size v3 M3) ∧ Hid (Below w.heap.size w wr) ∧ Hid (Mid W2.heap.size w4 wr v3))
              case atStart => exact ⟨0, v6, T6, by omega, rfl, rfl, by show _ = _; simp, HOI6, HO6, HB6, MID6⟩
              case round =>
                obtain ⟨j, v3, M3, hjg, rfl, rfl, hM3, hoi3, hout3, hb7, hmid3⟩ := hrel
                obtain ⟨W4, rfl⟩ : ∃ W4, W4 = wr := ⟨_, rfl⟩
                have hw4' : w.heap.size ≤ W4.heap.size := hb7.out.size
                have hw44 : w4.heap.size ≤ W4.heap.size := hmid3.out.size
                have HML3 : Hid (M3.length ≤ 84001 + j) := by
                  show _ ≤ _
                  have h1 := congrArg List.length hM3.out
                  have h2 := HT6L.out
                  have h3 := HML2.out
                  rw [List.length_map, List.length_append, List.length_map, List.length_map, List.length_take] at h1
                  omega
                by_cases hj : j < npx
                · obtain ⟨pr, hpr⟩ : ∃ pr, xps[j]? = some pr := ⟨_, List.getElem?_eq_getElem (by have := HPL.out.1; omega)⟩
                  obtain ⟨pb, poff, Pv, nv, cv, rfl, hpb, g0, g1, g2, g3, g4, g5, hpv⟩ := (show RPr W4 w.heap.size _ _ from ((RPrX.of HPX.out).keep (w' := W4) fun p hp => (hb7.out.cell hp).trans (HBW.out.cell hp).symm).reads fun b hb => hb).at_ hpr
                  have HTK3 : Hid (xps.take (j + 1) = xps.take j ++ [pr]) := by
                    show _ = _
                    rw [List.take_add_one, hpr]; rfl
                  obtain ⟨pnm, ⟨pk, pi, pt, ps, plst⟩⟩ := pr
                  dsimp only [Vl.kind, Vl.int_, Vl.to_, Vl.text, Vl.items] at g0 g1 g2 g3 g4 g5 hpv
                  have k0' : (0 : Int) ≤ (j : Int) := by omega
                  have k1' : (j : Int) < (npx : Int) := by omega
                  obtain ⟨wb, hwb⟩ : ∃ wb, wb = W4.alloc (.cells #[.string pnm, .int .i64 pk, .int .i64 pi, .int .i64 pt, .string ps, .slice Pv nv cv] 116) := ⟨_, rfl⟩
                  have hal : Below W4.heap.size W4 wb := by rw [hwb]; exact (Below.refl _ _).alloc (Nat.le_refl _) _
                  have hza : W4.heap.size < wb.heap.size := by rw [hwb]; simp
                  have q0 : Blk wb W4.heap.size 116 #[.string pnm, .int .i64 pk, .int .i64 pi, .int .i64 pt, .string ps, .slice Pv nv cv] := by rw [hwb]; exact Blk.new _ _ _
                  have d0 : wb.cell? ⟨W4.heap.size, 0, none⟩ = some (.string pnm) := q0.cell 0
                  have d1 : wb.cell? ⟨W4.heap.size, 1, none⟩ = some (.int .i64 pk) := q0.cell 1
                  have d2 : wb.cell? ⟨W4.heap.size, 2, none⟩ = some (.int .i64 pi) := q0.cell 2
                  have d3 : wb.cell? ⟨W4.heap.size, 3, none⟩ = some (.int .i64 pt) := q0.cell 3
                  have d4 : wb.cell? ⟨W4.heap.size, 4, none⟩ = some (.string ps) := q0.cell 4
                  have d5 : wb.cell? ⟨W4.heap.size, 5, none⟩ = some (.slice Pv nv cv) := q0.cell 5
                  have HBA4 : Hid (Below w.heap.size w wb) := hb7.out.trans (hal.mono hw4')
                  obtain ⟨dd, hdd⟩ := hpv
                  have HCV := Lib.hid fun W (hW : Below wb.heap.size wb W) => copyValue_any dd (Vl.mk pk pi pt ps plst, Value.slice Pv nv cv) W w.heap.size (Nat.le_trans HBA4.out.size hW.size) ((hdd.below (hal.mono hw4')).below (hW.mono HBA4.out.size))
                  unfold CopyR at HCV
                  dsimp only [AV, Vl.kind, Vl.int_, Vl.to_, Vl.text, Vl.items] at HCV
                  have HOA4 := Lib.hid (hout3.out.below NO_ok hal)
                  have MIDB := Lib.hid (hmid3.out.below hal)
                  have HWB := Lib.hid hwb
                  have hkb : (M3.length + 1) * 144 ≤ 140737488355328 := by have := HML3.out; omega
                  have hkm : M3.length + 1 ≤ maxLen := by have := HML3.out; unfold maxLen; omega
                  have hvw : ∀ g, v3.ownBlock = some g → g < W4.heap.size := fun g hg => (hout3.out.blocks g hg).2
                  clear hpr hwb hal q0 hdd
                  go_upto_region 27 with fail
                  rw [← HWB.out]
                  clear g0 g1 g2 g3 g4 g5
                  go_region_held3 (fun w' => w'.cell? ⟨W4.heap.size, 0, none⟩ = some (.string pnm) ∧ w'.cell? ⟨W4.heap.size, 1, none⟩ = some (.int .i64 pk) ∧ w'.cell? ⟨W4.heap.size, 2, none⟩ = some (.int .i64 pi) ∧ w'.cell? ⟨W4.heap.size, 3, none⟩ = some (.int .i64 pt) ∧ w'.cell? ⟨W4.heap.size, 4, none⟩ = some (.string ps) ∧ w'.cell? ⟨W4.heap.size, 5, none⟩ = some (.slice Pv nv cv))
                    (first | exact ⟨d0, d1, d2, d3, d4, d5⟩ | exact ⟨e0, e1, e2, e3, e4, e5⟩ | exact ⟨h0, h1, h2, h3, h4, h5⟩ | go_keep)
                    (first
                      | (go_at_call 92; refine (HCV.out wb.drew (Below.refl _ _).drew).mono ?_; rintro e w5 ⟨⟨A', n', c', rfl, hrv⟩, hb⟩; have hb : Below wb.heap.size wb w5 := (Below.refl wb.heap.size wb).drew.trans hb; have e0 := (hb.cell (p := ⟨W4.heap.size, 0, none⟩) hza).trans d0; have e1 := (hb.cell (p := ⟨W4.heap.size, 1, none⟩) hza).trans d1; have e2 := (hb.cell (p := ⟨W4.heap.size, 2, none⟩) hza).trans d2; have e3 := (hb.cell (p := ⟨W4.heap.size, 3, none⟩) hza).trans d3; have e4 := (hb.cell (p := ⟨W4.heap.size, 4, none⟩) hza).trans d4; have e5 := (hb.cell (p := ⟨W4.heap.size, 5, none⟩) hza).trans d5; have HBB := Lib.hid hb; have HRV := Lib.hid hrv; have HO5 := Lib.hid (HOA4.out.below NO_ok hb); clear hb hrv; dsimp only [AV, Vl.kind, Vl.int_, Vl.to_, Vl.text, Vl.items])
                      | (refine step_append_any _ (by rfl) _ _ _ (by rfl) w.heap.size 31 m0 opZ 13 144 Tryz.underlying23 mhi mz0 mz1 mz2 rfl (by decide) v3 M3.length _ (by rfl) (HO5.out.own.alloc _) (w5.heap.size + 1) (some ⟨w5.heap.size, 0, none⟩) 1 1 (opV ((⟨5, xid, 0, 0, 0, 0, ⟨#[]⟩, pnm, Vl.mk pk pi pt ps plst⟩ : Opn), Value.slice A' n' c')) (by rfl) ⟨rfl, fun _ => ⟨_, rfl, by simp, row_new _ _ (opV ((⟨5, xid, 0, 0, 0, 0, ⟨#[]⟩, pnm, Vl.mk pk pi pt ps plst⟩ : Opn), Value.slice A' n' c')) _ rfl⟩⟩ (opV_one _ ⟨_, _, _, rfl⟩) hkm hkb (by have := HBA4.out.size; have := HBB.out.size; simp; omega) ?_; intro v' w8 hown8 hg8 hat8; have hkp : ∀ i, w8.cell? ⟨W4.heap.size, i, none⟩ = w5.cell? ⟨W4.heap.size, i, none⟩ := fun i => (World.cell?_of_block (hg8.block W4.heap.size (by have := HBB.out.size; simp; omega) (fun e => by have := hvw _ e.symm; omega))).trans (World.cell?_alloc_lt _ _ _ (by show W4.heap.size < w5.heap.size; have := HBB.out.size; omega)); have h0 := (hkp 0).trans e0; have h1 := (hkp 1).trans e1; have h2 := (hkp 2).trans e2; have h3 := (hkp 3).trans e3; have h4 := (hkp 4).trans e4; have h5 := (hkp 5).trans e5; clear hkp))
                  have hat8' : v'.ownBlock = v3.ownBlock ∨ v'.ownBlock = some (w5.heap.size + 1) := by simpa using hat8
                  have HO8 : Hid (OutO w8 w.heap.size v' (M3 ++ [((⟨5, xid, 0, 0, 0, 0, ⟨#[]⟩, pnm, Vl.mk pk pi pt ps plst⟩ : Opn), Value.slice A' n' c')])) := (HO5.out.below NO_ok ((Below.refl _ _).alloc (Nat.le_refl _) (.cells #[.int .i64 5, .int .i64 xid, .int .i64 0, .int .i64 0, .int .i64 0, .int .i64 0, .string ⟨#[]⟩, .string pnm, .int .i64 pk, .int .i64 pi, .int .i64 pt, .string ps, .slice A' n' c'] 31))).app NO_ok (x := ((⟨5, xid, 0, 0, 0, 0, ⟨#[]⟩, pnm, Vl.mk pk pi pt ps plst⟩ : Opn), Value.slice A' n' c')) (S := fun b => wb.heap.size ≤ b ∧ b < w5.heap.size) (HRV.out.keep fun p hp => World.cell?_alloc_lt _ _ _ hp.2) (fun b hb => ⟨by simp; omega, fun e => by have := hvw b e; omega⟩) hown8 hg8 (by simpa using hat8)
                  have HB8 : Hid (Below w.heap.size w w8) := ((HBA4.out.trans (HBB.out.mono HBA4.out.size)).alloc (by have := HBA4.out.size; have := HBB.out.size; omega) _).grown hg8 (by have := HBA4.out.size; have := HBB.out.size; simp; omega) (fun g hg => (hout3.out.blocks g hg).1)
                  have MID8 : Hid (Mid W2.heap.size w4 w8 v') := ((MIDB.out.below HBB.out).below ((Below.refl _ _).alloc (Nat.le_refl _) (.cells #[.int .i64 5, .int .i64 xid, .int .i64 0, .int .i64 0, .int .i64 0, .int .i64 0, .string ⟨#[]⟩, .string pnm, .int .i64 pk, .int .i64 pi, .int .i64 pt, .string ps, .slice A' n' c'] 31))).grown hg8 hat8' (by have := HBB.out.size; omega)
                  have HM8 : Hid ((M3 ++ [((⟨5, xid, 0, 0, 0, 0, ⟨#[]⟩, pnm, Vl.mk pk pi pt ps plst⟩ : Opn), Value.slice A' n' c')]).map Prod.fst = T6.map Prod.fst ++ (xps.take (j + 1)).map fun p => (⟨5, xid, 0, 0, 0, 0, ⟨#[]⟩, p.name, p.val⟩ : Opn)) := by
                    show _ = _
                    rw [List.map_append, hM3.out, HTK3.out, List.map_append, List.append_assoc]; rfl
                  have HOI8 : Hid (∀ x ∈ M3 ++ [((⟨5, xid, 0, 0, 0, 0, ⟨#[]⟩, pnm, Vl.mk pk pi pt ps plst⟩ : Opn), Value.slice A' n' c')], OI x.1) := fun x hx => by
                    rcases List.mem_append.1 hx with hx | hx
                    · exact hoi3.out x hx
                    · obtain rfl := List.mem_singleton.1 hx
                      exact ⟨HIDI.out, by show I64 0; unfold I64; omega, by show I64 0; unfold I64; omega, by show I64 0; unfold I64; omega, by show I64 0; unfold I64; omega, Nat.zero_le _⟩
                  clear hown8 hg8 hat8 hat8' e0 e1 e2 e3 e4 e5 d0 d1 d2 d3 d4 d5
                  go_wp2_with fail
                  go_roundg (npx - (j + 1))
                  case measure => omega
                  case rel => exact ⟨j + 1, v', _, by omega, rfl, by go_num, HM8, HOI8, HO8, HB8, MID8⟩
                · obtain rfl : j = npx := by omega
                  have HMN : Hid (M3.map Prod.fst = (awayK la r).flatMap (awayO la) ++ (ks.take (k + 1)).flatMap (bldO lb)) := by
                    show _ = _
                    rw [hM3.out, HM6.out, hM2.out, HTK.out, List.flatMap_append, List.flatMap_cons, List.flatMap_nil, List.append_nil, HOB.out.2, show xps.take j = xps from List.take_of_length_le (by rw [← HPL.out.1]; exact Nat.le_refl _)]
                    simp
                  clear hj hjg
                  go_wp2_with fail
                  go_roundg (no - (k + 1))
                  case measure => omega
                  case rel => exact ⟨k + 1, v3, M3, by omega, rfl, by go_num, HMN, hoi3, hout3, hb7, hmid3⟩
            · obtain rfl : k = no := by omega
              have HFIN : Hid (M2.map Prod.fst = dfO la r lb) := by
                show _ = _
                rw [hM2.out, List.take_of_length_le (by rw [← HNO.out.1]; exact Nat.le_refl _), HKS.out]; rfl
              obtain ⟨Av, cv, rfl, hros, hcv, hav⟩ := hout2.out.ros hoi2.out (by have := HML2.out; omega)
              have HROS := Lib.hid hros
              have HCL := Lib.hid fun W => clipO_any Av M2.length cv W hcv hav
              clear hros hcv hav hk hkg
              go_wp2_with fail
              refine (HCL.out _).mono ?_
              rintro e w5 ⟨rfl, hw⟩
              rw [hw]
              clear hw
              go_wp2_with fail
              go_ret2
              exact ⟨⟨_, _, _, rfl, by rw [← HFIN.out]; exact HROS.out⟩, HBW.out⟩

end Go.Proofs.YtmkicfjcgbfaaaaGreat
