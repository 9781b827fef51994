/-
  DERIVED. The walks of slices.Insert of one element, at blocks and at ints, over a row of the call's own. Conditions: sizes.
  By an AI agent.
-/
import Derived.Test.YtmkicfjcgbfaaaaGreatDoorTc08
import Derived.Test.YtmkicfjcgbfaaaaGreatDoorTc09
import Derived.Lib.AppendZerosOnto
import Derived.Lib.Overlaps
import Derived.Lib.JoinLaws
import Derived.Shelf.Spec.SlicesInsert
namespace Go.Proofs.YtmkicfjcgbfaaaaGreatDoor
open Go.RowKit

/-- what an insert leaves -/
def InsR (base : Nat) (T : TypeId) (S n : Nat) (xs news : List Value) (i : Nat) (w : World) (v : Value) (e : Ending) (w' : World) : Prop :=
  ∃ v', e = .returned v' ∧ w'.ownsRow base T S v' (n + 1) (xs.take (i * S) ++ news ++ xs.drop (i * S)) ∧ w.grownBy w' v.ownBlock ∧ (v'.ownBlock = v.ownBlock ∨ v'.ownBlock = some w.heap.size)

set_option maxRecDepth 100000 in
set_option maxHeartbeats 4000000 in
/-- slices.Insert of one element -/
theorem insB_own (v : Value) (n : Nat) (xs : List Value) (base i vb : Nat) (news : List Value) (w : World) (h : w.ownsRow base 52 5 v n xs) (hi : i ≤ n) (hn : n ≤ 100000) (hnl : news.length = 5) (hv : Blk w vb 52 news.toArray) (hne : v.ownBlock ≠ some vb) (h1x : ∀ u ∈ xs, u.oneCell' = true) (h1v : ∀ u ∈ news, u.oneCell' = true) (hbase : base ≤ w.heap.size) :
    Calls Tryz.prog 66 #[v, .int .i64 i, .slice (some ⟨vb, 0, none⟩) 1 1] w (InsR base 52 5 n xs news i w v) := by
  obtain ⟨i0, hi0, hq0, hq1, hq2⟩ := info_parts block_info
  have hsz : (Tryz.prog.info? 52).map (·.size) = some 5 := by rw [hi0]; simp [hq1]
  have hxl : xs.length = n * 5 := h.1
  have hvr : Reads w (vb + 1) 5 (some ⟨vb, 0, none⟩) 1 news := by
    have := Reads.blk (size := 5) (n := 1) hv (by simpa using hnl)
    simpa using this
  by_cases hin : i = n
  · subst hin
    have hfin : ∀ v' w', w'.ownsRow base 52 5 v' (i + 1) (xs ++ news) → w.grownBy w' v.ownBlock → (v'.ownBlock = v.ownBlock ∨ v'.ownBlock = some w.heap.size) → InsR base 52 5 i xs news i w v (.returned v') w' := fun v' w' h1 h2 h3 => by
      refine ⟨v', rfl, ?_, h2, h3⟩
      rw [← hxl, List.take_length, List.drop_length, List.append_nil]
      exact h1
    have HF := Lib.hid hfin
    have H := Lib.hid h
    have HVR := Lib.hid hvr
    have H1V := Lib.hid h1v
    have hb1 : i + 1 ≤ maxLen := by unfold maxLen; omega
    have hb2 : (i + 1) * 80 ≤ 140737488355328 := by omega
    rcases h.2 with ⟨rfl, h0⟩ | ⟨g, cap, cur, rfl, hg, hh, hnc, hcm, hcs, hct⟩
    · subst h0
      clear h hfin hvr h1v hxl hne h1x hv
      go_enter Tryz.func66, Tryz.ntmps66
      go_wp2_with (at_builtin; refine wpList_append_any _ rfl _ _ 22 rfl base 52 i0 bZ 5 80 Tryz.underlying22 hi0 hq0 hq1 hq2 rfl (by decide) _ 0 _ rfl H.out _ _ 1 1 _ rfl HVR.out H1V.out hb1 hb2 hbase ?_; intro v7 w7 hown7 hg7 hat7)
      go_ret
      exact HF.out v7 w7 hown7 hg7 hat7
    · clear h hfin hvr h1v hxl hne h1x hv hh hcs hct
      have hc63 : cap ≤ 9223372036854775807 := by unfold maxLen at hcm; omega
      go_enter Tryz.func66, Tryz.ntmps66
      go_wp2_with (at_builtin; refine wpList_append_any _ rfl _ _ 22 rfl base 52 i0 bZ 5 80 Tryz.underlying22 hi0 hq0 hq1 hq2 rfl (by decide) _ i _ rfl H.out _ _ 1 1 _ rfl HVR.out H1V.out hb1 hb2 hbase ?_; intro v7 w7 hown7 hg7 hat7)
      all_goals (go_ret; exact HF.out v7 w7 hown7 hg7 hat7)
  have hlt : i < n := by omega
  rcases h.2 with ⟨_, h0⟩ | ⟨g, cap, cur, rfl, hg, hh, hnc, hcm, hcs, hct⟩
  · omega
  have hvg : vb ≠ g := fun e => hne (by rw [e]; rfl)
  have hgw : g < w.heap.size := Blk.lt (t := 52) (cs := cur) hh
  have hc63 : cap ≤ 9223372036854775807 := by unfold maxLen at hcm; omega
  have hcell : ∀ j u, xs[j]? = some u → w.cell? ⟨g, j, none⟩ = some u := fun j u hu => by
    have hj := (List.getElem?_eq_some_iff.1 hu).1
    rw [Blk.cell (t := 52) (cs := cur) hh, ← hu, ← hct, List.getElem?_take, if_pos (by omega)]; simp
  have hvcell : ∀ j u, news[j]? = some u → w.cell? ⟨vb, j, none⟩ = some u := fun j u hu => by
    rw [hv.cell, List.getElem?_toArray, hu]
  have z1 : ¬ ((i : Int) = (n : Int)) := by omega
  have z2 : ¬ (cap = i) := by omega
  have w1 : IntKind.i64.wrap ((i : Int) + 1) = (i : Int) + 1 := IntWalk.i64_in _ (by omega)
  have w2 : (0 : Int) ≤ (i : Int) + 1 := by omega
  have w3 : ((i : Int) + 1).toNat = i + 1 := by omega
  have w4 : (i : Int) + 1 ≤ (n : Int) + 1 := by omega
  have hdl : (xs.drop (i * 5)).length = (n - i) * 5 := by rw [List.length_drop, hxl, Nat.sub_mul]
  have htl : (xs.take (i * 5)).length = i * 5 := by rw [List.length_take, hxl]; omega
  have x1 : (i + 1) * 5 = i * 5 + 5 := Nat.succ_mul _ _
  have x2 : n * 5 = i * 5 + (n - i) * 5 := by rw [← Nat.add_mul]; congr 1; omega
  have hct2 : cur.toList.take (i * 5) = xs.take (i * 5) := by rw [← hct, List.take_take]; congr 1; omega
  have hcl : cur.toList.length = cap * 5 := by rw [Array.length_toList]; exact hcs
  have hge : (n + 1) * 5 = i * 5 + 5 + (n - i) * 5 := by rw [Nat.succ_mul]; omega
  by_cases hroom : n + 1 ≤ cap
  · have hr2 : (n + 1) * 5 ≤ cap * 5 := Nat.mul_le_mul_right _ hroom
    obtain ⟨R1, hR1⟩ : ∃ R1, R1 = cur.toList.take ((i + 1) * 5) ++ xs.drop (i * 5) ++ cur.toList.drop ((i + 1) * 5 + (n - i) * 5) := ⟨_, rfl⟩
    have hR1l : R1.length = cap * 5 := by
      rw [hR1, List.length_append, List.length_append, List.length_take, hdl, List.length_drop, hcl]; omega
    obtain ⟨E, hE⟩ : ∃ E, E = cur.toList.drop ((i + 1) * 5 + (n - i) * 5) := ⟨_, rfl⟩
    obtain ⟨R2, hR2⟩ : ∃ R2, R2 = R1.take (i * 5) ++ news ++ R1.drop (i * 5 + 5) := ⟨_, rfl⟩
    have hR2e : R2 = xs.take (i * 5) ++ news ++ xs.drop (i * 5) ++ E := by
      have q1 : R1.take (i * 5) = xs.take (i * 5) := by
        rw [hR1, List.append_assoc, List.take_append_of_le_length (by rw [List.length_take, hcl]; omega), List.take_take, ← hct2]
        congr 1; omega
      have q2 : R1.drop (i * 5 + 5) = xs.drop (i * 5) ++ E := by
        rw [hR1, hE, List.append_assoc, List.drop_append_of_le_length (by rw [List.length_take, hcl]; omega), List.drop_of_length_le (by rw [List.length_take, hcl]; omega), List.nil_append]
      rw [hR2, q1, q2, List.append_assoc (xs.take (i * 5) ++ news)]
    have hov : ∀ lb cb, (callFunc 87 #[.slice (some ⟨vb, 0, none⟩) 1 1, .slice (some ⟨g, (i + 1) * 5, none⟩) lb cb]).run Tryz.prog w = .ok (.value (.bool false)) w := fun lb cb => by
      rw [run_callFunc_extern Tryz.func87 (by kernel_rfl) (by kernel_rfl) (by kernel_rfl) (e := Extern.SlicesOverlaps.overlaps #[22, 22] #[4]) (by kernel_rfl),
        Lib.run_overlaps_apart w 22 4 52 Tryz.underlying22 5 (fun w => by simp [Go.sizeOf, typeInfo, hi0, hq1]) ⟨vb, 0, none⟩ ⟨g, (i + 1) * 5, none⟩ 1 1 lb cb hvg 52 52 5 (cap * 5) (by unfold World.shape?; rw [show w.heap[vb]? = _ from hv]; show some (_, _) = _; rw [List.size_toArray, hnl]) (by unfold World.shape?; rw [hh]; show some (_, _) = _; rw [hcs]) (by omega) (hv.frozen 0) (hv.frozen 5)]
      rfl
    have hcp1 : ∀ ty dc sc, (Builtin.copy_ #[22, 22] ty #[.slice (some ⟨g, (i + 1) * 5, none⟩) (n - i) dc, .slice (some ⟨g, i * 5, none⟩) (n + 1 - i) sc]).run Tryz.prog w.drew = .ok (goInt (Nat.min (n + 1 - i) (n - i))) (w.drew.setRow g R1.toArray) := fun ty dc sc => by
      have := run_copy_rowN (P := Tryz.prog) (ty := ty) w.drew 22 22 52 g ((i + 1) * 5) (n - i) dc ⟨g, i * 5, none⟩ (n + 1 - i) sc 5 cur 52 (xs.drop (i * 5)) Tryz.underlying22 hsz hh (by rw [hdl, show Nat.min (n + 1 - i) (n - i) = n - i from by show min _ _ = _; omega])
        (fun j v hj => by rw [Addr.add_lit]; exact hcell _ _ (by rwa [List.getElem?_drop] at hj)) (by rw [hdl, hcs]; omega) (fun v hv => h1x v (List.mem_of_mem_drop hv))
      rw [hdl, ← hR1] at this
      exact this
    have hh1 : (w.drew.setRow g R1.toArray).heap[g]? = some (.cells R1.toArray 52 (0, 0)) := setRow_heap w.drew g _ _ _ _ hh
    have hcp2 : ∀ ty dc, (Builtin.copy_ #[22, 22] ty #[.slice (some ⟨g, i * 5, none⟩) (n + 1 - i) dc, .slice (some ⟨vb, 0, none⟩) 1 1]).run Tryz.prog (w.drew.setRow g R1.toArray) = .ok (goInt (Nat.min 1 (n + 1 - i))) ((w.drew.setRow g R1.toArray).setRow g R2.toArray) := fun ty dc => by
      have := run_copy_rowN (P := Tryz.prog) (ty := ty) (w.drew.setRow g R1.toArray) 22 22 52 g (i * 5) (n + 1 - i) dc ⟨vb, 0, none⟩ 1 1 5 R1.toArray 52 news Tryz.underlying22 hsz hh1 (by rw [hnl, show Nat.min 1 (n + 1 - i) = 1 from by show min _ _ = _; omega])
        (fun j v hj => by rw [Addr.add_lit, Nat.zero_add, cell_setRow_other _ _ _ _ hvg]; exact hvcell j v hj) (by rw [hnl, List.size_toArray, hR1l]; omega) h1v
      rw [hnl, List.toList_toArray, ← hR2] at this
      exact this
    have hfin : InsR base 52 5 n xs news i w (.slice (some ⟨g, 0, none⟩) n cap) (.returned (.slice (some ⟨g, 0, none⟩) (n + 1) cap)) ((w.drew.setRow g R1.toArray).setRow g R2.toArray) := by
      have hlen : (xs.take (i * 5) ++ news ++ xs.drop (i * 5)).length = (n + 1) * 5 := by
        rw [List.length_append, List.length_append, htl, hnl, hdl]; omega
      refine ⟨_, rfl, ⟨hlen, .inr ⟨g, cap, R2.toArray, rfl, hg, setRow_heap _ g _ _ _ _ hh1, hroom, hcm, ?_, ?_⟩⟩, ⟨rfl, rfl, rfl, by rw [setRow_size, setRow_size]; exact Nat.le_refl _, fun k hk hne => ?_⟩, .inl rfl⟩
      · rw [List.size_toArray, hR2, List.length_append, List.length_append, List.length_take, List.length_drop, hnl, hR1l]; omega
      · rw [List.toList_toArray, hR2e, ← hlen, List.take_append_of_le_length (Nat.le_refl _), List.take_length]
      · have hkg : k ≠ g := fun e => hne (by rw [e]; rfl)
        rw [setRow_other _ _ _ _ hkg, setRow_other _ _ _ _ hkg]; rfl
    have HF := Lib.hid hfin
    skip
    have z3 : ¬ (cap = i + 1) := by omega
    have z5 : (i : Int) ≤ (n : Int) + 1 := by omega
    have mixed : Tryz.prog.follows Departure.mixedOrders = true := by kernel_rfl
    have z4 : ¬ ((cap : Int) < (n : Int) + 1) := by omega
    clear hfin hR2e hR2 hR1 hE hR1l hct hct2 hcl hdl htl hxl hcell hvcell hvr hh1 h1x h1v h hv hh hcs x1 x2 hge hr2 hnl
    go_enter Tryz.func66, Tryz.ntmps66
    go_wp2_with (simp only [hov])
    go_region_law_o (refine step_copy_runI rfl _ _ 22 22 rfl _ _ (by simp [Act.eval, Act.put]) (by simp [Act.eval, Act.put]) (hcp1 _ _ _) ?_)
    go_wp2_with (at_builtin; refine wpList_copy_runI _ rfl _ _ 22 22 rfl _ _ rfl rfl (hcp2 _ _) ?_)
    go_ret
    exact HF.out
  · obtain rfl : cap = n := by omega
    have hkk : (cap : Int) + 1 - (i : Int) = ((cap + 1 - i : Nat) : Int) := by omega
    have hik : i + (cap + 1 - i) = cap + 1 := by omega
    have hold : (Builtin.firstCells i0.size i (.slice (some ⟨g, 0, none⟩) i cap)).run Tryz.prog w.drew = .ok (xs.take (i * 5)).toArray w.drew := by
      rw [hq1]
      exact run_firstCells_some w.drew 5 i ⟨g, 0, none⟩ i cap (xs.take (i * 5)) (by rw [htl]) (fun j v hj => by
        rw [Addr.add_lit, Nat.zero_add]
        rw [List.getElem?_take] at hj
        split at hj
        · exact hcell j v hj
        · cases hj)
    obtain ⟨G, hG⟩ : ∃ G, G = grownCap w (cap + 1) cap 52 := ⟨_, rfl⟩
    have hGn : cap + 1 ≤ G := by rw [hG]; exact grownCap_ge w _ _ _
    have hGm : G ≤ maxLen := by rw [hG]; exact grownCap_le_maxLen w (cap + 1) cap 52 (by unfold maxLen; omega)
    obtain ⟨ROW, hROW⟩ : ∃ ROW : Array Value, ROW = (xs.take (i * 5)).toArray ++ Builtin.zeroCells (bZ : Value).cells (cap + 1 - i) ++ Builtin.zeroCells (bZ : Value).cells (G - (cap + 1)) := ⟨_, rfl⟩
    have hrz : ∀ ty, (Builtin.append_ #[22, 3] ty #[.slice (some ⟨g, 0, none⟩) i cap, .int .i64 ((cap : Int) + 1 - (i : Int))]).run Tryz.prog w =
        .ok (.slice (some ⟨w.heap.size, 0, none⟩) (cap + 1) G) (w.drew.alloc (.cells ROW 52)) := fun ty => by
      have h := Lib.run_append_grow_zeros w 22 3 ty 52 i0 _ .i64 .i64 Tryz.underlying22 Tryz.underlying3 hi0 hq0 (some ⟨g, 0, none⟩) i cap (xs.take (i * 5)) hold (cap + 1 - i) (by omega) (by omega) (by omega) (by omega) (by rw [hq2]; omega) (by rw [hq2, hik]; exact growslice_fits (by omega) (by omega))
      rw [hik, ← hG, ← hROW] at h
      rw [hkk]
      exact h
    have hRs : ROW.size = G * 5 := by
      rw [hROW, Array.size_append, Array.size_append, List.size_toArray, htl, size_zeroCells, size_zeroCells, show ((bZ : Value).cells).size = 5 from rfl, ← Nat.add_mul, ← Nat.add_mul]
      congr 1; omega
    have hGs : (cap + 1) * 5 ≤ G * 5 := Nat.mul_le_mul_right _ hGn
    have hRt : ROW.toList.take (i * 5) = xs.take (i * 5) := by
      rw [hROW, Array.toList_append, Array.toList_append, List.toList_toArray, List.append_assoc, List.take_append_of_le_length (by rw [htl]; exact Nat.le_refl _), List.take_of_length_le (by rw [htl]; exact Nat.le_refl _)]
    obtain ⟨N0, hN0⟩ : ∃ N0, N0 = w.heap.size := ⟨_, rfl⟩
    rw [← hN0] at hrz
    have hgN : g ≠ N0 := by omega
    have hvN : vb ≠ N0 := by have := hv.lt; omega
    have hRl : ROW.toList.length = G * 5 := by rw [Array.length_toList]; exact hRs
    obtain ⟨R1, hR1⟩ : ∃ R1, R1 = ROW.toList.take (i * 5) ++ news ++ ROW.toList.drop (i * 5 + 5) := ⟨_, rfl⟩
    have hR1l : R1.length = G * 5 := by
      rw [hR1, List.length_append, List.length_append, List.length_take, hnl, List.length_drop, hRl]; omega
    obtain ⟨R2, hR2⟩ : ∃ R2, R2 = R1.take ((i + 1) * 5) ++ xs.drop (i * 5) ++ R1.drop ((i + 1) * 5 + (cap - i) * 5) := ⟨_, rfl⟩
    have hR2e : R2 = xs.take (i * 5) ++ news ++ xs.drop (i * 5) ++ R1.drop ((i + 1) * 5 + (cap - i) * 5) := by
      have q1 : R1.take ((i + 1) * 5) = xs.take (i * 5) ++ news := by
        rw [hR1, List.take_append_of_le_length (by rw [List.length_append, List.length_take, hnl, hRl]; omega), List.take_of_length_le (by rw [List.length_append, List.length_take, hnl, hRl]; omega), hRt]
      rw [hR2, q1]
    have hgrow : ∀ W : World, W.heap = (w.drew.alloc (.cells ROW 52)).heap → W.heap[N0]? = some (.cells ROW 52 (0, 0)) ∧ (∀ j u, w.cell? ⟨vb, j, none⟩ = some u → W.cell? ⟨vb, j, none⟩ = some u) := fun W hW => by
      refine ⟨by rw [hW, hN0]; exact heap_alloc_new w.drew _, fun j u hu => ?_⟩
      have h1 : (w.drew.alloc (.cells ROW 52)).cell? ⟨vb, j, none⟩ = w.drew.cell? ⟨vb, j, none⟩ := World.cell?_alloc_lt _ _ _ hv.lt
      rw [← hu]
      have h2 : W.cell? ⟨vb, j, none⟩ = (w.drew.alloc (.cells ROW 52)).cell? ⟨vb, j, none⟩ := World.cell?_of_block (by rw [hW])
      rw [h2, h1]; rfl
    have hcpA : ∀ W : World, W.heap = (w.drew.alloc (.cells ROW 52)).heap → ∀ ty dc, (Builtin.copy_ #[22, 22] ty #[.slice (some ⟨N0, i * 5, none⟩) (cap + 1 - i) dc, .slice (some ⟨vb, 0, none⟩) 1 1]).run Tryz.prog W = .ok (goInt (Nat.min 1 (cap + 1 - i))) (W.setRow N0 R1.toArray) := fun W hW ty dc => by
      obtain ⟨k1, k2⟩ := hgrow W hW
      have := run_copy_rowN (P := Tryz.prog) (ty := ty) W 22 22 52 N0 (i * 5) (cap + 1 - i) dc ⟨vb, 0, none⟩ 1 1 5 ROW 52 news Tryz.underlying22 hsz k1 (by rw [hnl, show Nat.min 1 (cap + 1 - i) = 1 from by show min _ _ = _; omega])
        (fun j v hj => by rw [Addr.add_lit, Nat.zero_add]; exact k2 _ _ (hvcell j v hj)) (by rw [hnl, hRs]; omega) h1v
      rw [hnl, ← hR1] at this
      exact this
    have hcpB : ∀ W : World, (∃ W0 : World, W0.heap = (w.drew.alloc (.cells ROW 52)).heap ∧ W.heap = (W0.setRow N0 R1.toArray).heap) → ∀ ty dc sc, (Builtin.copy_ #[22, 22] ty #[.slice (some ⟨N0, (i + 1) * 5, none⟩) (cap - i) dc, .slice (some ⟨g, i * 5, none⟩) (cap - i) sc]).run Tryz.prog W = .ok (goInt (Nat.min (cap - i) (cap - i))) (W.setRow N0 R2.toArray) := fun W ⟨W0, h0, h1⟩ ty dc sc => by
      have k1 : W.heap[N0]? = some (.cells R1.toArray 52 (0, 0)) := by rw [h1]; exact setRow_heap W0 N0 _ _ _ _ (hgrow W0 h0).1
      have k2 : ∀ j u, w.cell? ⟨g, j, none⟩ = some u → W.cell? ⟨g, j, none⟩ = some u := fun j u hu => by
        have e1 : W.cell? ⟨g, j, none⟩ = (W0.setRow N0 R1.toArray).cell? ⟨g, j, none⟩ := World.cell?_of_block (by rw [h1])
        have e2 : W0.cell? ⟨g, j, none⟩ = (w.drew.alloc (.cells ROW 52)).cell? ⟨g, j, none⟩ := World.cell?_of_block (by rw [h0])
        have e3 : (w.drew.alloc (.cells ROW 52)).cell? ⟨g, j, none⟩ = w.drew.cell? ⟨g, j, none⟩ := World.cell?_alloc_lt _ _ _ hgw
        rw [e1, cell_setRow_other _ _ _ _ hgN, e2, e3, ← hu]; rfl
      have := run_copy_rowN (P := Tryz.prog) (ty := ty) W 22 22 52 N0 ((i + 1) * 5) (cap - i) dc ⟨g, i * 5, none⟩ (cap - i) sc 5 R1.toArray 52 (xs.drop (i * 5)) Tryz.underlying22 hsz k1 (by rw [hdl, show Nat.min (cap - i) (cap - i) = cap - i from by show min _ _ = _; omega])
        (fun j v hj => by rw [Addr.add_lit]; exact k2 _ _ (hcell _ _ (by rwa [List.getElem?_drop] at hj))) (by rw [hdl, List.size_toArray, hR1l]; omega) (fun v hv => h1x v (List.mem_of_mem_drop hv))
      rw [hdl, List.toList_toArray, ← hR2] at this
      exact this
    have hfin : InsR base 52 5 cap xs news i w (.slice (some ⟨g, 0, none⟩) cap cap) (.returned (.slice (some ⟨N0, 0, none⟩) (cap + 1) G)) ((((w.alloc (.cells ROW 52)).drew.setRow N0 R1.toArray).drew).setRow N0 R2.toArray) := by
      have hlen : (xs.take (i * 5) ++ news ++ xs.drop (i * 5)).length = (cap + 1) * 5 := by
        rw [List.length_append, List.length_append, htl, hnl, hdl]; omega
      have k1 : ((w.alloc (.cells ROW 52)).drew.setRow N0 R1.toArray).drew.heap[N0]? = some (.cells R1.toArray 52 (0, 0)) := setRow_heap ((w.alloc (.cells ROW 52)).drew) N0 _ _ _ _ (hgrow ((w.alloc (.cells ROW 52)).drew) rfl).1
      refine ⟨_, rfl, ⟨hlen, .inr ⟨N0, G, R2.toArray, rfl, by omega, setRow_heap _ N0 _ _ _ _ k1, hGn, hGm, ?_, ?_⟩⟩, ⟨rfl, rfl, rfl, ?_, fun k hk hne => ?_⟩, .inr (by rw [← hN0]; rfl)⟩
      · rw [List.size_toArray, hR2, List.length_append, List.length_append, List.length_take, hdl, List.length_drop, hR1l]; omega
      · rw [List.toList_toArray, hR2e, ← hlen, List.take_append_of_le_length (Nat.le_refl _), List.take_length]
      · rw [setRow_size]
        show w.heap.size ≤ ((w.alloc (.cells ROW 52)).drew.setRow N0 R1.toArray).heap.size
        rw [setRow_size]
        show w.heap.size ≤ (w.alloc (.cells ROW 52)).heap.size
        rw [World.size_alloc]; exact Nat.le_succ _
      · have hkg : k ≠ N0 := by omega
        rw [setRow_other _ _ _ _ hkg]
        show ((w.alloc (.cells ROW 52)).drew.setRow N0 R1.toArray).heap[k]? = _
        rw [setRow_other _ _ _ _ hkg]
        exact Below.heap_alloc w _ k hk
    have HF := Lib.hid hfin
    have hcA : ∀ ty dc, (Builtin.copy_ #[22, 22] ty #[.slice (some ⟨N0, i * 5, none⟩) (cap + 1 - i) dc, .slice (some ⟨vb, 0, none⟩) 1 1]).run Tryz.prog (w.alloc (.cells ROW 52)).drew = .ok (goInt (Nat.min 1 (cap + 1 - i))) ((w.alloc (.cells ROW 52)).drew.setRow N0 R1.toArray) := hcpA _ rfl
    have hcB : ∀ ty dc sc, (Builtin.copy_ #[22, 22] ty #[.slice (some ⟨N0, (i + 1) * 5, none⟩) (cap - i) dc, .slice (some ⟨g, i * 5, none⟩) (cap - i) sc]).run Tryz.prog ((w.alloc (.cells ROW 52)).drew.setRow N0 R1.toArray).drew = .ok (goInt (Nat.min (cap - i) (cap - i))) (((w.alloc (.cells ROW 52)).drew.setRow N0 R1.toArray).drew.setRow N0 R2.toArray) := hcpB _ ⟨_, rfl, rfl⟩
    skip
    have z3 : ¬ (G = i) := by omega
    have z4 : (cap : Int) < (cap : Int) + 1 := by omega
    have z5 : (i : Int) ≤ (cap : Int) := by omega
    have z6 : ¬ (G = i + 1) := by omega
    have z7 : (i : Int) ≤ (cap : Int) + 1 := by omega
    have hG63 : G ≤ 9223372036854775807 := by unfold maxLen at hGm; omega
    have mixed : Tryz.prog.follows Departure.mixedOrders = true := by kernel_rfl
    clear hfin hcpA hcpB hgrow hR2e hR2 hR1 hR1l hRl hRt hRs hROW hG hold hkk hik hct hct2 hcl hdl htl hxl hcell hvcell hvr h1x h1v h hv hh hcs x1 x2 hge hnl hGs hGm hN0
    go_enter Tryz.func66, Tryz.ntmps66
    go_wp2_with (first
      | (at_builtin; refine Lib.wpList_append_run _ rfl _ _ _ _ rfl _ _ rfl rfl _ _ (hrz _) ?_)
      | (at_builtin; refine wpList_copy_runI _ rfl _ _ 22 22 rfl _ _ rfl rfl (hcA _ _) ?_))
    go_region_law_o (refine step_copy_runI rfl _ _ 22 22 rfl _ _ (by simp [Act.eval, Act.put]) (by simp [Act.eval, Act.put]) (hcB _ _ _) ?_)
    go_wp2_with fail
    go_ret
    exact HF.out

set_option maxRecDepth 100000 in
set_option maxHeartbeats 4000000 in
/-- slices.Insert of one element -/
theorem insI_own (v : Value) (n : Nat) (xs : List Value) (base i vb : Nat) (news : List Value) (w : World) (h : w.ownsRow base 3 1 v n xs) (hi : i ≤ n) (hn : n ≤ 100000) (hnl : news.length = 1) (hv : Blk w vb 3 news.toArray) (hne : v.ownBlock ≠ some vb) (h1x : ∀ u ∈ xs, u.oneCell' = true) (h1v : ∀ u ∈ news, u.oneCell' = true) (hbase : base ≤ w.heap.size) :
    Calls Tryz.prog 89 #[v, .int .i64 i, .slice (some ⟨vb, 0, none⟩) 1 1] w (InsR base 3 1 n xs news i w v) := by
  obtain ⟨i0, hi0, hq0, hq1, hq2⟩ := info_parts int_info
  have hsz : (Tryz.prog.info? 3).map (·.size) = some 1 := by rw [hi0]; simp [hq1]
  have hxl : xs.length = n * 1 := h.1
  have hvr : Reads w (vb + 1) 1 (some ⟨vb, 0, none⟩) 1 news := by
    have := Reads.blk (size := 1) (n := 1) hv (by simpa using hnl)
    simpa using this
  by_cases hin : i = n
  · subst hin
    have hfin : ∀ v' w', w'.ownsRow base 3 1 v' (i + 1) (xs ++ news) → w.grownBy w' v.ownBlock → (v'.ownBlock = v.ownBlock ∨ v'.ownBlock = some w.heap.size) → InsR base 3 1 i xs news i w v (.returned v') w' := fun v' w' h1 h2 h3 => by
      refine ⟨v', rfl, ?_, h2, h3⟩
      rw [← hxl, List.take_length, List.drop_length, List.append_nil]
      exact h1
    have HF := Lib.hid hfin
    have H := Lib.hid h
    have HVR := Lib.hid hvr
    have H1V := Lib.hid h1v
    have hb1 : i + 1 ≤ maxLen := by unfold maxLen; omega
    have hb2 : (i + 1) * 8 ≤ 140737488355328 := by omega
    rcases h.2 with ⟨rfl, h0⟩ | ⟨g, cap, cur, rfl, hg, hh, hnc, hcm, hcs, hct⟩
    · subst h0
      clear h hfin hvr h1v hxl hne h1x hv
      go_enter Tryz.func89, Tryz.ntmps89
      go_wp2_with (at_builtin; refine wpList_append_any _ rfl _ _ 43 rfl base 3 i0 (.int .i64 0) 1 8 Tryz.underlying43 hi0 hq0 hq1 hq2 rfl (by decide) _ 0 _ rfl H.out _ _ 1 1 _ rfl HVR.out H1V.out hb1 hb2 hbase ?_; intro v7 w7 hown7 hg7 hat7)
      go_ret
      exact HF.out v7 w7 hown7 hg7 hat7
    · clear h hfin hvr h1v hxl hne h1x hv hh hcs hct
      have hc63 : cap ≤ 9223372036854775807 := by unfold maxLen at hcm; omega
      go_enter Tryz.func89, Tryz.ntmps89
      go_wp2_with (at_builtin; refine wpList_append_any _ rfl _ _ 43 rfl base 3 i0 (.int .i64 0) 1 8 Tryz.underlying43 hi0 hq0 hq1 hq2 rfl (by decide) _ i _ rfl H.out _ _ 1 1 _ rfl HVR.out H1V.out hb1 hb2 hbase ?_; intro v7 w7 hown7 hg7 hat7)
      all_goals (go_ret; exact HF.out v7 w7 hown7 hg7 hat7)
  have hlt : i < n := by omega
  rcases h.2 with ⟨_, h0⟩ | ⟨g, cap, cur, rfl, hg, hh, hnc, hcm, hcs, hct⟩
  · omega
  have hvg : vb ≠ g := fun e => hne (by rw [e]; rfl)
  have hgw : g < w.heap.size := Blk.lt (t := 3) (cs := cur) hh
  have hc63 : cap ≤ 9223372036854775807 := by unfold maxLen at hcm; omega
  have hcell : ∀ j u, xs[j]? = some u → w.cell? ⟨g, j, none⟩ = some u := fun j u hu => by
    have hj := (List.getElem?_eq_some_iff.1 hu).1
    rw [Blk.cell (t := 3) (cs := cur) hh, ← hu, ← hct, List.getElem?_take, if_pos (by omega)]; simp
  have hvcell : ∀ j u, news[j]? = some u → w.cell? ⟨vb, j, none⟩ = some u := fun j u hu => by
    rw [hv.cell, List.getElem?_toArray, hu]
  have z1 : ¬ ((i : Int) = (n : Int)) := by omega
  have z2 : ¬ (cap = i) := by omega
  have w1 : IntKind.i64.wrap ((i : Int) + 1) = (i : Int) + 1 := IntWalk.i64_in _ (by omega)
  have w2 : (0 : Int) ≤ (i : Int) + 1 := by omega
  have w3 : ((i : Int) + 1).toNat = i + 1 := by omega
  have w4 : (i : Int) + 1 ≤ (n : Int) + 1 := by omega
  have hdl : (xs.drop (i * 1)).length = (n - i) * 1 := by rw [List.length_drop, hxl, Nat.sub_mul]
  have htl : (xs.take (i * 1)).length = i * 1 := by rw [List.length_take, hxl]; omega
  have x1 : (i + 1) * 1 = i * 1 + 1 := Nat.succ_mul _ _
  have x2 : n * 1 = i * 1 + (n - i) * 1 := by rw [← Nat.add_mul]; congr 1; omega
  have hct2 : cur.toList.take (i * 1) = xs.take (i * 1) := by rw [← hct, List.take_take]; congr 1; omega
  have hcl : cur.toList.length = cap * 1 := by rw [Array.length_toList]; exact hcs
  have hge : (n + 1) * 1 = i * 1 + 1 + (n - i) * 1 := by rw [Nat.succ_mul]; omega
  by_cases hroom : n + 1 ≤ cap
  · have hr2 : (n + 1) * 1 ≤ cap * 1 := Nat.mul_le_mul_right _ hroom
    obtain ⟨R1, hR1⟩ : ∃ R1, R1 = cur.toList.take ((i + 1) * 1) ++ xs.drop (i * 1) ++ cur.toList.drop ((i + 1) * 1 + (n - i) * 1) := ⟨_, rfl⟩
    have hR1l : R1.length = cap * 1 := by
      rw [hR1, List.length_append, List.length_append, List.length_take, hdl, List.length_drop, hcl]; omega
    obtain ⟨E, hE⟩ : ∃ E, E = cur.toList.drop ((i + 1) * 1 + (n - i) * 1) := ⟨_, rfl⟩
    obtain ⟨R2, hR2⟩ : ∃ R2, R2 = R1.take (i * 1) ++ news ++ R1.drop (i * 1 + 1) := ⟨_, rfl⟩
    have hR2e : R2 = xs.take (i * 1) ++ news ++ xs.drop (i * 1) ++ E := by
      have q1 : R1.take (i * 1) = xs.take (i * 1) := by
        rw [hR1, List.append_assoc, List.take_append_of_le_length (by rw [List.length_take, hcl]; omega), List.take_take, ← hct2]
        congr 1; omega
      have q2 : R1.drop (i * 1 + 1) = xs.drop (i * 1) ++ E := by
        rw [hR1, hE, List.append_assoc, List.drop_append_of_le_length (by rw [List.length_take, hcl]; omega), List.drop_of_length_le (by rw [List.length_take, hcl]; omega), List.nil_append]
      rw [hR2, q1, q2, List.append_assoc (xs.take (i * 1) ++ news)]
    have hov : ∀ lb cb, (callFunc 108 #[.slice (some ⟨vb, 0, none⟩) 1 1, .slice (some ⟨g, (i + 1) * 1, none⟩) lb cb]).run Tryz.prog w = .ok (.value (.bool false)) w := fun lb cb => by
      rw [run_callFunc_extern Tryz.func108 (by kernel_rfl) (by kernel_rfl) (by kernel_rfl) (e := Extern.SlicesOverlaps.overlaps #[43, 43] #[4]) (by kernel_rfl),
        Lib.run_overlaps_apart w 43 4 3 Tryz.underlying43 1 (fun w => by simp [Go.sizeOf, typeInfo, hi0, hq1]) ⟨vb, 0, none⟩ ⟨g, (i + 1) * 1, none⟩ 1 1 lb cb hvg 3 3 1 (cap * 1) (by unfold World.shape?; rw [show w.heap[vb]? = _ from hv]; show some (_, _) = _; rw [List.size_toArray, hnl]) (by unfold World.shape?; rw [hh]; show some (_, _) = _; rw [hcs]) (by omega) (hv.frozen 0) (hv.frozen 1)]
      rfl
    have hcp1 : ∀ ty dc sc, (Builtin.copy_ #[43, 43] ty #[.slice (some ⟨g, (i + 1) * 1, none⟩) (n - i) dc, .slice (some ⟨g, i * 1, none⟩) (n + 1 - i) sc]).run Tryz.prog w.drew = .ok (goInt (Nat.min (n + 1 - i) (n - i))) (w.drew.setRow g R1.toArray) := fun ty dc sc => by
      have := run_copy_rowN (P := Tryz.prog) (ty := ty) w.drew 43 43 3 g ((i + 1) * 1) (n - i) dc ⟨g, i * 1, none⟩ (n + 1 - i) sc 1 cur 3 (xs.drop (i * 1)) Tryz.underlying43 hsz hh (by rw [hdl, show Nat.min (n + 1 - i) (n - i) = n - i from by show min _ _ = _; omega])
        (fun j v hj => by rw [Addr.add_lit]; exact hcell _ _ (by rwa [List.getElem?_drop] at hj)) (by rw [hdl, hcs]; omega) (fun v hv => h1x v (List.mem_of_mem_drop hv))
      rw [hdl, ← hR1] at this
      exact this
    have hh1 : (w.drew.setRow g R1.toArray).heap[g]? = some (.cells R1.toArray 3 (0, 0)) := setRow_heap w.drew g _ _ _ _ hh
    have hcp2 : ∀ ty dc, (Builtin.copy_ #[43, 43] ty #[.slice (some ⟨g, i * 1, none⟩) (n + 1 - i) dc, .slice (some ⟨vb, 0, none⟩) 1 1]).run Tryz.prog (w.drew.setRow g R1.toArray) = .ok (goInt (Nat.min 1 (n + 1 - i))) ((w.drew.setRow g R1.toArray).setRow g R2.toArray) := fun ty dc => by
      have := run_copy_rowN (P := Tryz.prog) (ty := ty) (w.drew.setRow g R1.toArray) 43 43 3 g (i * 1) (n + 1 - i) dc ⟨vb, 0, none⟩ 1 1 1 R1.toArray 3 news Tryz.underlying43 hsz hh1 (by rw [hnl, show Nat.min 1 (n + 1 - i) = 1 from by show min _ _ = _; omega])
        (fun j v hj => by rw [Addr.add_lit, Nat.zero_add, cell_setRow_other _ _ _ _ hvg]; exact hvcell j v hj) (by rw [hnl, List.size_toArray, hR1l]; omega) h1v
      rw [hnl, List.toList_toArray, ← hR2] at this
      exact this
    have hfin : InsR base 3 1 n xs news i w (.slice (some ⟨g, 0, none⟩) n cap) (.returned (.slice (some ⟨g, 0, none⟩) (n + 1) cap)) ((w.drew.setRow g R1.toArray).setRow g R2.toArray) := by
      have hlen : (xs.take (i * 1) ++ news ++ xs.drop (i * 1)).length = (n + 1) * 1 := by
        rw [List.length_append, List.length_append, htl, hnl, hdl]; omega
      refine ⟨_, rfl, ⟨hlen, .inr ⟨g, cap, R2.toArray, rfl, hg, setRow_heap _ g _ _ _ _ hh1, hroom, hcm, ?_, ?_⟩⟩, ⟨rfl, rfl, rfl, by rw [setRow_size, setRow_size]; exact Nat.le_refl _, fun k hk hne => ?_⟩, .inl rfl⟩
      · rw [List.size_toArray, hR2, List.length_append, List.length_append, List.length_take, List.length_drop, hnl, hR1l]; omega
      · rw [List.toList_toArray, hR2e, ← hlen, List.take_append_of_le_length (Nat.le_refl _), List.take_length]
      · have hkg : k ≠ g := fun e => hne (by rw [e]; rfl)
        rw [setRow_other _ _ _ _ hkg, setRow_other _ _ _ _ hkg]; rfl
    have HF := Lib.hid hfin
    simp only [Nat.mul_one] at hov hcp1 hcp2
    have z3 : ¬ (cap = i + 1) := by omega
    have z5 : (i : Int) ≤ (n : Int) + 1 := by omega
    have mixed : Tryz.prog.follows Departure.mixedOrders = true := by kernel_rfl
    have z4 : ¬ ((cap : Int) < (n : Int) + 1) := by omega
    clear hfin hR2e hR2 hR1 hE hR1l hct hct2 hcl hdl htl hxl hcell hvcell hvr hh1 h1x h1v h hv hh hcs x1 x2 hge hr2 hnl
    go_enter Tryz.func89, Tryz.ntmps89
    go_wp2_with (simp only [hov])
    go_region_law_o (refine step_copy_runI rfl _ _ 43 43 rfl _ _ (by simp [Act.eval, Act.put]) (by simp [Act.eval, Act.put]) (hcp1 _ _ _) ?_)
    go_wp2_with (at_builtin; refine wpList_copy_runI _ rfl _ _ 43 43 rfl _ _ rfl rfl (hcp2 _ _) ?_)
    go_ret
    exact HF.out
  · obtain rfl : cap = n := by omega
    have hkk : (cap : Int) + 1 - (i : Int) = ((cap + 1 - i : Nat) : Int) := by omega
    have hik : i + (cap + 1 - i) = cap + 1 := by omega
    have hold : (Builtin.firstCells i0.size i (.slice (some ⟨g, 0, none⟩) i cap)).run Tryz.prog w.drew = .ok (xs.take (i * 1)).toArray w.drew := by
      rw [hq1]
      exact run_firstCells_some w.drew 1 i ⟨g, 0, none⟩ i cap (xs.take (i * 1)) (by rw [htl]) (fun j v hj => by
        rw [Addr.add_lit, Nat.zero_add]
        rw [List.getElem?_take] at hj
        split at hj
        · exact hcell j v hj
        · cases hj)
    obtain ⟨G, hG⟩ : ∃ G, G = grownCap w (cap + 1) cap 3 := ⟨_, rfl⟩
    have hGn : cap + 1 ≤ G := by rw [hG]; exact grownCap_ge w _ _ _
    have hGm : G ≤ maxLen := by rw [hG]; exact grownCap_le_maxLen w (cap + 1) cap 3 (by unfold maxLen; omega)
    obtain ⟨ROW, hROW⟩ : ∃ ROW : Array Value, ROW = (xs.take (i * 1)).toArray ++ Builtin.zeroCells ((.int .i64 0) : Value).cells (cap + 1 - i) ++ Builtin.zeroCells ((.int .i64 0) : Value).cells (G - (cap + 1)) := ⟨_, rfl⟩
    have hrz : ∀ ty, (Builtin.append_ #[43, 3] ty #[.slice (some ⟨g, 0, none⟩) i cap, .int .i64 ((cap : Int) + 1 - (i : Int))]).run Tryz.prog w =
        .ok (.slice (some ⟨w.heap.size, 0, none⟩) (cap + 1) G) (w.drew.alloc (.cells ROW 3)) := fun ty => by
      have h := Lib.run_append_grow_zeros w 43 3 ty 3 i0 _ .i64 .i64 Tryz.underlying43 Tryz.underlying3 hi0 hq0 (some ⟨g, 0, none⟩) i cap (xs.take (i * 1)) hold (cap + 1 - i) (by omega) (by omega) (by omega) (by omega) (by rw [hq2]; omega) (by rw [hq2, hik]; exact growslice_fits (by omega) (by omega))
      rw [hik, ← hG, ← hROW] at h
      rw [hkk]
      exact h
    have hRs : ROW.size = G * 1 := by
      rw [hROW, Array.size_append, Array.size_append, List.size_toArray, htl, size_zeroCells, size_zeroCells, show (((.int .i64 0) : Value).cells).size = 1 from rfl, ← Nat.add_mul, ← Nat.add_mul]
      congr 1; omega
    have hGs : (cap + 1) * 1 ≤ G * 1 := Nat.mul_le_mul_right _ hGn
    have hRt : ROW.toList.take (i * 1) = xs.take (i * 1) := by
      rw [hROW, Array.toList_append, Array.toList_append, List.toList_toArray, List.append_assoc, List.take_append_of_le_length (by rw [htl]; exact Nat.le_refl _), List.take_of_length_le (by rw [htl]; exact Nat.le_refl _)]
    obtain ⟨N0, hN0⟩ : ∃ N0, N0 = w.heap.size := ⟨_, rfl⟩
    rw [← hN0] at hrz
    have hgN : g ≠ N0 := by omega
    have hvN : vb ≠ N0 := by have := hv.lt; omega
    have hRl : ROW.toList.length = G * 1 := by rw [Array.length_toList]; exact hRs
    obtain ⟨R1, hR1⟩ : ∃ R1, R1 = ROW.toList.take (i * 1) ++ news ++ ROW.toList.drop (i * 1 + 1) := ⟨_, rfl⟩
    have hR1l : R1.length = G * 1 := by
      rw [hR1, List.length_append, List.length_append, List.length_take, hnl, List.length_drop, hRl]; omega
    obtain ⟨R2, hR2⟩ : ∃ R2, R2 = R1.take ((i + 1) * 1) ++ xs.drop (i * 1) ++ R1.drop ((i + 1) * 1 + (cap - i) * 1) := ⟨_, rfl⟩
    have hR2e : R2 = xs.take (i * 1) ++ news ++ xs.drop (i * 1) ++ R1.drop ((i + 1) * 1 + (cap - i) * 1) := by
      have q1 : R1.take ((i + 1) * 1) = xs.take (i * 1) ++ news := by
        rw [hR1, List.take_append_of_le_length (by rw [List.length_append, List.length_take, hnl, hRl]; omega), List.take_of_length_le (by rw [List.length_append, List.length_take, hnl, hRl]; omega), hRt]
      rw [hR2, q1]
    have hgrow : ∀ W : World, W.heap = (w.drew.alloc (.cells ROW 3)).heap → W.heap[N0]? = some (.cells ROW 3 (0, 0)) ∧ (∀ j u, w.cell? ⟨vb, j, none⟩ = some u → W.cell? ⟨vb, j, none⟩ = some u) := fun W hW => by
      refine ⟨by rw [hW, hN0]; exact heap_alloc_new w.drew _, fun j u hu => ?_⟩
      have h1 : (w.drew.alloc (.cells ROW 3)).cell? ⟨vb, j, none⟩ = w.drew.cell? ⟨vb, j, none⟩ := World.cell?_alloc_lt _ _ _ hv.lt
      rw [← hu]
      have h2 : W.cell? ⟨vb, j, none⟩ = (w.drew.alloc (.cells ROW 3)).cell? ⟨vb, j, none⟩ := World.cell?_of_block (by rw [hW])
      rw [h2, h1]; rfl
    have hcpA : ∀ W : World, W.heap = (w.drew.alloc (.cells ROW 3)).heap → ∀ ty dc, (Builtin.copy_ #[43, 43] ty #[.slice (some ⟨N0, i * 1, none⟩) (cap + 1 - i) dc, .slice (some ⟨vb, 0, none⟩) 1 1]).run Tryz.prog W = .ok (goInt (Nat.min 1 (cap + 1 - i))) (W.setRow N0 R1.toArray) := fun W hW ty dc => by
      obtain ⟨k1, k2⟩ := hgrow W hW
      have := run_copy_rowN (P := Tryz.prog) (ty := ty) W 43 43 3 N0 (i * 1) (cap + 1 - i) dc ⟨vb, 0, none⟩ 1 1 1 ROW 3 news Tryz.underlying43 hsz k1 (by rw [hnl, show Nat.min 1 (cap + 1 - i) = 1 from by show min _ _ = _; omega])
        (fun j v hj => by rw [Addr.add_lit, Nat.zero_add]; exact k2 _ _ (hvcell j v hj)) (by rw [hnl, hRs]; omega) h1v
      rw [hnl, ← hR1] at this
      exact this
    have hcpB : ∀ W : World, (∃ W0 : World, W0.heap = (w.drew.alloc (.cells ROW 3)).heap ∧ W.heap = (W0.setRow N0 R1.toArray).heap) → ∀ ty dc sc, (Builtin.copy_ #[43, 43] ty #[.slice (some ⟨N0, (i + 1) * 1, none⟩) (cap - i) dc, .slice (some ⟨g, i * 1, none⟩) (cap - i) sc]).run Tryz.prog W = .ok (goInt (Nat.min (cap - i) (cap - i))) (W.setRow N0 R2.toArray) := fun W ⟨W0, h0, h1⟩ ty dc sc => by
      have k1 : W.heap[N0]? = some (.cells R1.toArray 3 (0, 0)) := by rw [h1]; exact setRow_heap W0 N0 _ _ _ _ (hgrow W0 h0).1
      have k2 : ∀ j u, w.cell? ⟨g, j, none⟩ = some u → W.cell? ⟨g, j, none⟩ = some u := fun j u hu => by
        have e1 : W.cell? ⟨g, j, none⟩ = (W0.setRow N0 R1.toArray).cell? ⟨g, j, none⟩ := World.cell?_of_block (by rw [h1])
        have e2 : W0.cell? ⟨g, j, none⟩ = (w.drew.alloc (.cells ROW 3)).cell? ⟨g, j, none⟩ := World.cell?_of_block (by rw [h0])
        have e3 : (w.drew.alloc (.cells ROW 3)).cell? ⟨g, j, none⟩ = w.drew.cell? ⟨g, j, none⟩ := World.cell?_alloc_lt _ _ _ hgw
        rw [e1, cell_setRow_other _ _ _ _ hgN, e2, e3, ← hu]; rfl
      have := run_copy_rowN (P := Tryz.prog) (ty := ty) W 43 43 3 N0 ((i + 1) * 1) (cap - i) dc ⟨g, i * 1, none⟩ (cap - i) sc 1 R1.toArray 3 (xs.drop (i * 1)) Tryz.underlying43 hsz k1 (by rw [hdl, show Nat.min (cap - i) (cap - i) = cap - i from by show min _ _ = _; omega])
        (fun j v hj => by rw [Addr.add_lit]; exact k2 _ _ (hcell _ _ (by rwa [List.getElem?_drop] at hj))) (by rw [hdl, List.size_toArray, hR1l]; omega) (fun v hv => h1x v (List.mem_of_mem_drop hv))
      rw [hdl, List.toList_toArray, ← hR2] at this
      exact this
    have hfin : InsR base 3 1 cap xs news i w (.slice (some ⟨g, 0, none⟩) cap cap) (.returned (.slice (some ⟨N0, 0, none⟩) (cap + 1) G)) ((((w.alloc (.cells ROW 3)).drew.setRow N0 R1.toArray).drew).setRow N0 R2.toArray) := by
      have hlen : (xs.take (i * 1) ++ news ++ xs.drop (i * 1)).length = (cap + 1) * 1 := by
        rw [List.length_append, List.length_append, htl, hnl, hdl]; omega
      have k1 : ((w.alloc (.cells ROW 3)).drew.setRow N0 R1.toArray).drew.heap[N0]? = some (.cells R1.toArray 3 (0, 0)) := setRow_heap ((w.alloc (.cells ROW 3)).drew) N0 _ _ _ _ (hgrow ((w.alloc (.cells ROW 3)).drew) rfl).1
      refine ⟨_, rfl, ⟨hlen, .inr ⟨N0, G, R2.toArray, rfl, by omega, setRow_heap _ N0 _ _ _ _ k1, hGn, hGm, ?_, ?_⟩⟩, ⟨rfl, rfl, rfl, ?_, fun k hk hne => ?_⟩, .inr (by rw [← hN0]; rfl)⟩
      · rw [List.size_toArray, hR2, List.length_append, List.length_append, List.length_take, hdl, List.length_drop, hR1l]; omega
      · rw [List.toList_toArray, hR2e, ← hlen, List.take_append_of_le_length (Nat.le_refl _), List.take_length]
      · rw [setRow_size]
        show w.heap.size ≤ ((w.alloc (.cells ROW 3)).drew.setRow N0 R1.toArray).heap.size
        rw [setRow_size]
        show w.heap.size ≤ (w.alloc (.cells ROW 3)).heap.size
        rw [World.size_alloc]; exact Nat.le_succ _
      · have hkg : k ≠ N0 := by omega
        rw [setRow_other _ _ _ _ hkg]
        show ((w.alloc (.cells ROW 3)).drew.setRow N0 R1.toArray).heap[k]? = _
        rw [setRow_other _ _ _ _ hkg]
        exact Below.heap_alloc w _ k hk
    have HF := Lib.hid hfin
    have hcA : ∀ ty dc, (Builtin.copy_ #[43, 43] ty #[.slice (some ⟨N0, i * 1, none⟩) (cap + 1 - i) dc, .slice (some ⟨vb, 0, none⟩) 1 1]).run Tryz.prog (w.alloc (.cells ROW 3)).drew = .ok (goInt (Nat.min 1 (cap + 1 - i))) ((w.alloc (.cells ROW 3)).drew.setRow N0 R1.toArray) := hcpA _ rfl
    have hcB : ∀ ty dc sc, (Builtin.copy_ #[43, 43] ty #[.slice (some ⟨N0, (i + 1) * 1, none⟩) (cap - i) dc, .slice (some ⟨g, i * 1, none⟩) (cap - i) sc]).run Tryz.prog ((w.alloc (.cells ROW 3)).drew.setRow N0 R1.toArray).drew = .ok (goInt (Nat.min (cap - i) (cap - i))) (((w.alloc (.cells ROW 3)).drew.setRow N0 R1.toArray).drew.setRow N0 R2.toArray) := hcpB _ ⟨_, rfl, rfl⟩
    simp only [Nat.mul_one] at hcA hcB
    have z3 : ¬ (G = i) := by omega
    have z4 : (cap : Int) < (cap : Int) + 1 := by omega
    have z5 : (i : Int) ≤ (cap : Int) := by omega
    have z6 : ¬ (G = i + 1) := by omega
    have z7 : (i : Int) ≤ (cap : Int) + 1 := by omega
    have hG63 : G ≤ 9223372036854775807 := by unfold maxLen at hGm; omega
    have mixed : Tryz.prog.follows Departure.mixedOrders = true := by kernel_rfl
    clear hfin hcpA hcpB hgrow hR2e hR2 hR1 hR1l hRl hRt hRs hROW hG hold hkk hik hct hct2 hcl hdl htl hxl hcell hvcell hvr h1x h1v h hv hh hcs x1 x2 hge hnl hGs hGm hN0
    go_enter Tryz.func89, Tryz.ntmps89
    go_wp2_with (first
      | (at_builtin; refine Lib.wpList_append_run _ rfl _ _ _ _ rfl _ _ rfl rfl _ _ (hrz _) ?_)
      | (at_builtin; refine wpList_copy_runI _ rfl _ _ 43 43 rfl _ _ rfl rfl (hcA _ _) ?_))
    go_region_law_o (refine step_copy_runI rfl _ _ 43 43 rfl _ _ (by simp [Act.eval, Act.put]) (by simp [Act.eval, Act.put]) (hcB _ _ _) ?_)
    go_wp2_with fail
    go_ret
    exact HF.out
end Go.Proofs.YtmkicfjcgbfaaaaGreatDoor
