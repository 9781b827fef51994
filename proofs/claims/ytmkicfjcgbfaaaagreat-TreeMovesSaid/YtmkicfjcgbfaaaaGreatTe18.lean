/-
  DERIVED. The walk of slices.Delete of one element at blocks, over a row of the call's own. Conditions: sizes.
  The walks of slices.DeleteFunc and slices.IndexFunc at properties with prop.without's closure. Conditions: sizes.
  By an AI agent.
-/
import Derived.Test.YtmkicfjcgbfaaaaGreatTe12
import Derived.Test.YtmkicfjcgbfaaaaGreatTe13
import Derived.Test.YtmkicfjcgbfaaaaGreatTe16
namespace Go.Proofs.YtmkicfjcgbfaaaaGreat
open Go.RowKit

theorem Blk.setCells {t : TypeId} {g : Nat} : ∀ (vs : List Value) (o : Nat) (w : World) (cs : Array Value), Blk w g t cs → ∃ cs' : Array Value, Blk (w.setCells g o vs) g t cs' ∧ cs'.size = cs.size ∧ cs'.toList.take o = cs.toList.take o
  | [], o, w, cs, h => ⟨cs, h, rfl, rfl⟩
  | v :: r, o, w, cs, h => by
    obtain ⟨cs', h1, h2, h3⟩ := Blk.setCells r (o + 1) (w.setCell ⟨g, o, none⟩ v) _ (h.set_ o v)
    refine ⟨cs', h1, by rw [h2, Array.size_setIfInBounds], ?_⟩
    have h4 : (cs'.toList.take (o + 1)).take o = ((cs.setIfInBounds o v).toList.take (o + 1)).take o := by rw [h3]
    rw [List.take_take, List.take_take, Nat.min_eq_left (Nat.le_succ o), Array.toList_setIfInBounds, List.take_set_of_le (Nat.le_refl o)] at h4
    exact h4
theorem setCells_other : ∀ (vs : List Value) (o g k : Nat) (w : World), k ≠ g → (w.setCells g o vs).heap[k]? = w.heap[k]?
  | [], _, _, _, _, _ => rfl
  | v :: r, o, g, k, w, h => by
    show ((w.setCell ⟨g, o, none⟩ v).setCells g (o + 1) r).heap[k]? = _
    rw [setCells_other r (o + 1) g k _ h]
    exact Below.heap_setCell w _ v k h
theorem setCells_size : ∀ (vs : List Value) (o g : Nat) (w : World), (w.setCells g o vs).heap.size = w.heap.size
  | [], _, _, _ => rfl
  | v :: r, o, g, w => by
    show ((w.setCell ⟨g, o, none⟩ v).setCells g (o + 1) r).heap.size = _
    rw [setCells_size r (o + 1) g _]; simp [World.setCell]
theorem setCells_rest : ∀ (vs : List Value) (o g : Nat) (w : World), (w.setCells g o vs).os = w.os ∧ (w.setCells g o vs).output = w.output ∧ (w.setCells g o vs).tape = w.tape
  | [], _, _, _ => ⟨rfl, rfl, rfl⟩
  | v :: r, o, g, w => setCells_rest r (o + 1) g (w.setCell ⟨g, o, none⟩ v)
theorem clearB_run (W : World) (g o cap : Nat) (cur : Array Value) (h : Blk W g 38 cur) (ho : o * 5 + 5 ≤ cur.size) (ty : TypeId) :
    (Builtin.clear_ #[22] ty #[.slice (some ⟨g, o * 5, none⟩) 1 cap]).run Tryz.prog W = .ok (.tuple #[]) (W.setCells g (o * 5) (Builtin.zeroCells bZ.cells 1).toList) := by
  have hv : ∀ w, (zeroValue 38).run Tryz.prog w = .ok bZ w := fun w => by
    obtain ⟨i0, hi0, hz0, hz1, hz2⟩ := info_parts block_info
    simp [zeroValue, typeInfo, hi0, hz0]
  have hl : (Builtin.zeroCells bZ.cells 1).toList.length = 5 := by
    simp [Builtin.zeroCells, bZ, Value.cells]
  have hst := run_storeCells_cells (P := Tryz.prog) g (o * 5) (Builtin.zeroCells bZ.cells 1).toList 0 W
    (fun j hj => by
      rw [hl] at hj
      rw [h.cell, Array.getElem?_eq_getElem (by omega)]; rfl)
    (fun j _ => h.frozen _)
    (fun v hv => by
      simp only [Builtin.zeroCells, Array.toList_map, List.mem_map] at hv
      obtain ⟨q, _, rfl⟩ := hv
      have hq : q % bZ.cells.size = 0 ∨ q % bZ.cells.size = 1 ∨ q % bZ.cells.size = 2 ∨ q % bZ.cells.size = 3 ∨ q % bZ.cells.size = 4 := by
        show q % 5 = 0 ∨ q % 5 = 1 ∨ q % 5 = 2 ∨ q % 5 = 3 ∨ q % 5 = 4
        omega
      rcases hq with e | e | e | e | e <;> rw [e] <;> rfl)
  simp only [Nat.add_zero] at hst
  simp [Builtin.clear_, run_underlying Tryz.underlying22, hv, hst]

/-- an append whose run is known, as one step of a region that draws -/
theorem step_append_runI {P : Program} {ops : Array Oper} {o : Oper} {a : Act} {w : World} {K : Act → World → Prop} {Q : Exit → Act → World → Prop} {E : Prop}
    (hg : o.guard = none) (s x : Operand) (t tn : TypeId) (hop : o.op = Op.call { callee := Callee.builtin Builtin.append, args := #[s, x], argTypes := #[t, tn] })
    (v u : Value) (hs : a.eval s = v) (hx : a.eval x = u) {v' : Value} {w' : World} (hr : (Builtin.append_ #[t, tn] o.type #[v, u]).run P w = .ok v' w') (hK : K (a.put o.dst v') w') :
    if Region.wanted o (yielded ops a.tmps) = true then Oper.wp P o a w K Q else E := by
  have hw : Region.wanted o (yielded ops a.tmps) = true := by simp [Region.wanted, hg]
  rw [if_pos hw]
  exact Lib.wp_append_run w s x t tn hop v u hs hx _ _ hr hK
/-- what a delete leaves -/
def DelR (base : Nat) (n : Nat) (xs : List Value) (i : Nat) (w : World) (v : Value) (e : Ending) (w' : World) : Prop :=
  ∃ v', e = .returned v' ∧ w'.ownsRow base 38 5 v' (n - 1) (xs.take (i * 5) ++ xs.drop ((i + 1) * 5)) ∧ w.grownBy w' v.ownBlock ∧ v'.ownBlock = v.ownBlock

set_option maxRecDepth 100000 in
set_option maxHeartbeats 4000000 in
/-- slices.Delete of one element at blocks -/
theorem deleteB_own (v : Value) (n : Nat) (xs : List Value) (base i : Nat) (w : World) (h : w.ownsRow base 38 5 v n xs) (hi : i < n) (hn : n ≤ 100000) (h1x : ∀ u ∈ xs, u.oneCell' = true) :
    Calls Tryz.prog 131 #[v, .int .i64 i, .int .i64 ((i : Int) + 1)] w (DelR base n xs i w v) := by
  obtain ⟨i0, hi0, hq0, hq1, hq2⟩ := info_parts block_info
  have hxl : xs.length = n * 5 := h.1
  rcases h.2 with ⟨_, h0⟩ | ⟨g, cap, cur, rfl, hg, hh, hnc, hcm, hcs, hct⟩
  · omega
  have hcell : ∀ j u, xs[j]? = some u → w.cell? ⟨g, j, none⟩ = some u := fun j u hu => by
    have hj := (List.getElem?_eq_some_iff.1 hu).1
    rw [Blk.cell (t := 38) (cs := cur) hh, ← hu, ← hct, List.getElem?_take, if_pos (by omega)]; simp
  have hcl : cur.toList.length = cap * 5 := by rw [Array.length_toList]; exact hcs
  have hdl : (xs.drop ((i + 1) * 5)).length = (n - (i + 1)) * 5 := by rw [List.length_drop, hxl]; omega
  have htl : (xs.take (i * 5)).length = i * 5 := by rw [List.length_take, hxl]; omega
  have hct2 : cur.toList.take (i * 5) = xs.take (i * 5) := by rw [← hct, List.take_take]; congr 1; omega
  have hgw : g < w.heap.size := Blk.lt (t := 38) (cs := cur) hh
  obtain ⟨R1, hR1⟩ : ∃ R1, R1 = cur.toList.take (i * 5) ++ xs.drop ((i + 1) * 5) ++ cur.toList.drop (i * 5 + (n - (i + 1)) * 5) := ⟨_, rfl⟩
  have hR1l : R1.length = cap * 5 := by
    rw [hR1, List.length_append, List.length_append, List.length_take, hdl, List.length_drop, hcl]; omega
  have hh1 : Blk (w.drew.setRow g R1.toArray) g 38 R1.toArray := setRow_heap w.drew g _ _ _ _ hh
  obtain ⟨Z, hZ⟩ : ∃ Z, Z = (Builtin.zeroCells bZ.cells 1).toList := ⟨_, rfl⟩
  have hcr : ∀ ty cc, (Builtin.clear_ #[22] ty #[.slice (some ⟨g, (n - 1) * 5, none⟩) 1 cc]).run Tryz.prog (w.drew.setRow g R1.toArray) = .ok (.tuple #[]) ((w.drew.setRow g R1.toArray).setCells g ((n - 1) * 5) Z) := fun ty cc => by
    rw [hZ]; exact clearB_run _ g (n - 1) cc _ hh1 (by rw [List.size_toArray, hR1l]; omega) ty
  have hap : ∀ ty c0 (ad : Addr), (0 < n - (i + 1) → ad = ⟨g, (i + 1) * 5, none⟩) → (Builtin.append_ #[22, 22] ty #[.slice (some ⟨g, 0, none⟩) i cap, .slice (some ad) (n - (i + 1)) c0]).run Tryz.prog w.drew = .ok (.slice (some ⟨g, 0, none⟩) (n - 1) cap) (w.drew.setRow g R1.toArray) := fun ty c0 ad had => by
    have := run_append_room (P := Tryz.prog) (ty := ty) w.drew 22 38 i0 Tryz.underlying22 hi0 g i cap cur hh ad (n - (i + 1)) c0 (xs.drop ((i + 1) * 5)) (by rw [hdl, hq1])
      (fun j v hj => by
        have hjl := (List.getElem?_eq_some_iff.1 hj).1
        rw [hdl] at hjl
        rw [had (by omega), Addr.add_lit]; exact hcell _ _ (by rwa [List.getElem?_drop] at hj)) (fun v hv => h1x v (List.mem_of_mem_drop hv)) (by omega) (by rw [hdl, hq1, hcs]; omega)
    rw [hq1, hdl, ← hR1, show i + (n - (i + 1)) = n - 1 by omega] at this
    exact this
  have hfin : DelR base n xs i w (.slice (some ⟨g, 0, none⟩) n cap) (.returned (.slice (some ⟨g, 0, none⟩) (n - 1) cap)) ((w.drew.setRow g R1.toArray).setCells g ((n - 1) * 5) Z) := by
    obtain ⟨cs', k1, k2, k3⟩ := Blk.setCells Z ((n - 1) * 5) _ _ hh1
    have hlen : (xs.take (i * 5) ++ xs.drop ((i + 1) * 5)).length = (n - 1) * 5 := by
      rw [List.length_append, htl, hdl]; omega
    obtain ⟨r1, r2, r3⟩ := setCells_rest Z ((n - 1) * 5) g (w.drew.setRow g R1.toArray)
    refine ⟨_, rfl, ⟨hlen, .inr ⟨g, cap, cs', rfl, hg, k1, by omega, hcm, by rw [k2, List.size_toArray, hR1l], ?_⟩⟩, ⟨r1, r3, r2, ?_, fun k hk hne => ?_⟩, rfl⟩
    · rw [k3, List.toList_toArray, hR1, hct2, ← hlen, List.take_append_of_le_length (Nat.le_refl _), List.take_length]
    · rw [setCells_size, setRow_size]; exact Nat.le_refl _
    · have hkg : k ≠ g := fun e => hne (by rw [e]; rfl)
      rw [setCells_other _ _ _ _ _ hkg, setRow_other _ _ _ _ hkg]; rfl
  have HF := Lib.hid hfin
  have hc63 : cap ≤ 9223372036854775807 := by unfold maxLen at hcm; omega
  have z1 : ¬ ((i : Int) = (i : Int) + 1) := by omega
  have z2 : (i : Int) ≤ (n : Int) := by omega
  have z3 : (i : Int) + 1 ≤ (n : Int) := by omega
  have w1 : IntKind.i64.wrap ((i : Int) + 1) = (i : Int) + 1 := IntWalk.i64_in _ (by omega)
  have w2 : (0 : Int) ≤ (i : Int) + 1 := by omega
  have w3 : ((i : Int) + 1).toNat = i + 1 := by omega
  have w4 : (i : Int) ≤ (cap : Int) := by omega
  have w5 : n - (n - 1) = 1 := by omega
  have mixed : Tryz.prog.follows Departure.mixedOrders = true := by kernel_rfl
  have z9 : ¬ (cap = n - 1) := by omega
  clear hfin hZ hR1 hR1l hct hct2 hcl hdl htl hxl hcell hh1 h1x h hh hcs
  have hcb : ∀ c : Nat, Builtin.clear_ #[22] c = Builtin.clear_ #[22] c := fun _ => rfl
  clear hcb
  by_cases hc : cap = i + 1
  · have HAP : ∀ ty c0, (Builtin.append_ #[22, 22] ty #[.slice (some ⟨g, 0, none⟩) i cap, .slice (some ⟨g, 0, none⟩) (n - (i + 1)) c0]).run Tryz.prog w.drew = .ok (.slice (some ⟨g, 0, none⟩) (n - 1) cap) (w.drew.setRow g R1.toArray) := fun ty c0 => hap ty c0 _ (by omega)
    clear hap
    subst hc
    have e0 : n - (i + 1) = 0 := by omega
    simp only [e0] at HAP
    clear e0
    have z11 : (i : Int) ≤ (i : Int) + 1 := by omega
    go_enter Tryz.func131, Tryz.ntmps131
    go_upto_region 5 with fail
    go_region_law_o (refine step_append_runI rfl _ _ 22 22 rfl (.slice (some ⟨g, 0, none⟩) i (i + 1)) (.slice (some ⟨g, 0, none⟩) 0 0) (by simp [Act.eval, Act.put]) (by simp [Act.eval, Act.put]) (HAP _ _) ?_)
    go_wp2_with fail
    go_ret
    exact HF.out
  · have HAP : ∀ ty c0, (Builtin.append_ #[22, 22] ty #[.slice (some ⟨g, 0, none⟩) i cap, .slice (some ⟨g, (i + 1) * 5, none⟩) (n - (i + 1)) c0]).run Tryz.prog w.drew = .ok (.slice (some ⟨g, 0, none⟩) (n - 1) cap) (w.drew.setRow g R1.toArray) := fun ty c0 => hap ty c0 _ (fun _ => rfl)
    clear hap
    have z11 : (i : Int) + 1 ≤ (n : Int) := by omega
    go_enter Tryz.func131, Tryz.ntmps131
    go_upto_region 5 with fail
    go_region_law_o (refine step_append_runI rfl _ _ 22 22 rfl (.slice (some ⟨g, 0, none⟩) i cap) (.slice (some ⟨g, (i + 1) * 5, none⟩) (n - (i + 1)) (cap - (i + 1))) (by simp [Act.eval, Act.put]) (by simp [Act.eval, Act.put]) (HAP _ _) ?_)
    go_wp2_with fail
    go_ret
    exact HF.out
end Go.Proofs.YtmkicfjcgbfaaaaGreat
namespace Go.Proofs.YtmkicfjcgbfaaaaGreat
open Go.RowKit

set_option maxHeartbeats 400000 in
theorem wo1_any (x : Pr) (u : Value) (P : Nat) (s : ByteArray) (w : World) (hP : P < w.heap.size) (hc : w.cell? ⟨P, 0, none⟩ = some (.string s)) :
    Calls Tryz.prog 190 #[AP (x, u), .pointer (some ⟨P, 0, none⟩)] w fun e w' => e = .returned (.bool (decide (x.name = s))) ∧ Below w.heap.size w w' := by
  rw [dec_toList]
  have hc' : ∀ o, (w.alloc o).cell? ⟨P, 0, none⟩ = some (.string s) := fun o => (World.cell?_alloc_lt _ _ _ hP).trans hc
  dsimp only [AP]
  go_enter Tryz.func190, Tryz.ntmps190
  go_wp2_with fail
  go_ret
  exact ⟨rfl, (Below.refl _ _).alloc (Nat.le_refl _) _⟩

set_option maxHeartbeats 2000000 in
theorem indexW_any (l : List Pr) (A : Option Addr) (n c P : Nat) (s : ByteArray) (w : World) (B : Nat) (hB : B ≤ w.heap.size) (hP : P < w.heap.size) (hPc : w.cell? ⟨P, 0, none⟩ = some (.string s)) (h : RPr w B (.slice A n c) l) :
    Calls Tryz.prog 166 #[.slice A n c, .func (.func 190) #[] #[.pointer (some ⟨P, 0, none⟩)]] w fun e w' => e = .returned (.int .i64 (nmOf l s)) ∧ Below w.heap.size w w' := by
  obtain ⟨V, hV⟩ : ∃ V, V = nmOf l s := ⟨_, rfl⟩
  rw [← hV]
  have HV : Hid (V = nmFrom (l.drop 0) s 0) := hV
  have HN := Lib.hid h.len
  have H := Lib.hid h
  have HPC := Lib.hid hPc
  clear h hV hPc
  go_enter Tryz.func166, Tryz.ntmps166
  go_wp2_with fail
  go_loopg [8] n (fun gg s8 wr => ∃ k : Nat, k + gg = n ∧ s8 = .int .i64 (k : Int) ∧ Hid (V = nmFrom (l.drop k) s k) ∧ Hid (Below w.heap.size w wr))
  case atStart => exact ⟨0, by omega, rfl, HV, Below.refl _ _⟩
  case round =>
    obtain ⟨k, hkg, rfl, hno, hbel⟩ := hrel
    have hbg : n * 80 ≤ 140737488351232 := HN.out.2.2
    by_cases hk : k < n
    · obtain ⟨x, hx⟩ : ∃ x, l[k]? = some x := ⟨_, List.getElem?_eq_getElem (by have := HN.out.1; omega)⟩
      obtain ⟨b, off, Av, nv, cv, rfl, hbb, g0, g1, g2, g3, g4, g5, _⟩ := (H.out.below (hbel.out.mono hB)).at_ hx
      have hst := hno.out.trans (nmFrom_at hx s)
      have HX := Lib.hid (wo1_any x (.slice Av nv cv) P s wr (Nat.lt_of_lt_of_le hP hbel.out.size) ((hbel.out.cell (p := ⟨P, 0, none⟩) hP).trans HPC.out))
      dsimp only [AP] at HX
      have j0 : (0 : Int) ≤ (k : Int) := by omega
      have j1 : (k : Int) < (n : Int) := by omega
      clear hx
      obtain ⟨q, hq⟩ : ∃ q, decide (x.name = s) = q := ⟨_, rfl⟩
      rw [hq] at HX
      cases q
      · have HS := Lib.hid (hst.trans (if_neg (of_decide_eq_false hq)))
        clear hst hq
        go_wp2_with fail
        refine HX.out.mono ?_
        rintro e w2 ⟨rfl, hb⟩
        have HB2 : Hid (Below w.heap.size w w2) := hbel.out.trans (hb.mono hbel.out.size)
        clear hb
        go_wp2_with fail
        go_roundg (n - (k + 1))
        case measure => omega
        case rel => exact ⟨k + 1, by omega, by go_num, HS, HB2⟩
      · have HS := Lib.hid (hst.trans (if_pos (of_decide_eq_true hq)))
        clear hst hq
        go_wp2_with fail
        refine HX.out.mono ?_
        rintro e w2 ⟨rfl, hb⟩
        have HB2 : Hid (Below w.heap.size w w2) := hbel.out.trans (hb.mono hbel.out.size)
        clear hb
        go_wp2_with fail
        go_ret
        exact ⟨by rw [HS.out]; rfl, HB2.out⟩
    · obtain rfl : n = k := by omega
      have HZ : Hid (V = -1) := hno.out.trans (by rw [List.drop_of_length_le (by rw [← HN.out.1]; exact Nat.le_refl _)]; rfl)
      go_wp2_with fail
      go_ret
      exact ⟨by rw [HZ.out]; rfl, hbel.out⟩

theorem nmFrom_first : ∀ (l : List Pr) (s : ByteArray) (k : Nat), (nmFrom l s k = -1 ∧ ∀ x ∈ l, x.name ≠ s) ∨ ∃ (i : Nat) (x : Pr), nmFrom l s k = ((k + i : Nat) : Int) ∧ l[i]? = some x ∧ x.name = s ∧ ∀ y ∈ l.take i, y.name ≠ s
  | [], _, _ => .inl ⟨by rw [nmFrom], by simp⟩
  | x :: l, s, k => by
    rw [nmFrom]
    by_cases h : x.name = s
    · rw [if_pos h]; exact .inr ⟨0, x, rfl, rfl, h, by simp⟩
    · rw [if_neg h]
      rcases nmFrom_first l s (k + 1) with ⟨h1, h2⟩ | ⟨i, y, h1, h2, h3, h4⟩
      · exact .inl ⟨h1, fun y hy => by
          rcases List.mem_cons.1 hy with rfl | hy
          · exact h
          · exact h2 y hy⟩
      · refine .inr ⟨i + 1, y, by rw [h1]; congr 1; omega, by simpa using h2, h3, fun z hz => ?_⟩
        rw [List.take_succ_cons] at hz
        rcases List.mem_cons.1 hz with rfl | hz
        · exact h
        · exact h4 z hz
/-- properties without a name -/
def keepP (M : List (Pr × Value)) (s : ByteArray) : List (Pr × Value) := M.filter fun x => !decide (x.1.name = s)
theorem keepP_all {M : List (Pr × Value)} {s : ByteArray} (h : ∀ x ∈ M, x.1.name ≠ s) : keepP M s = M := List.filter_eq_self.2 fun x hx => by simp [h x hx]
theorem keepP_add {M : List (Pr × Value)} {s : ByteArray} {j : Nat} {x : Pr × Value} (h : M[j]? = some x) : keepP (M.take (j + 1)) s = if x.1.name = s then keepP (M.take j) s else keepP (M.take j) s ++ [x] := by
  unfold keepP
  rw [List.take_add_one, h, List.filter_append]
  by_cases e : x.1.name = s
  · simp [e]
  · simp [e]
def CRp (W : World) (g : Nat) (Y : List (Pr × Value)) : Prop := ∀ k x, Y[k]? = some x → ∀ j u, (prV x)[j]? = some u → W.cell? ⟨g, k * 6 + j, none⟩ = some u
def FRp (W : World) (g cap : Nat) : Prop := ∃ cur, Blk W g 116 cur ∧ cap * 6 ≤ cur.size
theorem CRp.below {W W' : World} {B g : Nat} {Y : List (Pr × Value)} (h : CRp W g Y) (hb : Below B W W') (hg : g < B) : CRp W' g Y := fun k x hx j u hu => (hb.cell (p := ⟨g, k * 6 + j, none⟩) hg).trans (h k x hx j u hu)
theorem FRp.below {W W' : World} {B g n : Nat} (h : FRp W g n) (hb : Below B W W') (hg : g < B) : FRp W' g n := by
  obtain ⟨cur, h1, h2⟩ := h
  exact ⟨cur, h1.below hb hg, h2⟩
theorem FRp.lt {W : World} {g n : Nat} (h : FRp W g n) : g < W.heap.size := by
  obtain ⟨cur, h1, h2⟩ := h
  exact h1.lt
theorem FRp.setCells {W : World} {g n o : Nat} {vs : List Value} (h : FRp W g n) : FRp (W.setCells g o vs) g n := by
  obtain ⟨cur, h1, h2⟩ := h
  obtain ⟨cs', k1, k2, _⟩ := Blk.setCells vs o W _ h1
  exact ⟨cs', k1, by omega⟩
theorem CRp.put {W : World} {g cap i : Nat} {Y : List (Pr × Value)} (h : CRp W g Y) (hF : FRp W g cap) (hi : i < cap) (x : Pr × Value) : CRp (W.setCells g (i * 6) (prV x)) g (Y.set i x) := by
  obtain ⟨cur, h1, h2⟩ := hF
  intro k y hy j u hu
  have hj : j < 6 := by have := (List.getElem?_eq_some_iff.1 hu).1; rwa [prV_len] at this
  rw [List.getElem?_set] at hy
  by_cases hk : i = k
  · subst hk
    rw [if_pos rfl] at hy
    have hxy : x = y := by
      split at hy
      · injection hy
      · cases hy
    subst hxy
    obtain ⟨hjl, rfl⟩ := List.getElem?_eq_some_iff.1 hu
    have := World.cell?_setCells_in g (prV x) (i * 6) W (fun j hj => by
      rw [prV_len] at hj
      rw [h1.cell, Array.getElem?_eq_getElem (by omega)]; rfl) j hjl
    exact this
  · rw [if_neg hk] at hy
    rw [World.cell?_setCells_out g (prV x) (i * 6) W _ (fun _ _ => by
      rw [prV_len]
      show k * 6 + j < i * 6 ∨ i * 6 + 6 ≤ k * 6 + j
      omega)]
    exact h k y hy j u hu
theorem gb_below {w wr w2 : World} {r : Option Nat} (h : w.grownBy wr r) (hb : Below wr.heap.size wr w2) : w.grownBy w2 r :=
  ⟨hb.os.trans h.os, hb.tape.trans h.tape, hb.output.trans h.output, Nat.le_trans h.size hb.size, fun k hk hne => (hb.block k (Nat.lt_of_lt_of_le hk h.size)).trans (h.block k hk hne)⟩
theorem gb_setCells {w wr : World} {g : Nat} (h : w.grownBy wr (some g)) (o : Nat) (vs : List Value) : w.grownBy (wr.setCells g o vs) (some g) := by
  obtain ⟨r1, r2, r3⟩ := setCells_rest vs o g wr
  exact ⟨r1.trans h.os, r3.trans h.tape, r2.trans h.output, by rw [setCells_size]; exact h.size, fun k hk hne => (setCells_other vs o g k wr fun e => hne (by rw [e])).trans (h.block k hk hne)⟩
theorem gb_base {w wr : World} {g base : Nat} (h : w.grownBy wr (some g)) (hg : base ≤ g) (hb : base ≤ w.heap.size) : Below base w wr :=
  ⟨h.os, h.tape, h.output, h.size, fun k hk => h.block k (by omega) (fun e => by injection e with e; omega)⟩
theorem prs_cells : ∀ Y : List (Pr × Value), (Y.flatMap prV).length = Y.length * 6
  | [] => rfl
  | x :: Y => by rw [List.flatMap_cons, List.length_append, prs_cells Y, prV_len, List.length_cons]; omega
theorem CRp.take {W : World} {g : Nat} {Y : List (Pr × Value)} {cur : Array Value} (h : CRp W g Y) (hb : Blk W g 116 cur) (_hs : Y.length * 6 ≤ cur.size) : cur.toList.take (Y.length * 6) = Y.flatMap prV := by
  have hl : (Y.flatMap prV).length = Y.length * 6 := prs_cells Y
  apply List.ext_getElem?
  intro m
  by_cases hm : m < Y.length * 6
  · rw [List.getElem?_take, if_pos hm]
    obtain ⟨x, hx⟩ : ∃ x, Y[m / 6]? = some x := ⟨_, List.getElem?_eq_getElem (by omega)⟩
    have h4 := fm_get prV 6 prV_len Y (m / 6) (m % 6) x hx (by omega)
    obtain ⟨u, hu⟩ : ∃ u, (prV x)[m % 6]? = some u := ⟨_, List.getElem?_eq_getElem (by rw [prV_len]; omega)⟩
    have := h _ x hx _ u hu
    rw [hb.cell] at this
    rw [show m / 6 * 6 + m % 6 = m by omega] at h4 this
    rw [h4, hu, ← this]; simp
  · rw [List.getElem?_take, if_neg hm, List.getElem?_eq_none (by omega)]
theorem clearP_run (W : World) (g i n cap : Nat) (cur : Array Value) (h1 : Blk W g 116 cur) (h2 : n * 6 ≤ cur.size) (hi : i < n) (ty : TypeId) :
    (Builtin.clear_ #[36] ty #[.slice (some ⟨g, i * 6, none⟩) (n - i) cap]).run Tryz.prog W = .ok (.tuple #[]) (W.setCells g (i * 6) (Builtin.zeroCells pZ.cells (n - i)).toList) := by
  have hv : ∀ w, (zeroValue 116).run Tryz.prog w = .ok pZ w := fun w => by
    obtain ⟨i0, hi0, hz0, hz1, hz2⟩ := info_parts prop_info
    simp [zeroValue, typeInfo, hi0, hz0]
  have hl : (Builtin.zeroCells pZ.cells (n - i)).toList.length = (n - i) * 6 := by
    simp [Builtin.zeroCells, pZ, Value.cells]
  have hst := run_storeCells_cells (P := Tryz.prog) g (i * 6) (Builtin.zeroCells pZ.cells (n - i)).toList 0 W
    (fun j hj => by
      rw [hl] at hj
      rw [h1.cell, Array.getElem?_eq_getElem (by omega)]; rfl)
    (fun j _ => h1.frozen _)
    (fun v hv => by
      simp only [Builtin.zeroCells, Array.toList_map, List.mem_map] at hv
      obtain ⟨q, _, rfl⟩ := hv
      have hq : q % pZ.cells.size = 0 ∨ q % pZ.cells.size = 1 ∨ q % pZ.cells.size = 2 ∨ q % pZ.cells.size = 3 ∨ q % pZ.cells.size = 4 ∨ q % pZ.cells.size = 5 := by
        show q % 6 = 0 ∨ q % 6 = 1 ∨ q % 6 = 2 ∨ q % 6 = 3 ∨ q % 6 = 4 ∨ q % 6 = 5
        omega
      rcases hq with e | e | e | e | e | e <;> rw [e] <;> rfl)
  simp only [Nat.add_zero] at hst
  obtain ⟨m, hm⟩ : ∃ m, n - i = m + 1 := ⟨n - i - 1, by omega⟩
  rw [hm] at hst ⊢
  simp [Builtin.clear_, run_underlying Tryz.underlying36, hv, hst]
end Go.Proofs.YtmkicfjcgbfaaaaGreat
