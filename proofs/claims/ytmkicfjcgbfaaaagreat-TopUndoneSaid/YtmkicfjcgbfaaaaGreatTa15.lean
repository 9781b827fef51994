/-
  DERIVED. The walk of slices.Delete of one element at blocks, over a row of the call's own. Conditions: sizes.
  The walk of slices.BinarySearchFunc at blocks with done's own closure: the place for an id. Conditions: ids that rise within their bounds.
  What operations make, place by place; what an operation without error gives. Plain law. Conditions: none.
  slices.Insert and Delete at a base's row that is turned in place. Conditions: sizes.
  Operations one after another, in plain words and in memory. Conditions: none.
  By an AI agent.
-/
import Derived.Test.YtmkicfjcgbfaaaaGreatTa13
import Derived.Test.YtmkicfjcgbfaaaaGreatTa02
import Derived.Test.YtmkicfjcgbfaaaaGreatTa09
import Derived.Test.YtmkicfjcgbfaaaaGreatTa14
import Derived.Test.YtmkicfjcgbfaaaaGreatTa12
namespace Go.Proofs.YtmkicfjcgbfaaaaGreat
open Go.RowKit

theorem Blk.setCells {t : TypeId} {g : Nat} : ∀ (vs : List Value) (o : Nat) (w : World) (cs : Array Value), Blk w g t cs → ∃ cs' : Array Value, Blk (w.setCells g o vs) g t cs' ∧ cs'.size = cs.size ∧ cs'.toList.take o = cs.toList.take o
  | [], o, w, cs, h => ⟨cs, h, rfl, rfl⟩
  | v :: r, o, w, cs, h => by
    obtain ⟨cs', h1, h2, h3⟩ := Blk.setCells r (o + 1) (w.setCell ⟨g, o, none⟩ v) _ (h.set_ o v)
    refine ⟨cs', h1, by rw [h2, Array.size_setIfInBounds], ?_⟩
    have h4 : (cs'.toList.take (o + 1)).take o = ((cs.setIfInBounds o v).toList.take (o + 1)).take o := by rw [h3]
    rw [List.take_take, List.take_take, Nat.min_eq_left (Nat.le_succ o), Array.toList_setIfInBounds, List.take_set_of_le (Nat.le_refl o)] at h4
    exact h4
theorem setCells_other : ∀ (vs : List Value) (o g k : Nat) (w : World), k ≠ g → (w.setCells g o vs).heap[k]? = w.heap[k]?
  | [], _, _, _, _, _ => rfl
  | v :: r, o, g, k, w, h => by
    show ((w.setCell ⟨g, o, none⟩ v).setCells g (o + 1) r).heap[k]? = _
    rw [setCells_other r (o + 1) g k _ h]
    exact Below.heap_setCell w _ v k h
theorem setCells_size : ∀ (vs : List Value) (o g : Nat) (w : World), (w.setCells g o vs).heap.size = w.heap.size
  | [], _, _, _ => rfl
  | v :: r, o, g, w => by
    show ((w.setCell ⟨g, o, none⟩ v).setCells g (o + 1) r).heap.size = _
    rw [setCells_size r (o + 1) g _]; simp [World.setCell]
theorem setCells_rest : ∀ (vs : List Value) (o g : Nat) (w : World), (w.setCells g o vs).os = w.os ∧ (w.setCells g o vs).output = w.output ∧ (w.setCells g o vs).tape = w.tape
  | [], _, _, _ => ⟨rfl, rfl, rfl⟩
  | v :: r, o, g, w => setCells_rest r (o + 1) g (w.setCell ⟨g, o, none⟩ v)
theorem clearB_run (W : World) (g o cap : Nat) (cur : Array Value) (h : Blk W g 38 cur) (ho : o * 5 + 5 ≤ cur.size) (ty : TypeId) :
    (Builtin.clear_ #[22] ty #[.slice (some ⟨g, o * 5, none⟩) 1 cap]).run Tryz.prog W = .ok (.tuple #[]) (W.setCells g (o * 5) (Builtin.zeroCells bZ.cells 1).toList) := by
  have hv : ∀ w, (zeroValue 38).run Tryz.prog w = .ok bZ w := fun w => by
    obtain ⟨i0, hi0, hz0, hz1, hz2⟩ := info_parts block_info
    simp [zeroValue, typeInfo, hi0, hz0]
  have hl : (Builtin.zeroCells bZ.cells 1).toList.length = 5 := by
    simp [Builtin.zeroCells, bZ, Value.cells]
  have hst := run_storeCells_cells (P := Tryz.prog) g (o * 5) (Builtin.zeroCells bZ.cells 1).toList 0 W
    (fun j hj => by
      rw [hl] at hj
      rw [h.cell, Array.getElem?_eq_getElem (by omega)]; rfl)
    (fun j _ => h.frozen _)
    (fun v hv => by
      simp only [Builtin.zeroCells, Array.toList_map, List.mem_map] at hv
      obtain ⟨q, _, rfl⟩ := hv
      have hq : q % bZ.cells.size = 0 ∨ q % bZ.cells.size = 1 ∨ q % bZ.cells.size = 2 ∨ q % bZ.cells.size = 3 ∨ q % bZ.cells.size = 4 := by
        show q % 5 = 0 ∨ q % 5 = 1 ∨ q % 5 = 2 ∨ q % 5 = 3 ∨ q % 5 = 4
        omega
      rcases hq with e | e | e | e | e <;> rw [e] <;> rfl)
  simp only [Nat.add_zero] at hst
  simp [Builtin.clear_, run_underlying Tryz.underlying22, hv, hst]

/-- an append whose run is known, as one step of a region that draws -/
theorem step_append_runI {P : Program} {ops : Array Oper} {o : Oper} {a : Act} {w : World} {K : Act → World → Prop} {Q : Exit → Act → World → Prop} {E : Prop}
    (hg : o.guard = none) (s x : Operand) (t tn : TypeId) (hop : o.op = Op.call { callee := Callee.builtin Builtin.append, args := #[s, x], argTypes := #[t, tn] })
    (v u : Value) (hs : a.eval s = v) (hx : a.eval x = u) {v' : Value} {w' : World} (hr : (Builtin.append_ #[t, tn] o.type #[v, u]).run P w = .ok v' w') (hK : K (a.put o.dst v') w') :
    if Region.wanted o (yielded ops a.tmps) = true then Oper.wp P o a w K Q else E := by
  have hw : Region.wanted o (yielded ops a.tmps) = true := by simp [Region.wanted, hg]
  rw [if_pos hw]
  exact Lib.wp_append_run w s x t tn hop v u hs hx _ _ hr hK
/-- what a delete leaves -/
def DelR (base : Nat) (n : Nat) (xs : List Value) (i : Nat) (w : World) (v : Value) (e : Ending) (w' : World) : Prop :=
  ∃ v', e = .returned v' ∧ w'.ownsRow base 38 5 v' (n - 1) (xs.take (i * 5) ++ xs.drop ((i + 1) * 5)) ∧ w.grownBy w' v.ownBlock ∧ v'.ownBlock = v.ownBlock

set_option maxRecDepth 100000 in
set_option maxHeartbeats 4000000 in
/-- slices.Delete of one element at blocks -/
theorem deleteB_own (v : Value) (n : Nat) (xs : List Value) (base i : Nat) (w : World) (h : w.ownsRow base 38 5 v n xs) (hi : i < n) (hn : n ≤ 100000) (h1x : ∀ u ∈ xs, u.oneCell' = true) :
    Calls Tryz.prog 131 #[v, .int .i64 i, .int .i64 ((i : Int) + 1)] w (DelR base n xs i w v) := by
  obtain ⟨i0, hi0, hq0, hq1, hq2⟩ := info_parts block_info
  have hxl : xs.length = n * 5 := h.1
  rcases h.2 with ⟨_, h0⟩ | ⟨g, cap, cur, rfl, hg, hh, hnc, hcm, hcs, hct⟩
  · omega
  have hcell : ∀ j u, xs[j]? = some u → w.cell? ⟨g, j, none⟩ = some u := fun j u hu => by
    have hj := (List.getElem?_eq_some_iff.1 hu).1
    rw [Blk.cell (t := 38) (cs := cur) hh, ← hu, ← hct, List.getElem?_take, if_pos (by omega)]; simp
  have hcl : cur.toList.length = cap * 5 := by rw [Array.length_toList]; exact hcs
  have hdl : (xs.drop ((i + 1) * 5)).length = (n - (i + 1)) * 5 := by rw [List.length_drop, hxl]; omega
  have htl : (xs.take (i * 5)).length = i * 5 := by rw [List.length_take, hxl]; omega
  have hct2 : cur.toList.take (i * 5) = xs.take (i * 5) := by rw [← hct, List.take_take]; congr 1; omega
  have hgw : g < w.heap.size := Blk.lt (t := 38) (cs := cur) hh
  obtain ⟨R1, hR1⟩ : ∃ R1, R1 = cur.toList.take (i * 5) ++ xs.drop ((i + 1) * 5) ++ cur.toList.drop (i * 5 + (n - (i + 1)) * 5) := ⟨_, rfl⟩
  have hR1l : R1.length = cap * 5 := by
    rw [hR1, List.length_append, List.length_append, List.length_take, hdl, List.length_drop, hcl]; omega
  have hh1 : Blk (w.drew.setRow g R1.toArray) g 38 R1.toArray := setRow_heap w.drew g _ _ _ _ hh
  obtain ⟨Z, hZ⟩ : ∃ Z, Z = (Builtin.zeroCells bZ.cells 1).toList := ⟨_, rfl⟩
  have hcr : ∀ ty cc, (Builtin.clear_ #[22] ty #[.slice (some ⟨g, (n - 1) * 5, none⟩) 1 cc]).run Tryz.prog (w.drew.setRow g R1.toArray) = .ok (.tuple #[]) ((w.drew.setRow g R1.toArray).setCells g ((n - 1) * 5) Z) := fun ty cc => by
    rw [hZ]; exact clearB_run _ g (n - 1) cc _ hh1 (by rw [List.size_toArray, hR1l]; omega) ty
  have hap : ∀ ty c0 (ad : Addr), (0 < n - (i + 1) → ad = ⟨g, (i + 1) * 5, none⟩) → (Builtin.append_ #[22, 22] ty #[.slice (some ⟨g, 0, none⟩) i cap, .slice (some ad) (n - (i + 1)) c0]).run Tryz.prog w.drew = .ok (.slice (some ⟨g, 0, none⟩) (n - 1) cap) (w.drew.setRow g R1.toArray) := fun ty c0 ad had => by
    have := run_append_room (P := Tryz.prog) (ty := ty) w.drew 22 38 i0 Tryz.underlying22 hi0 g i cap cur hh ad (n - (i + 1)) c0 (xs.drop ((i + 1) * 5)) (by rw [hdl, hq1])
      (fun j v hj => by
        have hjl := (List.getElem?_eq_some_iff.1 hj).1
        rw [hdl] at hjl
        rw [had (by omega), Addr.add_lit]; exact hcell _ _ (by rwa [List.getElem?_drop] at hj)) (fun v hv => h1x v (List.mem_of_mem_drop hv)) (by omega) (by rw [hdl, hq1, hcs]; omega)
    rw [hq1, hdl, ← hR1, show i + (n - (i + 1)) = n - 1 by omega] at this
    exact this
  have hfin : DelR base n xs i w (.slice (some ⟨g, 0, none⟩) n cap) (.returned (.slice (some ⟨g, 0, none⟩) (n - 1) cap)) ((w.drew.setRow g R1.toArray).setCells g ((n - 1) * 5) Z) := by
    obtain ⟨cs', k1, k2, k3⟩ := Blk.setCells Z ((n - 1) * 5) _ _ hh1
    have hlen : (xs.take (i * 5) ++ xs.drop ((i + 1) * 5)).length = (n - 1) * 5 := by
      rw [List.length_append, htl, hdl]; omega
    obtain ⟨r1, r2, r3⟩ := setCells_rest Z ((n - 1) * 5) g (w.drew.setRow g R1.toArray)
    refine ⟨_, rfl, ⟨hlen, .inr ⟨g, cap, cs', rfl, hg, k1, by omega, hcm, by rw [k2, List.size_toArray, hR1l], ?_⟩⟩, ⟨r1, r3, r2, ?_, fun k hk hne => ?_⟩, rfl⟩
    · rw [k3, List.toList_toArray, hR1, hct2, ← hlen, List.take_append_of_le_length (Nat.le_refl _), List.take_length]
    · rw [setCells_size, setRow_size]; exact Nat.le_refl _
    · have hkg : k ≠ g := fun e => hne (by rw [e]; rfl)
      rw [setCells_other _ _ _ _ _ hkg, setRow_other _ _ _ _ hkg]; rfl
  have HF := Lib.hid hfin
  have hc63 : cap ≤ 9223372036854775807 := by unfold maxLen at hcm; omega
  have z1 : ¬ ((i : Int) = (i : Int) + 1) := by omega
  have z2 : (i : Int) ≤ (n : Int) := by omega
  have z3 : (i : Int) + 1 ≤ (n : Int) := by omega
  have w1 : IntKind.i64.wrap ((i : Int) + 1) = (i : Int) + 1 := IntWalk.i64_in _ (by omega)
  have w2 : (0 : Int) ≤ (i : Int) + 1 := by omega
  have w3 : ((i : Int) + 1).toNat = i + 1 := by omega
  have w4 : (i : Int) ≤ (cap : Int) := by omega
  have w5 : n - (n - 1) = 1 := by omega
  have mixed : Tryz.prog.follows Departure.mixedOrders = true := by kernel_rfl
  have z9 : ¬ (cap = n - 1) := by omega
  clear hfin hZ hR1 hR1l hct hct2 hcl hdl htl hxl hcell hh1 h1x h hh hcs
  have hcb : ∀ c : Nat, Builtin.clear_ #[22] c = Builtin.clear_ #[22] c := fun _ => rfl
  clear hcb
  by_cases hc : cap = i + 1
  · have HAP : ∀ ty c0, (Builtin.append_ #[22, 22] ty #[.slice (some ⟨g, 0, none⟩) i cap, .slice (some ⟨g, 0, none⟩) (n - (i + 1)) c0]).run Tryz.prog w.drew = .ok (.slice (some ⟨g, 0, none⟩) (n - 1) cap) (w.drew.setRow g R1.toArray) := fun ty c0 => hap ty c0 _ (by omega)
    clear hap
    subst hc
    have e0 : n - (i + 1) = 0 := by omega
    simp only [e0] at HAP
    clear e0
    have z11 : (i : Int) ≤ (i : Int) + 1 := by omega
    go_enter Tryz.func131, Tryz.ntmps131
    go_upto_region 5 with fail
    go_region_law_o (refine step_append_runI rfl _ _ 22 22 rfl (.slice (some ⟨g, 0, none⟩) i (i + 1)) (.slice (some ⟨g, 0, none⟩) 0 0) (by simp [Act.eval, Act.put]) (by simp [Act.eval, Act.put]) (HAP _ _) ?_)
    go_wp2_with fail
    go_ret
    exact HF.out
  · have HAP : ∀ ty c0, (Builtin.append_ #[22, 22] ty #[.slice (some ⟨g, 0, none⟩) i cap, .slice (some ⟨g, (i + 1) * 5, none⟩) (n - (i + 1)) c0]).run Tryz.prog w.drew = .ok (.slice (some ⟨g, 0, none⟩) (n - 1) cap) (w.drew.setRow g R1.toArray) := fun ty c0 => hap ty c0 _ (fun _ => rfl)
    clear hap
    have z11 : (i : Int) + 1 ≤ (n : Int) := by omega
    go_enter Tryz.func131, Tryz.ntmps131
    go_upto_region 5 with fail
    go_region_law_o (refine step_append_runI rfl _ _ 22 22 rfl (.slice (some ⟨g, 0, none⟩) i cap) (.slice (some ⟨g, (i + 1) * 5, none⟩) (n - (i + 1)) (cap - (i + 1))) (by simp [Act.eval, Act.put]) (by simp [Act.eval, Act.put]) (HAP _ _) ?_)
    go_wp2_with fail
    go_ret
    exact HF.out
end Go.Proofs.YtmkicfjcgbfaaaaGreat
namespace Go.Proofs.YtmkicfjcgbfaaaaGreat
open Go.RowKit

/-- the place for an id: all ahead of it are less, none from there on is -/
def LowB (l : List Bl) (id : Int) (i : Nat) : Prop := i ≤ l.length ∧ (∀ (k : Nat) (x : Bl), k < i → l[k]? = some x → x.id < id) ∧ ∀ (k : Nat) (x : Bl), i ≤ k → l[k]? = some x → id ≤ x.id
set_option maxHeartbeats 400000 in
theorem done1_any (i p t : Int) (s : ByteArray) (Ak Ap : Option Addr) (nk ck np cp : Nat) (w : World) :
    Calls Tryz.prog 127 #[.agg #[.int .i64 i, .int .i64 p, .slice Ak nk ck, .string s, .slice Ap np cp], .int .i64 t] w fun e w' => e = .returned (.int .i64 (cmpI i t)) ∧ Below w.heap.size w w' := by
  unfold cmpI
  go_enter Tryz.func127, Tryz.ntmps127
  go_wp2_with fail
  go_ret
  exact ⟨rfl, (Below.refl _ _).alloc (Nat.le_refl _) _⟩
theorem low_half {l : List Bl} (hr : Rise l) (hi : IdsIn l) {id : Int} (hid : 0 ≤ id ∧ id ≤ 1000000) {q : Nat} {x : Bl} (hx : l[q]? = some x) : (cmpI x.id id < 0 → ∀ (k : Nat) (y : Bl), k < q + 1 → l[k]? = some y → y.id < id) ∧ (¬ cmpI x.id id < 0 → ∀ (k : Nat) (y : Bl), q ≤ k → l[k]? = some y → id ≤ y.id) := by
  have ha := hi x (List.mem_of_getElem? hx)
  rw [cmpI_near ha hid]
  refine ⟨fun h k y hk hy => ?_, fun h k y hk hy => ?_⟩
  · rcases Nat.lt_or_ge k q with g | g
    · have := hr _ _ _ _ g hy hx; omega
    · obtain rfl : k = q := by omega
      rw [hx] at hy; obtain rfl := Option.some.inj hy; omega
  · rcases Nat.lt_or_ge q k with g | g
    · have := hr _ _ _ _ g hx hy; omega
    · obtain rfl : k = q := by omega
      rw [hx] at hy; obtain rfl := Option.some.inj hy; omega
/-- what the search returns -/
def LowR (l : List Bl) (id : Int) (e : Ending) : Prop := ∃ (i : Nat) (b : Bool), e = .returned (.tuple #[.int .i64 i, .bool b]) ∧ LowB l id i
set_option maxHeartbeats 1000000 in
theorem binD_any (l : List Bl) (A : Option Addr) (n c : Nat) (id : Int) (w : World) (B : Nat) (hB : B ≤ w.heap.size) (h : RB w B (.slice A n c) l) (hr : Rise l) (hi : IdsIn l) (hid : 0 ≤ id ∧ id ≤ 1000000) :
    Calls Tryz.prog 126 #[.slice A n c, .int .i64 id, .func (.func 127) #[] #[]] w fun e w' => LowR l id e ∧ Below w.heap.size w w' := by
  have HN := Lib.hid h.len
  have H := Lib.hid h
  clear h
  go_enter Tryz.func126, Tryz.ntmps126
  go_wp2_with fail
  go_loopg [9, 10] n (fun gg s9 s10 wr => ∃ i j : Nat, i ≤ j ∧ j ≤ n ∧ j - i ≤ gg ∧ s9 = .int .i64 (i : Int) ∧ s10 = .int .i64 (j : Int) ∧ Hid ((∀ (k : Nat) (x : Bl), k < i → l[k]? = some x → x.id < id) ∧ ∀ (k : Nat) (x : Bl), j ≤ k → l[k]? = some x → id ≤ x.id) ∧ Hid (Below w.heap.size w wr))
  case atStart => exact ⟨0, n, by omega, by omega, by omega, rfl, rfl, ⟨fun k x hk _ => absurd hk (by omega), fun k x hk hx => absurd (List.getElem?_eq_some_iff.1 hx).1 (by have := HN.out.1; omega)⟩, Below.refl _ _⟩
  case round =>
    obtain ⟨i, j, hij, hjn, hg, rfl, rfl, hno, hbel⟩ := hrel
    have hbg : n * 80 ≤ 140737488351232 := HN.out.2.2
    have HL : Hid (n = l.length) := HN.out.1
    by_cases hk : i < j
    · have j1 : (i : Int) < (j : Int) := by omega
      have j2 : (0 : Int) ≤ (i : Int) := by omega
      obtain ⟨q, hh, h1, h2⟩ : ∃ q : Nat, ((i : Int) + (j : Int)) / 2 = (q : Int) ∧ i ≤ q ∧ q < j := ⟨(i + j) / 2, by omega, by omega, by omega⟩
      obtain ⟨x, hx⟩ : ∃ x, l[q]? = some x := ⟨_, List.getElem?_eq_getElem (by have := HL.out; omega)⟩
      obtain ⟨b, off, Ak, nk, ck, Ap, np, cp, rfl, hbb, g0, g1, g2, g3, g4, _, _⟩ := (H.out.below (hbel.out.mono hB)).at_ hx
      have HF := Lib.hid (low_half hr hi hid hx)
      have HI := Lib.hid fun W => done1_any x.id x.parent id x.text Ak Ap nk ck np cp W
      have q0 : (0 : Int) ≤ (q : Int) := by omega
      have q1 : (q : Int) < (n : Int) := by omega
      clear hx
      obtain ⟨d, hd⟩ : ∃ d, d = cmpI x.id id := ⟨_, rfl⟩
      simp only [← hd] at HF HI
      clear hd
      by_cases hz : d < 0
      all_goals
        go_wp2_with fail
        refine (HI.out _).mono ?_
        rintro e w2 ⟨rfl, hb⟩
        have HB2 : Hid (Below w.heap.size w w2) := hbel.out.trans (hb.mono hbel.out.size)
        clear hb
        go_wp2_with fail
      · go_roundg (j - (q + 1))
        case measure => omega
        case rel => exact ⟨q + 1, j, by omega, by omega, by omega, by go_num, rfl, ⟨HF.out.1 hz, hno.out.2⟩, HB2⟩
      · go_roundg (q - i)
        case measure => omega
        case rel => exact ⟨i, q, by omega, by omega, by omega, rfl, rfl, ⟨hno.out.1, HF.out.2 hz⟩, HB2⟩
    · obtain rfl : i = j := by omega
      have HE : Hid (LowB l id i) := ⟨by have := HL.out; omega, hno.out.1, hno.out.2⟩
      clear hno
      by_cases hin : i < n
      · have q0 : (0 : Int) ≤ (i : Int) := by omega
        have q1 : (i : Int) < (n : Int) := by omega
        obtain ⟨x, hx⟩ : ∃ x, l[i]? = some x := ⟨_, List.getElem?_eq_getElem (by have := HL.out; omega)⟩
        obtain ⟨b, off, Ak, nk, ck, Ap, np, cp, rfl, hbb, g0, g1, g2, g3, g4, _, _⟩ := (H.out.below (hbel.out.mono hB)).at_ hx
        have HI := Lib.hid fun W => done1_any x.id x.parent id x.text Ak Ap nk ck np cp W
        obtain ⟨z, hz⟩ : ∃ z, z = (cmpI x.id id == 0) := ⟨_, rfl⟩
        obtain ⟨d, hd⟩ : ∃ d, d = cmpI x.id id := ⟨_, rfl⟩
        simp only [← hd] at hz HI
        have hz' := hz.symm
        clear hd hx hz
        go_wp2_with fail
        refine (HI.out _).mono ?_
        rintro e w2 ⟨rfl, hb⟩
        have HB2 : Hid (Below w.heap.size w w2) := hbel.out.trans (hb.mono hbel.out.size)
        clear hb
        go_wp2_with fail
        go_ret2
        exact ⟨⟨i, z, rfl, HE.out⟩, HB2.out⟩
      · have q1 : ¬ (i : Int) < (n : Int) := by omega
        go_wp2_with fail
        go_ret2
        exact ⟨⟨i, _, rfl, HE.out⟩, hbel.out⟩
end Go.Proofs.YtmkicfjcgbfaaaaGreat
namespace Go.Proofs.YtmkicfjcgbfaaaaGreat

theorem upd_none {l : List Bl} {p : Int} {h : Bl → Bl} (hn : ∀ x ∈ l, x.id ≠ p) : upd l p h = l := by
  unfold upd
  conv => rhs; rw [← List.map_id l]
  exact List.map_congr_left fun x hx => by rw [if_neg (hn x hx)]; rfl
/-- a block turned, by its place -/
theorem upd_set {l : List Bl} (hr : Rise l) {q : Nat} {y : Bl} (hy : l[q]? = some y) {p : Int} (hp : y.id = p) (h : Bl → Bl) : upd l p h = l.set q (h y) := by
  refine List.ext_getElem? fun i => ?_
  unfold upd
  rw [List.getElem?_map, List.getElem?_set]
  obtain ⟨hq, _⟩ := List.getElem?_eq_some_iff.1 hy
  by_cases e : q = i
  · subst e
    rw [if_pos rfl, if_pos hq, hy]
    show some (if y.id = p then h y else y) = _
    rw [if_pos hp]
  · rw [if_neg e]
    cases hx : l[i]? with
    | none => rfl
    | some x =>
      show some (if x.id = p then h x else x) = _
      rw [if_neg]
      intro hxp
      rcases Nat.lt_or_ge i q with g | g
      · have := hr i q x y g hx hy; omega
      · have := hr q i y x (by omega) hy hx; omega
theorem upd_insB {x : Bl} {p : Int} {h : Bl → Bl} (hp : x.id ≠ p) (hh : ∀ b, (h b).id = b.id) : ∀ l : List Bl, upd (insB x l) p h = insB x (upd l p h)
  | [] => by simp [upd, insB, hp]
  | y :: l => by
    have hid : (if y.id = p then h y else y).id = y.id := by split <;> first | exact hh y | rfl
    have ih := upd_insB hp hh l
    unfold upd at ih ⊢
    rw [insB]
    by_cases e : y.id < x.id
    · rw [if_pos e, List.map_cons, List.map_cons, insB, hid, if_pos e, ih]
    · rw [if_neg e, List.map_cons, if_neg hp, List.map_cons, insB, hid, if_neg e]
theorem LowB.tail {y : Bl} {l : List Bl} {id : Int} {i : Nat} (h : LowB (y :: l) id (i + 1)) : LowB l id i :=
  ⟨by have := h.1; simpa using this, fun k x hk hx => h.2.1 (k + 1) x (by omega) (by simpa using hx), fun k x hk hx => h.2.2 (k + 1) x (by omega) (by simpa using hx)⟩
theorem insB_low {x : Bl} : ∀ {l : List Bl} {i : Nat}, LowB l x.id i → insB x l = l.take i ++ x :: l.drop i
  | [], i, h => by
    obtain rfl : i = 0 := by have := h.1; simpa using this
    rfl
  | y :: l, 0, h => by
    have := h.2.2 0 y (Nat.le_refl _) rfl
    rw [insB, if_neg (by omega)]; rfl
  | y :: l, i + 1, h => by
    have := h.2.1 0 y (by omega) rfl
    rw [insB, if_pos this, insB_low h.tail]; rfl
theorem LowB.place {l : List Bl} {id : Int} {i p : Nat} {x : Bl} (h : LowB l id i) (hr : Rise l) (hx : l[p]? = some x) (hi : x.id = id) : i = p := by
  rcases Nat.lt_trichotomy i p with g | g | g
  · obtain ⟨hp, _⟩ := List.getElem?_eq_some_iff.1 hx
    have hi' : i < l.length := by omega
    have h1 := h.2.2 i _ (Nat.le_refl _) (List.getElem?_eq_getElem hi')
    have h2 := hr i p _ x g (List.getElem?_eq_getElem hi') hx
    omega
  · exact g
  · have := h.2.1 p x g hx; omega
/-- a block taken out, by its place -/
theorem filter_out {l : List Bl} (hr : Rise l) {p : Nat} {x : Bl} (hx : l[p]? = some x) : (l.filter fun b => b.id != x.id) = l.take p ++ l.drop (p + 1) := by
  obtain ⟨hp, e⟩ := List.getElem?_eq_some_iff.1 hx
  conv => lhs; rw [← List.take_append_drop p l, List.drop_eq_getElem_cons hp, e]
  rw [List.filter_append, List.filter_cons, if_neg (by simp), List.filter_eq_self.2, List.filter_eq_self.2]
  · intro b hb
    obtain ⟨j, hj⟩ := List.mem_iff_getElem?.1 hb
    rw [List.getElem?_drop] at hj
    have := hr p _ x b (by omega) hx hj
    rw [bne_iff_ne]; omega
  · intro b hb
    obtain ⟨j, hj⟩ := List.mem_iff_getElem?.1 hb
    rw [List.getElem?_take] at hj
    split at hj
    · have := hr j p b x (by omega) hj hx
      rw [bne_iff_ne]; omega
    · cases hj
theorem Rise.upd {l : List Bl} (hr : Rise l) {p : Int} {h : Bl → Bl} (hh : ∀ b, (h b).id = b.id) : Rise (upd l p h) := rise_iff.2 (upd_sorted hh (rise_iff.1 hr))
theorem IdsIn.upd {l : List Bl} (hi : IdsIn l) {p : Int} {h : Bl → Bl} (hh : ∀ b, (h b).id = b.id) : IdsIn (upd l p h) := fun x hx => by
  obtain ⟨b, hb, e⟩ := upd_mem.1 hx
  rw [e]
  split
  · rw [hh]; exact hi b hb
  · exact hi b hb
theorem upd_at {l : List Bl} {p : Int} {h : Bl → Bl} {k : Nat} {x : Bl} (hx : l[k]? = some x) : (upd l p h)[k]? = some (if x.id = p then h x else x) := by
  unfold upd; rw [List.getElem?_map, hx]; rfl
/-- what a move makes, step by step -/
theorem movL_eq {l : List Bl} {id p par : Int} {i : Nat} (hk : ∀ b ∈ l, b.id ≠ par → id ∉ b.kids) : movL l id p i = upd (upd (upd l par fun b => b.withKids (lessK b.kids id)) id fun b => b.withPar p) p fun b => b.withKids (plusK b.kids i id) := by
  unfold movL upd
  rw [List.map_map, List.map_map]
  refine List.map_congr_left fun b hb => ?_
  have hless : b.id ≠ par → lessK b.kids id = b.kids := fun e => less_same (hk b hb e)
  obtain ⟨bi, bp, bk, bt, bs⟩ := b
  simp only [Function.comp, movB, Bl.withKids, Bl.withPar] at hless ⊢
  by_cases h1 : bi = par
  · by_cases h2 : bi = id
    · by_cases h3 : bi = p
      · simp only [if_pos h1, if_pos h2, if_pos h3]
      · simp only [if_pos h1, if_pos h2, if_neg h3]
    · by_cases h3 : bi = p
      · simp only [if_pos h1, if_neg h2, if_pos h3]
      · simp only [if_pos h1, if_neg h2, if_neg h3]
  · have := hless h1
    by_cases h2 : bi = id
    · by_cases h3 : bi = p
      · simp only [if_neg h1, if_pos h2, if_pos h3, this]
      · simp only [if_neg h1, if_pos h2, if_neg h3, this]
    · by_cases h3 : bi = p
      · simp only [if_neg h1, if_neg h2, if_pos h3, this]
      · simp only [if_neg h1, if_neg h2, if_neg h3, this]

/-- what an operation without error gives, kind by kind -/
inductive OpF (l : List Bl) (o : Opn) : Prop
  | ins (h : o.kind = 1) (hn : ∀ x ∈ l, x.id ≠ o.id) (hid : 1 ≤ o.id ∧ o.id ≤ 1000000) (q : Nat) (y : Bl) (hy : l[q]? = some y) (hyi : y.id = o.parent) (ha : 0 ≤ o.at_) (hk : o.at_.toNat ≤ y.kids.length) (h5 : y.kids.length < 500) (hl : l.length < 2000)
  | rem (h : o.kind = 2) (p : Nat) (x : Bl) (hx : l[p]? = some x) (hxi : x.id = o.id) (h0 : x.id ≠ 0) (hk : x.kids = []) (q : Nat) (y : Bl) (hy : l[q]? = some y) (hyi : y.id = x.parent) (hin : x.id ∈ y.kids)
  | mov (h : o.kind = 3) (p : Nat) (x : Bl) (hx : l[p]? = some x) (hxi : x.id = o.id) (h0 : x.id ≠ 0) (q : Nat) (y : Bl) (hy : l[q]? = some y) (hyi : y.id = x.parent) (hin : x.id ∈ y.kids) (r : Nat) (z : Bl) (hz : l[r]? = some z) (hzi : z.id = o.parent) (ha : 0 ≤ o.at_) (hk : o.at_.toNat ≤ (lessK z.kids o.id).length)
  | edit (h : o.kind = 4) (p : Nat) (x : Bl) (hx : l[p]? = some x) (hxi : x.id = o.id) (he : edErr x.text o.text o.from_ o.to_ = 0)
  | set (h : o.kind = 5) (p : Nat) (x : Bl) (hx : l[p]? = some x) (hxi : x.id = o.id) (hn : nmErr o.name = 0) (hv : vErr o.val = 0) (hp : cpErr x.props = 0) (hl : (setPr x.props o.name o.val).length ≤ 20)
theorem Good.par_at {l : List Bl} {f : Int → Option Int} (G : Good l f) {x : Bl} (hx : x ∈ l) (h0 : x.id ≠ 0) : ∃ (q : Nat) (y : Bl), l[q]? = some y ∧ y.id = x.parent ∧ x.id ∈ y.kids := by
  obtain ⟨b, hb, h1, h2, _⟩ := G.tree.par x hx h0
  obtain ⟨q, hq⟩ := List.mem_iff_getElem?.1 hb
  exact ⟨q, b, hq, h1, h2⟩
theorem Good.op_facts {l : List Bl} {f : Int → Option Int} (G : Good l f) {o : Opn} (h : opErr l f o = 0) : OpF l o := by
  unfold opErr at h
  by_cases h1 : outI o.kind 1 5 = true
  · rw [if_pos h1] at h; omega
  rw [if_neg h1] at h
  by_cases h2 : usedB o = false
  · rw [if_pos h2] at h; omega
  rw [if_neg h2] at h
  by_cases k1 : o.kind = 1
  · rw [if_pos k1] at h
    unfold insErr at h
    by_cases q1 : o.id < 1 ∨ 1000000 < o.id
    · rw [if_pos q1] at h; omega
    rw [if_neg q1] at h
    by_cases q2 : 0 ≤ posOf l o.id
    · rw [if_pos q2] at h; omega
    rw [if_neg q2] at h
    by_cases q3 : posOf l o.parent < 0
    · rw [if_pos q3] at h; omega
    rw [if_neg q3] at h
    by_cases q4 : o.at_ < 0 ∨ ((blkAt l o.parent).kids.length : Int) < o.at_
    · rw [if_pos q4] at h; omega
    rw [if_neg q4] at h
    by_cases q5 : txErr o.text = 0
    case neg => rw [if_pos q5] at h; exact absurd h q5
    rw [if_neg (fun e => e q5)] at h
    by_cases q6 : 2000 ≤ l.length ∨ 500 ≤ (blkAt l o.parent).kids.length
    · rw [if_pos q6] at h; omega
    rcases posOf_spec l o.id with ⟨_, hn⟩ | ⟨i, b, e, _⟩
    case inr => omega
    rcases posOf_spec l o.parent with ⟨e, _⟩ | ⟨i, b, e, hb, hbi, _⟩
    · omega
    rw [blkAt_of e hb] at q4 q6
    exact .ins k1 hn (by omega) i b hb hbi (by omega) (by omega) (by omega) (by omega)
  rw [if_neg k1] at h
  by_cases k3 : o.kind = 3
  · rw [if_pos k3] at h
    unfold movErr at h
    by_cases q1 : o.id = 0 ∨ posOf l o.id < 0 ∨ posOf l o.parent < 0
    · rw [if_pos q1] at h; omega
    rw [if_neg q1] at h
    by_cases q2 : o.id ∈ pth l (dF f o.parent).toNat o.parent
    · rw [if_pos q2] at h; omega
    rw [if_neg q2] at h
    by_cases q3 : o.at_ < 0 ∨ ((lessK (blkAt l o.parent).kids o.id).length : Int) < o.at_
    · rw [if_pos q3] at h; omega
    rcases posOf_spec l o.id with ⟨e, _⟩ | ⟨i, x, _, hx, hxi, _⟩
    · omega
    rcases posOf_spec l o.parent with ⟨e, _⟩ | ⟨r, z, e, hz, hzi, _⟩
    · omega
    rw [blkAt_of e hz] at q3
    have hx0 : x.id ≠ 0 := by omega
    obtain ⟨q, y, hy, hyi, hin⟩ := G.par_at (List.mem_of_getElem? hx) hx0
    exact .mov k3 i x hx hxi hx0 q y hy hyi hin r z hz hzi (by omega) (by omega)
  rw [if_neg k3] at h
  by_cases q1 : posOf l o.id < 1
  · rw [if_pos q1] at h; omega
  rw [if_neg q1] at h
  rcases posOf_spec l o.id with ⟨e, _⟩ | ⟨i, x, e, hx, hxi, hxf⟩
  · omega
  have hxm := List.mem_of_getElem? hx
  rw [blkAt_of e hx] at h
  have hx0 : x.id ≠ 0 := fun e0 => by
    obtain ⟨r, r', hl, a1, _⟩ := G.tree.root
    exact hxf 0 r (by omega) (by rw [hl]; rfl) (by rw [a1, ← hxi, e0])
  by_cases k2 : o.kind = 2
  · rw [if_pos k2] at h
    by_cases q2 : 0 < x.kids.length
    · rw [if_pos q2] at h; omega
    obtain ⟨q, y, hy, hyi, hin⟩ := G.par_at hxm hx0
    exact .rem k2 i x hx hxi hx0 (List.eq_nil_of_length_eq_zero (by omega)) q y hy hyi hin
  rw [if_neg k2] at h
  by_cases k4 : o.kind = 4
  · rw [if_pos k4] at h
    exact .edit k4 i x hx hxi h
  rw [if_neg k4] at h
  have k5 : o.kind = 5 := by
    unfold outI at h1
    simp at h1; omega
  have hcp := (G.tree.loc x hxm).2.2
  unfold setErr at h
  by_cases q2 : nmErr o.name = 0
  case neg => rw [if_pos q2] at h; exact absurd h q2
  rw [if_neg (fun e => e q2)] at h
  by_cases q3 : vErr o.val = 0
  case neg => rw [if_pos q3] at h; exact absurd h q3
  rw [if_neg (fun e => e q3)] at h
  by_cases q4 : o.val.kind ≠ 0 ∧ nmOf x.props o.name < 0 ∧ 20 ≤ x.props.length
  · rw [if_pos q4] at h; omega
  exact .set k5 i x hx hxi q2 q3 hcp (cp_ok (setPr_ok hcp q2 q3 q4)).1
end Go.Proofs.YtmkicfjcgbfaaaaGreat
namespace Go.Proofs.YtmkicfjcgbfaaaaGreat
open Go.RowKit

theorem blk_one (x : BK) (h1 : ∃ A n c, x.2.1 = .slice A n c) (h2 : ∃ A n c, x.2.2 = .slice A n c) : ∀ u ∈ blV x, u.oneCell' = true := by
  obtain ⟨A, n, c, e1⟩ := h1
  obtain ⟨A', n', c', e2⟩ := h2
  intro u hu
  unfold blV at hu
  rw [e1, e2] at hu
  simp at hu
  rcases hu with rfl | rfl | rfl | rfl | rfl <;> rfl
theorem NB.slices {w : World} {S : Nat → Prop} {x : BK} (h : NB w S x) : (∃ A n c, x.2.1 = .slice A n c) ∧ ∃ A n c, x.2.2 = .slice A n c := by
  obtain ⟨⟨A, n, c, e, _⟩, ⟨A', n', c', M, _, e', _⟩⟩ := h
  exact ⟨⟨A, n, c, e⟩, ⟨A', n', c', e'⟩⟩
theorem RowB.one {w : World} {g cap : Nat} {M : List BK} (h : RowB w g cap M) : ∀ u ∈ M.flatMap blV, u.oneCell' = true := by
  intro u hu
  obtain ⟨x, hx, hu⟩ := List.mem_flatMap.1 hu
  obtain ⟨h1, h2⟩ := (h.nest x hx).slices
  exact blk_one x h1 h2 u hu
/-- a new block -/
def newB (id p : Int) (s : ByteArray) : BK := (⟨id, p, [], s, []⟩, .slice none 0 0, .slice none 0 0)
theorem newB_nest (w : World) (S : Nat → Prop) (id p : Int) (s : ByteArray) : NB w S (newB id p s) :=
  ⟨⟨none, 0, 0, rfl, rfl, ⟨Nat.le_refl _, by omega⟩, ⟨rfl, fun h => absurd h (by omega)⟩, fun x hx => by cases hx⟩, ⟨none, 0, 0, [], rfl, rfl, rfl, ⟨Nat.le_refl _, by omega⟩, ⟨rfl, fun h => absurd h (by omega)⟩, fun x hx => by cases hx⟩⟩
theorem fmB_take (M : List BK) (i : Nat) : (M.flatMap blV).take (i * 5) = (M.take i).flatMap blV := by
  conv => lhs; rw [← List.take_append_drop i M, List.flatMap_append]
  rcases Nat.lt_or_ge i M.length with h | h
  · rw [List.take_append_of_le_length (by rw [fmB_len, List.length_take]; omega), List.take_of_length_le (by rw [fmB_len, List.length_take]; omega)]
  · rw [List.drop_eq_nil_of_le h, List.flatMap_nil, List.append_nil, List.take_of_length_le (by rw [fmB_len, List.length_take]; omega)]
theorem fmB_drop (M : List BK) (i : Nat) : (M.flatMap blV).drop (i * 5) = (M.drop i).flatMap blV := by
  conv => lhs; rw [← List.take_append_drop i M, List.flatMap_append]
  rcases Nat.lt_or_ge i M.length with h | h
  · have : ((M.take i).flatMap blV).length = i * 5 := by rw [fmB_len, List.length_take]; omega
    rw [← this, List.drop_left]
  · rw [List.drop_eq_nil_of_le h, List.flatMap_nil, List.append_nil, List.drop_eq_nil_of_le]
    rw [fmB_len, List.length_take]; omega
/-- what an insert leaves -/
def InsBR (S : Nat → Prop) (g : Nat) (M' : List BK) (w : World) (e : Ending) (w' : World) : Prop := ∃ g' cap', e = .returned (.slice (some ⟨g', 0, none⟩) M'.length cap') ∧ RowS S w' g' cap' M' ∧ w.grownBy w' (some g) ∧ (g' = g ∨ w.heap.size ≤ g')
theorem insertB_any {S : Nat → Prop} (w : World) (g cap : Nat) (M : List BK) (h : RowS S w g cap M) (i : Nat) (hi : i ≤ M.length) (hl : M.length < 100000) (id p : Int) (s : ByteArray) :
    Calls Tryz.prog 128 #[.slice (some ⟨g, 0, none⟩) M.length cap, .int .i64 i, .slice (some ⟨w.heap.size, 0, none⟩) 1 1] (w.alloc (.cells #[.int .i64 id, .int .i64 p, .slice none 0 0, .string s, .slice none 0 0] 38)) (InsBR S g (M.take i ++ newB id p s :: M.drop i) (w.alloc (.cells #[.int .i64 id, .int .i64 p, .slice none 0 0, .string s, .slice none 0 0] 38))) := by
  obtain ⟨wa, hwa⟩ : ∃ wa, wa = w.alloc (.cells #[.int .i64 id, .int .i64 p, .slice none 0 0, .string s, .slice none 0 0] 38) := ⟨_, rfl⟩
  have hk : Blk wa w.heap.size 38 (blV (newB id p s)).toArray := by rw [hwa]; exact Blk.new _ _ _
  have hb : Below w.heap.size w wa := by rw [hwa]; exact (Below.refl _ _).alloc (Nat.le_refl _) _
  rw [← hwa]
  have ha := h.below hb
  have hgl := h.lt
  have hbz := hb.size
  refine (insB_own (.slice (some ⟨g, 0, none⟩) M.length cap) M.length (M.flatMap blV) g i w.heap.size (blV (newB id p s)) wa (ha.own (Nat.le_refl _)) hi (by omega) (blV_len _) hk (fun e => by have : g = w.heap.size := Option.some.inj e; omega) ha.one (blk_one _ ⟨_, _, _, rfl⟩ ⟨_, _, _, rfl⟩) (Nat.le_of_lt ha.lt)).mono ?_
  rintro e w1 ⟨v', rfl, hown, hg, hv⟩
  have hfm : (M.take i ++ newB id p s :: M.drop i).flatMap blV = (M.flatMap blV).take (i * 5) ++ blV (newB id p s) ++ (M.flatMap blV).drop (i * 5) := by
    rw [fmB_take, fmB_drop, List.flatMap_append, List.flatMap_cons, List.append_assoc]
  have hlen : (M.take i ++ newB id p s :: M.drop i).length = M.length + 1 := by
    rw [List.length_append, List.length_cons, List.length_take, List.length_drop]; omega
  rw [← hfm, ← hlen] at hown
  have hg' : wa.grownBy w1 (some g) := hg
  obtain ⟨g', cap', rfl, hgg, hrow⟩ := RowS.of_own (S := S) hown (by omega) (by omega) fun x hx => by
    have hx' : NB wa (fun b => (b < wa.heap.size ∧ b ≠ g) ∧ S b) x := by
      rcases List.mem_append.1 hx with hx | hx
      · exact ha.far x (List.mem_of_mem_take hx)
      · rcases List.mem_cons.1 hx with rfl | hx
        · exact newB_nest _ _ _ _ _
        · exact ha.far x (List.mem_of_mem_drop hx)
    refine NB_ok _ _ _ _ x hx' (fun q hq => World.cell?_of_block (hg'.block q.block hq.1.1 fun e => hq.1.2 (Option.some.inj e))) fun b hb' => ⟨⟨Nat.lt_of_lt_of_le hb'.1.1 hg'.size, ?_⟩, hb'.2⟩
    rcases hv with e | e <;> rw [e]
    · exact fun e => hb'.1.2 (Option.some.inj e).symm
    · exact fun e => by have := Option.some.inj e; omega
  refine ⟨g', cap', rfl, hrow, hg', ?_⟩
  rcases hv with e | e
  · exact .inl (Option.some.inj e)
  · exact .inr (Nat.le_of_eq (Option.some.inj e).symm)
/-- what a delete leaves -/
def DelBR (S : Nat → Prop) (g cap : Nat) (M' : List BK) (w : World) (e : Ending) (w' : World) : Prop := ∃ cap', e = .returned (.slice (some ⟨g, 0, none⟩) M'.length cap') ∧ RowS S w' g cap' M' ∧ w.grownBy w' (some g) ∧ cap = cap
theorem deleteB_any {S : Nat → Prop} (w : World) (g cap : Nat) (M : List BK) (h : RowS S w g cap M) (i : Nat) (hi : i < M.length) (h2 : 2 ≤ M.length) :
    Calls Tryz.prog 131 #[.slice (some ⟨g, 0, none⟩) M.length cap, .int .i64 i, .int .i64 ((i : Int) + 1)] w (DelBR S g cap (M.take i ++ M.drop (i + 1)) w) := by
  have hfew := h.few
  refine (deleteB_own (.slice (some ⟨g, 0, none⟩) M.length cap) M.length (M.flatMap blV) g i w (h.own (Nat.le_refl _)) hi hfew h.one).mono ?_
  rintro e w1 ⟨v', rfl, hown, hg, hv⟩
  have hfm : (M.take i ++ M.drop (i + 1)).flatMap blV = (M.flatMap blV).take (i * 5) ++ (M.flatMap blV).drop ((i + 1) * 5) := by
    rw [fmB_take, fmB_drop, List.flatMap_append]
  have hlen : (M.take i ++ M.drop (i + 1)).length = M.length - 1 := by
    rw [List.length_append, List.length_take, List.length_drop]; omega
  rw [← hfm, ← hlen] at hown
  have hg' : w.grownBy w1 (some g) := hg
  have hv' : v'.ownBlock = some g := hv
  obtain ⟨g', cap', rfl, hgg, hrow⟩ := RowS.of_own (S := S) hown (by omega) (by omega) fun x hx => by
    have hx' : NB w (fun b => (b < w.heap.size ∧ b ≠ g) ∧ S b) x := by
      rcases List.mem_append.1 hx with hx | hx
      · exact h.far x (List.mem_of_mem_take hx)
      · exact h.far x (List.mem_of_mem_drop hx)
    exact NB_ok _ _ _ _ x hx' (fun q hq => World.cell?_of_block (hg'.block q.block hq.1.1 fun e => hq.1.2 (Option.some.inj e))) fun b hb' => ⟨⟨Nat.lt_of_lt_of_le hb'.1.1 hg'.size, by rw [hv']; exact fun e => hb'.1.2 (Option.some.inj e).symm⟩, hb'.2⟩
  obtain rfl : g' = g := Option.some.inj hv'
  exact ⟨cap', rfl, hrow, hg', rfl⟩
end Go.Proofs.YtmkicfjcgbfaaaaGreat
namespace Go.Proofs.YtmkicfjcgbfaaaaGreat
open Go.RowKit

/-- operations one after another -/
def applL (l : List Bl) (os : List Opn) : List Bl := os.foldl applied l
theorem applL_snoc {l : List Bl} {os : List Opn} {k : Nat} {o : Opn} (h : os[k]? = some o) : applL l (os.take (k + 1)) = applied (applL l (os.take k)) o := by
  obtain ⟨hk, e⟩ := List.getElem?_eq_some_iff.1 h
  unfold applL
  rw [List.take_succ_eq_append_getElem hk, List.foldl_append, e]; rfl
/-- each of them has no error where it is done -/
def OkAll (l : List Bl) (os : List Opn) : Prop := ∀ (k : Nat) (o : Opn), os[k]? = some o → ∃ f, Good (applL l (os.take k)) f ∧ opErr (applL l (os.take k)) f o = 0
theorem OkAll.one {l : List Bl} {o : Opn} {f : Int → Option Int} (G : Good l f) (h : opErr l f o = 0) : OkAll l [o] := fun k x hx => by
  cases k with
  | zero =>
    obtain rfl : o = x := by simpa using hx
    exact ⟨f, G, h⟩
  | succ k => simp at hx

/-! ### operations in memory, in blocks of a sort -/
def ROsX (W : World) (S : Nat → Prop) (v : Value) (l : List Opn) : Prop := ∃ A n c, ∃ M : List (Opn × Value), M.map Prod.fst = l ∧ v = .slice A n c ∧ n = M.length ∧ (n ≤ c ∧ n * 144 ≤ 140737488351232) ∧ RdX W S 13 A n (M.flatMap opV) ∧ ∀ x ∈ M, RVX W S x.2 x.1.val.items ∧ OI x.1
section
variable {W W' : World} {S S' : Nat → Prop} {v : Value} {l : List Opn}
theorem ROsX.keep (h : ROsX W S v l) (hk : ∀ p : Addr, S p.block → W'.cell? p = W.cell? p) : ROsX W' S v l := by
  obtain ⟨A, n, c, M, h1, h2, h3, h4, h5, h6⟩ := h
  exact ⟨A, n, c, M, h1, h2, h3, h4, h5.keep hk, fun x hx => ⟨(h6 x hx).1.keep hk, (h6 x hx).2⟩⟩
theorem ROsX.weak (h : ROsX W S v l) (hS : ∀ b, S b → S' b) : ROsX W S' v l := by
  obtain ⟨A, n, c, M, h1, h2, h3, h4, h5, h6⟩ := h
  exact ⟨A, n, c, M, h1, h2, h3, h4, h5.weak hS, fun x hx => ⟨(h6 x hx).1.weak hS, (h6 x hx).2⟩⟩
theorem ROsX.of {B : Nat} (h : ROs W B v l) : ROsX W (· < B) v l := by
  obtain ⟨A, n, c, M, h1, h2, h3, h4, h5, h6⟩ := h
  exact ⟨A, n, c, M, h1, h2, h3, h4, h5, fun x hx => ⟨.of (h6 x hx).1, (h6 x hx).2⟩⟩
theorem ROsX.reads {B : Nat} (h : ROsX W S v l) (hS : ∀ b, S b → b < B) : ROs W B v l := by
  obtain ⟨A, n, c, M, h1, h2, h3, h4, h5, h6⟩ := h
  exact ⟨A, n, c, M, h1, h2, h3, h4, h5.reads hS, fun x hx => ⟨(h6 x hx).1.reads hS, (h6 x hx).2⟩⟩
/-- an operation in a row -/
theorem ROsX.at_ {n c B : Nat} {A : Option Addr} (h : ROsX W S (.slice A n c) l) (hB : ∀ b, S b → b < B) {k : Nat} {o : Opn} (hk : l[k]? = some o) :
    ∃ b off Av nv cv, A = some ⟨b, off, none⟩ ∧ S b ∧ (∀ i u, (opV (o, .slice Av nv cv))[i]? = some u → W.cell? ⟨b, off + k * 13 + i, none⟩ = some u) ∧ RVX W S (.slice Av nv cv) o.val.items ∧ OI o := by
  obtain ⟨A', n', c', M, h1, e, h2, h3, h4, h5⟩ := h
  injection e with e1 e2 e3
  subst e1 e2 e3
  obtain ⟨y, hy, rfl⟩ : ∃ y, M[k]? = some y ∧ y.1 = o := by
    rw [← h1, List.getElem?_map, Option.map_eq_some_iff] at hk
    exact hk
  obtain ⟨b, off, e, hb, hc⟩ := (h4.reads hB).plain_at (by omega) opV_len h2 hy
  obtain ⟨ad, e2, hS, _⟩ := h4.2 (by have := (List.getElem?_eq_some_iff.1 hy).1; omega)
  have e3 : ad = ⟨b, off, none⟩ := by rw [e] at e2; exact (Option.some.inj e2).symm
  rw [e3] at hS
  obtain ⟨k1, k2⟩ := h5 y (List.mem_of_getElem? hy)
  obtain ⟨o, v⟩ := y
  obtain ⟨Av, nv, cv, rfl⟩ := (k1.reads hB).slice
  exact ⟨b, off, Av, nv, cv, e, hS, hc, k1, k2⟩
/-- one operation that lies in a block -/
theorem ROsX.one {g : Nat} {o : Opn} {u : Value} (h : Blk W g 31 (opV (o, u)).toArray) (hS : S g) (hv : RVX W S u o.val.items) (hi : OI o) : ROsX W S (.slice (some ⟨g, 0, none⟩) 1 1) [o] :=
  ⟨_, 1, 1, [(o, u)], rfl, rfl, rfl, ⟨Nat.le_refl _, by omega⟩, ⟨rfl, fun _ => ⟨_, rfl, hS, fun j x hx => by
    rw [Addr.add_lit, Nat.zero_add, h.cell, ← hx, List.flatMap_singleton, List.getElem?_toArray]⟩⟩, fun x hx => by
    obtain rfl := List.mem_singleton.1 hx
    exact ⟨hv, hi⟩⟩
end

/-! ### what each kind makes -/
theorem insB_rise {L : List Bl} (hr : Rise L) {x : Bl} (hn : ∀ y ∈ L, y.id ≠ x.id) : Rise (insB x L) := rise_iff.2 (insB_sorted x L (rise_iff.1 hr) hn)
theorem insB_ids {L : List Bl} (hi : IdsIn L) {x : Bl} (hx : 0 ≤ x.id ∧ x.id ≤ 1000000) : IdsIn (insB x L) := fun y hy => by
  rcases (insB_mem x y L).1 hy with rfl | hy
  · exact hx
  · exact hi y hy
theorem put_at {α : Type} {M : List α} {i q : Nat} {x y : α} (h : M[q]? = some y) : ∃ q' : Nat, (M.take i ++ x :: M.drop i)[q']? = some y := by
  refine List.mem_iff_getElem?.1 ?_
  have hy := List.mem_of_getElem? h
  rw [← List.take_append_drop i M] at hy
  rcases List.mem_append.1 hy with hy | hy
  · exact List.mem_append_left _ hy
  · exact List.mem_append_right _ (List.mem_cons_of_mem _ hy)
theorem put_new {α : Type} {M : List α} {i : Nat} (hi : i ≤ M.length) (x : α) : (M.take i ++ x :: M.drop i)[i]? = some x := by
  have : (M.take i).length = i := by rw [List.length_take]; omega
  rw [List.getElem?_append_right (by omega), this, Nat.sub_self]; rfl
theorem map_put {M : List BK} {i : Nat} {x : BK} (hlow : LowB (M.map Prod.fst) x.1.id i) : (M.take i ++ x :: M.drop i).map Prod.fst = insB x.1 (M.map Prod.fst) := by
  rw [insB_low hlow, List.map_append, List.map_cons, List.map_take, List.map_drop]
theorem map_setk (M : List BK) (q : Nat) (y : BK) : (M.set q y).map Prod.fst = (M.map Prod.fst).set q y.1 := by rw [List.map_set]
/-- a block turned at its place in a row -/
theorem map_upd {M : List BK} (hr : Rise (M.map Prod.fst)) {q : Nat} {y : BK} (hy : M[q]? = some y) (h : Bl → Bl) (kv pv : Value) : (M.set q (h y.1, kv, pv)).map Prod.fst = upd (M.map Prod.fst) y.1.id h := by
  rw [map_setk, upd_set hr (q := q) (y := y.1) (by rw [List.getElem?_map, hy]; rfl) rfl]
theorem applied_ins {l : List Bl} {o : Opn} (h : o.kind = 1) (hn : ∀ x ∈ l, x.id ≠ o.id) {y : Bl} (hy : y ∈ l) (hyi : y.id = o.parent) : applied l o = upd (insB ⟨o.id, o.parent, [], o.text, []⟩ l) o.parent fun b => b.withKids (plusK b.kids o.at_.toNat o.id) := by
  unfold applied insL
  rw [if_pos h, upd_insB]
  · show o.id ≠ o.parent
    rw [← hyi]; exact fun e => hn y hy e.symm
  · exact fun b => rfl
theorem applied_rem {l : List Bl} (K : Kids l) {o : Opn} (h : o.kind = 2) {x : Bl} (hx : x ∈ l) (hxi : x.id = o.id) : applied l o = (upd l x.parent fun b => b.withKids (lessK b.kids o.id)).filter fun b => b.id != o.id := by
  unfold applied remL
  rw [if_neg (by omega), if_pos h, ← hxi, parOf_eq K hx]
theorem applied_mov {l : List Bl} (K : Kids l) {o : Opn} (h : o.kind = 3) {x : Bl} (hx : x ∈ l) (hxi : x.id = o.id) : applied l o = upd (upd (upd l x.parent fun b => b.withKids (lessK b.kids o.id)) o.id fun b => b.withPar o.parent) o.parent fun b => b.withKids (plusK b.kids o.at_.toNat o.id) := by
  unfold applied
  rw [if_neg (by omega), if_neg (by omega), if_pos h]
  refine movL_eq fun b hb hp hin => ?_
  obtain ⟨_, y, hy, hyi, hyp⟩ := K.kid b hb _ hin
  have : y = x := K.rise.inj hy hx (by rw [hyi, hxi])
  subst this
  exact hp hyp.symm
theorem applied_edit {l : List Bl} {o : Opn} (h : o.kind = 4) : applied l o = upd l o.id fun b => b.withText (edS b.text o.text o.from_ o.to_) := by
  unfold applied
  rw [if_neg (by omega), if_neg (by omega), if_neg (by omega), if_pos h]
theorem applied_set {l : List Bl} {o : Opn} (h : o.kind = 5) : applied l o = upd l o.id fun b => b.withProps (setPr b.props o.name o.val) := by
  unfold applied
  rw [if_neg (by omega), if_neg (by omega), if_neg (by omega), if_neg (by omega)]
theorem txt_size {s : ByteArray} (h : txErr s = 0) : s.size ≤ 65536 := by
  unfold txErr at h
  split at h
  · omega
  · omega
theorem row_at {M : List BK} {L : List Bl} (h : M.map Prod.fst = L) {q : Nat} {y : Bl} (hy : L[q]? = some y) : ∃ yk, M[q]? = some yk ∧ yk.1 = y := by
  rw [← h, List.getElem?_map, Option.map_eq_some_iff] at hy
  exact hy
end Go.Proofs.YtmkicfjcgbfaaaaGreat
