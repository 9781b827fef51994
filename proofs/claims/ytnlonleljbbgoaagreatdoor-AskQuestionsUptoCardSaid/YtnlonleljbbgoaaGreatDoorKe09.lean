/-
  DERIVED. The walks of strings.NewReplacer and of a Replacer's build, for the pairs that write a quotation mark and a backslash with a backslash ahead. Conditions: the four strings lie in memory.
  By an AI agent.
-/
import Derived.Test.YtnlonleljbbgoaaGreatDoorKe04
import Derived.ArgAppend
import Derived.LoopN
import Derived.Lib.Builder
import Derived.Deep.WholeRow
import Derived.Lib.SliceRun
import Derived.Laws.IdiomStrings
namespace Go.Proofs.YtnlonleljbbgoaaGreatDoor
open Go.RowKit

/-- the four strings: a quotation mark, what stands for it, a backslash, what stands for it -/
def rpO : List Value := [.string ⟨#[34]⟩, .string ⟨#[92, 34]⟩, .string ⟨#[92]⟩, .string ⟨#[92, 92]⟩]
theorem rp_str_info : (Tryz.prog.info? 9).map (fun i => (i.zero, i.size, i.bytes)) = some (some (.string .empty), 1, 16) := by kernel_rfl

/-- a new Replacer in block b, its strings in block g -/
def RpNew (w : World) (e : Ending) (w' : World) : Prop := ∃ b g cap, e = .returned (.pointer (some ⟨b, 0, none⟩)) ∧ w.heap.size ≤ b ∧ w.heap.size ≤ g ∧
  w'.heap[b]? = some (.cells #[.int .u32 0, .int .i32 0, .int .u32 0, .nilIface, .slice (some ⟨g, 0, none⟩) 4 cap] 183 (0, 0)) ∧ (∀ j u, rpO[j]? = some u → w'.cell? ⟨g, j, none⟩ = some u) ∧ g < b ∧ Below w.heap.size w w'

set_option maxHeartbeats 1000000 in
set_option maxRecDepth 100000 in
theorem newReplacer_any (A : Addr) (c : Nat) (w : World) (hc : ∀ j u, rpO[j]? = some u → w.cell? (A.add j) = some u) :
    Calls Tryz.prog 110 #[.slice (some A) 4 c] w (RpNew w) := by
  obtain ⟨i0, hi, hz0, hz1, hz2⟩ := info_parts rp_str_info
  have HC := Lib.hid hc
  clear hc
  go_enter Tryz.func110, Tryz.ntmps110
  go_wp2_with (at_builtin; refine wpList_append_grows _ rfl _ _ 92 rfl 9 i0 (.string .empty) 1 16 Tryz.underlying92 hi hz0 hz1 hz2 rfl (by decide) none 0 0 [] rfl (fun _ => ⟨rfl, rfl⟩) rfl (fun b h => by cases h) A 4 c rpO rfl rfl HC.out (by decide) (by decide) (by decide) (by decide) ?_)
  intro v w1 hown hgrow
  have hown' : w1.ownsRow w.heap.size 9 1 v 4 rpO := by simpa using hown
  obtain ⟨g, cap, cur, rfl, hB, hbg, hr⟩ : ∃ g cap cur, v = .slice (some ⟨g, 0, none⟩) 4 cap ∧ w.heap.size ≤ g ∧ w1.heap[g]? = some (.cells cur 9 (0, 0)) ∧ True := by
    rcases hown'.2 with ⟨_, hz⟩ | ⟨g, cap, cur, hv, r⟩
    · exact absurd hz (by decide)
    · exact ⟨g, cap, cur, hv, r.1, r.2.1, trivial⟩
  have hcells := fun j u h => hown'.cells (g := g) rfl j u h
  have hgl := (hown'.lt g rfl).1
  have hglt : g < w1.heap.size := by
    rcases Nat.lt_or_ge g w1.heap.size with h | h
    · exact h
    · rw [Array.getElem?_eq_none h] at hbg; cases hbg
  have HO := Lib.hid hcells
  have HG := Lib.hid hgrow
  clear hown hgrow hown' hcells hbg hgl
  go_wp2
  go_ret
  have hb : Below w.heap.size w w1 := (Below.refl _ _).grown HG.out (Nat.le_refl _) (fun k hk => by cases hk)
  refine ⟨w1.heap.size, g, cap, rfl, hb.size, hB, by show (w1.heap.push _)[w1.heap.size]? = _; exact Array.getElem?_push_size, fun j u h => ?_, hglt, hb.alloc hb.size _⟩
  rw [World.cell?_alloc_past _ _ _ hglt]
  exact ((congrArg w1.cell? (Addr.add_lit g 0 j)).symm.trans (HO.out j u h) |> fun h => by simpa using h : w1.cell? ⟨g, j, none⟩ = some u)

theorem run_strs2 (w : World) : (Instr.makeSlice 92 (.int .i64 0) (.int .i64 2)).run Tryz.prog w = .ok (.slice (some ⟨w.heap.size, 0, none⟩) 0 2) (w.alloc (.cells #[.string .empty, .string .empty] 9)) := by
  obtain ⟨i0, hi, hz0, hz1, hz2⟩ := info_parts rp_str_info
  rw [run_makeSlice (w := w) _ _ i0 (.string .empty) Tryz.underlying92 hi hz0 .i64 .i64 0 2 (by decide) (by decide) (by rw [hz1]; decide) (by rw [hz2]; decide) (by decide), hz1]
  rw [show madeCells (Value.string .empty).cells (Int.toNat 2 * 1) = #[.string .empty, .string .empty] from by kernel_rfl]
  rfl

/-- a byteStringReplacer's cells: nothing is replaced yet -/
noncomputable def repC (v : Value) : Array Value := Tryz.zeroCells246.setIfInBounds 256 v
theorem repC_one (a : Option Addr) (n c : Nat) : (repC (.slice a n c)).all (·.oneCell') = true := by
  have h0 : Tryz.zeroCells246.all (·.oneCell') = true := by kernel_rfl
  unfold repC
  rw [Array.all_eq_true] at h0 ⊢
  intro i hi
  rw [Array.getElem_setIfInBounds]
  split
  · rfl
  · exact h0 i (by simpa using hi)
theorem run_rep (w : World) (a : Option Addr) (n c : Nat) : (storeCells ⟨w.heap.size, 0, none⟩ (Tryz.zeroCells246.toList.set 256 (.slice a n c))).run Tryz.prog (w.alloc (.cells Tryz.zeroCells246 246)) = .ok () (w.alloc (.cells (repC (.slice a n c)) 246)) := by
  have := run_storeCells_new (P := Tryz.prog) w 246 Tryz.zeroCells246 (repC (.slice a n c)) (by rw [show (repC (.slice a n c)).size = 257 from by simp only [repC, Array.size_setIfInBounds, Tryz.zeroCells246_size]]; kernel_rfl) (by simp only [repC, Array.size_setIfInBounds]) (repC_one a n c)
  simpa [repC] using this

theorem W2f (w : World) : Below w.heap.size w ((w.alloc (.cells #[.string .empty, .string .empty] 9)).alloc (.cells (repC (.slice (some ⟨w.heap.size, 0, none⟩) 0 2)) 246)) ∧
    ((w.alloc (.cells #[.string .empty, .string .empty] 9)).alloc (.cells (repC (.slice (some ⟨w.heap.size, 0, none⟩) 0 2)) 246)).heap[w.heap.size + 1]? = some (.cells (repC (.slice (some ⟨w.heap.size, 0, none⟩) 0 2)) 246 (0, 0)) ∧
    ((w.alloc (.cells #[.string .empty, .string .empty] 9)).alloc (.cells (repC (.slice (some ⟨w.heap.size, 0, none⟩) 0 2)) 246)).heap[w.heap.size]? = some (.cells #[.string .empty, .string .empty] 9 (0, 0)) ∧
    ((w.alloc (.cells #[.string .empty, .string .empty] 9)).alloc (.cells (repC (.slice (some ⟨w.heap.size, 0, none⟩) 0 2)) 246)).heap.size = w.heap.size + 2 := by
  generalize repC (.slice (some ⟨w.heap.size, 0, none⟩) 0 2) = R
  refine ⟨((Below.refl _ _).alloc (Nat.le_refl _) _).alloc (by simp) _, ?_, ?_, by simp⟩
  · show ((w.heap.push _).push _)[w.heap.size + 1]? = _
    rw [show w.heap.size + 1 = (w.heap.push (Obj.cells #[Value.string .empty, Value.string .empty] 9)).size from (Array.size_push _).symm]
    exact Array.getElem?_push_size
  · show ((w.heap.push _).push _)[w.heap.size]? = _
    rw [Array.getElem?_push_lt (by simp)]
    simp

theorem repC_at (a : Option Addr) (n c : Nat) (i : Nat) (hi : i < 257) : (repC (.slice a n c))[i]? = some (if i = 256 then .slice a n c else .slice none 0 0) := by
  have hz : Tryz.zeroCells246.size = 257 := by kernel_rfl
  have h0 : Tryz.zeroCells246.all (fun v => match v with | .slice none 0 0 => true | _ => false) = true := by kernel_rfl
  unfold repC
  rw [Array.getElem?_setIfInBounds]
  by_cases e : i = 256
  · subst e
    rw [if_pos rfl, if_pos (by rw [hz]; omega), if_pos rfl]
  · rw [if_neg (fun h => e h.symm), if_neg e, Array.getElem?_eq_getElem (by omega)]
    rw [Array.all_eq_true] at h0
    have := h0 i (by omega)
    revert this
    generalize Tryz.zeroCells246[i]'(by omega) = v
    split <;> simp

/-- what a byteStringReplacer holds, and its list of strings, while they are built: blocks N + 1 and N -/
structure RepP (N : Nat) (w W : World) (F S : Nat → Value) : Prop where
  below : Below N w W
  size : N + 2 ≤ W.heap.size
  cell : ∀ i, i < 257 → W.cell? ⟨N + 1, i, none⟩ = some (F i)
  free : ∀ i, i < 257 → W.frozen? ⟨N + 1, i, none⟩ = false
  cellS : ∀ i, i < 2 → W.cell? ⟨N, i, none⟩ = some (S i)
  freeS : ∀ i, i < 2 → W.frozen? ⟨N, i, none⟩ = false
theorem RepP.of {N : Nat} {w W W' : World} {F S : Nat → Value} (h : RepP N w W F S) (hb : Below (N + 2) W W') : RepP N w W' F S where
  below := h.below.trans (hb.mono (by omega))
  size := Nat.le_trans h.size hb.size
  cell i hi := (hb.cell (p := ⟨N + 1, i, none⟩) (by show N + 1 < _; omega)).trans (h.cell i hi)
  free i hi := (hb.frozen (p := ⟨N + 1, i, none⟩) (by show N + 1 < _; omega)).trans (h.free i hi)
  cellS i hi := (hb.cell (p := ⟨N, i, none⟩) (by show N < _; omega)).trans (h.cellS i hi)
  freeS i hi := (hb.frozen (p := ⟨N, i, none⟩) (by show N < _; omega)).trans (h.freeS i hi)
theorem RepP.set_ {N : Nat} {w W : World} {F S : Nat → Value} (h : RepP N w W F S) (j : Nat) (v : Value) : RepP N w (W.setCell ⟨N + 1, j, none⟩ v) (fun i => if i = j then v else F i) S where
  below := h.below.setCell (p := ⟨N + 1, j, none⟩) (by show N ≤ N + 1; omega) v
  size := by simpa using h.size
  cell i hi := by
    by_cases e : i = j
    · subst e
      rw [if_pos rfl]
      exact World.cell?_setCell_same _ _ _ (h.cell i hi)
    · rw [if_neg e, World.cell?_setCell_other _ _ _ _ (by intro h; injection h with _ h; exact e h.symm)]
      exact h.cell i hi
  free i hi := (World.frozen?_setCell _ _ _ _).trans (h.free i hi)
  cellS i hi := (World.cell?_setCell_other _ _ _ _ (by intro h; injection h with h; omega)).trans (h.cellS i hi)
  freeS i hi := (World.frozen?_setCell _ _ _ _).trans (h.freeS i hi)
theorem RepP.setS {N : Nat} {w W : World} {F S : Nat → Value} (h : RepP N w W F S) (j : Nat) (v : Value) : RepP N w (W.setCell ⟨N, j, none⟩ v) F (fun i => if i = j then v else S i) where
  below := h.below.setCell (p := ⟨N, j, none⟩) (Nat.le_refl _) v
  size := by simpa using h.size
  cell i hi := (World.cell?_setCell_other _ _ _ _ (by intro h; injection h with h; omega)).trans (h.cell i hi)
  free i hi := (World.frozen?_setCell _ _ _ _).trans (h.free i hi)
  cellS i hi := by
    by_cases e : i = j
    · subst e
      rw [if_pos rfl]
      exact World.cell?_setCell_same _ _ _ (h.cellS i hi)
    · rw [if_neg e, World.cell?_setCell_other _ _ _ _ (by intro h; injection h with _ h; exact e h.symm)]
      exact h.cellS i hi
  freeS i hi := (World.frozen?_setCell _ _ _ _).trans (h.freeS i hi)
theorem RepP.congr {N : Nat} {w W : World} {F S F' S' : Nat → Value} (h : RepP N w W F S) (hF : ∀ i, i < 257 → F i = F' i) (hS : ∀ i, i < 2 → S i = S' i) : RepP N w W F' S' :=
  ⟨h.below, h.size, fun i hi => (h.cell i hi).trans (congrArg some (hF i hi)), h.free, fun i hi => (h.cellS i hi).trans (congrArg some (hS i hi)), h.freeS⟩

/-- a byteStringReplacer in block rb that writes a quotation mark and a backslash with a backslash ahead; its memory from B on -/
def RepIs (W : World) (B rb : Nat) : Prop := ∃ z ga ca gb cb, (B ≤ rb ∧ B ≤ z ∧ B ≤ ga ∧ B ≤ gb) ∧ W.cell? ⟨rb, 34, none⟩ = some (.slice (some ⟨ga, 0, none⟩) 2 ca) ∧ W.cell? ⟨rb, 92, none⟩ = some (.slice (some ⟨gb, 0, none⟩) 2 cb) ∧ (∀ i, i < 256 → i ≠ 34 → i ≠ 92 → W.cell? ⟨rb, i, none⟩ = some (.slice none 0 0)) ∧
  W.cell? ⟨rb, 256, none⟩ = some (.slice (some ⟨z, 0, none⟩) 2 2) ∧ W.cell? ⟨z, 0, none⟩ = some (.string ⟨#[92]⟩) ∧ W.cell? ⟨z, 1, none⟩ = some (.string ⟨#[34]⟩) ∧ W.cell? ⟨ga, 0, none⟩ = some (.int .u8 92) ∧ W.cell? ⟨ga, 1, none⟩ = some (.int .u8 34) ∧ W.cell? ⟨gb, 0, none⟩ = some (.int .u8 92) ∧ W.cell? ⟨gb, 1, none⟩ = some (.int .u8 92)
theorem RepIs.keep {W W' : World} {B rb : Nat} (h : RepIs W B rb) (hk : ∀ (p : Addr) v, B ≤ p.block → W.cell? p = some v → W'.cell? p = some v) : RepIs W' B rb := by
  obtain ⟨z, ga, ca, gb, cb, ⟨b0, b1, b2, b3⟩, h1, h2, h3, h4, h5, h6, h7, h8, h9, h10⟩ := h
  exact ⟨z, ga, ca, gb, cb, ⟨b0, b1, b2, b3⟩, hk _ _ b0 h1, hk _ _ b0 h2, fun i hi a b => hk _ _ b0 (h3 i hi a b), hk _ _ b0 h4, hk _ _ b1 h5, hk _ _ b1 h6, hk _ _ b2 h7, hk _ _ b2 h8, hk _ _ b3 h9, hk _ _ b3 h10⟩

/-- one byte as a string -/
theorem run_one_back (c : UInt8) (W : World) : (convert 103 9 (.slice (some ⟨W.heap.size, 0, none⟩) 1 1)).run Tryz.prog (W.alloc (.cells #[.int .u8 c.toNat] 5)) = .ok (.string ⟨#[c]⟩) (W.alloc (.cells #[.int .u8 c.toNat] 5)) :=
  run_convert_bytes_back (P := Tryz.prog) _ 103 9 5 ⟨W.heap.size, 0, none⟩ 1 [c] Tryz.underlying103 Tryz.underlying5 Tryz.underlying9 (fun j hj => by
    obtain rfl : j = 0 := by simp at hj; omega
    rw [Addr.add_lit, World.cell?_alloc_mark]
    rfl)
/-- two bytes in new memory -/
theorem run_two (c d : UInt8) (W : World) : ∃ cap W', (convert 9 103 (.string ⟨#[c, d]⟩)).run Tryz.prog W = .ok (.slice (some ⟨W.heap.size, 0, none⟩) 2 cap) W' ∧ Below W.heap.size W W' ∧ W'.heap.size = W.heap.size + 1 ∧
    W'.cell? ⟨W.heap.size, 0, none⟩ = some (.int .u8 c.toNat) ∧ W'.cell? ⟨W.heap.size, 1, none⟩ = some (.int .u8 d.toNat) := by
  refine ⟨_, _, run_bytes_of_string (P := Tryz.prog) W 9 103 5 ⟨#[c, d]⟩ Tryz.underlying9 Tryz.underlying103 Tryz.underlying5, (Below.refl _ _).drew.alloc (Nat.le_refl _) _, by simp, ?_, ?_⟩
  · exact (World.cell?_alloc_mark W.drew _ _ _ 0).trans (bytesRow_at ⟨#[c, d]⟩ _ 0 (by show 0 < 2; omega))
  · exact (World.cell?_alloc_mark W.drew _ _ _ 1).trans (bytesRow_at ⟨#[c, d]⟩ _ 1 (by show 1 < 2; omega))
/-- a string appended to a row with room -/
theorem run_str_room (W : World) (N g n : Nat) (x : Value) (ty : TypeId) (hn : n < 2) (hx : x.oneCell' = true) (hg : W.cell? ⟨g, 0, none⟩ = some x) (hc : (W.cell? ⟨N, n, none⟩).isSome = true) (hf : W.frozen? ⟨N, n, none⟩ = false) :
    (Builtin.append_ #[92, 92] ty #[.slice (some ⟨N, 0, none⟩) n 2, .slice (some ⟨g, 0, none⟩) 1 1]).run Tryz.prog W = .ok (.slice (some ⟨N, 0, none⟩) (n + 1) 2) (W.setCell ⟨N, n, none⟩ x) := by
  obtain ⟨i0, hi, hz0, hz1, hz2⟩ := info_parts rp_str_info
  have h := run_append_room_cells (P := Tryz.prog) W 92 ty 9 i0 Tryz.underlying92 hi N 0 n 2 ⟨g, 0, none⟩ 1 1 [x] (by rw [hz1]; rfl) (fun j u hj => by
    obtain rfl : j = 0 := by
      rcases Nat.lt_or_ge j 1 with h | h
      · omega
      · rw [List.getElem?_eq_none (by simpa using h)] at hj; cases hj
    simp at hj
    subst hj
    rw [Addr.add_lit]
    exact hg) (fun u hu => by simp at hu; subst hu; exact hx) (by omega) (fun j hj => by
    obtain rfl : j = 0 := by simp at hj; omega
    rw [hz1]; simpa using hc) (fun j hj => by
    obtain rfl : j = 0 := by simp at hj; omega
    rw [hz1]; simpa using hf)
  rw [hz1] at h
  simpa [World.setCells] using h

theorem wp_append_run (w : World) {P : Program} {o : Oper} {a : Act} {K : Act → World → Prop} {Q : Exit → Act → World → Prop} (d s : Operand) (t t' : TypeId)
    (ho : o.op = .call { callee := .builtin .append, args := #[d, s], argTypes := #[t, t'] }) (v u : Value) (hd : a.eval d = v) (hs : a.eval s = u) {v' : Value} {w' : World}
    (hr : (Builtin.append_ #[t, t'] o.type #[v, u]).run P w = .ok v' w') (h : K (a.put o.dst v') w') : o.wp P a w K Q := by
  unfold Oper.wp execOp
  simp only [ho, resolve, invoke, builtin, Sem.run_bind, Sem.run_pure, Result.andThen_ok, List.map_toArray, List.map_cons, List.map_nil, hd, hs, hr]
  exact h
theorem wpList_append_run (w : World) {P : Program} {ops : Array Oper} {rest : List Oper} {o : Oper} {a : Act} {Q : Exit → Act → World → Prop} (hgd : o.guard = none) (d s : Operand) (t t' : TypeId)
    (ho : o.op = .call { callee := .builtin .append, args := #[d, s], argTypes := #[t, t'] }) (v u : Value) (hd : a.eval d = v) (hs : a.eval s = u) {v' : Value} {w' : World}
    (hr : (Builtin.append_ #[t, t'] o.type #[v, u]).run P w = .ok v' w') (h : wpList P ops Q rest (a.put o.dst v') w') : wpList P ops Q (o :: rest) a w :=
  wpList_plain hgd fun _ hK => wp_append_run w d s t t' ho v u hd hs hr (hK _ _ h)

set_option maxHeartbeats 4000000 in
set_option maxRecDepth 100000 in
theorem build_any (b g cap : Nat) (w : World) (hg : g < w.heap.size) (hb : w.cell? ⟨b, 4, none⟩ = some (.slice (some ⟨g, 0, none⟩) 4 cap)) (hc : ∀ j u, rpO[j]? = some u → w.cell? ⟨g, j, none⟩ = some u) :
    Calls Tryz.prog 186 #[.pointer (some ⟨b, 0, none⟩)] w fun e w' => e = .returned (.iface 247 (.pointer (some ⟨w.heap.size + 1, 0, none⟩))) ∧ RepIs w' w.heap.size (w.heap.size + 1) ∧ Below w.heap.size w w' := by
  have k0 := hc 0 _ rfl
  have k1 := hc 1 _ rfl
  have k2 := hc 2 _ rfl
  have k3 := hc 3 _ rfl
  have hmk := run_strs2
  have hst := run_rep (w.alloc (.cells #[.string .empty, .string .empty] 9)) (some ⟨w.heap.size, 0, none⟩) 0 2
  rw [show (w.alloc (.cells #[.string .empty, .string .empty] 9)).heap.size = w.heap.size + 1 from Array.size_push _] at hst
  clear hc
  go_enter Tryz.func186, Tryz.ntmps186
  go_wp2_with fail
  refine wp_loop_rounds 3 ?_
  rw [rounds_succ]
  go_wp2_with fail
  rw [rounds_succ]
  go_wp2_with fail
  rw [rounds_succ]
  go_wp2_with fail
  have hb2 := W2f w
  have hv := repC_at (some ⟨w.heap.size, 0, none⟩) 0 2
  generalize ((w.alloc (.cells #[.string .empty, .string .empty] 9)).alloc (.cells (repC (.slice (some ⟨w.heap.size, 0, none⟩) 0 2)) 246)) = W2 at hb2 ⊢
  obtain ⟨hbel, hBk, hGk, hz2⟩ := hb2
  have HR : Hid (RepP w.heap.size w W2 (fun i => if i = 256 then .slice (some ⟨w.heap.size, 0, none⟩) 0 2 else .slice none 0 0) (fun _ => .string .empty)) := {
    below := hbel, size := by omega
    cell := fun i hi => by rw [Lib.cell_of_heap hBk]; exact hv i hi
    free := fun i _ => Lib.frozen_of_heap hBk i
    cellS := fun i hi => by
      rw [Lib.cell_of_heap hGk]
      rcases (show i = 0 ∨ i = 1 by omega) with rfl | rfl <;> rfl
    freeS := fun i _ => Lib.frozen_of_heap hGk i }
  have hzz : w.heap.size + 2 ≤ W2.heap.size := by omega
  clear hBk hGk hz2 hv hst hmk
  have e0 := (hbel.cell (p := ⟨g, 0, none⟩) hg).trans k0
  have e1 := (hbel.cell (p := ⟨g, 1, none⟩) hg).trans k1
  have e2 := (hbel.cell (p := ⟨g, 2, none⟩) hg).trans k2
  have e3 := (hbel.cell (p := ⟨g, 3, none⟩) hg).trans k3
  clear k2 k3 hbel
  have c92 : W2.cell? ⟨w.heap.size + 1, 92, none⟩ = some (.slice none 0 0) := HR.out.cell 92 (by omega)
  have c256 : W2.cell? ⟨w.heap.size + 1, 256, none⟩ = some (.slice (some ⟨w.heap.size, 0, none⟩) 0 2) := HR.out.cell 256 (by omega)
  have s0 : W2.cell? ⟨w.heap.size, 0, none⟩ = some (.string .empty) := HR.out.cellS 0 (by omega)
  have f256 : W2.frozen? ⟨w.heap.size + 1, 256, none⟩ = false := HR.out.free 256 (by omega)
  have q92 : ∀ h : 0 < (⟨#[92]⟩ : ByteArray).size, ((⟨#[92]⟩ : ByteArray)[0]'h).toNat = 92 := fun _ => rfl
  have q34 : ∀ h : 0 < (⟨#[34]⟩ : ByteArray).size, ((⟨#[34]⟩ : ByteArray)[0]'h).toNat = 34 := fun _ => rfl
  have qT : ∀ (w : World) (a : Option Addr) (n c n' c' : Nat), (binOp .eql 103 (.slice a n c) (.slice none n' c')).run Tryz.prog w = .ok (.bool a.isNone) w := fun w a n c n' c' => Lib.run_eql_slice_nil w _ _ a n c n' c' Tryz.underlying103
  have qb92 : ∀ W : World, (convert 103 9 (.slice (some ⟨W.heap.size, 0, none⟩) 1 1)).run Tryz.prog (W.alloc (.cells #[.int .u8 92] 5)) = .ok (.string ⟨#[92]⟩) (W.alloc (.cells #[.int .u8 92] 5)) := run_one_back 92
  have qb34 : ∀ W : World, (convert 103 9 (.slice (some ⟨W.heap.size, 0, none⟩) 1 1)).run Tryz.prog (W.alloc (.cells #[.int .u8 34] 5)) = .ok (.string ⟨#[34]⟩) (W.alloc (.cells #[.int .u8 34] 5)) := run_one_back 34
  refine wp_loop_rounds 3 ?_
  rw [rounds_succ]
  have hx0 : ((W2.alloc (.cells #[.int .u8 92] 5)).alloc (.cells #[.string ⟨#[92]⟩] 9)).cell? ⟨W2.heap.size + 1, 0, none⟩ = some (.string ⟨#[92]⟩) := by
    have := World.cell?_alloc_mark (W2.alloc (.cells #[.int .u8 92] 5)) #[.string ⟨#[92]⟩] 9 (0, 0) 0
    rw [show (W2.alloc (.cells #[.int .u8 92] 5)).heap.size = W2.heap.size + 1 from Array.size_push _] at this
    exact this
  have HR1 : Hid (RepP w.heap.size w ((W2.alloc (.cells #[.int .u8 92] 5)).alloc (.cells #[.string ⟨#[92]⟩] 9)) _ _) := HR.out.of (((Below.refl _ _).alloc hzz _).alloc (by simp; omega) _)
  have hap := run_str_room _ w.heap.size (W2.heap.size + 1) 0 (.string ⟨#[92]⟩) 92 (by decide) rfl hx0 (by rw [HR1.out.cellS 0 (by omega)]; rfl) (HR1.out.freeS 0 (by omega))
  have x256 := HR1.out.cell 256 (by omega)
  have xf256 := HR1.out.free 256 (by omega)
  have HR3 : Hid (RepP w.heap.size w ((((W2.alloc (.cells #[.int .u8 92] 5)).alloc (.cells #[.string ⟨#[92]⟩] 9)).setCell ⟨w.heap.size, 0, none⟩ (.string ⟨#[92]⟩)).setCell ⟨w.heap.size + 1, 256, none⟩ (.slice (some ⟨w.heap.size, 0, none⟩) 1 2)) _ _) := (HR1.out.setS 0 (.string ⟨#[92]⟩)).set_ 256 (.slice (some ⟨w.heap.size, 0, none⟩) 1 2)
  obtain ⟨cp1, W4, hcv, hb4, hz4, u0, u1⟩ := run_two 92 92 ((((W2.alloc (.cells #[.int .u8 92] 5)).alloc (.cells #[.string ⟨#[92]⟩] 9)).setCell ⟨w.heap.size, 0, none⟩ (.string ⟨#[92]⟩)).setCell ⟨w.heap.size + 1, 256, none⟩ (.slice (some ⟨w.heap.size, 0, none⟩) 1 2))
  have HR4 := Lib.hid (HR3.out.of (hb4.mono HR3.out.size))
  rw [show ((((W2.alloc (.cells #[.int .u8 92] 5)).alloc (.cells #[.string ⟨#[92]⟩] 9)).setCell ⟨w.heap.size, 0, none⟩ (.string ⟨#[92]⟩)).setCell ⟨w.heap.size + 1, 256, none⟩ (.slice (some ⟨w.heap.size, 0, none⟩) 1 2)).heap.size = W2.heap.size + 2 from by simp] at hcv hz4 u0 u1
  have z92 := HR4.out.cell 92 (by omega)
  have zf92 := HR4.out.free 92 (by omega)
  have HU := Lib.hid (And.intro u0 u1)
  have HB4 := Lib.hid hb4
  have HZ4 := Lib.hid hz4
  clear hb4 hz4 u0 u1
  go_wp2_with (at_builtin; refine wpList_append_run _ rfl _ _ 92 92 rfl _ _ rfl rfl hap ?_)
  have HR5 : Hid (RepP w.heap.size w (W4.setCell ⟨w.heap.size + 1, 92, none⟩ (.slice (some ⟨W2.heap.size + 2, 0, none⟩) 2 cp1)) (fun i => if i = 92 then .slice (some ⟨W2.heap.size + 2, 0, none⟩) 2 cp1 else if i = 256 then .slice (some ⟨w.heap.size, 0, none⟩) 1 2 else .slice none 0 0) (fun i => if i = 0 then .string ⟨#[92]⟩ else .string .empty)) := (HR4.out.set_ 92 _).congr (fun i _ => by by_cases h1 : i = 92 <;> by_cases h2 : i = 256 <;> simp [h1, h2]) (fun _ _ => rfl)
  have HU5 : Hid ((W4.setCell ⟨w.heap.size + 1, 92, none⟩ (.slice (some ⟨W2.heap.size + 2, 0, none⟩) 2 cp1)).cell? ⟨W2.heap.size + 2, 0, none⟩ = some (.int .u8 92) ∧ (W4.setCell ⟨w.heap.size + 1, 92, none⟩ (.slice (some ⟨W2.heap.size + 2, 0, none⟩) 2 cp1)).cell? ⟨W2.heap.size + 2, 1, none⟩ = some (.int .u8 92)) :=
    ⟨(World.cell?_setCell_other _ _ _ _ (by intro h; injection h with h; omega)).trans HU.out.1, (World.cell?_setCell_other _ _ _ _ (by intro h; injection h with h; omega)).trans HU.out.2⟩
  have HE : Hid ((W4.setCell ⟨w.heap.size + 1, 92, none⟩ (.slice (some ⟨W2.heap.size + 2, 0, none⟩) 2 cp1)).cell? ⟨g, 0, none⟩ = some (.string ⟨#[34]⟩) ∧ (W4.setCell ⟨w.heap.size + 1, 92, none⟩ (.slice (some ⟨W2.heap.size + 2, 0, none⟩) 2 cp1)).cell? ⟨g, 1, none⟩ = some (.string ⟨#[92, 34]⟩)) :=
    ⟨(HR5.out.below.cell (p := ⟨g, 0, none⟩) hg).trans k0, (HR5.out.below.cell (p := ⟨g, 1, none⟩) hg).trans k1⟩
  have hz5 : (W4.setCell ⟨w.heap.size + 1, 92, none⟩ (.slice (some ⟨W2.heap.size + 2, 0, none⟩) 2 cp1)).heap.size = W2.heap.size + 3 := by simpa using HZ4.out
  have HZ5 := Lib.hid hz5
  clear HR4 HR3 HR1 HU hap hcv z92 zf92 x256 xf256 hx0 e0 e1 e2 e3 HB4 HZ4 hz5 HR c92 c256 s0 f256
  generalize (W4.setCell ⟨w.heap.size + 1, 92, none⟩ (.slice (some ⟨W2.heap.size + 2, 0, none⟩) 2 cp1)) = W5 at HR5 HU5 HE HZ5 ⊢
  obtain ⟨e0, e1⟩ := HE.out
  have hz5 : w.heap.size + 2 ≤ W5.heap.size := HR5.out.size
  have c34 : W5.cell? ⟨w.heap.size + 1, 34, none⟩ = some (.slice none 0 0) := HR5.out.cell 34 (by omega)
  have c256 : W5.cell? ⟨w.heap.size + 1, 256, none⟩ = some (.slice (some ⟨w.heap.size, 0, none⟩) 1 2) := HR5.out.cell 256 (by omega)
  have hx0 : ((W5.alloc (.cells #[.int .u8 34] 5)).alloc (.cells #[.string ⟨#[34]⟩] 9)).cell? ⟨W5.heap.size + 1, 0, none⟩ = some (.string ⟨#[34]⟩) := by
    have := World.cell?_alloc_mark (W5.alloc (.cells #[.int .u8 34] 5)) #[.string ⟨#[34]⟩] 9 (0, 0) 0
    rw [show (W5.alloc (.cells #[.int .u8 34] 5)).heap.size = W5.heap.size + 1 from Array.size_push _] at this
    exact this
  have hal : Below W5.heap.size W5 ((W5.alloc (.cells #[.int .u8 34] 5)).alloc (.cells #[.string ⟨#[34]⟩] 9)) := ((Below.refl _ _).alloc (Nat.le_refl _) _).alloc (by simp) _
  have HR6 : Hid (RepP w.heap.size w ((W5.alloc (.cells #[.int .u8 34] 5)).alloc (.cells #[.string ⟨#[34]⟩] 9)) _ _) := HR5.out.of (hal.mono hz5)
  have hap := run_str_room _ w.heap.size (W5.heap.size + 1) 1 (.string ⟨#[34]⟩) 92 (by decide) rfl hx0 (by rw [HR6.out.cellS 1 (by omega)]; rfl) (HR6.out.freeS 1 (by omega))
  have x256 := HR6.out.cell 256 (by omega)
  have xf256 := HR6.out.free 256 (by omega)
  have HR7 : Hid (RepP w.heap.size w ((((W5.alloc (.cells #[.int .u8 34] 5)).alloc (.cells #[.string ⟨#[34]⟩] 9)).setCell ⟨w.heap.size, 1, none⟩ (.string ⟨#[34]⟩)).setCell ⟨w.heap.size + 1, 256, none⟩ (.slice (some ⟨w.heap.size, 0, none⟩) 2 2)) _ _) := (HR6.out.setS 1 (.string ⟨#[34]⟩)).set_ 256 (.slice (some ⟨w.heap.size, 0, none⟩) 2 2)
  obtain ⟨cp2, W8, hcv, hb8, hz8, u0, u1⟩ := run_two 92 34 ((((W5.alloc (.cells #[.int .u8 34] 5)).alloc (.cells #[.string ⟨#[34]⟩] 9)).setCell ⟨w.heap.size, 1, none⟩ (.string ⟨#[34]⟩)).setCell ⟨w.heap.size + 1, 256, none⟩ (.slice (some ⟨w.heap.size, 0, none⟩) 2 2))
  have HR8 := Lib.hid (HR7.out.of (hb8.mono HR7.out.size))
  have HB8 : Hid (Below W5.heap.size ((((W5.alloc (.cells #[.int .u8 34] 5)).alloc (.cells #[.string ⟨#[34]⟩] 9)).setCell ⟨w.heap.size, 1, none⟩ (.string ⟨#[34]⟩)).setCell ⟨w.heap.size + 1, 256, none⟩ (.slice (some ⟨w.heap.size, 0, none⟩) 2 2)) W8) := hb8.mono (by simp; omega)
  rw [show ((((W5.alloc (.cells #[.int .u8 34] 5)).alloc (.cells #[.string ⟨#[34]⟩] 9)).setCell ⟨w.heap.size, 1, none⟩ (.string ⟨#[34]⟩)).setCell ⟨w.heap.size + 1, 256, none⟩ (.slice (some ⟨w.heap.size, 0, none⟩) 2 2)).heap.size = W5.heap.size + 2 from by simp] at hcv hz8 u0 u1
  have z34 := HR8.out.cell 34 (by omega)
  have zf34 := HR8.out.free 34 (by omega)
  have HU8 := Lib.hid (And.intro u0 u1)
  have HZ8 := Lib.hid hz8
  clear hb8 hz8 u0 u1 hal
  rw [rounds_succ]
  go_wp2_with (at_builtin; refine wpList_append_run _ rfl _ _ 92 92 rfl _ _ rfl rfl hap ?_)
  rw [rounds_succ]
  go_wp2_with fail
  go_ret
  have hne1 : ∀ (i j : Nat) (v : Value), (((((W5.alloc (.cells #[.int .u8 34] 5)).alloc (.cells #[.string ⟨#[34]⟩] 9)).setCell ⟨w.heap.size, 1, none⟩ (.string ⟨#[34]⟩)).setCell ⟨w.heap.size + 1, 256, none⟩ (.slice (some ⟨w.heap.size, 0, none⟩) 2 2))).cell? ⟨W2.heap.size + 2, i, none⟩ = W5.cell? ⟨W2.heap.size + 2, i, none⟩ := fun i _ _ => by
    rw [World.cell?_setCell_other _ _ _ _ (by intro h; injection h with h; omega), World.cell?_setCell_other _ _ _ _ (by intro h; injection h with h; omega)]
    have := HZ5.out
    rw [World.cell?_alloc_lt _ _ _ (by simp; omega), World.cell?_alloc_lt _ _ _ (by show W2.heap.size + 2 < _; omega)]
  have hb9 : ∀ i, (W8.setCell ⟨w.heap.size + 1, 34, none⟩ (.slice (some ⟨W5.heap.size + 2, 0, none⟩) 2 cp2)).cell? ⟨W2.heap.size + 2, i, none⟩ = W5.cell? ⟨W2.heap.size + 2, i, none⟩ := fun i => by
    have := HZ5.out
    rw [World.cell?_setCell_other _ _ _ _ (by intro h; injection h with h; omega), HB8.out.cell (by show W2.heap.size + 2 < _; omega), hne1 i 0 undef]
  have h9 := HR8.out.set_ 34 (.slice (some ⟨W5.heap.size + 2, 0, none⟩) 2 cp2)
  have hq : ∀ i, (W8.setCell ⟨w.heap.size + 1, 34, none⟩ (.slice (some ⟨W5.heap.size + 2, 0, none⟩) 2 cp2)).cell? ⟨W5.heap.size + 2, i, none⟩ = W8.cell? ⟨W5.heap.size + 2, i, none⟩ := fun i => World.cell?_setCell_other _ _ _ _ (by intro h; injection h with h; omega)
  refine ⟨rfl, ⟨w.heap.size, W5.heap.size + 2, cp2, W2.heap.size + 2, cp1, ⟨by omega, Nat.le_refl _, by omega, by omega⟩, h9.cell 34 (by omega), h9.cell 92 (by omega), fun i hi n34 n92 => (h9.cell i (by omega)).trans ?_, h9.cell 256 (by omega), h9.cellS 0 (by omega), h9.cellS 1 (by omega), (hq 0).trans HU8.out.1, (hq 1).trans HU8.out.2, (hb9 0).trans HU5.out.1, (hb9 1).trans HU5.out.2⟩, h9.below⟩
  rw [if_neg n34, if_neg (by omega), if_neg n92, if_neg (by omega)]
end Go.Proofs.YtnlonleljbbgoaaGreatDoor
