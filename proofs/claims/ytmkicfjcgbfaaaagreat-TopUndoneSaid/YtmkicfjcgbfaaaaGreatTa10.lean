/-
  DERIVED. A queue of ints that a call makes: popped at its front, pushed at its end. Conditions: none.
  The walk of tree.depths. Conditions: sizes; a base whose kids are right.
  The walk of tree.Check. Conditions: sizes.
  DERIVED: THE SHELF's CONTRACTS AT THIS DUMP, IN PLAIN WORDS (tools/lay-plain.mjs out of 'TryShelf.lean', which tools/lay-shelf.mjs wrote): THE SAME DECLARATIONS UNDER THE SAME NAMES: 'import', 'namespace', 'open', 'def', 'theorem' AND NOTHING ELSE: no command of the shelf's: FOR A HAND-IN. Each laying: the table of numbers ('.._ren') and one theorem, a field a fact of the dump's own or the kernel's comparison; each contract: ONE APPLICATION.
  Slices of ints: the walk of Clip, what Clone says. Conditions: sizes.
  DERIVED: THE SHELF's CONTRACTS AT THIS DUMP, IN PLAIN WORDS (tools/lay-plain.mjs out of 'TryShelf.lean', which tools/lay-shelf.mjs wrote): THE SAME DECLARATIONS UNDER THE SAME NAMES: 'import', 'namespace', 'open', 'def', 'theorem' AND NOTHING ELSE: no command of the shelf's: FOR A HAND-IN. Each laying: the table of numbers ('.._ren') and one theorem, a field a fact of the dump's own or the kernel's comparison; each contract: ONE APPLICATION.
  By an AI agent.
-/
import Derived.Test.YtmkicfjcgbfaaaaGreatTa05
import Derived.ArgAppend
import Derived.Test.YtmkicfjcgbfaaaaGreatChecked
import Derived.Test.YtmkicfjcgbfaaaaGreatTa02
import Derived.Carry
import Derived.Test.YtmkicfjcgbfaaaaGreatTa06
import Derived.Shelf.Slices.Clone
import Derived.Shelf.Slices.Empties2
import Derived.Test.YtmkicfjcgbfaaaaGreatProg
import Derived.Test.YtmkicfjcgbfaaaaGreatTa07
import Derived.Deep.DeepCutAuto
import Derived.Shelf.Slices.Reverse
import Derived.Shelf.Slices.Cells
namespace Go.Proofs.YtmkicfjcgbfaaaaGreat
open Go.RowKit

/-- a queue in a row of the call's own -/
def Qu (w : World) (base : Nat) (v : Value) (T : List Int) : Prop := ∃ ad cap, v = .slice (some ad) T.length cap ∧ T.length ≤ cap ∧ cap ≤ maxLen ∧ (0 < cap → ∃ g off cur, ad = ⟨g, off, none⟩ ∧ base ≤ g ∧ w.heap[g]? = some (.cells cur 3 (0, 0)) ∧ off + cap = cur.size ∧ ∀ (j : Nat) (x : Int), T[j]? = some x → cur[off + j]? = some (.int .i64 x))
/-- all blocks but rows of ints are as they were -/
def Kept3 (w w' : World) : Prop := ∀ (i : Nat) (o : Obj), w.heap[i]? = some o → (∀ cur, o ≠ Obj.cells cur 3 (0, 0)) → w'.heap[i]? = some o
section
variable {w w' : World} {base : Nat} {v : Value} {T : List Int}
theorem Qu.start (w : World) (hb : base ≤ w.heap.size) (x : Int) : Qu (w.alloc (.cells #[.int .i64 x] 3)) base (.slice (some ⟨w.heap.size, 0, none⟩) 1 1) [x] :=
  ⟨_, 1, rfl, Nat.le_refl _, by unfold maxLen; omega, fun _ => ⟨w.heap.size, 0, _, rfl, hb, heap_alloc_new w _, rfl, fun j y h => by
    rcases j with _ | j
    · obtain rfl : x = y := by simpa using h
      rfl
    · simp at h⟩⟩
theorem Qu.grown (h : Qu w base v T) {row : Option Nat} (hg : w.grownBy w' row) (hr : ∀ g cur, row = some g → w.heap[g]? ≠ some (.cells cur 3 (0, 0))) : Qu w' base v T := by
  obtain ⟨ad, cap, h1, h2, h3, h4⟩ := h
  refine ⟨ad, cap, h1, h2, h3, fun hc => ?_⟩
  obtain ⟨g, off, cur, e, hb, hh, r⟩ := h4 hc
  have hlt : g < w.heap.size := by
    rcases Nat.lt_or_ge g w.heap.size with g' | g'
    · exact g'
    · rw [Array.getElem?_eq_none g'] at hh; cases hh
  exact ⟨g, off, cur, e, hb, (hg.block g hlt (fun e => hr g cur e.symm hh)).trans hh, r⟩
theorem Qu.alloc (h : Qu w base v T) (o : Obj) : Qu (w.alloc o) base v T := h.grown (World.grownBy_alloc w o none) (fun _ _ e => by cases e)
theorem Qu.drewN (h : Qu w base v T) (q : Nat) : Qu (w.drewN q) base v T := h
theorem Qu.below (h : Qu w base v T) (hb : Below w.heap.size w w') : Qu w' base v T := by
  obtain ⟨ad, cap, h1, h2, h3, h4⟩ := h
  refine ⟨ad, cap, h1, h2, h3, fun hc => ?_⟩
  obtain ⟨g, off, cur, e, hb', hh, r⟩ := h4 hc
  have hlt : g < w.heap.size := by
    rcases Nat.lt_or_ge g w.heap.size with g' | g'
    · exact g'
    · rw [Array.getElem?_eq_none g'] at hh; cases hh
  exact ⟨g, off, cur, e, hb', (hb.block g hlt).trans hh, r⟩
theorem Qu.pop {A : Option Addr} {n c : Nat} {x : Int} (h : Qu w base (.slice A n c) (x :: T)) : ∃ g off, A = some ⟨g, off, none⟩ ∧ n = T.length + 1 ∧ n ≤ c ∧ g < w.heap.size ∧ w.cell? ⟨g, off, none⟩ = some (.int .i64 x) ∧ (c = 1 → Qu w base (.slice (some ⟨g, off, none⟩) (n - 1) (c - 1)) T) ∧ (c ≠ 1 → Qu w base (.slice (some ⟨g, off + 1, none⟩) (n - 1) (c - 1)) T) := by
  obtain ⟨ad, cap, h1, h2, h3, h4⟩ := h
  injection h1 with e1 e2 e3
  subst e1 e2 e3
  rw [List.length_cons] at h2
  obtain ⟨g, off, cur, rfl, hb, hh, hs, r⟩ := h4 (by omega)
  have hlt : g < w.heap.size := by
    rcases Nat.lt_or_ge g w.heap.size with g' | g'
    · exact g'
    · rw [Array.getElem?_eq_none g'] at hh; cases hh
  refine ⟨g, off, rfl, rfl, by rw [List.length_cons]; exact h2, hlt, (cell_of_row w g off cur _ _ hh).trans (r 0 x rfl), fun hc => ?_, fun hc => ?_⟩
  · exact ⟨_, c - 1, by rw [List.length_cons, Nat.add_sub_cancel], by omega, by omega, fun hc' => by omega⟩
  · refine ⟨_, c - 1, by rw [List.length_cons, Nat.add_sub_cancel], by omega, by omega, fun hc' => ⟨g, off + 1, cur, rfl, hb, hh, by omega, fun j y hj => ?_⟩⟩
    rw [show off + 1 + j = off + (j + 1) by omega]
    exact r (j + 1) y (by rw [List.getElem?_cons_succ]; exact hj)
theorem Qu.len {A : Option Addr} {n c : Nat} (h : Qu w base (.slice A n c) T) : n = T.length ∧ n ≤ c := by
  obtain ⟨ad, cap, h1, h2, h3, h4⟩ := h
  injection h1 with e1 e2 e3
  subst e1 e2 e3
  exact ⟨rfl, h2⟩
theorem Qu.slice (h : Qu w base v T) : ∃ A n c, v = .slice A n c := by
  obtain ⟨ad, cap, h1, _⟩ := h
  exact ⟨_, _, _, h1⟩
theorem int_row : (Tryz.prog.info? 3).map (fun i => (i.zero, i.size, i.bytes)) = some (some (.int .i64 0), 1, 8) := by kernel_rfl
set_option maxRecDepth 100000 in
theorem Qu.push (h : Qu w base v T) (hb : base ≤ w.heap.size) (hn : T.length ≤ 1000000) {ad : Addr} {c : Nat} {x : Int} (hx : w.cell? ad = some (.int .i64 x)) (ty : TypeId) :
    ∃ v' w', (Builtin.append_ #[34, 34] ty #[v, .slice (some ad) 1 c]).run Tryz.prog w = .ok v' w' ∧ Qu w' base v' (T ++ [x]) ∧ Below base w w' ∧ Kept3 w w' ∧ w.heap.size ≤ w'.heap.size := by
  obtain ⟨i, hi, hz, hs, hby⟩ := info_parts int_row
  obtain ⟨a0, cap, rfl, h2, h3, h4⟩ := h
  have hnews : ∀ j u, [Value.int .i64 x][j]? = some u → w.cell? (ad.add j) = some u := fun j u hu => by
    rcases j with _ | j
    · obtain rfl : Value.int .i64 x = u := by simpa using hu
      exact hx
    · simp at hu
  by_cases hroom : T.length + 1 ≤ cap
  · obtain ⟨g, off, cur, rfl, hbg, hh, hcs, r⟩ := h4 (by omega)
    have hcell : ∀ k, w.cell? ⟨g, k, none⟩ = cur[k]? := fun k => cell_of_row w g k cur _ _ hh
    have hin : off + T.length < cur.size := by omega
    have hrun := run_append_room_cells (P := Tryz.prog) w 34 ty 3 i Tryz.underlying34 hi g off T.length cap ad 1 c [.int .i64 x] (by rw [hs]; rfl) hnews (fun u hu => by
      obtain rfl : u = .int .i64 x := by simpa using hu
      rfl) hroom (fun j hj => by
        obtain rfl : j = 0 := by simpa using hj
        rw [hs, hcell, Nat.mul_one, Nat.add_zero, Array.getElem?_eq_getElem hin]; rfl) (fun j hj => by
        simp [World.frozen?, hh])
    rw [hs, Nat.mul_one] at hrun
    refine ⟨_, _, hrun, ?_⟩
    rw [show w.setCells g (off + T.length) [.int .i64 x] = w.setCell ⟨g, off + T.length, none⟩ (.int .i64 x) from rfl]
    have hh' : (w.setCell ⟨g, off + T.length, none⟩ (.int .i64 x)).heap[g]? = some (.cells (cur.setIfInBounds (off + T.length) (.int .i64 x)) 3 (0, 0)) := by
      simp [World.setCell, Array.getElem?_modify, hh]
    refine ⟨⟨_, cap, by rw [List.length_append]; rfl, by rw [List.length_append]; exact hroom, h3, fun _ => ⟨g, off, _, rfl, hbg, hh', by rw [Array.size_setIfInBounds]; exact hcs, fun j y hj => ?_⟩⟩, (Below.refl _ _).setCell (p := ⟨g, off + T.length, none⟩) hbg _, fun k o hk ho => ?_, by simp [World.setCell]⟩
    · rcases Nat.lt_or_ge j T.length with hjl | hjl
      · rw [List.getElem?_append_left hjl] at hj
        rw [Array.getElem?_setIfInBounds_ne (by omega)]
        exact r j y hj
      · rw [List.getElem?_append_right hjl] at hj
        have h0 : j - T.length = 0 := by
          have := (List.getElem?_eq_some_iff.1 hj).1
          simp at this; omega
        rw [h0] at hj
        obtain rfl : x = y := by simpa using hj
        obtain rfl : j = T.length := by omega
        rw [Array.getElem?_setIfInBounds_self_of_lt hin]
    · by_cases e : k = g
      · subst e
        rw [hh] at hk
        injection hk with hk
        exact absurd hk.symm (ho _)
      · rw [← hk]
        exact (Below.heap_setCell w ⟨g, off + T.length, none⟩ _ k e)
  · have holds : ∀ j u, (T.map (Value.int .i64))[j]? = some u → w.cell? (a0.add j) = some u := fun j u hu => by
      rw [List.getElem?_map, Option.map_eq_some_iff] at hu
      obtain ⟨y, hy, rfl⟩ := hu
      have := (List.getElem?_eq_some_iff.1 hy).1
      obtain ⟨g, off, cur, rfl, hbg, hh, hcs, r⟩ := h4 (by omega)
      rw [Addr.add_lit]
      exact (cell_of_row w g _ cur _ _ hh).trans (r j y hy)
    obtain ⟨v', w', hrun, hown, hg⟩ := run_append_arg_grows (P := Tryz.prog) w 34 ty 3 i (.int .i64 0) 1 8 Tryz.underlying34 hi hz hs hby rfl (by decide) a0 T.length cap (T.map (Value.int .i64)) (by rw [List.length_map, Nat.mul_one]) holds ad 1 c [.int .i64 x] rfl hnews (by omega) (by unfold maxLen; omega) (by omega)
    refine ⟨v', w', hrun, ?_, (Below.refl _ _).grown hg hb (fun _ e => by cases e), fun k o hk _ => ?_, hg.size⟩
    · obtain ⟨h5, h6⟩ := hown
      rcases h6 with ⟨_, h6⟩ | ⟨g, cap', cur, rfl, hbg, hh, hnc, hcm, hcs, htk⟩
      · omega
      · refine ⟨_, cap', by rw [List.length_append]; rfl, by rw [List.length_append]; exact hnc, hcm, fun _ => ⟨g, 0, cur, rfl, by omega, hh, by omega, fun j y hj => ?_⟩⟩
        have hjl := (List.getElem?_eq_some_iff.1 hj).1
        have e : (cur.toList.take ((T.length + 1) * 1))[j]? = some (.int .i64 y) := by
          rw [htk, show T.map (Value.int .i64) ++ [Value.int .i64 x] = (T ++ [x]).map (Value.int .i64) by simp, List.getElem?_map, hj]; rfl
        rw [List.getElem?_take] at e
        split at e
        · rw [Nat.zero_add]; simpa using e
        · cases e
    · have hlt : k < w.heap.size := by
        rcases Nat.lt_or_ge k w.heap.size with g' | g'
        · exact g'
        · rw [Array.getElem?_eq_none g'] at hk; cases hk
      exact (hg.block k hlt (by simp)).trans hk
theorem MapIn.kept3 {P : Program} {k e : TypeId} {α : Type} {lt : α → DU} {b n : Nat} {f : Int → Option α} (h : MapIn P k e lt w b n f) (hk : Kept3 w w') : MapIn P k e lt w' b n f := by
  obtain ⟨D, ⟨es, clock, h1, h2⟩, h3⟩ := h
  exact ⟨D, ⟨es, clock, hk _ _ h1 (fun _ e => by cases e), h2⟩, h3⟩
theorem Blk.kept3 {g : Nat} {t : TypeId} {cs : Array Value} (h : Blk w g t cs) (hk : Kept3 w w') (ht : t ≠ 3) : Blk w' g t cs :=
  hk _ _ h (fun _ e => by injection e with _ e; exact ht e)
end
end Go.Proofs.YtmkicfjcgbfaaaaGreat
namespace Go.Proofs.YtmkicfjcgbfaaaaGreat
open Go.RowKit

theorem int_zero : ∀ w, (zeroValue 3).run Tryz.prog w = .ok (.int .i64 0) w := fun w => Tryz.zeroValue3 w
theorem wpList_push {w : World} {base : Nat} {v : Value} {T : List Int} {ops : Array Oper} {rest : List Oper} {o : Oper} {a : Act} {Q : Exit → Act → World → Prop} (hgd : o.guard = none) (s x : Operand)
    (ho : o.op = .call { callee := .builtin .append, args := #[s, x], argTypes := #[34, 34] }) (h : Qu w base v T) (hb : base ≤ w.heap.size) (hn : T.length ≤ 1000000) (hs : a.eval s = v) (ad : Addr) (c : Nat) (y : Int) (hx : a.eval x = .slice (some ad) 1 c) (hc : w.cell? ad = some (.int .i64 y))
    (hK : ∀ v' w', Qu w' base v' (T ++ [y]) → Below base w w' → Kept3 w w' → w.heap.size ≤ w'.heap.size → wpList Tryz.prog ops Q rest (a.put o.dst v') w') : wpList Tryz.prog ops Q (o :: rest) a w :=
  wpList_plain hgd fun _ hK' => by
    obtain ⟨v', w', hrun, h2, h3, h4, h5⟩ := h.push hb hn hc o.type
    unfold Oper.wp execOp
    simp only [ho, resolve, invoke, builtin, Sem.run_bind, Sem.run_pure, Result.andThen_ok, List.map_toArray, List.map_cons, List.map_nil, hs, hx]
    rw [hrun]
    exact hK' _ _ (hK v' w' h2 h3 h4 h5)
theorem MapIn.no_row {P : Program} {k e : TypeId} {α : Type} {lt : α → DU} {w : World} {b n : Nat} {f : Int → Option α} (h : MapIn P k e lt w b n f) (cur : Array Value) (t : TypeId) : w.heap[b]? ≠ some (.cells cur t (0, 0)) := by
  obtain ⟨D, ⟨es, clock, h1, h2⟩, h3⟩ := h
  rw [h1]
  intro e
  injection e with e
  cases e
theorem IdsIn.i64 {l : List Bl} (h : IdsIn l) {x : Bl} (hx : x ∈ l) : I64 x.id := by
  have := h x hx
  unfold I64
  omega

abbrev IM (w : World) (b n : Nat) (f : Int → Option Int) : Prop := MapIn Tryz.prog 3 3 (fun x => .lit (.int .i64 x)) w b n f
/-- what depths returns -/
def DepR (l : List Bl) (e : Ending) (w : World) : Prop := ∃ b n f, e = .returned (.map (some b)) ∧ IM w b n f ∧ IsDep l f
/-- a queue in a slot -/
def QS (w : World) (base : Nat) (s : Value) (T : List Int) : Prop := Qu w base s T

set_option maxHeartbeats 4000000 in
theorem depths_any (l : List Bl) (A : Option Addr) (n c : Nat) (w : World) (B : Nat) (hB : B ≤ w.heap.size) (h : RB w B (.slice A n c) l) (K : Kids l) :
    Calls Tryz.prog 59 #[.slice A n c] w fun e w' => DepR l e w' ∧ Below w.heap.size w w' := by
  have HN := Lib.hid h.len
  have HI := Lib.hid fun (id : Int) W (hid : I64 id) (hW : Below w.heap.size w W) => index_any l A n c id W B (Nat.le_trans hB hW.size) (h.below (hW.mono hB)) K.rise K.ids hid
  have H := Lib.hid h
  have HE := Lib.hid (intElem (P := Tryz.prog) (e := 3) Tryz.underlying3 int_zero)
  have hmm : (Instr.makeMap 86 none).run Tryz.prog w = .ok (.map (some w.heap.size)) (w.alloc (.map #[] 0)) := run_makeMap _ w
  have hM0 : IM (w.alloc (.map #[] 0)) w.heap.size 0 (fun _ => none) := MapIn.made w
  have z00 : I64 0 := by unfold I64; omega
  obtain ⟨W1, hup, hm1, hg1⟩ := hM0.put HE.out Tryz.underlying3 Tryz.underlying86 (by unfold maxLen; omega) z00 (a := 0) z00
  have HM1 : Hid (IM W1 w.heap.size 1 (fun id => if id = 0 then some 0 else none)) := hm1
  have HB1 : Hid (Below w.heap.size w W1) := ((Below.refl _ _).alloc (Nat.le_refl _) (.map #[] 0)).grown hg1 (by simp) (fun k hk => by injection hk with hk; omega)
  have HQ := Lib.hid (Qu.start W1 HB1.out.size 0)
  obtain ⟨bm, hbm⟩ : ∃ bm, bm = w.heap.size := ⟨_, rfl⟩
  have hbw : w.heap.size ≤ bm := by omega
  rw [← hbm] at hup HM1 hmm
  have HBM := Lib.hid hbm
  have KK := Lib.hid K
  clear h hM0 hm1 hg1 hbm K
  go_enter Tryz.func59, Tryz.ntmps59
  go_wp2_with fail
  go_loopg [4] (n + 1) (fun gg s4 wr => ∃ (T : List Int) (f : Int → Option Int) (k m : Nat) (A4 : Option Addr) (n4 c4 : Nat), s4 = .slice A4 n4 c4 ∧ QS wr w.heap.size (.slice A4 n4 c4) T ∧ Hid (IM wr bm k f) ∧ Hid (Bfs l f T none m) ∧ Hid (Below w.heap.size w wr) ∧ Hid (k + cntF l f ≤ n + 1) ∧ m ≤ gg ∧ m ≤ n + 1)
  case atStart =>
    refine ⟨[0], _, 1, n + 1, _, _, _, rfl, HQ.out, HM1.out.alloc _, ?_, HB1.out.alloc HB1.out.size _, ?_, Nat.le_refl _, Nat.le_refl _⟩
    · show Bfs _ _ _ _ _
      rw [HN.out.1]; exact Bfs.start KK.out
    · show 1 + cntF _ _ ≤ _
      have := cntF_le l (fun id => if id = 0 then some 0 else none)
      have := HN.out.1
      omega
  case round =>
    obtain ⟨T, f, k, m1, A4, n4, c4, rfl, hq, hm, hbfs, hbel, hkc, hmg, hgn⟩ := hrel
    obtain ⟨W2, rfl⟩ : ∃ W2, W2 = wr := ⟨_, rfl⟩
    have hq : Qu W2 w.heap.size (.slice A4 n4 c4) T := hq
    rcases T with _ | ⟨x, T⟩
    · have hl := hq.len
      obtain rfl : n4 = 0 := hl.1
      have HR : Hid (DepR l (.returned (.map (some bm))) W2) := ⟨bm, k, f, rfl, hm.out, hbfs.out.isDep KK.out⟩
      clear hq hl
      go_wp2_with fail
      go_ret
      exact ⟨HR.out, hbel.out⟩
    obtain ⟨g, off, rfl, hn4, hnc4, hgl, hcx, hp1, hp2⟩ := hq.pop
    obtain ⟨m, rfl⟩ : ∃ m, m1 = m + 1 := ⟨m1 - 1, by have := hbfs.out.less; simp at this; omega⟩
    obtain ⟨dx, hdx⟩ := hbfs.out.queue x (by simp)
    obtain ⟨nx, _, hDx, _⟩ := hbfs.out.sound x dx hdx
    obtain ⟨bx, hbx, hbi⟩ := hDx.mem KK.out
    obtain ⟨p, hpl, hpe⟩ := List.mem_iff_getElem.1 hbx
    have hlp : l[p]? = some bx := by rw [List.getElem?_eq_getElem hpl, hpe]
    have hpos : posOf l x = (p : Int) := by rw [← hbi]; exact posOf_of KK.out.rise hlp
    have HX := HI.out x W2 (hbi ▸ KK.out.ids.i64 hbx) hbel.out
    rw [hpos] at HX
    have HX := Lib.hid HX
    have HPOP : Hid (Bfs l f T (some (bx, 0)) m) := hbfs.out.pop hbx hbi
    obtain ⟨b, o5, Ak, nk, ck, Ap, np, cp, rfl, hbb, g0, g1, g2, g3, g4, hK, _⟩ := H.out.at_ hlp
    have HK := Lib.hid hK
    have HKL := Lib.hid hK.len
    have hpn : p < n := by have := HN.out.1; omega
    have i0 : (0 : Int) ≤ (p : Int) := by omega
    have i1 : (p : Int) < (n : Int) := by omega
    have hn40 : 0 < n4 := by omega
    have P1 := Lib.hid hp1
    have P2 := Lib.hid hp2
    have hw2 : w.heap.size ≤ W2.heap.size := hbel.out.size
    have hbm2 : bm < W2.heap.size := hm.out.lt_
    have HHQ := Lib.hid hq
    have hl1 : n4 - 1 = T.length := by omega
    have HL1 := Lib.hid hl1
    clear hq hp1 hp2 hdx hDx hbx hbi hpl hpe hlp hpos hK hn4 hl1
    go_wp2_with fail
    refine HX.out.mono ?_
    rintro e w3 ⟨rfl, hb⟩
    have HB3 : Hid (Below w.heap.size w w3) := hbel.out.trans (hb.mono hw2)
    have c0 := (HB3.out.cell (p := ⟨b, o5 + p * 5, none⟩) (by show b < _; omega)).trans g0
    have c1 := (HB3.out.cell (p := ⟨b, o5 + p * 5 + 1, none⟩) (by show b < _; omega)).trans g1
    have c2 := (HB3.out.cell (p := ⟨b, o5 + p * 5 + 2, none⟩) (by show b < _; omega)).trans g2
    have c3 := (HB3.out.cell (p := ⟨b, o5 + p * 5 + 3, none⟩) (by show b < _; omega)).trans g3
    have c5 := (HB3.out.cell (p := ⟨b, o5 + p * 5 + 4, none⟩) (by show b < _; omega)).trans g4
    have hw3 : W2.heap.size ≤ w3.heap.size := hb.size
    have HM3 := Lib.hid (hm.out.below hb hbm2)
    have HQ1 : Hid (c4 = 1 → Qu w3 w.heap.size (.slice (some ⟨g, off, none⟩) (n4 - 1) (c4 - 1)) T) := fun e => (P1.out e).below hb
    have HQ2 : Hid (c4 ≠ 1 → Qu w3 w.heap.size (.slice (some ⟨g, off + 1, none⟩) (n4 - 1) (c4 - 1)) T) := fun e => (P2.out e).below hb
    clear hb g0 g1 g2 g3 g4
    obtain ⟨W4, hW4⟩ : ∃ W4, W4 = w3.alloc (.cells #[.int .i64 bx.id, .int .i64 bx.parent, .slice Ak nk ck, .string bx.text, .slice Ap np cp] 38) := ⟨_, rfl⟩
    have p0 : Blk W4 w3.heap.size 38 #[.int .i64 bx.id, .int .i64 bx.parent, .slice Ak nk ck, .string bx.text, .slice Ap np cp] := by rw [hW4]; exact Blk.new w3 _ _
    have HM4 : Hid (IM W4 bm k f) := by rw [hW4]; exact HM3.out.alloc _
    have HB4 : Hid (Below w.heap.size w W4) := by rw [hW4]; exact HB3.out.alloc HB3.out.size _
    have HQ3 : Hid (∀ v, Qu w3 w.heap.size v T → Qu W4 w.heap.size v T) := fun v hv => by rw [hW4]; exact hv.alloc _
    have HP0 := Lib.hid p0
    have m2 : W4.cell? ⟨w3.heap.size, 2, none⟩ = some (.slice Ak nk ck) := p0.cell 2
    have hbm3 : bm < w3.heap.size := by omega
    have HW4 := Lib.hid hW4
    clear hW4 p0
    go_upto_region 5 with fail
    rw [← HW4.out]
    go_cut [4] (fun s4 wc => ∃ A' n' c', s4 = .slice A' n' c' ∧ QS W4 w.heap.size (.slice A' n' c') T ∧ W4 = wc)
    case first =>
      by_cases hc4 : c4 = 1
      · subst hc4
        obtain rfl : n4 = 1 := by omega
        have HQ' := Lib.hid (HQ3.out _ (HQ1.out rfl))
        go_wp2_with fail
        go_meet
        exact ⟨_, _, _, rfl, HQ'.out, rfl⟩
      · have HQ' := Lib.hid (HQ3.out _ (HQ2.out hc4))
        have hc4' : ¬ c4 ≤ 1 := by omega
        have hc4'' : (1 : Int) ≤ (n4 : Int) := by omega
        go_wp2_with fail
        go_meet
        exact ⟨_, _, _, rfl, HQ'.out, rfl⟩
    case rest =>
    obtain ⟨A', n', c', rfl, hq', rfl⟩ := hcut
    have HQ5 : Hid (Qu W4 w.heap.size (.slice A' n' c') T) := hq'
    have HKC := Lib.hid hkc.out
    clear hq'
    go_wp2_with fail
    go_loopg [4, 29] nk (fun gg s4 s29 wr => ∃ (j : Nat) (T : List Int) (f : Int → Option Int) (k : Nat) (A4 : Option Addr) (n4 c4 : Nat), j + gg = nk ∧ s4 = .slice A4 n4 c4 ∧ s29 = .int .i64 (j : Int) ∧ QS wr w.heap.size (.slice A4 n4 c4) T ∧ Hid (IM wr bm k f) ∧ Hid (Bfs l f T (some (bx, j)) m) ∧ Hid (Below w.heap.size w wr) ∧ Hid (k + cntF l f ≤ n + 1) ∧ Hid (Blk wr w3.heap.size 38 #[.int .i64 bx.id, .int .i64 bx.parent, .slice Ak nk ck, .string bx.text, .slice Ap np cp]))
    case atStart => exact ⟨0, T, f, k, _, _, _, by omega, rfl, rfl, HQ5.out, HM4, HPOP, HB4, HKC, HP0⟩
    case round =>
      obtain ⟨j, T, f, k, A4, n4, c4, hjg, rfl, rfl, hq, hm, hbfs, hbel, hkc, hp⟩ := hrel
      have hq : Qu wr w.heap.size (.slice A4 n4 c4) T := hq
      have HQ := Lib.hid hq
      clear hq
      have hbk : nk ≤ ck ∧ nk * 8 ≤ 140737488351232 := HKL.out.2
      by_cases hj : j < nk
      case neg =>
        obtain rfl : j = nk := by omega
        have HD : Hid (Bfs l f T none m) := hbfs.out.done (by rw [← HKL.out.1]; exact Nat.le_refl _) KK.out
        go_wp2_with fail
        go_roundg m
        case measure => omega
        case rel => exact ⟨T, f, k, m, _, _, _, rfl, HQ.out, hm, HD, hbel, hkc, Nat.le_refl _, by omega⟩
      obtain ⟨kk, hkk⟩ : ∃ k, bx.kids[j]? = some k := ⟨_, List.getElem?_eq_getElem (by have := HKL.out.1; omega)⟩
      have hki : I64 kk := HK.out.i64 (List.mem_of_getElem? hkk)
      obtain ⟨bk, ok, rfl, hbk2, q0⟩ := HK.out.at_ hkk
      have q0 := (hbel.out.cell (p := ⟨bk, ok + j, none⟩) (by show bk < _; omega)).trans q0
      have z0 : (0 : Int) ≤ (j : Int) := by omega
      have z1 : (j : Int) < (nk : Int) := by omega
      have hlk := hm.out.look_ok HE.out Tryz.underlying3 Tryz.underlying86 hki
      have HKK := Lib.hid hkk
      clear hkk
      cases hf : f kk with
      | some d =>
        rw [hf] at hlk
        dsimp only [Option.getD_some, Option.isSome_some] at hlk
        have HS := Lib.hid (hbfs.out.skip HKK.out hf)
        clear hf
        go_wp2_with fail
        go_roundg (nk - (j + 1))
        case measure => omega
        case rel => exact ⟨j + 1, T, f, k, _, _, _, by omega, rfl, by go_num, HQ.out, hm, HS, hbel, hkc, hp⟩
      | none =>
        rw [hf] at hlk
        dsimp only [Option.getD_none, Option.isSome_none] at hlk
        obtain ⟨hbxl, ⟨d, hd⟩, _⟩ := hbfs.out.now bx j rfl
        obtain ⟨nd, rfl, _, hnd⟩ := hbfs.out.sound _ _ hd
        have hdn : nd ≤ 2000 := by have := KK.out.short; omega
        have hl2 := hm.out.look HE.out Tryz.underlying3 Tryz.underlying86 (KK.out.ids.i64 hbxl)
        rw [hd] at hl2
        dsimp only [Option.getD_some] at hl2
        have hd1 : I64 ((nd : Int) + 1) := by unfold I64; omega
        have hcl := cntF_le l f
        have HAD := Lib.hid (hbfs.out.add KK.out HKK.out hf hd)
        have HKC2 : Hid (k + 1 + cntF l (putF f kk ((nd : Int) + 1)) ≤ n + 1) := by
          have h1 := hbfs.out.cnt KK.out HKK.out hf ((nd : Int) + 1)
          have h2 := hkc.out
          show _ ≤ _
          omega
        have hkn : k ≤ n + 1 := by have := hkc.out; omega
        have hTn : T.length ≤ 1000000 := by have := hbfs.out.less; have := KK.out.short; have := HN.out.1; omega
        have hn2 : n ≤ 2000 := by have := KK.out.short; have := HN.out.1; omega
        obtain ⟨w5, hup, hm5, hg5⟩ := hm.out.put HE.out Tryz.underlying3 Tryz.underlying86 (by unfold maxLen; omega) hki (a := (nd : Int) + 1) hd1
        have hwr : w.heap.size ≤ wr.heap.size := hbel.out.size
        have hw35 : w3.heap.size < wr.heap.size := hp.out.lt
        have HM5 := Lib.hid hm5
        have HB5 : Hid (Below w.heap.size w w5) := hbel.out.grown hg5 hwr (fun k hk => by injection hk with hk; omega)
        have HQ5' : Hid (Qu w5 w.heap.size (.slice A4 n4 c4) T) := HQ.out.grown hg5 (fun g cur e => by injection e with e; subst e; exact hm.out.no_row _ _)
        have HP5 : Hid (Blk w5 w3.heap.size 38 #[.int .i64 bx.id, .int .i64 bx.parent, .slice (some ⟨bk, ok, none⟩) nk ck, .string bx.text, .slice Ap np cp]) := hp.out.grown hg5 (fun e => by injection e with e; omega)
        have m0 : wr.cell? ⟨w3.heap.size, 0, none⟩ = some (.int .i64 bx.id) := hp.out.cell 0
        have hw5 : wr.heap.size ≤ w5.heap.size := hg5.size
        have HQ6 : Hid (Qu (w5.alloc (.cells #[.int .i64 kk] 3)) w.heap.size (.slice A4 n4 c4) T) := HQ5'.out.alloc _
        have HC6 : Hid ((w5.alloc (.cells #[.int .i64 kk] 3)).cell? ⟨w5.heap.size, 0, none⟩ = some (.int .i64 kk)) := (Blk.new w5 3 #[.int .i64 kk]).cell 0
        have HB6 : Hid (Below w.heap.size w (w5.alloc (.cells #[.int .i64 kk] 3))) := HB5.out.alloc (Nat.le_trans hwr hw5) _
        clear hf hd hg5 hm5 hcl hnd hbxl
        go_wp2_with (at_builtin; refine wpList_push rfl _ _ rfl HQ6.out (by simp; omega) hTn rfl _ _ kk rfl HC6.out ?_)
        intro v' w6 hq6 hb6 hk6 hs6
        obtain ⟨A6, n6, c6, rfl⟩ := hq6.slice
        have HQ7 := Lib.hid hq6
        have HB7 : Hid (Below w.heap.size w w6) := HB6.out.trans hb6
        have HM7 : Hid (IM w6 bm (k + 1) (putF f kk ((nd : Int) + 1))) := (HM5.out.alloc _).kept3 hk6
        have HP7 : Hid (Blk w6 w3.heap.size 38 #[.int .i64 bx.id, .int .i64 bx.parent, .slice (some ⟨bk, ok, none⟩) nk ck, .string bx.text, .slice Ap np cp]) := (HP5.out.alloc _).kept3 hk6 (by decide)
        clear hq6 hb6 hk6 hs6 hup hlk hl2
        go_wp2_with fail
        go_roundg (nk - (j + 1))
        case measure => omega
        case rel => exact ⟨j + 1, T ++ [kk], _, k + 1, _, _, _, by omega, rfl, by go_num, HQ7.out, HM7, HAD, HB7, HKC2, HP7⟩
end Go.Proofs.YtmkicfjcgbfaaaaGreat
namespace Go.Proofs.YtmkicfjcgbfaaaaGreat
open Go.RowKit

set_option maxHeartbeats 4000000 in
/-- tree.Check -/
theorem treeCheck_any (l : List Bl) (f : Int → Option Int) (A : Option Addr) (n c : Nat) (w : World) (B : Nat) (hB : B ≤ w.heap.size) (h : RB w B (.slice A n c) l) (hf : DepOk l f) :
    Calls Tryz.prog 10 #[.slice A n c] w fun e w' => e = .returned (.int .i64 (baseE l f)) ∧ Below w.heap.size w w' := by
  obtain ⟨V, hV⟩ : ∃ V, V = baseE l f := ⟨_, rfl⟩
  rw [← hV]
  unfold baseE at hV
  have hn := h.len
  rw [← hn.1] at hV
  by_cases h0 : n = 0
  · subst h0
    rw [if_pos rfl] at hV
    subst hV
    clear h hn hf
    go_enter Tryz.func10, Tryz.ntmps10
    go_wp2_with fail
    go_ret
    exact ⟨rfl, Below.refl _ _⟩
  rw [if_neg h0] at hV
  have h0' : ((n : Int) == 0) = false := by simpa using h0
  by_cases h1 : 2000 < n
  · rw [if_pos h1] at hV
    have h1' : (2000 : Int) < (n : Int) := by omega
    subst hV
    clear h hn hf h0 h1
    go_enter Tryz.func10, Tryz.ntmps10
    go_wp2_with fail
    go_ret
    exact ⟨rfl, Below.refl _ _⟩
  rw [if_neg h1] at hV
  have h1' : ¬ (2000 : Int) < (n : Int) := by omega
  have HBK := Lib.hid fun (k : Nat) (x : Bl) (W : World) (hx : l[k]? = some x) (hW : Below w.heap.size w W) => checkBlock_any l A n c k x W B (Nat.le_trans hB hW.size) (h.below (hW.mono hB)) hx
  have HCK := Lib.hid fun (W : World) (hr : Rise l) (hi : IdsIn l) (hW : Below w.heap.size w W) => checkKids_any l A n c W B (Nat.le_trans hB hW.size) (h.below (hW.mono hB)) hr hi
  have HDP := Lib.hid fun (W : World) (K : Kids l) (hW : Below w.heap.size w W) => depths_any l A n c W B (Nat.le_trans hB hW.size) (h.below (hW.mono hB)) K
  have HE := Lib.hid (intElem (P := Tryz.prog) (e := 3) Tryz.underlying3 int_zero)
  have H := Lib.hid h
  have HN := Lib.hid hn
  have HV := Lib.hid hV
  have HF := Lib.hid hf
  have H0 := Lib.hid h0
  have H1 := Lib.hid h1
  obtain ⟨U, hU⟩ : ∃ U, U = blksErr none l := ⟨_, rfl⟩
  rw [← hU] at HV
  have HU : Hid (U = blksErr (prevB l 0) (l.drop 0)) := hU
  have HU0 : Hid (U = 0 → blksErr none l = 0) := fun e => hU.symm.trans e
  clear h hn hV hf h0 hU
  go_enter Tryz.func10, Tryz.ntmps10
  go_wp2_with fail
  go_loopg [21] n (fun gg s21 wr => ∃ i : Nat, i + gg = n ∧ s21 = .int .i64 (i : Int) ∧ Hid (U = blksErr (prevB l i) (l.drop i)) ∧ Hid (Below w.heap.size w wr))
  case atStart => exact ⟨0, by omega, rfl, HU, Below.refl _ _⟩
  case round =>
    obtain ⟨i, hig, rfl, hno, hbel⟩ := hrel
    obtain ⟨W1, rfl⟩ : ∃ W1, W1 = wr := ⟨_, rfl⟩
    by_cases hk : i < n
    case pos =>
      obtain ⟨x, hx⟩ : ∃ x, l[i]? = some x := ⟨_, List.getElem?_eq_getElem (by have := HN.out.1; omega)⟩
      have hst := hno.out.trans (blksErr_at hx)
      have HX := HBK.out i x W1 hx hbel.out
      obtain ⟨e, he⟩ : ∃ e, e = blkErr (prevB l i) x := ⟨_, rfl⟩
      rw [← he] at hst HX
      have HX := Lib.hid HX
      have j0 : (0 : Int) ≤ (i : Int) := by omega
      have j1 : (i : Int) < (n : Int) := by omega
      clear hx he
      by_cases hz : e = 0
      · have HS := Lib.hid (hst.trans (if_neg (fun h => h hz)))
        subst hz
        clear hst
        go_wp2_with fail
        refine HX.out.mono ?_
        rintro e w2 ⟨rfl, hb⟩
        have HB2 : Hid (Below w.heap.size w w2) := hbel.out.trans (hb.mono hbel.out.size)
        clear hb
        go_wp2_with fail
        go_roundg (n - (i + 1))
        case measure => omega
        case rel => exact ⟨i + 1, by omega, by go_num, HS, HB2⟩
      · have hs := hst.trans (if_pos hz)
        have HZ := Lib.hid (HV.out.trans ((if_pos (by rw [hs]; exact hz)).trans hs))
        have hz' : (e != 0) = true := by simpa using hz
        clear hst hs hz
        go_wp2_with fail
        refine HX.out.mono ?_
        rintro e' w2 ⟨rfl, hb⟩
        have HB2 : Hid (Below w.heap.size w w2) := hbel.out.trans (hb.mono hbel.out.size)
        clear hb
        go_wp2_with fail
        go_ret
        exact ⟨by rw [HZ.out]; rfl, HB2.out⟩
    case neg =>
    obtain rfl : n = i := by omega
    have hu : U = 0 := hno.out.trans (by rw [List.drop_of_length_le (by rw [← HN.out.1]; exact Nat.le_refl _)]; cases prevB l n <;> rfl)
    have hb0 := HU0.out hu
    have HV2 := Lib.hid (HV.out.trans (if_neg (fun h => h hu)))
    have HX := HCK.out W1 (rise_of hb0) (ids_of hb0) hbel.out
    have HK : Hid (allKids l l = 0 → Kids l) := fun h3 => kids_of (by have := HN.out.1; have := H0.out; omega) (by have := HN.out.1; have := H1.out; omega) hb0 h3
    obtain ⟨e, he⟩ : ∃ e, e = allKids l l := ⟨_, rfl⟩
    rw [← he] at HX HV2 HK
    have HX := Lib.hid HX
    clear he hu hb0 hno
    by_cases hz : e = 0
    case neg =>
      have HZ := Lib.hid (HV2.out.trans (if_pos hz))
      have hz' : (e != 0) = true := by simpa using hz
      clear hz
      go_wp2_with fail
      refine HX.out.mono ?_
      rintro e' w2 ⟨rfl, hb⟩
      have HB2 : Hid (Below w.heap.size w w2) := hbel.out.trans (hb.mono hbel.out.size)
      clear hb
      go_wp2_with fail
      go_ret
      exact ⟨by rw [HZ.out]; rfl, HB2.out⟩
    have KK := Lib.hid (HK.out hz)
    have HV3 := Lib.hid (HV2.out.trans (if_neg (fun h => h hz)))
    subst hz
    clear HV HV2
    go_wp2_with fail
    refine HX.out.mono ?_
    rintro e' w2 ⟨rfl, hb⟩
    have HB2 : Hid (Below w.heap.size w w2) := hbel.out.trans (hb.mono hbel.out.size)
    have HY := Lib.hid (HDP.out w2 KK.out HB2.out)
    clear hb
    go_wp2_with fail
    refine HY.out.mono ?_
    rintro e' w3 ⟨⟨bm, km, f', rfl, hm, hdep⟩, hb⟩
    obtain rfl : f' = f := hdep.uniq (HF.out KK.out)
    have HB3 : Hid (Below w.heap.size w w3) := HB2.out.trans (hb.mono HB2.out.size)
    have HM := Lib.hid hm
    have HD := Lib.hid hdep
    clear hb hm hdep
    go_wp2_with fail
    go_loopg [40] n (fun gg s40 wr => ∃ i : Nat, i + gg = n ∧ s40 = .int .i64 (i : Int) ∧ Hid (V = lvlE f' (l.drop i)) ∧ Hid (IM wr bm km f') ∧ Hid (Below w.heap.size w wr))
    case atStart => exact ⟨0, by omega, rfl, HV3, HM, HB3⟩
    case round =>
      obtain ⟨i, hig, rfl, hno, hm, hbel⟩ := hrel
      by_cases hk : i < n
      case neg =>
        obtain rfl : n = i := by omega
        have hu : V = 0 := hno.out.trans (by rw [List.drop_of_length_le (by rw [← HN.out.1]; exact Nat.le_refl _)]; rfl)
        have HZ := Lib.hid hu
        clear hu
        go_wp2_with fail
        go_ret
        exact ⟨by rw [HZ.out]; rfl, hbel.out⟩
      obtain ⟨x, hx⟩ : ∃ x, l[i]? = some x := ⟨_, List.getElem?_eq_getElem (by have := HN.out.1; omega)⟩
      obtain ⟨b, off, Ak, nk, ck, Ap, np, cp, rfl, hbb, g0, g1, g2, g3, g4, _, _⟩ := (H.out.below (hbel.out.mono hB)).at_ hx
      have hst := hno.out.trans (lvlE_at hx)
      have hxi := KK.out.ids.i64 (List.mem_of_getElem? hx)
      have hlk := (hm.out.alloc (.cells #[.int .i64 x.id, .int .i64 x.parent, .slice Ak nk ck, .string x.text, .slice Ap np cp] 38)).look_ok HE.out Tryz.underlying3 Tryz.underlying86 hxi
      have HMA := Lib.hid (hm.out.alloc (.cells #[.int .i64 x.id, .int .i64 x.parent, .slice Ak nk ck, .string x.text, .slice Ap np cp] 38))
      have HAL := Lib.hid (hbel.out.alloc hbel.out.size (.cells #[.int .i64 x.id, .int .i64 x.parent, .slice Ak nk ck, .string x.text, .slice Ap np cp] 38))
      have j0 : (0 : Int) ≤ (i : Int) := by omega
      have j1 : (i : Int) < (n : Int) := by omega
      clear hx
      cases hfx : f' x.id with
      | none =>
        rw [hfx] at hlk hst
        dsimp only [Option.getD_none, Option.isSome_none] at hlk
        have HZ := Lib.hid (hst.trans (if_pos rfl))
        clear hst hfx
        go_wp2_with fail
        go_ret
        exact ⟨by rw [HZ.out]; rfl, HAL.out⟩
      | some d =>
        rw [hfx] at hlk hst
        dsimp only [Option.getD_some, Option.isSome_some] at hlk hst
        have hst := hst.trans (if_neg (by simp))
        clear hfx
        by_cases hd : 40 < d
        · have HZ := Lib.hid (hst.trans (if_pos hd))
          clear hst
          go_wp2_with fail
          go_ret
          exact ⟨by rw [HZ.out]; rfl, HAL.out⟩
        · have HZ := Lib.hid (hst.trans (if_neg hd))
          clear hst
          go_wp2_with fail
          go_roundg (n - (i + 1))
          case measure => omega
          case rel => exact ⟨i + 1, by omega, by go_num, HZ, HMA, HAL⟩
end Go.Proofs.YtmkicfjcgbfaaaaGreat
namespace Go.Proofs
open Go.Shelf
def Tryz.laysNm215_ren : Go.Shelf.Ren := ⟨fun | 15 => 67 | n => n, fun | 22 => 34 | 3 => 3 | 4 => 4 | n => n, fun | n => n⟩
theorem Tryz.laysNm215 : Go.Proofs.Lays2.n15 Tryz.prog Tryz.laysNm215_ren := {
  mixed := by kernel_rfl
  f15 := Tryz.func67.trans (congrArg some (by kernel_rfl))
  t3 := Tryz.underlying3
  a3 := Tryz.isAgg3
  z3 := Tryz.sizeOf3
  v3 := Tryz.zeroValue3
  t4 := Tryz.underlying4
  a4 := Tryz.isAgg4
  z4 := Tryz.sizeOf4
  v4 := Tryz.zeroValue4
  t22 := Tryz.underlying34
  a22 := Tryz.isAgg34
  z22 := Tryz.sizeOf34
  v22 := Tryz.zeroValue34
  i3 := by kernel_rfl }
open Go.RowKit Go.Lib in
theorem Tryz.slices_Clone_int (b off n c : Nat) (zs : List Int) (w : World) (hz : n ≤ zs.length) (hbig : n * 8 ≤ 140737488355328) (hc : ∀ j, j < zs.length → w.cell? ⟨b, off + j, none⟩ = some (.int .i64 (zs.getD j 0))) :
    Calls Tryz.prog 67 #[.slice (some ⟨b, off, none⟩) n c] w fun e w' => ∃ v', e = .returned v' ∧ w'.ownsRow w.heap.size 3 1 v' n ((zs.take n).map (Value.int .i64)) ∧ v' ≠ .slice none 0 0 ∧ Below w.heap.size w w' := Any.slices_Clone_int Tryz.laysNm215 b off n c zs w hz hbig hc
open Go.RowKit Go.Lib in
theorem Tryz.slices_Clone_int_nil (n c : Nat) (w : World) :
    Calls Tryz.prog 67 #[.slice none n c] w fun e w' => e = .returned (.slice none 0 0) ∧ w' = w := Any.slices_Clone_int_nil Tryz.laysNm215 n c w
open Go.RowKit Go.Lib in
theorem Tryz.slices_Clone_int_zero (a : Addr) (c : Nat) (w : World) :
    Calls Tryz.prog 67 #[.slice (some a) 0 c] w fun e w' => ∃ v', e = .returned v' ∧ w'.ownsRow w.heap.size 3 1 v' 0 [] ∧ v' ≠ .slice none 0 0 ∧ Below w.heap.size w w' := Any.slices_Clone_int_zero Tryz.laysNm215 a c w
end Go.Proofs
namespace Go.Proofs.YtmkicfjcgbfaaaaGreat
open Go.RowKit

set_option maxHeartbeats 400000 in
theorem clipI_any (A : Option Addr) (n c : Nat) (w : World) (hn : n ≤ c) (_h0 : A = none → n = 0 ∧ c = 0) :
    Calls Tryz.prog 63 #[.slice A n c] w fun e w' => e = .returned (.slice A n n) ∧ w' = w := by
  have i0 : (0 : Int) ≤ (n : Int) := by omega
  have i1 : (n : Int) ≤ (c : Int) := by omega
  go_enter Tryz.func63, Tryz.ntmps63
  go_wp2_with fail
  go_ret
  exact ⟨rfl, rfl⟩
/-- a row of ints of the call's own -/
theorem RInX.of_own {w : World} {base n : Nat} {v : Value} {l : List Int} (h : w.ownsRow base 3 1 v n (l.map (.int .i64))) (hn : n = l.length) (hb : n * 8 ≤ 140737488351232) (hl : ∀ x ∈ l, I64 x) : ∃ A c, v = .slice A n c ∧ (A = none → n = 0 ∧ c = 0) ∧ RInX w (fun b => v.ownBlock = some b ∧ base ≤ b ∧ b < w.heap.size) (.slice A n c) l ∧ RInX w (fun b => v.ownBlock = some b ∧ base ≤ b ∧ b < w.heap.size) (.slice A n n) l := by
  obtain ⟨A, c, e, hc, hr⟩ := RdX.of_own h
  refine ⟨A, c, e, fun ha => ?_, ⟨A, n, c, rfl, hn, ⟨hc, hb⟩, hr, hl⟩, ⟨A, n, n, rfl, hn, ⟨Nat.le_refl _, hb⟩, hr, hl⟩⟩
  rcases h.2 with ⟨h, h0⟩ | ⟨g, cap, cur, h, _⟩
  · rw [e] at h; injection h with _ h1 h2
    exact ⟨h1, h2⟩
  · rw [e, ha] at h; injection h with h; cases h
/-- what copying ints leaves -/
def IntsR (l : List Int) (w : World) (e : Ending) (w' : World) : Prop := (∃ A n c, e = .returned (.slice A n c) ∧ (A = none → n = 0 ∧ c = 0) ∧ RInX w' (fun b => w.heap.size ≤ b ∧ b < w'.heap.size) (.slice A n c) l ∧ RInX w' (fun b => w.heap.size ≤ b ∧ b < w'.heap.size) (.slice A n n) l ∧ n ≤ c) ∧ Below w.heap.size w w'
theorem RIn.getD {w : World} {B b off n c : Nat} {l : List Int} (h : RIn w B (.slice (some ⟨b, off, none⟩) n c) l) : ∀ j, j < l.length → w.cell? ⟨b, off + j, none⟩ = some (.int .i64 (l.getD j 0)) := by
  intro j hj
  obtain ⟨b', off', e, _, hc⟩ := h.at_ (List.getElem?_eq_getElem hj)
  injection e with e
  injection e with e1 e2
  subst e1 e2
  rw [hc, List.getD_eq_getElem?_getD, List.getElem?_eq_getElem hj]; rfl
theorem cloneI_any (A : Option Addr) (n c : Nat) (l : List Int) (w : World) (B : Nat) (h : RIn w B (.slice A n c) l) :
    Calls Tryz.prog 67 #[.slice A n c] w (IntsR l w) := by
  have hn := h.len
  have hi : ∀ x ∈ l, I64 x := fun x hx => h.i64 hx
  have key : ∀ (v' : Value) (w' : World), w'.ownsRow w.heap.size 3 1 v' n (l.map (.int .i64)) → Below w.heap.size w w' → IntsR l w (.returned v') w' := fun v' w' ho hb => by
    obtain ⟨A', c', rfl, h0, h1, h2⟩ := RInX.of_own ho hn.1 hn.2.2 hi
    refine ⟨⟨A', n, c', rfl, h0, h1.weak fun b hb => hb.2, h2.weak fun b hb => hb.2, ?_⟩, hb⟩
    obtain ⟨_, _, _, e, _, h3, _⟩ := h1
    injection e with _ e1 e2
    omega
  rcases A with _ | ad
  · have h0 : n = 0 := by
      rcases Nat.eq_zero_or_pos n with g | g
      · exact g
      · obtain ⟨ad, e, _⟩ := h.reads.2 g
        cases e
    subst h0
    have hl : l = [] := List.eq_nil_of_length_eq_zero hn.1.symm
    subst hl
    refine (Tryz.slices_Clone_int_nil 0 c w).mono ?_
    rintro e w' ⟨rfl, rfl⟩
    exact key _ _ (World.ownsRow_nil _ _ _ _) (Below.refl _ _)
  · rcases Nat.eq_zero_or_pos n with g | g
    · subst g
      have hl : l = [] := List.eq_nil_of_length_eq_zero hn.1.symm
      subst hl
      refine (Tryz.slices_Clone_int_zero ad c w).mono ?_
      rintro e w' ⟨v', rfl, ho, _, hb⟩
      exact key _ _ ho hb
    · obtain ⟨b, off, e, _, _⟩ := h.reads.plain g (by omega)
      injection e with e
      subst e
      refine (Tryz.slices_Clone_int b off n c l w (by omega) (by omega) h.getD).mono ?_
      rintro e w' ⟨v', rfl, ho, _, hb⟩
      rw [List.take_of_length_le (by omega)] at ho
      exact key _ _ ho hb
theorem int_info : (Tryz.prog.info? 3).map (fun i => (i.zero, i.size, i.bytes)) = some (some (.int .i64 0), 1, 8) := by kernel_rfl
theorem ints_one (L : List Int) : ∀ u ∈ L.map (Value.int .i64), u.oneCell' = true := by
  intro u hu
  obtain ⟨x, _, rfl⟩ := List.mem_map.1 hu
  rfl
/-- a row of ints of the call's own, at the end -/
theorem IntsR.of_own {w w' : World} {n : Nat} {v : Value} {L : List Int} (h : w'.ownsRow w.heap.size 3 1 v n (L.map (.int .i64))) (hn : n = L.length) (hs : n ≤ 100000) (hL : ∀ x ∈ L, I64 x) (hb : Below w.heap.size w w') : IntsR L w (.returned v) w' := by
  obtain ⟨A, c, rfl, h0, h1, h2⟩ := RInX.of_own h hn (by omega) hL
  refine ⟨⟨A, n, c, rfl, h0, h1.weak fun b hb => hb.2, h2.weak fun b hb => hb.2, ?_⟩, hb⟩
  obtain ⟨_, _, _, e, _, h3, _⟩ := h1
  injection e with _ e1 e2
  omega
theorem RInX.reads1 {w : World} {S : Nat → Prop} {A : Option Addr} {n c B : Nat} {L : List Int} (h : RInX w S (.slice A n c) L) (hS : ∀ b, S b → b < B) : Reads w B 1 A n (L.map (.int .i64)) ∧ n = L.length :=
  ⟨(h.reads hS).reads, (h.reads hS).len.1⟩
end Go.Proofs.YtmkicfjcgbfaaaaGreat
namespace Go.Proofs
open Go.Shelf
def Tryz.lays112_ren : Go.Shelf.Ren := ⟨fun | 112 => 135 | n => n, fun | 28 => 34 | 3 => 3 | 4 => 4 | 0 => 0 | n => n, fun | n => n⟩
theorem Tryz.lays112 : Go.Proofs.Lays.n112 Tryz.prog Tryz.lays112_ren := {
  mixed := by kernel_rfl
  f112 := Tryz.func135.trans (congrArg some (by kernel_rfl))
  t0 := Tryz.underlying0
  a0 := Tryz.isAgg0
  z0 := Tryz.sizeOf0
  v0 := Tryz.zeroValue0
  t3 := Tryz.underlying3
  a3 := Tryz.isAgg3
  z3 := Tryz.sizeOf3
  v3 := Tryz.zeroValue3
  t4 := Tryz.underlying4
  a4 := Tryz.isAgg4
  z4 := Tryz.sizeOf4
  v4 := Tryz.zeroValue4
  t28 := Tryz.underlying34
  a28 := Tryz.isAgg34
  z28 := Tryz.sizeOf34
  v28 := Tryz.zeroValue34 }
open Go.RowKit Go.Lib Go.Sort in
theorem Tryz.slices_Reverse_int (blk off cap : Nat) (zs : List Int) (w : World) (hH : Holds (Value.int .i64) w blk off zs.toArray) (hsz : zs.length ≤ 9223372036854775807) :
    Calls Tryz.prog 135 #[.slice (some ⟨blk, off, none⟩) zs.length cap] w fun e w' => e = .returned (.tuple #[]) ∧ ∃ n, w' = putRow (Value.int .i64) (Sort.ahead w n) blk off zs.reverse.toArray := Any.slices_Reverse_int Tryz.lays112 blk off cap zs w hH hsz
open Go.RowKit Go.Lib Go.Sort in
theorem Tryz.slices_Reverse_int_empty (a : Option Addr) (cap : Nat) (w : World) :
    Calls Tryz.prog 135 #[.slice a 0 cap] w fun e w' => e = .returned (.tuple #[]) ∧ w' = w := Any.slices_Reverse_int_empty Tryz.lays112 a cap w
open Go.RowKit Go.Lib Go.Sort in
theorem Tryz.slices_Reverse_int_cells (b off n c : Nat) (zs : List Int) (w : World) (hz : n ≤ zs.length) (hbig : n ≤ 9223372036854775807) (hc : ∀ j, j < zs.length → w.cell? ⟨b, off + j, none⟩ = some (.int .i64 (zs.getD j 0))) (hf : ∀ j, j < n → w.frozen? ⟨b, off + j, none⟩ = false) :
    Calls Tryz.prog 135 #[.slice (some ⟨b, off, none⟩) n c] w fun e w' => e = .returned (.tuple #[]) ∧ ∃ q, w' = (w.drewN q).setCells b off ((zs.take n).reverse.map (Value.int .i64)) := Any.slices_Reverse_int_cells Tryz.lays112 b off n c zs w hz hbig hc hf
end Go.Proofs
