/-
  Proved: for all stamps and operations florilegium/florlaw1.CopyOps returns true and leaves its arguments as they were (its card, tied). Conditions: none beyond the row's own.
-/
import Derived.Test.YtinllchioeldbaaGreatDoorLawBase
import Derived.Test.YtinllchioeldbaaGreatDoorCpOpen
import Derived.Test.YtinllchioeldbaaGreatDoorCpLaw
import Derived.Test.YtinllchioeldbaaGreatDoorCpWorld
import Derived.MakeChecks
import Derived.Lib.SmallJoins
import Derived.Lib.LaidU8
import Derived.Stop.LaidErr
import Derived.Deep.Strs
namespace Go.Proofs.YtinllchioeldbaaGreatDoor.copyOps
open Go.ChangeShapes Go.WideShapes Go.ChangeAt Go.RowKit Go.Joins Go.Deep
open Go.ChangeMaps (open_string shut_string)

theorem Tryz.laidOut : laidOutB Tryz.prog = true := by kernel_rfl
/-- what came in reads behind the call as before it -/
theorem trodAll_below {H : Type} {enc : TypeId × Value → H} {P : Program} (hl : laidOutB P = true) {W W' : World} (hb : Below W.heap.size W W') : ∀ {ts : List TypeId} {vs : List Value} {ds : List (DataW H)} {ps : List MemPlace},
    (∀ t ∈ ts, P.readableRec t = true ∧ t < P.types.size) → DataW.TrodAll enc P W 0 (fun _ => true) true ts vs ds ps → (∀ x ∈ ps, x.block < W.heap.size) →
    DataW.TrodAll enc P W' 0 (fun b => decide (b < W.heap.size)) true ts vs ds ps
  | [], _, _, _, _, h, _ => by
    obtain ⟨rfl, rfl, rfl⟩ := trodAll_nil h
    exact trodAll_mk0
  | t :: ts, _, _, _, hr, h, hp => by
    obtain ⟨v, vs, d, ds, p, q, rfl, rfl, rfl, h0, h1⟩ := trodAll_cons h
    exact trodAll_cons_mk (Below.trod hl (hr t (by simp)).1 (hr t (by simp)).2 h0 hb (fun x hx => hp x (List.mem_append_left _ hx)))
      (trodAll_below hl hb (fun t ht => hr t (List.mem_cons_of_mem _ ht)) h1 (fun x hx => hp x (List.mem_append_right _ hx)))
/-- a part of what is read fits -/
theorem fits_at {H : Type} {P : Program} {ts : List TypeId} {ds : List (DataW H)} (h : (DataW.weightsEach P ts ds).all (· ≤ reachBytes) = true) {j : Nat} {t : TypeId} {d : DataW H} (ht : ts[j]? = some t) (hd : ds[j]? = some d) : Fits P t d := fun n hn => by
  simpa using List.all_eq_true.1 h n (DataW.weights_mem_each ht hd n hn)
theorem law_post {H : Type} {enc : TypeId × Value → H} {P : Program} {f : Func} {s : ChangeSpec} {W W' : World} {args : Array Value} {ds : List (DataW H)} {ps : List MemPlace} {tb : TypeId}
    (hl : laidOutB P = true) (hvars : s.vars = []) (hb2 : P.underlying tb = some .bool) (hres : f.resultTypes = #[tb]) (hr : ∀ t ∈ f.params.toList, P.readableRec t = true ∧ t < P.types.size)
    (hfn : s.fn H (ds ++ []) = { results := [.lit (.bool true)], args := ds })
    (hW : DataW.Whole enc P f.params.toList s.vars false W args.toList ds [] ps) (hb : Below W.heap.size W W') :
    s.post enc P f false true false false W args (.bool true) W' := by
  have hW2 := hW
  obtain ⟨p, q, hA, hV, rfl, _, _⟩ := hW2
  rw [hvars] at hV
  obtain ⟨_, hq⟩ := trodVars_none hV
  subst hq
  refine ⟨ds, [], _, [], p, [], hW, ?_, ?_, ?_, hb.frame _, fun h => by cases h⟩
  · rw [hfn, hres]
    exact trodAll_mk1 (shut_bool hb2 true)
  · rw [hfn]
    exact trodAll_below hl hb hr hA (fun x hx => by simpa using hW.lt x (by simpa using hx))
  · rw [hvars, hfn]
    exact rfl

theorem cells_stamp : Tryz.prog.cellsOf 23 = 2 := by kernel_rfl
set_option maxRecDepth 100000 in
/-- a stamp that came in, by value -/
theorem stamp_arg {H : Type} {enc : TypeId × Value → H} {W : World} {r : Reach} {b0 : Nat} {v : Value} {d : DataW H} {p : List MemPlace} (hv : Value.okWide Tryz.prog W r b0 23 v) (h : DataW.Trod enc Tryz.prog W 0 (fun _ => true) true 23 v d p) : ∃ s : Stp, v = stA s := by
  obtain ⟨c0, c1, y0, y1, n, rfl, rfl, rfl, g0, g1⟩ := open_agg2 Tryz.underlying23 (by kernel_rfl) cells_stamp hv h
  obtain ⟨x0, e0, rfl, _⟩ := DataW.trod_int Tryz.underlying3 g0
  simp at e0
  subst e0
  obtain ⟨x1, e1, rfl, _⟩ := DataW.trod_int Tryz.underlying3 g1
  simp at e1
  subst e1
  exact ⟨⟨x0, x1⟩, rfl⟩
theorem ba_of {b : ByteArray} {l : List UInt8} (h : l = b.data.toList) : b = ⟨l.toArray⟩ := by
  subst h
  rfl
/-- the reference's words of the kinds, as the row lists them -/
theorem opW_of_reads {w : World} (h : Lib.VarReads Tryz.prog w "florilegium/florref1.opWords" Rows.laid_florilegium_florref1_opWords) : OpW w := by
  obtain ⟨g', t', cs, fuel, p, hg, hty, hvar, hd⟩ := h
  obtain rfl := Option.some.inj ((show Tryz.prog.globalNamed "florilegium/florref1.opWords" = some 0 by kernel_rfl).symm.trans hg)
  obtain rfl := Option.some.inj ((show (Tryz.prog.globals[0]?).map (·.type) = some 62 by kernel_rfl).symm.trans hty)
  rcases open_strs Tryz.underlying62 Tryz.underlying9 (by kernel_rfl) hd with ⟨_, hx⟩ | ⟨a, len, cap, m, Sx, hcs, _, hl, _, hm, hx, hcell⟩
  · cases hx
  simp only [if_true] at hm
  subst hm
  have e0 := congrArg Prod.fst hx
  simp only [Rows.laid_florilegium_florref1_opWords, DataW.slice.injEq] at e0
  obtain ⟨eE, _⟩ := e0
  have hlen : len = 7 := by
    have := congrArg List.length eE
    simpa using this.symm
  subst hlen
  have hz : ∀ i, i < 7 → w.cell? (a.add i) = some (.string (Sx i)) := fun i hi => (hcell i (by omega)).1
  simp only [List.range_succ, List.range_zero, List.map_append, List.map_cons, List.map_nil, List.nil_append, List.cons_append, List.cons.injEq, DataW.lit.injEq, Lit.string.injEq, and_true] at eE
  obtain ⟨k0, k1, k2, k3, k4, k5, k6⟩ := eE
  have hc0 : w.cell? ⟨0, 0, none⟩ = some (.slice (some a) 7 m) := by
    rw [World.var?_cell (show Tryz.prog.globalNamed "florilegium/florref1.opWords" = some 0 by kernel_rfl) hvar 0, ← Array.getElem?_toList, hcs]
    rfl
  refine ⟨some a, m, hc0, ⟨rfl, fun _ => ⟨a, rfl, World.block_lt_of_cell? w _ (hz 0 (by omega)), fun j u hu => ?_⟩⟩⟩
  have hj : j < 7 := by
    rcases Nat.lt_or_ge j 7 with h | h
    · exact h
    · rw [List.getElem?_eq_none (by simpa [opwL] using h)] at hu; cases hu
  rw [hz j hj, ← hu]
  rcases (show j = 0 ∨ j = 1 ∨ j = 2 ∨ j = 3 ∨ j = 4 ∨ j = 5 ∨ j = 6 by omega) with rfl | rfl | rfl | rfl | rfl | rfl | rfl
  · rw [ba_of k0]; rfl
  · rw [ba_of k1]; rfl
  · rw [ba_of k2]; rfl
  · rw [ba_of k3]; rfl
  · rw [ba_of k4]; rfl
  · rw [ba_of k5]; rfl
  · rw [ba_of k6]; rfl
theorem opW_of_laid {W : World} (h : laidMet Tryz.prog Rows.copyOpsRow.laid W) : OpW W := opW_of_reads (Lib.laidMet.reads h (List.mem_cons_of_mem _ (List.mem_cons_of_mem _ (List.mem_cons_of_mem _ (List.mem_cons_self ..)))))

theorem readable : ∀ t ∈ [23, 23, 24], Tryz.prog.readableRec t = true ∧ t < Tryz.prog.types.size := by
  intro t ht
  simp only [List.mem_cons, List.not_mem_nil, or_false] at ht
  rcases ht with rfl | rfl | rfl
  · exact ⟨by kernel_rfl, of_decide_eq_true (by kernel_rfl)⟩
  · exact ⟨by kernel_rfl, of_decide_eq_true (by kernel_rfl)⟩
  · exact ⟨by kernel_rfl, of_decide_eq_true (by kernel_rfl)⟩

set_option maxHeartbeats 1000000 in
set_option maxRecDepth 100000 in
theorem contract (H : Type) (enc : TypeId × Value → H) (W : World) (base : Nat) (args : Array Value) (ds gs : List (DataW H)) (before : List MemPlace)
    (hval : ∀ (j : Nat) t v, Tryz.f3.params[j]? = some t → args[j]? = some v → Value.okWide Tryz.prog W .any base t v)
    (hW : DataW.Whole enc Tryz.prog Tryz.f3.params.toList Rows.copyOpsSpec.vars false W args.toList ds gs before)
    (hsz : (DataW.weightsEach Tryz.prog (Tryz.f3.params.toList ++ Rows.copyOpsSpec.plain.varTypes Tryz.prog) (ds ++ gs)).all (· ≤ reachBytes) = true) (hL : laidMetH Tryz.prog Rows.copyOpsRow.laid W) :
    Calls Tryz.prog 3 args W fun e W' => ∃ v, e = .returned v ∧ Rows.copyOpsSpec.post enc Tryz.prog Tryz.f3 false true false false W args v W' := by
  have hW' := hW
  obtain ⟨p, q, hA0, hV, rfl, _, _⟩ := hW
  have hA : DataW.TrodAll enc Tryz.prog W 0 (fun _ => true) true Tryz.f3.params.toList args.toList ds p := hA0
  rw [Tryz.params3] at hA hval hsz
  obtain ⟨v0, vs0, d0, ds0, p0, q0, hargs, rfl, rfl, h0, r0⟩ := trodAll_cons hA
  obtain ⟨v1, vs1, d1, ds1, p1, q1, rfl, rfl, rfl, h1, r1⟩ := trodAll_cons r0
  obtain ⟨v2, vs2, d2, ds2, p2, q2, rfl, rfl, rfl, h2, r2⟩ := trodAll_cons r1
  obtain ⟨rfl, rfl, rfl⟩ := trodAll_nil r2
  obtain rfl : args = #[v0, v1, v2] := Array.ext' hargs
  obtain ⟨rfl, rfl⟩ := trodVars_none hV
  clear hA0 hA
  have hsz1 : (DataW.weightsEach Tryz.prog [23, 23, 24] [d0, d1, d2]).all (· ≤ reachBytes) = true := hsz
  have q2l : ∀ x ∈ p2, x.block < W.heap.size := fun x hx => by simpa using hW'.lt x (by simp [hx])
  obtain ⟨a, rfl⟩ := stamp_arg (hval 0 23 v0 rfl rfl) h0
  obtain ⟨a', rfl⟩ := stamp_arg (hval 1 23 v1 rfl rfl) h1
  obtain ⟨A, n, c, l, rfl, hr⟩ := cops_open (hval 2 24 v2 rfl rfl) h2 q2l (fits_at hsz1 (j := 2) rfl rfl)
  have h0' : laidMet Tryz.prog Rows.copyOpsRow.laid W := by rw [← MakeChecks.laidMetH_plain _ _ _ (by kernel_rfl)]; exact hL
  have hP : Pow W := Lib.tabIs_of_head (g := 2) (by kernel_rfl) (by kernel_rfl) Tryz.underlying136 Tryz.underlying119 (by kernel_rfl) (by kernel_rfl) h0'.tail.tail
  have hO : OpW W := opW_of_laid h0'
  refine (law_any a a' l A n c W W.heap.size (Nat.le_refl _) hr hP hO).mono fun e W' ⟨he, hbel⟩ => ?_
  subst he
  exact ⟨_, rfl, law_post Tryz.laidOut rfl Tryz.underlying4 rfl readable rfl hW' hbel⟩

theorem laid_met (os : Os) (args : Array Value) : laidMet Tryz.prog Rows.copyOpsRow.laid ((laidWorldC os).forCall (fun _ _ => 0) ⟨#[], args, []⟩).memory :=
  laidMet_of_run' 8 (by kernel_rfl) (by kernel_rfl)
def wArgs : Array Value := #[.agg #[.int .i64 0, .int .i64 0], .agg #[.int .i64 0, .int .i64 0], .slice none 0 0]
theorem witness_row (os : Os) {H : Type} (enc : TypeId × Value → H) :
    (OpenSpec.ofChange Rows.copyOpsSpec).preRow enc Tryz.prog Tryz.f3 Rows.copyOpsRow.domain false Rows.copyOpsRow.laid ((laidWorldC os).forCall (fun _ _ => 0) ⟨#[], wArgs, []⟩).memory wArgs := by
  have hw : ((DataW.whole enc Tryz.prog ((laidWorldC os).forCall (fun _ _ => 0) ⟨#[], wArgs, []⟩).memory Tryz.f3.params.toList Rows.copyOpsSpec.vars false wArgs.toList 8).map (fun x => (x.1, x.2.1))) =
      some ([.agg [.lit (.int .i64 0), .lit (.int .i64 0)], .agg [.lit (.int .i64 0), .lit (.int .i64 0)], .nil], []) := by kernel_rfl
  obtain ⟨⟨x1, x2, x3⟩, hx, hx1⟩ := Option.map_eq_some_iff.1 hw
  simp only [Prod.mk.injEq] at hx1
  obtain ⟨rfl, rfl⟩ := hx1
  exact OpenSpec.preRow_of_cond 8 hx (by kernel_rfl) (fun k hk => by cases hk) (by kernel_rfl) (laid_met os _)

set_option maxRecDepth 100000 in
set_option maxHeartbeats 2000000 in
theorem lifted (os : Os) (started : os.Started) (H : Type) (enc : TypeId × Value → H) (F : Stop.Interp) :
    ReturnsInHanded {} Tryz.checked os 3 .any ((OpenSpec.ofChange Rows.copyOpsSpec).preRow enc Tryz.prog Tryz.f3 Rows.copyOpsRow.domain false Rows.copyOpsRow.laid) (((OpenSpec.ofChange Rows.copyOpsSpec).at F).post enc Tryz.prog Tryz.f3 false true false false) := by
  refine returnsInHanded_of_row (C := Tryz.checked) (s := OpenSpec.ofChange Rows.copyOpsSpec) Tryz.own started (by kernel_rfl) Tryz.func3
    (witness_row_atRef (enc := enc) (C := Tryz.checked) false (laidWorldC os) wArgs rfl (by kernel_rfl) (by kernel_rfl) (by kernel_rfl) (witness_row os enc)) ?_
  intro W base args ds gs before hval hW _ _ hsz hL _ _
  exact contract H enc W base args ds gs before hval hW hsz hL

theorem said : Rows.CopyOpsSaid :=
  OpenClaim.holds_of_cond 3 Tryz.f3 rfl rfl rfl rfl rfl rfl rfl ⟨rfl, rfl, rfl, rfl, rfl⟩ rfl rfl rfl rfl rfl (by kernel_rfl) Tryz.func3 (by kernel_rfl)
    (of_decide_eq_true (by kernel_rfl)) (by unfold Func.isWrapper; first | (rw [if_pos (by decide +kernel)]; kernel_rfl) | (rw [if_neg (by decide +kernel)]; exact ⟨rfl, rfl⟩))
    (fun os started H enc _ F => by rw [OpenClaim.pre_eq_preRow]; exact lifted os started H enc F)

theorem plain (f : FuncId) (fn : Func) (hf : Tryz.pinned.checked.prog.funcNamed "florilegium/florlaw1.CopyOps" = some f) (hfn : Tryz.pinned.checked.prog.funcs[f]? = some fn) :
    true = Tryz.pinned.checked.prog.looks [] ∧ ∀ (j : Nat) t, fn.params[j]? = some t → Tryz.pinned.checked.prog.wantsStandIn t = false := by
  obtain rfl : f = 3 := Option.some.inj ((show Tryz.prog.funcNamed "florilegium/florlaw1.CopyOps" = some 3 by kernel_rfl).symm.trans hf) |>.symm
  obtain rfl : fn = Tryz.f3 := (Option.some.inj (Tryz.func3.symm.trans hfn)).symm
  refine ⟨by kernel_rfl, fun j t ht => ?_⟩
  rw [Tryz.params3] at ht
  have hm : t ∈ [23, 23, 24] := by simpa using Array.mem_of_getElem? ht
  simp only [List.mem_cons, List.not_mem_nil, or_false] at hm
  rcases hm with rfl | rfl | rfl
  · exact (show Tryz.prog.wantsStandIn 23 = false by kernel_rfl)
  · exact (show Tryz.prog.wantsStandIn 23 = false by kernel_rfl)
  · exact (show Tryz.prog.wantsStandIn 24 = false by kernel_rfl)

theorem card : Rows.CopyOpsCardSaid :=
  Claim7.holds_tied_plain_at .later [] _ _ _ _ said (fun _ h => by cases h) (by kernel_rfl) (fun _ h => by cases h) copyOps_row_tie rfl ⟨rfl, rfl⟩ (by kernel_rfl) rfl plain (by kernel_rfl)
end Go.Proofs.YtinllchioeldbaaGreatDoor.copyOps
