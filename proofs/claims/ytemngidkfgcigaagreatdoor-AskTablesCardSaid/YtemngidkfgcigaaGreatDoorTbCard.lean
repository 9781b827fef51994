/-
  Proved: for every base, ids, columns and groups florilegium/florlaw1.AskTables returns true and leaves its arguments as they were (its card, tied). Conditions: none beyond the row's own.
-/
import Derived.Test.YtemngidkfgcigaaGreatDoorKa13
import Derived.Test.YtemngidkfgcigaaGreatDoorKa40
import Derived.Test.YtemngidkfgcigaaGreatDoorKa36
import Derived.Test.YtemngidkfgcigaaGreatDoorKa02
import Derived.Shelf.Vars
import Derived.Stop.LaidErr
import Derived.MakeChecks
import Derived.Lib.SmallJoins
namespace Go.Proofs.YtemngidkfgcigaaGreatDoor.askTables
open Go.ChangeShapes Go.WideShapes Go.ChangeAt Go.RowKit Go.Joins
open Go.ChangeMaps (open_string shut_string)

theorem readable : ∀ t ∈ [22, 23, 24, 25, 25], Tryz.prog.readableRec t = true ∧ t < Tryz.prog.types.size := by
  intro t ht
  simp only [List.mem_cons, List.not_mem_nil, or_false] at ht
  rcases ht with rfl | rfl | rfl | rfl | rfl
  all_goals exact ⟨by kernel_rfl, of_decide_eq_true (by kernel_rfl)⟩

set_option maxHeartbeats 1000000 in
set_option maxRecDepth 100000 in
theorem contract (H : Type) (enc : TypeId × Value → H) (W : World) (base : Nat) (args : Array Value) (ds gs : List (DataW H)) (before : List MemPlace)
    (hval : ∀ (j : Nat) t v, Tryz.f3.params[j]? = some t → args[j]? = some v → Value.okWide Tryz.prog W .any base t v)
    (hW : DataW.Whole enc Tryz.prog Tryz.f3.params.toList Rows.askTablesSpec.vars false W args.toList ds gs before)
    (hsz : (DataW.weightsEach Tryz.prog (Tryz.f3.params.toList ++ Rows.askTablesSpec.plain.varTypes Tryz.prog) (ds ++ gs)).all (· ≤ reachBytes) = true) :
    Calls Tryz.prog 3 args W fun e W' => ∃ v, e = .returned v ∧ Rows.askTablesSpec.post enc Tryz.prog Tryz.f3 false true false false W args v W' := by
  have hW' := hW
  obtain ⟨p, q, hA0, hV, rfl, _, _⟩ := hW
  have hA : DataW.TrodAll enc Tryz.prog W 0 (fun _ => true) true Tryz.f3.params.toList args.toList ds p := hA0
  rw [Tryz.params3] at hA hval hsz
  obtain ⟨v0, vs0, d0, ds0, p0, q0, hargs, rfl, rfl, h0, r0⟩ := trodAll_cons hA
  obtain ⟨v1, vs1, d1, ds1, p1, q1, rfl, rfl, rfl, h1, r1⟩ := trodAll_cons r0
  obtain ⟨v2, vs2, d2, ds2, p2, q2, rfl, rfl, rfl, h2, r2⟩ := trodAll_cons r1
  obtain ⟨v3, vs3, d3, ds3, p3, q3, rfl, rfl, rfl, h3, r3⟩ := trodAll_cons r2
  obtain ⟨v4, vs4, d4, ds4, p4, q4, rfl, rfl, rfl, h4, r4⟩ := trodAll_cons r3
  obtain ⟨rfl, rfl, rfl⟩ := trodAll_nil r4
  obtain rfl : args = #[v0, v1, v2, v3, v4] := Array.ext' hargs
  obtain ⟨rfl, rfl⟩ := trodVars_none hV
  clear hA0 hA
  have hsz1 : (DataW.weightsEach Tryz.prog [22, 23, 24, 25, 25] [d0, d1, d2, d3, d4]).all (· ≤ reachBytes) = true := hsz
  have hlt : ∀ x, x ∈ p0 ∨ x ∈ p1 ∨ x ∈ p2 ∨ x ∈ p3 ∨ x ∈ p4 → x.block < W.heap.size := fun x hx => by simpa using hW'.lt x (by simpa using hx)
  obtain ⟨A, n, c, l, rfl, hb⟩ := base_open (hval 0 22 v0 rfl rfl) h0 (fun x hx => hlt x (.inl hx)) (fits_at hsz1 (j := 0) rfl rfl)
  obtain ⟨Ai, ni, ci, ids, rfl, hi⟩ := ids_arg (hval 1 23 v1 rfl rfl) h1 (fun x hx => hlt x (.inr (.inl hx))) (fits_at hsz1 (j := 1) rfl rfl)
  obtain ⟨Ac, nc, cc, cols, rfl, hc⟩ := strs_arg (hval 2 24 v2 rfl rfl) h2 (fun x hx => hlt x (.inr (.inr (.inl hx)))) (fits_at hsz1 (j := 2) rfl rfl)
  obtain ⟨Ax, nx, cx, xs, rfl, hx⟩ := groups_arg (hval 3 25 v3 rfl rfl) h3 (fun x hx => hlt x (.inr (.inr (.inr (.inl hx))))) (fits_at hsz1 (j := 3) rfl rfl)
  obtain ⟨Ay, ny, cy, ys, rfl, hy⟩ := groups_arg (hval 4 25 v4 rfl rfl) h4 (fun x hx => hlt x (.inr (.inr (.inr (.inr hx))))) (fits_at hsz1 (j := 4) rfl rfl)
  refine (tablesLaw_any l A n c ids Ai ni ci cols Ac nc cc xs ys Ax Ay nx cx ny cy W hb hi hc hx hy).mono fun e W' ⟨he, hbel⟩ => ?_
  subst he
  exact ⟨_, rfl, law_post Tryz.laidOut rfl Tryz.underlying4 rfl readable rfl hW' hbel⟩

theorem laid_met (os : Os) (args : Array Value) : laidMet Tryz.prog Rows.askTablesRow.laid ((laidWorld os).forCall (fun _ _ => 0) ⟨#[], args, []⟩).memory :=
  laidMet_of_run' 8 (by kernel_rfl) (by kernel_rfl)
def wArgs : Array Value := #[.slice none 0 0, .slice none 0 0, .slice none 0 0, .slice none 0 0, .slice none 0 0]
theorem witness_row (os : Os) {H : Type} (enc : TypeId × Value → H) :
    (OpenSpec.ofChange Rows.askTablesSpec).preRow enc Tryz.prog Tryz.f3 Rows.askTablesRow.domain false Rows.askTablesRow.laid ((laidWorld os).forCall (fun _ _ => 0) ⟨#[], wArgs, []⟩).memory wArgs := by
  have hw : ((DataW.whole enc Tryz.prog ((laidWorld os).forCall (fun _ _ => 0) ⟨#[], wArgs, []⟩).memory Tryz.f3.params.toList Rows.askTablesSpec.vars false wArgs.toList 8).map (fun x => (x.1, x.2.1))) =
      some ([.nil, .nil, .nil, .nil, .nil], []) := by kernel_rfl
  obtain ⟨⟨x1, x2, x3⟩, hx, hx1⟩ := Option.map_eq_some_iff.1 hw
  simp only [Prod.mk.injEq] at hx1
  obtain ⟨rfl, rfl⟩ := hx1
  exact OpenSpec.preRow_of_cond 8 hx (by kernel_rfl) (fun k hk => by cases hk) (by kernel_rfl) (laid_met os _)

set_option maxRecDepth 100000 in
set_option maxHeartbeats 2000000 in
theorem lifted (os : Os) (started : os.Started) (H : Type) (enc : TypeId × Value → H) (F : Stop.Interp) :
    ReturnsInHanded {} Tryz.checked os 3 .any ((OpenSpec.ofChange Rows.askTablesSpec).preRow enc Tryz.prog Tryz.f3 Rows.askTablesRow.domain false Rows.askTablesRow.laid) (((OpenSpec.ofChange Rows.askTablesSpec).at F).post enc Tryz.prog Tryz.f3 false true false false) := by
  refine returnsInHanded_of_row (C := Tryz.checked) (s := OpenSpec.ofChange Rows.askTablesSpec) Tryz.own started (by kernel_rfl) Tryz.func3
    (witness_row_atRef (enc := enc) (C := Tryz.checked) false (laidWorld os) wArgs rfl (by kernel_rfl) (by kernel_rfl) (by kernel_rfl) (witness_row os enc)) ?_
  intro W base args ds gs before hval hW _ _ hsz _ _ _
  exact contract H enc W base args ds gs before hval hW hsz

theorem said : Rows.AskTablesSaid :=
  OpenClaim.holds_of_cond 3 Tryz.f3 rfl rfl rfl rfl rfl rfl rfl ⟨rfl, rfl, rfl, rfl, rfl⟩ rfl rfl rfl rfl rfl (by kernel_rfl) Tryz.func3 (by kernel_rfl)
    (of_decide_eq_true (by kernel_rfl)) (by unfold Func.isWrapper; first | (rw [if_pos (by decide +kernel)]; kernel_rfl) | (rw [if_neg (by decide +kernel)]; exact ⟨rfl, rfl⟩))
    (fun os started H enc _ F => by rw [OpenClaim.pre_eq_preRow]; exact lifted os started H enc F)

theorem plain (f : FuncId) (fn : Func) (hf : Tryz.pinned.checked.prog.funcNamed "florilegium/florlaw1.AskTables" = some f) (hfn : Tryz.pinned.checked.prog.funcs[f]? = some fn) :
    true = Tryz.pinned.checked.prog.looks [] ∧ ∀ (j : Nat) t, fn.params[j]? = some t → Tryz.pinned.checked.prog.wantsStandIn t = false := by
  obtain rfl : f = 3 := Option.some.inj ((show Tryz.prog.funcNamed "florilegium/florlaw1.AskTables" = some 3 by kernel_rfl).symm.trans hf) |>.symm
  obtain rfl : fn = Tryz.f3 := (Option.some.inj (Tryz.func3.symm.trans hfn)).symm
  refine ⟨by kernel_rfl, fun j t ht => ?_⟩
  rw [Tryz.params3] at ht
  have hm : t ∈ [22, 23, 24, 25, 25] := by simpa using Array.mem_of_getElem? ht
  simp only [List.mem_cons, List.not_mem_nil, or_false] at hm
  rcases hm with rfl | rfl | rfl | rfl | rfl
  · exact (show Tryz.prog.wantsStandIn 22 = false by kernel_rfl)
  · exact (show Tryz.prog.wantsStandIn 23 = false by kernel_rfl)
  · exact (show Tryz.prog.wantsStandIn 24 = false by kernel_rfl)
  · exact (show Tryz.prog.wantsStandIn 25 = false by kernel_rfl)
  · exact (show Tryz.prog.wantsStandIn 25 = false by kernel_rfl)

theorem card : Rows.AskTablesCardSaid :=
  Claim7.holds_tied_plain_at .later [] _ _ _ _ said (fun _ h => by cases h) (by kernel_rfl) (fun _ h => by cases h) askTables_row_tie rfl ⟨rfl, rfl⟩ (by kernel_rfl) rfl plain (by kernel_rfl)
end Go.Proofs.YtemngidkfgcigaaGreatDoor.askTables
