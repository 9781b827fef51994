/-
  Proved: for every two strings and every edit, florkeep1.TextBack returns true and leaves its arguments as they were. Conditions: none beyond the row's own.
-/
import Derived.Test.YtcbmddgafkoooaaDoorLawBase
import Derived.Test.YtcbmddgafkoooaaDoorOpenStructs
import Derived.Test.YtcbmddgafkoooaaDoorTextBackAny
import Derived.Test.YtcbmddgafkoooaaDoorCards
import Derived.Test.YtcbmddgafkoooaaDoorTie
import Derived.Deep.DeepHandedRow
import Derived.Lib.LaidTab
namespace Go.Proofs.YtcbmddgafkoooaaDoor.back
open Go.ChangeShapes Go.WideShapes Go.ChangeAt Go.RowKit Go.Joins
open Go.ChangeMaps (open_string shut_string)

theorem cells_edit : Tryd.prog.cellsOf 32 = 3 := by kernel_rfl
theorem readable : ∀ t ∈ [9, 32, 9], Tryd.prog.readableRec t = true ∧ t < Tryd.prog.types.size := by
  intro t ht
  simp only [List.mem_cons, List.not_mem_nil, or_false] at ht
  rcases ht with rfl | rfl | rfl
  · exact ⟨by kernel_rfl, of_decide_eq_true (by kernel_rfl)⟩
  · exact ⟨by kernel_rfl, of_decide_eq_true (by kernel_rfl)⟩
  · exact ⟨by kernel_rfl, of_decide_eq_true (by kernel_rfl)⟩

set_option maxHeartbeats 1000000 in
set_option maxRecDepth 100000 in
theorem contract (H : Type) (enc : TypeId × Value → H) (W : World) (base : Nat) (args : Array Value) (ds gs : List (DataW H)) (before : List MemPlace)
    (hval : ∀ (j : Nat) t v, Tryd.f4.params[j]? = some t → args[j]? = some v → Value.okWide Tryd.prog W .any base t v)
    (hW : DataW.Whole enc Tryd.prog Tryd.f4.params.toList Rows.textBackSpec.vars false W args.toList ds gs before)
    (hsz : (DataW.weightsEach Tryd.prog (Tryd.f4.params.toList ++ Rows.textBackSpec.plain.varTypes Tryd.prog) (ds ++ gs)).all (· ≤ reachBytes) = true) :
    Calls Tryd.prog 4 args W fun e W' => ∃ v, e = .returned v ∧ Rows.textBackSpec.post enc Tryd.prog Tryd.f4 false true false false W args v W' := by
  have hW' := hW
  obtain ⟨p, q, hA0, hV, rfl, _, _⟩ := hW
  have hA : DataW.TrodAll enc Tryd.prog W 0 (fun _ => true) true Tryd.f4.params.toList args.toList ds p := hA0
  rw [Tryd.params4] at hA hval hsz
  obtain ⟨v0, v1, v2, d0, d1, d2, p0, p1, p2, hargs, rfl, rfl, h0, h1, h2⟩ := trodAll_three hA
  obtain rfl : args = #[v0, v1, v2] := by simpa using hargs
  obtain ⟨rfl, rfl⟩ := trodVars_none hV
  clear hA0 hA
  have hsz1 : (DataW.weightsEach Tryd.prog [9, 32, 9] [d0, d1, d2]).all (· ≤ reachBytes) = true := hsz
  obtain ⟨s, rfl, rfl, rfl, ws⟩ := open_string Tryd.underlying9 (hval 0 9 v0 rfl rfl) h0
  obtain ⟨c0, c1, c2, y0, y1, y2, n, rfl, rfl, rfl, g0, g1, g2⟩ := open_agg3 Tryd.underlying32 (by kernel_rfl) cells_edit (hval 1 32 v1 rfl rfl) h1
  obtain ⟨f, e0, rfl, wf⟩ := DataW.trod_int Tryd.underlying3 g0
  obtain ⟨t, e1, rfl, wt⟩ := DataW.trod_int Tryd.underlying3 g1
  obtain ⟨x, e2, rfl, wx⟩ := DataW.trod_string Tryd.underlying9 g2
  simp at e0 e1 e2
  subst e0 e1 e2
  obtain ⟨b, rfl, rfl, rfl, wb⟩ := open_string Tryd.underlying9 (hval 2 9 v2 rfl rfl) h2
  have hs := (fits_at hsz1 (j := 0) rfl rfl).string
  have hx := ((fits_at hsz1 (j := 1) rfl rfl).part Tryd.underlying32 (j := 2) rfl rfl).string
  have hb := (fits_at hsz1 (j := 2) rfl rfl).string
  refine (textBack_any s x b f t W hs hx hb).mono fun e W' ⟨he, hbel⟩ => ?_
  subst he
  exact ⟨_, rfl, law_post Tryd.laidOut rfl Tryd.underlying4 rfl readable rfl hW' hbel⟩
end Go.Proofs.YtcbmddgafkoooaaDoor.back
