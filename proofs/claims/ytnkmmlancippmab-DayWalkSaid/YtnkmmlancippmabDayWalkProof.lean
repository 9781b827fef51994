/-
  Proved: for every number, florkeep2.DayWalk returns true. Conditions: none beyond the row's own.
-/
import Derived.Test.YtnkmmlancippmabLawBase
import Derived.Test.YtnkmmlancippmabDayWalk
namespace Go.Proofs.Ytnkmmlancippmab.dayWalk
open Go.ChangeShapes Go.WideShapes Go.ChangeAt Go.RowKit

theorem readable : ∀ t ∈ [3], Try.prog.readableRec t = true ∧ t < Try.prog.types.size := by
  intro t ht
  simp only [List.mem_cons, List.not_mem_nil, or_false] at ht
  subst ht
  exact ⟨by kernel_rfl, of_decide_eq_true (by kernel_rfl)⟩

set_option maxHeartbeats 1000000 in
set_option maxRecDepth 100000 in
theorem lifted (os : Os) (started : os.Started) (H : Type) (enc : TypeId × Value → H) :
    ReturnsInHanded {} Try.checked os 3 .any (Rows.dayWalkSpec.pre6 enc Try.prog Try.f3 Rows.dayWalkRow.domain false) (Rows.dayWalkSpec.post enc Try.prog Try.f3 false true false false) := by
  refine returnsInHanded_of_change_sized (C := Try.checked) Try.own started (by kernel_rfl) Try.func3
    (ChangeSpec.witness6 (enc := enc) (C := Try.checked) false ⟨#[], #[.int .i64 0], []⟩ 8 (by kernel_rfl) (by kernel_rfl) (by kernel_rfl) (by kernel_rfl)) ?_
  intro W base args ds gs before hval0 hW _ _ _
  have hval : ∀ (j : Nat) t v, Try.f3.params[j]? = some t → args[j]? = some v → Value.okWide Try.prog W .any base t v := hval0
  have hW' := hW
  obtain ⟨p, q, hA0, hV, rfl, _, _⟩ := hW
  have hA : DataW.TrodAll enc Try.prog W 0 (fun _ => true) true Try.f3.params.toList args.toList ds p := hA0
  rw [Try.params3] at hA hval
  obtain ⟨v0, d0, hargs, rfl, h0⟩ := trodAll_one hA
  obtain rfl : args = #[v0] := by simpa using hargs
  obtain ⟨rfl, rfl⟩ := trodVars_none hV
  clear hA0 hval0 hA
  obtain ⟨d, rfl, rfl, rfl, wd⟩ := open_int Try.underlying3 (hval 0 3 v0 rfl rfl) h0
  have key : Calls Try.prog 3 #[.int .i64 d] W fun e w' => e = .returned (.bool true) ∧ Below W.heap.size W w' := by
    by_cases h : d < 0
    · exact dayWalk_low d W h
    · by_cases h' : d < 100000
      · exact dayWalk_mid d W (by omega) h'
      · exact dayWalk_high d W (by omega)
  refine key.mono fun e W' ⟨he, hb⟩ => ?_
  subst he
  exact ⟨_, rfl, law_post Try.laidOut rfl Try.underlying4 rfl readable rfl hW' hb⟩

theorem dayWalk_holds : Rows.DayWalkSaid :=
  OpenClaim.holds_of_wide 3 Try.f3 rfl rfl rfl rfl rfl rfl rfl ⟨rfl, rfl, rfl, rfl, rfl⟩ rfl rfl rfl rfl rfl (by kernel_rfl) Try.func3 (by kernel_rfl)
    (of_decide_eq_true (by kernel_rfl)) (by unfold Func.isWrapper; first | (rw [if_pos (by decide +kernel)]; kernel_rfl) | (rw [if_neg (by decide +kernel)]; exact ⟨rfl, rfl⟩))
    (fun os started H enc _ => lifted os started H enc)
end Go.Proofs.Ytnkmmlancippmab.dayWalk
