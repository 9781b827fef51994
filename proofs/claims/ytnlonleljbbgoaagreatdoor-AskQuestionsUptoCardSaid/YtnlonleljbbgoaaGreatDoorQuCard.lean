/-
  Proved: for every question of bulk at most 1048576 florilegium/florlaw1.AskQuestions returns true and leaves its argument as it was (its card, tied). Conditions: none beyond the row's own. By an AI agent.
-/
import Derived.Test.YtnlonleljbbgoaaGreatDoorQuWit
namespace Go.Proofs.YtnlonleljbbgoaaGreatDoor.askQuestions
open Go.ChangeShapes Go.WideShapes Go.ChangeAt Go.RowKit Go.Joins
open Go.ChangeMaps (open_string shut_string)

theorem and_mk {a b : Bool} (h : a = true) (k : b = true) : (a && b) = true := by rw [h, k]; rfl
theorem fnamed : Tryz.pinned.checked.prog.funcNamed Rows.askQuestionsUptoRow.func = some 3 := by kernel_rfl
set_option maxHeartbeats 8000000 in
theorem closedF : joinedFacts Tryz.pinned.checked.prog 3 Tryz.f3 (Rows.OpenSpec.upto Rows.askQuestionsSpec).bare Rows.askQuestionsUptoRow = true := by
  unfold joinedFacts
  repeat' (with_reducible refine and_mk ?_ ?_)
  all_goals (as_aux_lemma => kernel_rfl)
theorem instF : Tryz.f3.isInstance Tryz.pinned.checked.prog Rows.askQuestionsUptoRow.origin Rows.askQuestionsUptoRow.targs := of_decide_eq_true (by kernel_rfl)
theorem wrapF : Tryz.f3.isWrapper Tryz.pinned.checked.prog Rows.askQuestionsUptoRow.wrapper Rows.askQuestionsUptoRow.mainSum := by unfold Func.isWrapper; first | (rw [if_pos (by decide +kernel)]; kernel_rfl) | (rw [if_neg (by decide +kernel)]; exact ⟨rfl, rfl⟩)
theorem said : Rows.AskQuestionsUptoSaid :=
  OpenClaim.holds_of_cond 3 Tryz.f3 rfl rfl rfl rfl rfl rfl rfl ⟨rfl, rfl, rfl, rfl, rfl⟩ rfl rfl rfl rfl rfl fnamed Tryz.func3 closedF instF wrapF
    (fun os started H enc _ F => by rw [OpenClaim.pre_eq_preRow]; exact lifted os started H enc F)

theorem plain (f : FuncId) (fn : Func) (hf : Tryz.pinned.checked.prog.funcNamed "florilegium/florlaw1.AskQuestions" = some f) (hfn : Tryz.pinned.checked.prog.funcs[f]? = some fn) :
    true = Tryz.pinned.checked.prog.looks [] ∧ ∀ (j : Nat) t, fn.params[j]? = some t → Tryz.pinned.checked.prog.wantsStandIn t = false := by
  obtain rfl : f = 3 := Option.some.inj ((show Tryz.prog.funcNamed "florilegium/florlaw1.AskQuestions" = some 3 by kernel_rfl).symm.trans hf) |>.symm
  obtain rfl : fn = Tryz.f3 := (Option.some.inj (Tryz.func3.symm.trans hfn)).symm
  refine ⟨by kernel_rfl, fun j t ht => ?_⟩
  rw [Tryz.params3] at ht
  have hm : t ∈ [30] := by simpa using Array.mem_of_getElem? ht
  simp only [List.mem_cons, List.not_mem_nil, or_false] at hm
  subst hm
  exact (show Tryz.prog.wantsStandIn 30 = false by kernel_rfl)

theorem card : Rows.AskQuestionsUptoCardSaid :=
  Claim7.holds_tied_plain_at .later [] _ _ _ _ said (fun _ h => by cases h) (by kernel_rfl) (fun _ h => by cases h) askQuestionsUpto_row_tie rfl ⟨rfl, rfl⟩ (by kernel_rfl) rfl plain (by kernel_rfl)
end Go.Proofs.YtnlonleljbbgoaaGreatDoor.askQuestions
