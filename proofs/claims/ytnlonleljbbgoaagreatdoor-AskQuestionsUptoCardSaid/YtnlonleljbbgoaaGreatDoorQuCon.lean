/-
  DERIVED. The contract of the law AskQuestions. Conditions: none. By an AI agent.
-/
import Derived.Test.YtnlonleljbbgoaaGreatDoorKf04
import Derived.Test.YtnlonleljbbgoaaGreatDoorKf17
import Derived.Test.YtnlonleljbbgoaaGreatDoorKf05
import Derived.Test.YtnlonleljbbgoaaGreatDoorKf02
import Derived.Shelf.Vars
import Derived.Stop.LaidErr
import Derived.MakeChecks
import Derived.Lib.SmallJoins
namespace Go.Proofs.YtnlonleljbbgoaaGreatDoor.askQuestions
open Go.ChangeShapes Go.WideShapes Go.ChangeAt Go.RowKit Go.Joins
open Go.ChangeMaps (open_string shut_string)

theorem readable : ∀ t ∈ [30], Tryz.prog.readableRec t = true ∧ t < Tryz.prog.types.size := by
  intro t ht
  simp only [List.mem_cons, List.not_mem_nil, or_false] at ht
  subst ht
  exact ⟨by kernel_rfl, of_decide_eq_true (by kernel_rfl)⟩

set_option maxHeartbeats 1000000 in
set_option maxRecDepth 100000 in
theorem contract (H : Type) (enc : TypeId × Value → H) (W : World) (base : Nat) (args : Array Value) (ds gs : List (DataW H)) (before : List MemPlace)
    (hval : ∀ (j : Nat) t v, Tryz.f3.params[j]? = some t → args[j]? = some v → Value.okWide Tryz.prog W .any base t v)
    (hW : DataW.Whole enc Tryz.prog Tryz.f3.params.toList Rows.askQuestionsSpec.vars false W args.toList ds gs before)
    (hk : Rows.uptoSmall H (ds ++ gs) = true)
    (hsz : (DataW.weightsEach Tryz.prog (Tryz.f3.params.toList ++ Rows.askQuestionsSpec.plain.varTypes Tryz.prog) (ds ++ gs)).all (· ≤ reachBytes) = true) (hL : laidMetH Tryz.prog Rows.askQuestionsUptoRow.laid W) :
    Calls Tryz.prog 3 args W fun e W' => ∃ v, e = .returned v ∧ Rows.askQuestionsSpec.post enc Tryz.prog Tryz.f3 false true false false W args v W' := by
  have hW' := hW
  obtain ⟨p, q, hA0, hV, rfl, _, _⟩ := hW
  have hA : DataW.TrodAll enc Tryz.prog W 0 (fun _ => true) true Tryz.f3.params.toList args.toList ds p := hA0
  rw [Tryz.params3] at hA hval hsz
  obtain ⟨v0, vs0, d0, ds0, p0, q0, hargs, rfl, rfl, h0, r0⟩ := trodAll_cons hA
  obtain ⟨rfl, rfl, rfl⟩ := trodAll_nil r0
  obtain rfl : args = #[v0] := Array.ext' hargs
  obtain ⟨rfl, rfl⟩ := trodVars_none hV
  clear hA0 hA
  have hsz1 : (DataW.weightsEach Tryz.prog [30] [d0]).all (· ≤ reachBytes) = true := hsz
  have q0l : ∀ x ∈ p0, x.block < W.heap.size := fun x hx => by simpa using hW'.lt x (by simp [hx])
  obtain ⟨dd, c, Ai, ni, ci, Ak, nk, ck, l, As, ns, cs, g, m, rfl, hc, hsr, hbk⟩ := question_arg (hval 0 30 v0 rfl rfl) h0 q0l (fits_at hsz1 (j := 0) rfl rfl)
  have hb := of_decide_eq_true hk
  simp only [List.cons_append, List.nil_append, Rows.uptoBulkAll] at hb
  have hP : Pow W := by
    have h0 : laidMet Tryz.prog Rows.askQuestionsUptoRow.laid W := by rw [← MakeChecks.laidMetH_plain _ _ _ (by kernel_rfl)]; exact hL
    exact Lib.tabIs_of_head (g := 1) (by kernel_rfl) (by kernel_rfl) Tryz.underlying221 Tryz.underlying187 (by kernel_rfl) (by kernel_rfl) h0.tail.tail
  refine (questionsLaw_any dd c Ai ni ci Ak nk ck l As ns cs g m W.heap.size W (Nat.le_refl _) hc (by omega) hsr hP).mono fun e W' ⟨he, hbel⟩ => ?_
  subst he
  exact ⟨_, rfl, law_post Tryz.laidOut rfl Tryz.underlying4 rfl readable rfl hW' hbel⟩
end Go.Proofs.YtnlonleljbbgoaaGreatDoor.askQuestions
