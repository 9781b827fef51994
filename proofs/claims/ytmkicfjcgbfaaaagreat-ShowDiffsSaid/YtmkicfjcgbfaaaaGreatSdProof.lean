/-
  Proved: for all bases, florlaw1.ShowDiffs returns true and leaves its arguments as they were. Conditions: none beyond the row's own.
-/
import Derived.Test.YtmkicfjcgbfaaaaGreatTm04
import Derived.Test.YtmkicfjcgbfaaaaGreatSdLaw
namespace Go.Proofs.YtmkicfjcgbfaaaaGreat.showDiffs
open Go.ChangeShapes Go.WideShapes Go.ChangeAt Go.RowKit Go.Joins Go.Deep

theorem readable : ∀ t ∈ [22, 22], Tryz.prog.readableRec t = true ∧ t < Tryz.prog.types.size := by
  intro t ht
  simp only [List.mem_cons, List.not_mem_nil, or_false] at ht
  rcases ht with rfl | rfl
  · exact ⟨by kernel_rfl, of_decide_eq_true (by kernel_rfl)⟩
  · exact ⟨by kernel_rfl, of_decide_eq_true (by kernel_rfl)⟩

set_option maxHeartbeats 1000000 in
set_option maxRecDepth 100000 in
theorem lifted (os : Os) (started : os.Started) (H : Type) (enc : TypeId × Value → H) :
    ReturnsInHanded {} Tryz.checked os 5 .any (Rows.showDiffsSpec.pre6 enc Tryz.prog Tryz.f5 Rows.showDiffsRow.domain false) (Rows.showDiffsSpec.post enc Tryz.prog Tryz.f5 false true false false) := by
  refine returnsInHanded_of_change_sized (C := Tryz.checked) Tryz.own started (by kernel_rfl) Tryz.func5
    (ChangeSpec.witness6 (enc := enc) (C := Tryz.checked) false ⟨#[], #[.slice none 0 0, .slice none 0 0], []⟩ 8 (by kernel_rfl) (by kernel_rfl) (by kernel_rfl) (by kernel_rfl)) ?_
  intro W base args ds gs before hval0 hW _ hsz0 _
  have hsz : (DataW.weightsEach Tryz.prog (Tryz.f5.params.toList ++ Rows.showDiffsSpec.plain.varTypes Tryz.prog) (ds ++ gs)).all (· ≤ reachBytes) = true := hsz0
  have hval : ∀ (j : Nat) t v, Tryz.f5.params[j]? = some t → args[j]? = some v → Value.okWide Tryz.prog W .any base t v := hval0
  have hW' := hW
  obtain ⟨p, q, hA0, hV, rfl, _, _⟩ := hW
  have hA : DataW.TrodAll enc Tryz.prog W 0 (fun _ => true) true Tryz.f5.params.toList args.toList ds p := hA0
  rw [Tryz.params5] at hA hval hsz
  obtain ⟨v0, v1, d0, d1, p0, p1, hargs, rfl, rfl, h0, h1⟩ := trodAll_two hA
  obtain rfl : args = #[v0, v1] := by simpa using hargs
  obtain ⟨rfl, rfl⟩ := trodVars_none hV
  clear hA0 hval0 hA hsz0
  have hsz1 : (DataW.weightsEach Tryz.prog [22, 22] [d0, d1]).all (· ≤ reachBytes) = true := hsz
  have hlt : ∀ x, x ∈ p0 ∨ x ∈ p1 → x.block < W.heap.size := fun x hx => by simpa using hW'.lt x (by simp; omega)
  obtain ⟨A1, n1, c1, l, rfl, hr1⟩ := base_open (hval 0 22 v0 rfl rfl) h0 (fun x hx => hlt x (.inl hx)) (fits_at hsz1 (j := 0) rfl rfl)
  obtain ⟨A2, n2, c2, l2, rfl, hr2⟩ := base_open (hval 1 22 v1 rfl rfl) h1 (fun x hx => hlt x (.inr hx)) (fits_at hsz1 (j := 1) rfl rfl)
  obtain ⟨f, hf⟩ := DepOk.exists l
  obtain ⟨f2, hf2⟩ := DepOk.exists l2
  refine (sdLaw_any l l2 f f2 hf hf2 A1 A2 n1 c1 n2 c2 W hr1 hr2).mono fun e W' ⟨he, hbel⟩ => ?_
  subst he
  exact ⟨_, rfl, law_post Tryz.laidOut rfl Tryz.underlying4 rfl readable rfl hW' hbel⟩

theorem showDiffs_holds : Rows.ShowDiffsSaid :=
  OpenClaim.holds_of_wide 5 Tryz.f5 rfl rfl rfl rfl rfl rfl rfl ⟨rfl, rfl, rfl, rfl, rfl⟩ rfl rfl rfl rfl rfl (by kernel_rfl) Tryz.func5 (by kernel_rfl)
    (of_decide_eq_true (by kernel_rfl)) (by unfold Func.isWrapper; first | (rw [if_pos (by decide +kernel)]; kernel_rfl) | (rw [if_neg (by decide +kernel)]; exact ⟨rfl, rfl⟩))
    (fun os started H enc _ => lifted os started H enc)
end Go.Proofs.YtmkicfjcgbfaaaaGreat.showDiffs
