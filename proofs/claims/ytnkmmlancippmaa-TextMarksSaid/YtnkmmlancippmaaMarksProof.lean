/-
  Proved: for every list of marks, every edit and both values of the flag, florlaw1.TextMarks returns true and leaves its arguments as they were. Conditions: none beyond the row's own.
-/
import Derived.Test.YtnkmmlancippmaaLawBase
import Derived.Test.YtnkmmlancippmaaMarksLaw
namespace Go.Proofs.Ytnkmmlancippmaa.marks
open Go.ChangeShapes Go.WideShapes Go.ChangeAt Go.RowKit Go.Joins

theorem cells_int : Try.prog.cellsOf 3 = 1 := by kernel_rfl
theorem bytes_int : Try.prog.bytesOf 3 = 8 := by kernel_rfl
theorem cells_edit : Try.prog.cellsOf 24 = 3 := by kernel_rfl
theorem readable : ∀ t ∈ [22, 24, 4], Try.prog.readableRec t = true ∧ t < Try.prog.types.size := by
  intro t ht
  simp only [List.mem_cons, List.not_mem_nil, or_false] at ht
  rcases ht with rfl | rfl | rfl
  · exact ⟨by kernel_rfl, of_decide_eq_true (by kernel_rfl)⟩
  · exact ⟨by kernel_rfl, of_decide_eq_true (by kernel_rfl)⟩
  · exact ⟨by kernel_rfl, of_decide_eq_true (by kernel_rfl)⟩

set_option maxHeartbeats 1000000 in
set_option maxRecDepth 100000 in
theorem lifted (os : Os) (started : os.Started) (H : Type) (enc : TypeId × Value → H) :
    ReturnsInHanded {} Try.checked os 3 .any (Rows.textMarksSpec.pre6 enc Try.prog Try.f3 Rows.textMarksRow.domain false) (Rows.textMarksSpec.post enc Try.prog Try.f3 false true false false) := by
  refine returnsInHanded_of_change_sized (C := Try.checked) Try.own started (by kernel_rfl) Try.func3
    (ChangeSpec.witness6 (enc := enc) (C := Try.checked) false ⟨#[], #[.slice none 0 0, .agg #[.int .i64 0, .int .i64 0, .string ⟨#[]⟩], .bool false], []⟩ 8 (by kernel_rfl) (by kernel_rfl) (by kernel_rfl) (by kernel_rfl)) ?_
  intro W base args ds gs before hval0 hW _ hsz0 _
  have hsz : (DataW.weightsEach Try.prog (Try.f3.params.toList ++ Rows.textMarksSpec.plain.varTypes Try.prog) (ds ++ gs)).all (· ≤ reachBytes) = true := hsz0
  have hval : ∀ (j : Nat) t v, Try.f3.params[j]? = some t → args[j]? = some v → Value.okWide Try.prog W .any base t v := hval0
  have hW' := hW
  obtain ⟨p, q, hA0, hV, rfl, _, _⟩ := hW
  have hA : DataW.TrodAll enc Try.prog W 0 (fun _ => true) true Try.f3.params.toList args.toList ds p := hA0
  rw [Try.params3] at hA hval hsz
  obtain ⟨v0, v1, v2, d0, d1, d2, p0, p1, p2, hargs, rfl, rfl, h0, h1, h2⟩ := trodAll_three hA
  obtain rfl : args = #[v0, v1, v2] := by simpa using hargs
  obtain ⟨rfl, rfl⟩ := trodVars_none hV
  clear hA0 hval0 hA hsz0
  have hsz1 : (DataW.weightsEach Try.prog [22, 24, 4] [d0, d1, d2]).all (· ≤ reachBytes) = true := hsz
  obtain ⟨b, rfl, rfl, rfl⟩ := open_bool Try.underlying4 (hval 2 4 v2 rfl rfl) h2
  obtain ⟨c0, c1, c2, y0, y1, y2, n, rfl, rfl, rfl, g0, g1, g2⟩ := open_agg3 Try.underlying24 (by kernel_rfl) cells_edit (hval 1 24 v1 rfl rfl) h1
  obtain ⟨f, e0, rfl, wf⟩ := DataW.trod_int Try.underlying3 g0
  obtain ⟨t, e1, rfl, wt⟩ := DataW.trod_int Try.underlying3 g1
  obtain ⟨s, e2, rfl, ws⟩ := DataW.trod_string Try.underlying9 g2
  simp at e0 e1 e2
  subst e0 e1 e2
  have hlt : ∀ x ∈ p0, x.block < W.heap.size := fun x hx => by simpa using hW'.lt x (by simp [hx])
  obtain ⟨A, len, cap, zs, rfl, hr, hl, _⟩ := reads_ints Try.underlying22 Try.underlying3 cells_int bytes_int (hval 0 22 v0 rfl rfl) h0 hlt (fits_at hsz1 (j := 0) rfl rfl)
  have hs := ((fits_at hsz1 (j := 1) rfl rfl).part Try.underlying24 (j := 2) rfl rfl).string
  refine (marks_any A len cap zs f t s b W hr hl hs (i64_bounds wt).2).mono fun e W' ⟨he, hb⟩ => ?_
  subst he
  exact ⟨_, rfl, law_post Try.laidOut rfl Try.underlying4 rfl readable rfl hW' hb⟩

theorem marks_holds : Rows.TextMarksSaid :=
  OpenClaim.holds_of_wide 3 Try.f3 rfl rfl rfl rfl rfl rfl rfl ⟨rfl, rfl, rfl, rfl, rfl⟩ rfl rfl rfl rfl rfl (by kernel_rfl) Try.func3 (by kernel_rfl)
    (of_decide_eq_true (by kernel_rfl)) (by unfold Func.isWrapper; first | (rw [if_pos (by decide +kernel)]; kernel_rfl) | (rw [if_neg (by decide +kernel)]; exact ⟨rfl, rfl⟩))
    (fun os started H enc _ => lifted os started H enc)
end Go.Proofs.Ytnkmmlancippmaa.marks
