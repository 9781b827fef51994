/-
  Proved: for every two strings and every list of edits, florlaw1.TextEdits returns true and leaves its arguments as they were. Conditions: none beyond the row's own.
-/
import Derived.Test.YtnkmmlancippmaaOpenStructs
import Derived.Test.YtnkmmlancippmaaEditsLaw
namespace Go.Proofs.Ytnkmmlancippmaa.edits
open Go.ChangeShapes Go.WideShapes Go.ChangeAt Go.RowKit Go.Joins
open Go.ChangeMaps (open_string shut_string)

theorem cells_edit : Try.prog.cellsOf 24 = 3 := by kernel_rfl
theorem bytes_edit : Try.prog.bytesOf 24 = 32 := by kernel_rfl
theorem readable : ∀ t ∈ [9, 28, 9], Try.prog.readableRec t = true ∧ t < Try.prog.types.size := by
  intro t ht
  simp only [List.mem_cons, List.not_mem_nil, or_false] at ht
  rcases ht with rfl | rfl | rfl
  · exact ⟨by kernel_rfl, of_decide_eq_true (by kernel_rfl)⟩
  · exact ⟨by kernel_rfl, of_decide_eq_true (by kernel_rfl)⟩
  · exact ⟨by kernel_rfl, of_decide_eq_true (by kernel_rfl)⟩

/-- a row of three cells is an edit -/
theorem row_edit {H : Type} {enc : TypeId × Value → H} {W : World} {row : List Value} (h : row.length = 3)
    (hf : ∀ (j : Nat) (f : Field), (Try.prog.fieldsOf 24)[j]? = some f → ∃ (u : Value) (y : DataW H × List MemPlace) (n : Nat), row[j]? = some u ∧ DataW.trod enc Try.prog W 0 (fun _ => true) true n f.type [u] = some y ∧ Fits Try.prog f.type y.1 ∧ ∀ x ∈ y.2, x.block < W.heap.size) :
    ∃ e : Ed, row = edCell e ∧ e.with_.size ≤ 140737488351232 := by
  obtain ⟨u0, y0, n0, r0, t0, _, _⟩ := hf 0 _ rfl
  obtain ⟨u1, y1, n1, r1, t1, _, _⟩ := hf 1 _ rfl
  obtain ⟨u2, y2, n2, r2, t2, h2, _⟩ := hf 2 _ rfl
  obtain ⟨f, e0, rfl, _⟩ := DataW.trod_int Try.underlying3 t0
  obtain ⟨t, e1, rfl, _⟩ := DataW.trod_int Try.underlying3 t1
  obtain ⟨s, e2, rfl, _⟩ := DataW.trod_string Try.underlying9 t2
  simp at e0 e1 e2
  subst e0 e1 e2
  refine ⟨⟨f, t, s⟩, ?_, h2.string⟩
  match row, h with
  | [a, b, c], _ =>
    simp at r0 r1 r2
    subst r0 r1 r2
    rfl

set_option maxHeartbeats 1000000 in
set_option maxRecDepth 100000 in
theorem lifted (os : Os) (started : os.Started) (H : Type) (enc : TypeId × Value → H) :
    ReturnsInHanded {} Try.checked os 4 .any (Rows.textEditsSpec.pre6 enc Try.prog Try.f4 Rows.textEditsRow.domain false) (Rows.textEditsSpec.post enc Try.prog Try.f4 false true false false) := by
  refine returnsInHanded_of_change_sized (C := Try.checked) Try.own started (by kernel_rfl) Try.func4
    (ChangeSpec.witness6 (enc := enc) (C := Try.checked) false ⟨#[], #[.string ⟨#[]⟩, .slice none 0 0, .string ⟨#[]⟩], []⟩ 8 (by kernel_rfl) (by kernel_rfl) (by kernel_rfl) (by kernel_rfl)) ?_
  intro W base args ds gs before hval0 hW _ hsz0 _
  have hsz : (DataW.weightsEach Try.prog (Try.f4.params.toList ++ Rows.textEditsSpec.plain.varTypes Try.prog) (ds ++ gs)).all (· ≤ reachBytes) = true := hsz0
  have hval : ∀ (j : Nat) t v, Try.f4.params[j]? = some t → args[j]? = some v → Value.okWide Try.prog W .any base t v := hval0
  have hW' := hW
  obtain ⟨p, q, hA0, hV, rfl, _, _⟩ := hW
  have hA : DataW.TrodAll enc Try.prog W 0 (fun _ => true) true Try.f4.params.toList args.toList ds p := hA0
  rw [Try.params4] at hA hval hsz
  obtain ⟨v0, v1, v2, d0, d1, d2, p0, p1, p2, hargs, rfl, rfl, h0, h1, h2⟩ := trodAll_three hA
  obtain rfl : args = #[v0, v1, v2] := by simpa using hargs
  obtain ⟨rfl, rfl⟩ := trodVars_none hV
  clear hA0 hval0 hA hsz0
  have hsz1 : (DataW.weightsEach Try.prog [9, 28, 9] [d0, d1, d2]).all (· ≤ reachBytes) = true := hsz
  have hlt : ∀ x ∈ p1, x.block < W.heap.size := fun x hx => by simpa using hW'.lt x (by simp [hx])
  obtain ⟨A, len, cap, rows, rfl, hlen, hmax, _, hr, hrow⟩ := reads_structs Try.underlying28 Try.underlying24 (by kernel_rfl) cells_edit (by decide) (hval 1 28 v1 rfl rfl) h1 hlt (fits_at hsz1 (j := 1) rfl rfl)
  obtain ⟨es, rfl, hes⟩ := exists_map (g := edCell) (Q := fun e => e.with_.size ≤ 140737488351232) rows (fun row h => row_edit (hrow row h).1 (hrow row h).2)
  obtain ⟨s, rfl, rfl, rfl, ws⟩ := open_string Try.underlying9 (hval 0 9 v0 rfl rfl) h0
  obtain ⟨b, rfl, rfl, rfl, wb⟩ := open_string Try.underlying9 (hval 2 9 v2 rfl rfl) h2
  have hs := (fits_at hsz1 (j := 0) rfl rfl).string
  have hb := (fits_at hsz1 (j := 2) rfl rfl).string
  refine (edits_any s b A len cap es W W.heap.size (by rw [show edCells es = (es.map edCell).flatten from (List.flatMap_def ..)]; exact hr) (Nat.le_refl _) hs hb hes hmax).mono fun e W' ⟨he, hbel⟩ => ?_
  subst he
  exact ⟨_, rfl, law_post Try.laidOut rfl Try.underlying4 rfl readable rfl hW' hbel⟩

theorem edits_holds : Rows.TextEditsSaid :=
  OpenClaim.holds_of_wide 4 Try.f4 rfl rfl rfl rfl rfl rfl rfl ⟨rfl, rfl, rfl, rfl, rfl⟩ rfl rfl rfl rfl rfl (by kernel_rfl) Try.func4 (by kernel_rfl)
    (of_decide_eq_true (by kernel_rfl)) (by unfold Func.isWrapper; first | (rw [if_pos (by decide +kernel)]; kernel_rfl) | (rw [if_neg (by decide +kernel)]; exact ⟨rfl, rfl⟩))
    (fun os started H enc _ => lifted os started H enc)
end Go.Proofs.Ytnkmmlancippmaa.edits
