/-
  Proved: for every two lists of files, florlaw1.ShowChanges returns true and leaves its arguments as they were. Conditions: none beyond the row's own.
-/
import Derived.Test.YtnmgigfhcanplaaOpenStructs
import Derived.Test.YtnmgigfhcanplaaChLaw
import Derived.Test.YtnmgigfhcanplaaChSort
namespace Go.Proofs.Ytnmgigfhcanplaa.changes
open Go.ChangeShapes Go.WideShapes Go.ChangeAt Go.RowKit Go.Joins Go.Deep
open Go.ChangeMaps (open_string shut_string)

theorem cells_file : Try.prog.cellsOf 36 = 2 := by kernel_rfl
theorem readable : ∀ t ∈ [22, 22], Try.prog.readableRec t = true ∧ t < Try.prog.types.size := by
  intro t ht
  simp only [List.mem_cons, List.not_mem_nil, or_false, or_self] at ht
  subst ht
  exact ⟨by kernel_rfl, of_decide_eq_true (by kernel_rfl)⟩

theorem slice_cap {H : Type} {enc : TypeId × Value → H} {P : Program} {W : World} {t e : TypeId} {fs : Array Field} {A : Option Addr} {len cap : Nat} {d : DataW H} {p : List MemPlace} (ht : P.underlying t = some (.slice e)) (he : P.underlying e = some (.struct fs))
    (hone : oneCellFields P fs = true) (hc : P.cellsOf e = fs.size) (h : DataW.Trod enc P W 0 (fun _ => true) true t (.slice A len cap) d p) : len ≤ cap ∧ cap ≤ maxLen := by
  obtain ⟨fuel, hf⟩ := h
  rcases open_slice_fields ht he hone hc hf with ⟨hcs, hx⟩ | ⟨a, len', cap', m, D, Pl, hcs, _, hl, hm, hmm, hx, hi⟩
  · simp [Value.cells] at hcs
    obtain ⟨rfl, rfl, rfl⟩ := hcs
    exact ⟨Nat.le_refl _, Nat.zero_le _⟩
  · simp [Value.cells] at hcs
    obtain ⟨rfl, rfl, rfl⟩ := hcs
    exact ⟨hl, hm⟩

/-- a row of two cells is a file -/
theorem row_file {H : Type} {enc : TypeId × Value → H} {W : World} {row : List Value} (h : row.length = 2)
    (hf : ∀ (j : Nat) (f : Field), (Try.prog.fieldsOf 36)[j]? = some f → ∃ (u : Value) (y : DataW H × List MemPlace) (n : Nat), row[j]? = some u ∧ DataW.trod enc Try.prog W 0 (fun _ => true) true n f.type [u] = some y ∧ Fits Try.prog f.type y.1 ∧ ∀ x ∈ y.2, x.block < W.heap.size) :
    ∃ e : F, row = [.string e.1, .string e.2] ∧ e.1.size ≤ maxLen ∧ e.2.size ≤ maxLen := by
  obtain ⟨u0, y0, n0, r0, t0, h0, _⟩ := hf 0 _ rfl
  obtain ⟨u1, y1, n1, r1, t1, h1, _⟩ := hf 1 _ rfl
  obtain ⟨f, e0, rfl, _⟩ := DataW.trod_string Try.underlying9 t0
  obtain ⟨t, e1, rfl, _⟩ := DataW.trod_string Try.underlying9 t1
  simp at e0 e1
  subst e0 e1
  refine ⟨(f, t), ?_, Nat.le_trans h0.string (by decide), Nat.le_trans h1.string (by decide)⟩
  match row, h with
  | [a, b], _ =>
    simp at r0 r1
    subst r0 r1
    rfl

set_option maxHeartbeats 1000000 in
set_option maxRecDepth 100000 in
theorem lifted (os : Os) (started : os.Started) (H : Type) (enc : TypeId × Value → H) :
    ReturnsInHanded {} Try.checked os 3 .any (Rows.showChangesSpec.pre6 enc Try.prog Try.f3 Rows.showChangesRow.domain false) (Rows.showChangesSpec.post enc Try.prog Try.f3 false true false false) := by
  refine returnsInHanded_of_change_sized (C := Try.checked) Try.own started (by kernel_rfl) Try.func3
    (ChangeSpec.witness6 (enc := enc) (C := Try.checked) false ⟨#[], #[.slice none 0 0, .slice none 0 0], []⟩ 8 (by kernel_rfl) (by kernel_rfl) (by kernel_rfl) (by kernel_rfl)) ?_
  intro W base args ds gs before hval0 hW _ hsz0 _
  have hsz : (DataW.weightsEach Try.prog (Try.f3.params.toList ++ Rows.showChangesSpec.plain.varTypes Try.prog) (ds ++ gs)).all (· ≤ reachBytes) = true := hsz0
  have hval : ∀ (j : Nat) t v, Try.f3.params[j]? = some t → args[j]? = some v → Value.okWide Try.prog W .any base t v := hval0
  have hW' := hW
  obtain ⟨p, q, hA0, hV, rfl, _, _⟩ := hW
  have hA : DataW.TrodAll enc Try.prog W 0 (fun _ => true) true Try.f3.params.toList args.toList ds p := hA0
  rw [Try.params3] at hA hval hsz
  obtain ⟨v0, v1, d0, d1, p0, p1, hargs, rfl, rfl, h0, h1⟩ := trodAll_two hA
  obtain rfl : args = #[v0, v1] := by simpa using hargs
  obtain ⟨rfl, rfl⟩ := trodVars_none hV
  clear hA0 hval0 hA hsz0
  have hsz1 : (DataW.weightsEach Try.prog [22, 22] [d0, d1]).all (· ≤ reachBytes) = true := hsz
  have hlt0 : ∀ x ∈ p0, x.block < W.heap.size := fun x hx => by simpa using hW'.lt x (by simp [hx])
  have hlt1 : ∀ x ∈ p1, x.block < W.heap.size := fun x hx => by simpa using hW'.lt x (by simp [hx])
  obtain ⟨A1, n1, c1, rows1, rfl, hn1, _, _, hr1, hrow1⟩ := reads_structs Try.underlying22 Try.underlying36 (by kernel_rfl) cells_file (by decide) (hval 0 22 v0 rfl rfl) h0 hlt0 (fits_at hsz1 (j := 0) rfl rfl)
  obtain ⟨A2, n2, c2, rows2, rfl, hn2, _, _, hr2, hrow2⟩ := reads_structs Try.underlying22 Try.underlying36 (by kernel_rfl) cells_file (by decide) (hval 1 22 v1 rfl rfl) h1 hlt1 (fits_at hsz1 (j := 1) rfl rfl)
  obtain ⟨hc1, hm1⟩ := slice_cap Try.underlying22 Try.underlying36 (by kernel_rfl) cells_file h0
  obtain ⟨hc2, hm2⟩ := slice_cap Try.underlying22 Try.underlying36 (by kernel_rfl) cells_file h1
  obtain ⟨L1, rfl, hs1⟩ := exists_map (g := fun e : F => [Value.string e.1, Value.string e.2]) (Q := fun e => e.1.size ≤ maxLen ∧ e.2.size ≤ maxLen) rows1 (fun row h => row_file (hrow1 row h).1 (hrow1 row h).2)
  obtain ⟨L2, rfl, hs2⟩ := exists_map (g := fun e : F => [Value.string e.1, Value.string e.2]) (Q := fun e => e.1.size ≤ maxLen ∧ e.2.size ≤ maxLen) rows2 (fun row h => row_file (hrow2 row h).1 (hrow2 row h).2)
  rw [List.length_map] at hn1 hn2
  subst hn1 hn2
  refine (show_any sortLaw A1 A2 c1 c2 L1 L2 W (by rw [show rowsF L1 = (L1.map fun e : F => [Value.string e.1, Value.string e.2]).flatten from (List.flatMap_def ..)]; exact hr1) (by rw [show rowsF L2 = (L2.map fun e : F => [Value.string e.1, Value.string e.2]).flatten from (List.flatMap_def ..)]; exact hr2) hs1 hs2 hc1 hc2 hm1 hm2).mono fun e W' ⟨he, hbel⟩ => ?_
  subst he
  exact ⟨_, rfl, law_post Try.laidOut rfl Try.underlying4 rfl readable rfl hW' hbel⟩

theorem changes_holds : Rows.ShowChangesSaid :=
  OpenClaim.holds_of_wide 3 Try.f3 rfl rfl rfl rfl rfl rfl rfl ⟨rfl, rfl, rfl, rfl, rfl⟩ rfl rfl rfl rfl rfl (by kernel_rfl) Try.func3 (by kernel_rfl)
    (of_decide_eq_true (by kernel_rfl)) (by unfold Func.isWrapper; first | (rw [if_pos (by decide +kernel)]; kernel_rfl) | (rw [if_neg (by decide +kernel)]; exact ⟨rfl, rfl⟩))
    (fun os started H enc _ => lifted os started H enc)
end Go.Proofs.Ytnmgigfhcanplaa.changes
