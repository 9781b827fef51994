/-
  Proved: for every three values, florkeep2.ValueOrder returns true and leaves its arguments as they were. Conditions: none beyond the row's own.
-/
import Derived.Test.YtnkmmlancippmabIsValOpen
import Derived.Test.YtnkmmlancippmabValueOrder
namespace Go.Proofs.Ytnkmmlancippmab.valueOrder
open Go.ChangeShapes Go.WideShapes Go.ChangeAt Go.RowKit

theorem readable : ∀ t ∈ [33, 33, 33], Try.prog.readableRec t = true ∧ t < Try.prog.types.size := by
  intro t ht
  simp only [List.mem_cons, List.not_mem_nil, or_false, or_self] at ht
  subst ht
  exact ⟨by kernel_rfl, of_decide_eq_true (by kernel_rfl)⟩

/-- a struct argument as its cells, a tree in memory -/
theorem open_val {H : Type} {enc : TypeId × Value → H} {W : World} {r : Reach} {b0 : Nat} {v : Value} {d : DataW H} {p : List MemPlace} (hv : Value.okWide Try.prog W r b0 33 v) (h : DataW.Trod enc Try.prog W 0 (fun _ => true) true 33 v d p)
    (hp : ∀ x ∈ p, x.block < W.heap.size) (hfit : Fits Try.prog 33 d) : ∃ n t x0 x1 x2 x3 x4 x5 x6, v = .agg #[.int .i64 x0, .int .i64 x1, .int .i64 x2, .string x3, .slice x4 x5 x6] ∧ IsVal W W.heap.size n t [.int .i64 x0, .int .i64 x1, .int .i64 x2, .string x3, .slice x4 x5 x6] := by
  obtain ⟨cs, rfl, _⟩ := okWide_struct Try.underlying33 hv
  obtain ⟨fuel, hf⟩ := h
  obtain ⟨t, ht⟩ := isVal_of_trod fuel _ (d, p) hf hp hfit
  obtain ⟨k, n, to, s, A, len, cap, hc⟩ := ht.cells
  rw [hc] at ht
  refine ⟨fuel, t, k, n, to, s, A, len, cap, ?_, ht⟩
  congr 1
  exact Array.toList_inj.1 hc

set_option maxHeartbeats 1000000 in
set_option maxRecDepth 100000 in
theorem lifted (os : Os) (started : os.Started) (H : Type) (enc : TypeId × Value → H) :
    ReturnsInHanded {} Try.checked os 4 .any (Rows.valueOrderSpec.pre6 enc Try.prog Try.f4 Rows.valueOrderRow.domain false) (Rows.valueOrderSpec.post enc Try.prog Try.f4 false true false false) := by
  refine returnsInHanded_of_change_sized (C := Try.checked) Try.own started (by kernel_rfl) Try.func4
    (ChangeSpec.witness6 (enc := enc) (C := Try.checked) false ⟨#[], #[.agg #[.int .i64 0, .int .i64 0, .int .i64 0, .string ⟨#[]⟩, .slice none 0 0], .agg #[.int .i64 0, .int .i64 0, .int .i64 0, .string ⟨#[]⟩, .slice none 0 0], .agg #[.int .i64 0, .int .i64 0, .int .i64 0, .string ⟨#[]⟩, .slice none 0 0]], []⟩ 8 (by kernel_rfl) (by kernel_rfl) (by kernel_rfl) (by kernel_rfl)) ?_
  intro W base args ds gs before hval0 hW _ hsz0 _
  have hsz : (DataW.weightsEach Try.prog (Try.f4.params.toList ++ Rows.valueOrderSpec.plain.varTypes Try.prog) (ds ++ gs)).all (· ≤ reachBytes) = true := hsz0
  have hval : ∀ (j : Nat) t v, Try.f4.params[j]? = some t → args[j]? = some v → Value.okWide Try.prog W .any base t v := hval0
  have hW' := hW
  obtain ⟨p, q, hA0, hV, rfl, _, _⟩ := hW
  have hA : DataW.TrodAll enc Try.prog W 0 (fun _ => true) true Try.f4.params.toList args.toList ds p := hA0
  rw [Try.params4] at hA hval hsz
  obtain ⟨v0, v1, v2, d0, d1, d2, p0, p1, p2, hargs, rfl, rfl, h0, h1, h2⟩ := trodAll_three hA
  obtain rfl : args = #[v0, v1, v2] := by simpa using hargs
  obtain ⟨rfl, rfl⟩ := trodVars_none hV
  clear hA0 hval0 hA hsz0
  have hsz1 : (DataW.weightsEach Try.prog [33, 33, 33] [d0, d1, d2]).all (· ≤ reachBytes) = true := hsz
  have hlt : ∀ x, x ∈ p0 ∨ x ∈ p1 ∨ x ∈ p2 → x.block < W.heap.size := fun x hx => by simpa using hW'.lt x (by simp; omega)
  obtain ⟨n0, t0, x0, x1, x2, x3, x4, x5, x6, rfl, i0⟩ := open_val (hval 0 33 v0 rfl rfl) h0 (fun x hx => hlt x (.inl hx)) (fits_at hsz1 (j := 0) rfl rfl)
  obtain ⟨n1, t1, y0, y1, y2, y3, y4, y5, y6, rfl, i1⟩ := open_val (hval 1 33 v1 rfl rfl) h1 (fun x hx => hlt x (.inr (.inl hx))) (fits_at hsz1 (j := 1) rfl rfl)
  obtain ⟨n2, t2, z0, z1, z2, z3, z4, z5, z6, rfl, i2⟩ := open_val (hval 2 33 v2 rfl rfl) h2 (fun x hx => hlt x (.inr (.inr hx))) (fits_at hsz1 (j := 2) rfl rfl)
  refine (order_any (n0 + n1 + n2) t0 t1 t2 _ _ _ _ _ _ _ _ _ _ _ _ _ _ _ _ _ _ _ _ _ W W.heap.size (Nat.le_refl _) (i0.more (by omega)) (i1.more (by omega)) (i2.more (by omega))).mono fun e W' ⟨he, hb⟩ => ?_
  subst he
  exact ⟨_, rfl, law_post Try.laidOut rfl Try.underlying4 rfl readable rfl hW' hb⟩

theorem valueOrder_holds : Rows.ValueOrderSaid :=
  OpenClaim.holds_of_wide 4 Try.f4 rfl rfl rfl rfl rfl rfl rfl ⟨rfl, rfl, rfl, rfl, rfl⟩ rfl rfl rfl rfl rfl (by kernel_rfl) Try.func4 (by kernel_rfl)
    (of_decide_eq_true (by kernel_rfl)) (by unfold Func.isWrapper; first | (rw [if_pos (by decide +kernel)]; kernel_rfl) | (rw [if_neg (by decide +kernel)]; exact ⟨rfl, rfl⟩))
    (fun os started H enc _ => lifted os started H enc)
end Go.Proofs.Ytnkmmlancippmab.valueOrder
