/-
  Proved: for every string, query and width of bulk at most 1048576 florkeep2.SnippetRight returns true and leaves its arguments as they were. Conditions: none beyond the row's own.
-/
import Derived.Test.YtpkpnmfcjoheoaaQrOpen
import Derived.Test.YtpkpnmfcjoheoaaSnLaw
import Derived.Deep.DeepHandedRow
import Derived.Deep.DeepWitnessRowRef
import Derived.Lib.LaidTab
namespace Go.Proofs.Ytpkpnmfcjoheoaa.snippetRight
open Go.ChangeShapes Go.WideShapes Go.ChangeAt Go.RowKit Go.Joins Go.Deep
open Go.ChangeMaps (open_string shut_string)

section
variable {H : Type} {enc : TypeId × Value → H} {P : Program} {w : World} {base : Nat} {spare : Nat → Bool} {held : Bool}
theorem open_agg1 {r : Reach} {b0 : Nat} {t : TypeId} {f0 : Field} {v : Value} {d : DataW H} {p : List MemPlace} (hs : P.underlying t = some (.struct #[f0])) (hone : oneCellFields P #[f0] = true) (hC : P.cellsOf t = 1)
    (hv : Value.okWide P w r b0 t v) (h : DataW.Trod enc P w base spare held t v d p) :
    ∃ (v0 : Value) (y0 : DataW H × List MemPlace) (n : Nat), v = .agg #[v0] ∧ d = .agg [y0.1] ∧ p = y0.2 ∧ DataW.trod enc P w base spare held n f0.type [v0] = some y0 := by
  obtain ⟨cs, rfl, hsz⟩ := okWide_struct hs hv
  obtain ⟨l⟩ := cs
  match l, hsz.trans hC with
  | [c0], _ =>
    obtain ⟨fuel, hf⟩ := h
    obtain ⟨xs, n, _, hx, _, hlen, hg⟩ := DataW.trod_struct hs hf
    obtain ⟨o0, k0⟩ := hone_of hone 0 f0 rfl
    match xs, hlen with
    | [y0], _ =>
      simp only [Prod.mk.injEq] at hx
      exact ⟨c0, y0, n, rfl, by simpa using hx.1, by simpa using hx.2, by simpa [Value.cells, o0, k0] using hg 0 f0 rfl⟩
end
theorem readable : ∀ t ∈ [9, 24, 3], Try.prog.readableRec t = true ∧ t < Try.prog.types.size := by
  intro t ht
  simp only [List.mem_cons, List.not_mem_nil, or_false] at ht
  rcases ht with rfl | rfl | rfl
  · exact ⟨by kernel_rfl, of_decide_eq_true (by kernel_rfl)⟩
  · exact ⟨by kernel_rfl, of_decide_eq_true (by kernel_rfl)⟩
  · exact ⟨by kernel_rfl, of_decide_eq_true (by kernel_rfl)⟩

section
variable {H : Type} {enc : TypeId × Value → H} {W : World}
theorem parts_of {n : Nat} {u : Value} {y : DataW H × List MemPlace} (h : DataW.trod enc Try.prog W 0 (fun _ => true) true n 56 [u] = some y) (hp : ∀ x ∈ y.2, x.block < W.heap.size) :
    ∃ ps, RP W W.heap.size u ps ∧ (ps.map szP).sum + 1 ≤ Rows.uptoBulk y.1 := by
  obtain ⟨d, p⟩ := y
  obtain ⟨A, n, c, M, rfl, h1, h2, h3, h4⟩ := open_rows (en := paV) (Q := fun x => RW W W.heap.size x.2 x.1.words) (wt := fun x => szP x.1) Try.underlying56 Try.underlying61 (by kernel_rfl) (by kernel_rfl) paV_len
    (fun n v0 v1 y0 y1 t0 t1 _ l1 => by
      obtain ⟨k, e0, rfl, _⟩ := DataW.trod_int Try.underlying3 t0
      obtain ⟨d1, p1⟩ := y1
      obtain ⟨zs, hz, hw⟩ := open_words Try.underlying59 Try.underlying9 (by kernel_rfl) t1 l1
      simp at e0
      subst e0
      exact ⟨(⟨k, zs⟩, v1), rfl, by show szP ⟨k, zs⟩ ≤ _; unfold szP; simp only [Rows.uptoBulk]; show 1 + (zs.map fun x => x.size + 1).sum ≤ _; omega, hz⟩) h hp
  exact ⟨M.map Prod.fst, ⟨A, n, c, M, rfl, rfl, h1, h2, h3⟩, by rw [List.map_map]; exact h4⟩
theorem clauses_of {n : Nat} {u : Value} {y : DataW H × List MemPlace} (h : DataW.trod enc Try.prog W 0 (fun _ => true) true n 22 [u] = some y) (hp : ∀ x ∈ y.2, x.block < W.heap.size) :
    ∃ cs, RC W W.heap.size u cs ∧ szQ cs + 1 ≤ Rows.uptoBulk y.1 := by
  obtain ⟨d, p⟩ := y
  obtain ⟨A, n, c, M, rfl, h1, h2, h3, h4⟩ := open_rows (en := clV) (Q := fun x => RP W W.heap.size x.2 x.1.parts) (wt := fun x => szC x.1) Try.underlying22 Try.underlying58 (by kernel_rfl) (by kernel_rfl) clV_len
    (fun n v0 v1 y0 y1 t0 t1 _ l1 => by
      obtain ⟨k, e0, rfl⟩ := DataW.trod_bool Try.underlying4 t0
      obtain ⟨ps, hz, hw⟩ := parts_of t1 l1
      simp at e0
      subst e0
      exact ⟨(⟨k, ps⟩, v1), rfl, by show szC ⟨k, ps⟩ ≤ _; unfold szC; simp only [Rows.uptoBulk]; show 1 + (ps.map szP).sum ≤ _; omega, hz⟩) h hp
  exact ⟨M.map Prod.fst, ⟨A, n, c, M, rfl, rfl, h1, h2, h3⟩, by unfold szQ; rw [List.map_map]; exact h4⟩
end

set_option maxHeartbeats 1000000 in
set_option maxRecDepth 100000 in
theorem contract (H : Type) (enc : TypeId × Value → H) (W : World) (base : Nat) (args : Array Value) (ds gs : List (DataW H)) (before : List MemPlace)
    (hval : ∀ (j : Nat) t v, Try.f3.params[j]? = some t → args[j]? = some v → Value.okWide Try.prog W .any base t v)
    (hW : DataW.Whole enc Try.prog Try.f3.params.toList Rows.snippetRightSpec.vars false W args.toList ds gs before)
    (hk : Rows.uptoSmall H (ds ++ gs) = true) :
    Calls Try.prog 3 args W fun e W' => ∃ v, e = .returned v ∧ Rows.snippetRightSpec.post enc Try.prog Try.f3 false true false false W args v W' := by
  have hW' := hW
  obtain ⟨p, q, hA0, hV, rfl, _, _⟩ := hW
  have hA : DataW.TrodAll enc Try.prog W 0 (fun _ => true) true Try.f3.params.toList args.toList ds p := hA0
  rw [Try.params3] at hA hval
  obtain ⟨v0, vs0, d0, ds0, p0, q0, hargs, rfl, rfl, h0, r0⟩ := trodAll_cons hA
  obtain ⟨v1, vs1, d1, ds1, p1, q1, rfl, rfl, rfl, h1, r1⟩ := trodAll_cons r0
  obtain ⟨v2, vs2, d2, ds2, p2, q2, rfl, rfl, rfl, h2, r2⟩ := trodAll_cons r1
  obtain ⟨rfl, rfl, rfl⟩ := trodAll_nil r2
  obtain rfl : args = #[v0, v1, v2] := Array.ext' hargs
  obtain ⟨rfl, rfl⟩ := trodVars_none hV
  clear hA0 hA
  obtain ⟨a0, rfl, rfl, rfl, _⟩ := open_string Try.underlying9 (hval 0 9 v0 rfl rfl) h0
  have e0 : a0.data.toList.length = a0.size := rfl
  obtain ⟨c0, y0, n, rfl, rfl, rfl, g0⟩ := open_agg1 Try.underlying24 (by kernel_rfl) (by kernel_rfl) (hval 1 24 v1 rfl rfl) h1
  obtain ⟨a2, rfl, rfl, rfl, w2⟩ := open_int Try.underlying3 (hval 2 3 v2 rfl rfl) h2
  have b2 := i64_bounds w2
  have hlt : ∀ x ∈ y0.2, x.block < W.heap.size := fun x hx => by simpa using hW'.lt x (by simp [hx])
  obtain ⟨cs, hrc, hsz⟩ := clauses_of g0 hlt
  have hb := of_decide_eq_true hk
  simp only [List.cons_append, List.nil_append, Rows.uptoBulkAll, Rows.uptoBulk] at hb
  have h1 := np_sz cs
  have h2 := len_le szC szC_pos cs
  have h3 := qtext_le cs
  have h2' : cs.length ≤ szQ cs := h2
  refine (snippetRight_any a0 cs c0 a2 W hrc (by omega) b2 (by omega) (by omega) (by omega) (fun c hc p hp => ?_)).mono fun e W' ⟨he, hbel⟩ => ?_
  · obtain ⟨h4, h5⟩ := words_sz hc hp
    exact ⟨by omega, fun x hx => by have := h5 x hx; omega⟩
  subst he
  exact ⟨_, rfl, law_post Try.laidOut rfl Try.underlying4 rfl readable rfl hW' hbel⟩

noncomputable def startWorld (os : Os) : World := World.holding Try.prog os ⟨#[], #[], []⟩
theorem laid_met (os : Os) (args : Array Value) : laidMet Try.prog Rows.snippetRightUptoRow.laid ((startWorld os).forCall (fun _ _ => 0) ⟨#[], args, []⟩).memory :=
  laidMet_of_run' 8 (by kernel_rfl) (by kernel_rfl)
def wArgs : Array Value := #[.string ⟨#[]⟩, .agg #[.slice none 0 0], .int .i64 0]
theorem witness_row (os : Os) {H : Type} (enc : TypeId × Value → H) :
    (Rows.OpenSpec.upto Rows.snippetRightSpec).preRow enc Try.prog Try.f3 Rows.snippetRightUptoRow.domain false Rows.snippetRightUptoRow.laid ((startWorld os).forCall (fun _ _ => 0) ⟨#[], wArgs, []⟩).memory wArgs := by
  have hw : ((DataW.whole enc Try.prog ((startWorld os).forCall (fun _ _ => 0) ⟨#[], wArgs, []⟩).memory Try.f3.params.toList Rows.snippetRightSpec.vars false wArgs.toList 8).map (fun x => (x.1, x.2.1))) =
      some ([.lit (.string []), .agg [.nil], .lit (.int .i64 0)], []) := by kernel_rfl
  obtain ⟨⟨x1, x2, x3⟩, hx, hx1⟩ := Option.map_eq_some_iff.1 hw
  simp only [Prod.mk.injEq] at hx1
  obtain ⟨rfl, rfl⟩ := hx1
  exact OpenSpec.preRow_of_cond 8 hx (by kernel_rfl) (fun k hk => by cases hk; kernel_rfl) (by kernel_rfl) (laid_met os _)

set_option maxRecDepth 100000 in
set_option maxHeartbeats 2000000 in
theorem lifted (os : Os) (started : os.Started) (H : Type) (enc : TypeId × Value → H) (F : Stop.Interp) :
    ReturnsInHanded {} Try.checked os 3 .any ((Rows.OpenSpec.upto Rows.snippetRightSpec).preRow enc Try.prog Try.f3 Rows.snippetRightUptoRow.domain false Rows.snippetRightUptoRow.laid) (((Rows.OpenSpec.upto Rows.snippetRightSpec).at F).post enc Try.prog Try.f3 false true false false) := by
  refine returnsInHanded_of_row (C := Try.checked) (s := Rows.OpenSpec.upto Rows.snippetRightSpec) Try.own started (by kernel_rfl) Try.func3
    (witness_row_atRef (enc := enc) (C := Try.checked) false (startWorld os) wArgs rfl (by kernel_rfl) (by kernel_rfl) (by kernel_rfl) (witness_row os enc)) ?_
  intro W base args ds gs before hval hW _ hcond _ _ _ _
  exact contract H enc W base args ds gs before hval hW (hcond _ rfl)

theorem snippetRight_holds : Rows.SnippetRightUptoSaid :=
  OpenClaim.holds_of_cond 3 Try.f3 rfl rfl rfl rfl rfl rfl rfl ⟨rfl, rfl, rfl, rfl, rfl⟩ rfl rfl rfl rfl rfl (by kernel_rfl) Try.func3 (by kernel_rfl)
    (of_decide_eq_true (by kernel_rfl)) (by unfold Func.isWrapper; first | (rw [if_pos (by decide +kernel)]; kernel_rfl) | (rw [if_neg (by decide +kernel)]; exact ⟨rfl, rfl⟩))
    (fun os started H enc _ F => by rw [OpenClaim.pre_eq_preRow]; exact lifted os started H enc F)
end Go.Proofs.Ytpkpnmfcjoheoaa.snippetRight
