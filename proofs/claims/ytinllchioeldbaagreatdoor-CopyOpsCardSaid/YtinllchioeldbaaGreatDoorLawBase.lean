/-
  DERIVED. How a law's row closes: what the arguments weigh, part by part; the arguments read behind the call as before it. Conditions: none. By an AI agent.
-/
import Derived.Test.YtinllchioeldbaaGreatDoorRows
import Derived.Test.YtinllchioeldbaaGreatDoorCa01
import Derived.ProofKit
import Derived.SizedLaws
import Derived.OpenShut
import Derived.Lib.SmallJoins
import Derived.Deep.Slices
namespace Go.Proofs.YtinllchioeldbaaGreatDoor
open Go.ChangeShapes Go.WideShapes Go.ChangeAt Go.RowKit

theorem Tryz.own : ownKnob Tryz.prog.godebug = none := by kernel_rfl
theorem Tryz.laidOut : laidOutB Tryz.prog = true := by kernel_rfl

/-- what a reading weighs is within the form's reach -/
def Fits {H : Type} (P : Program) (t : TypeId) (d : DataW H) : Prop := ∀ n ∈ d.weights P t, n ≤ reachBytes

section
variable {H : Type} {P : Program} {ts : List TypeId} {ds : List (DataW H)}
theorem fits_at (h : (DataW.weightsEach P ts ds).all (· ≤ reachBytes) = true) {j : Nat} {t : TypeId} {d : DataW H} (ht : ts[j]? = some t) (hd : ds[j]? = some d) : Fits P t d := fun n hn => by
  simpa using List.all_eq_true.1 h n (DataW.weights_mem_each ht hd n hn)

theorem Fits.part {t : TypeId} {fs : Array Field} {parts : List (DataW H)} (h : Fits P t (.agg parts)) (hu : P.underlying t = some (.struct fs)) {j : Nat} {f : Field} {d : DataW H} (hf : fs[j]? = some f) (hd : parts[j]? = some d) : Fits P f.type d := fun n hn =>
  h n (by
    simp only [DataW.weights, hu]
    exact DataW.weights_mem_each (by rw [List.getElem?_map, Array.getElem?_toList, hf]; rfl) hd n hn)

theorem weights_mem_all {e : TypeId} : ∀ {ds : List (DataW H)} {d : DataW H}, d ∈ ds → ∀ n ∈ d.weights P e, n ∈ DataW.weightsAll P e ds
  | d0 :: ds, d, hd, n, hn => by
    simp only [DataW.weightsAll, List.mem_append]
    rcases List.mem_cons.1 hd with rfl | hd
    · exact .inl hn
    · exact .inr (weights_mem_all hd n hn)

theorem Fits.elem {t e : TypeId} {elems spare : List (DataW H)} (h : Fits P t (.slice elems spare)) (hu : P.underlying t = some (.slice e)) {d : DataW H} (hd : d ∈ elems) : Fits P e d := fun n hn =>
  h n (by
    simp only [DataW.weights, hu]
    exact List.mem_cons_of_mem _ (List.mem_append_left _ (weights_mem_all hd n hn)))

theorem Fits.slice {t e : TypeId} {elems spare : List (DataW H)} (h : Fits P t (.slice elems spare)) (hu : P.underlying t = some (.slice e)) : (elems.length + spare.length) * P.bytesOf e ≤ 140737488351232 := by
  have := h ((elems.length + spare.length) * P.bytesOf e) (by simp only [DataW.weights, hu]; exact List.mem_cons_self ..)
  simpa [reachBytes] using this

theorem Fits.string {t : TypeId} {s : ByteArray} (h : Fits (H := H) P t (.lit (.string s.data.toList))) : s.size ≤ 140737488351232 := by
  have := h s.data.toList.length (by simp [DataW.weights])
  simpa [reachBytes] using this
end

theorem i64_bounds {n : Int} (h : (Lit.int .i64 n).wf = true) : -9223372036854775808 ≤ n ∧ n ≤ 9223372036854775807 := by
  have h1 : IntKind.i64.min = -9223372036854775808 := rfl
  have h2 : IntKind.i64.max = 9223372036854775807 := rfl
  simpa [Lit.wf, h1, h2] using h

/-- a slice of ints that came in -/
theorem reads_ints {H : Type} {enc : TypeId × Value → H} {P : Program} {W : World} {r : Reach} {b0 : Nat} {t e : TypeId} {v : Value} {d : DataW H} {p : List MemPlace} (ht : P.underlying t = some (.slice e)) (he : P.underlying e = some (.int .i64))
    (hc : P.cellsOf e = 1) (hby : P.bytesOf e = 8) (hv : Value.okWide P W r b0 t v) (h : DataW.Trod enc P W 0 (fun _ => true) true t v d p) (hp : ∀ x ∈ p, x.block < W.heap.size) (hfit : Fits P t d) :
    ∃ A len cap, ∃ zs : List Int, v = .slice A len cap ∧ Reads W W.heap.size 1 A len (zs.map (.int .i64)) ∧ len * 8 ≤ 140737488351232 ∧ ∀ z ∈ zs, (Lit.int .i64 z).wf = true := by
  obtain ⟨a0, len, cap, rfl⟩ := okWide_slice ht hv
  obtain ⟨fuel, hf⟩ := h
  rcases open_ints ht he hc hf with ⟨hcs, hx⟩ | ⟨a, len', cap', zs, hcs, _, hl, hm, hz, hx, hcell, hwz⟩
  · simp [Value.cells] at hcs
    obtain ⟨rfl, rfl, rfl⟩ := hcs
    exact ⟨none, 0, 0, [], rfl, Reads.none_, by omega, by simp⟩
  · simp [Value.cells] at hcs
    obtain ⟨rfl, rfl, rfl⟩ := hcs
    simp only [Prod.mk.injEq] at hx
    obtain ⟨rfl, rfl⟩ := hx
    simp only [if_true] at hz
    have hs := hfit.slice ht
    rw [hby] at hs
    simp only [lits, List.length_map, List.length_take, List.length_drop] at hs
    refine ⟨some a, len, cap, zs.take len, rfl, ⟨by simp; omega, fun hn => ⟨a, rfl, ?_, ?_⟩⟩, by omega, fun z hz => hwz z (List.mem_of_mem_take hz)⟩
    · exact hp (.cell a.block a.off) (by simp only [MemPlace.mem_row]; exact ⟨0, by omega, by simp⟩)
    · intro j u hu
      rw [List.getElem?_map] at hu
      have hj : j < len := by
        rcases Nat.lt_or_ge j len with h | h
        · exact h
        · rw [List.getElem?_eq_none (by simp; omega)] at hu; cases hu
      rw [List.getElem?_take_of_lt hj] at hu
      have := hcell j (by omega)
      rw [List.getD_eq_getElem?_getD] at this
      rw [List.getElem?_eq_getElem (by omega)] at this hu
      simp at hu this
      rw [this, hu]

/-- what came in reads behind the call as before it -/
theorem trodAll_below {H : Type} {enc : TypeId × Value → H} {P : Program} (hl : laidOutB P = true) {W W' : World} (hb : Below W.heap.size W W') : ∀ {ts : List TypeId} {vs : List Value} {ds : List (DataW H)} {ps : List MemPlace},
    (∀ t ∈ ts, P.readableRec t = true ∧ t < P.types.size) → DataW.TrodAll enc P W 0 (fun _ => true) true ts vs ds ps → (∀ x ∈ ps, x.block < W.heap.size) →
    DataW.TrodAll enc P W' 0 (fun b => decide (b < W.heap.size)) true ts vs ds ps
  | [], _, _, _, _, h, _ => by
    obtain ⟨rfl, rfl, rfl⟩ := trodAll_nil h
    exact trodAll_mk0
  | t :: ts, _, _, _, hr, h, hp => by
    obtain ⟨v, vs, d, ds, p, q, rfl, rfl, rfl, h0, h1⟩ := trodAll_cons h
    exact trodAll_cons_mk (Below.trod hl (hr t (by simp)).1 (hr t (by simp)).2 h0 hb (fun x hx => hp x (List.mem_append_left _ hx)))
      (trodAll_below hl hb (fun t ht => hr t (List.mem_cons_of_mem _ ht)) h1 (fun x hx => hp x (List.mem_append_right _ hx)))

/-- a law that answers true and keeps what was there meets its row's post -/
theorem law_post {H : Type} {enc : TypeId × Value → H} {P : Program} {f : Func} {s : ChangeSpec} {W W' : World} {args : Array Value} {ds : List (DataW H)} {ps : List MemPlace} {tb : TypeId}
    (hl : laidOutB P = true) (hvars : s.vars = []) (hb2 : P.underlying tb = some .bool) (hres : f.resultTypes = #[tb]) (hr : ∀ t ∈ f.params.toList, P.readableRec t = true ∧ t < P.types.size)
    (hfn : s.fn H (ds ++ []) = { results := [.lit (.bool true)], args := ds })
    (hW : DataW.Whole enc P f.params.toList s.vars false W args.toList ds [] ps) (hb : Below W.heap.size W W') :
    s.post enc P f false true false false W args (.bool true) W' := by
  have hW2 := hW
  obtain ⟨p, q, hA, hV, rfl, _, _⟩ := hW2
  rw [hvars] at hV
  obtain ⟨_, hq⟩ := trodVars_none hV
  subst hq
  refine ⟨ds, [], _, [], p, [], hW, ?_, ?_, ?_, hb.frame _, fun h => by cases h⟩
  · rw [hfn, hres]
    exact trodAll_mk1 (shut_bool hb2 true)
  · rw [hfn]
    exact trodAll_below hl hb hr hA (fun x hx => by simpa using hW.lt x (by simpa using hx))
  · rw [hvars, hfn]
    exact rfl

end Go.Proofs.YtinllchioeldbaaGreatDoor
