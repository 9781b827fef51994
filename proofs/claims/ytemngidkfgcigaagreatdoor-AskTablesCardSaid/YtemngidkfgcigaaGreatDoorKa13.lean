/-
  DERIVED. How a law's row closes: what the arguments weigh, part by part; the arguments read behind the call as before it. Conditions: none.
  A view of a base in memory: its order, and its maps by id. Conditions: none.
  How deep the blocks of a base are: the relation, and what a search in the breadth or in the depth keeps. Plain law. Conditions: none.
  By an AI agent.
-/
import Derived.Test.YtemngidkfgcigaaGreatDoorRows
import Derived.Test.YtemngidkfgcigaaGreatDoorKa01
import Derived.ProofKit
import Derived.SizedLaws
import Derived.OpenShut
import Derived.Lib.SmallJoins
import Derived.Deep.Slices
import Derived.Test.YtemngidkfgcigaaGreatDoorKa08
import Derived.Test.YtemngidkfgcigaaGreatDoorKa09
import Derived.Test.YtemngidkfgcigaaGreatDoorKa07
namespace Go.Proofs.YtemngidkfgcigaaGreatDoor
open Go.ChangeShapes Go.WideShapes Go.ChangeAt Go.RowKit

theorem Tryz.own : ownKnob Tryz.prog.godebug = none := by kernel_rfl
theorem Tryz.laidOut : laidOutB Tryz.prog = true := by kernel_rfl

/-- what a reading weighs is within the form's reach -/
def Fits {H : Type} (P : Program) (t : TypeId) (d : DataW H) : Prop := ∀ n ∈ d.weights P t, n ≤ reachBytes

section
variable {H : Type} {P : Program} {ts : List TypeId} {ds : List (DataW H)}
theorem fits_at (h : (DataW.weightsEach P ts ds).all (· ≤ reachBytes) = true) {j : Nat} {t : TypeId} {d : DataW H} (ht : ts[j]? = some t) (hd : ds[j]? = some d) : Fits P t d := fun n hn => by
  simpa using List.all_eq_true.1 h n (DataW.weights_mem_each ht hd n hn)

theorem Fits.part {t : TypeId} {fs : Array Field} {parts : List (DataW H)} (h : Fits P t (.agg parts)) (hu : P.underlying t = some (.struct fs)) {j : Nat} {f : Field} {d : DataW H} (hf : fs[j]? = some f) (hd : parts[j]? = some d) : Fits P f.type d := fun n hn =>
  h n (by
    simp only [DataW.weights, hu]
    exact DataW.weights_mem_each (by rw [List.getElem?_map, Array.getElem?_toList, hf]; rfl) hd n hn)

theorem weights_mem_all {e : TypeId} : ∀ {ds : List (DataW H)} {d : DataW H}, d ∈ ds → ∀ n ∈ d.weights P e, n ∈ DataW.weightsAll P e ds
  | d0 :: ds, d, hd, n, hn => by
    simp only [DataW.weightsAll, List.mem_append]
    rcases List.mem_cons.1 hd with rfl | hd
    · exact .inl hn
    · exact .inr (weights_mem_all hd n hn)

theorem Fits.elem {t e : TypeId} {elems spare : List (DataW H)} (h : Fits P t (.slice elems spare)) (hu : P.underlying t = some (.slice e)) {d : DataW H} (hd : d ∈ elems) : Fits P e d := fun n hn =>
  h n (by
    simp only [DataW.weights, hu]
    exact List.mem_cons_of_mem _ (List.mem_append_left _ (weights_mem_all hd n hn)))

theorem Fits.slice {t e : TypeId} {elems spare : List (DataW H)} (h : Fits P t (.slice elems spare)) (hu : P.underlying t = some (.slice e)) : (elems.length + spare.length) * P.bytesOf e ≤ 140737488351232 := by
  have := h ((elems.length + spare.length) * P.bytesOf e) (by simp only [DataW.weights, hu]; exact List.mem_cons_self ..)
  simpa [reachBytes] using this

theorem Fits.string {t : TypeId} {s : ByteArray} (h : Fits (H := H) P t (.lit (.string s.data.toList))) : s.size ≤ 140737488351232 := by
  have := h s.data.toList.length (by simp [DataW.weights])
  simpa [reachBytes] using this
end

theorem i64_bounds {n : Int} (h : (Lit.int .i64 n).wf = true) : -9223372036854775808 ≤ n ∧ n ≤ 9223372036854775807 := by
  have h1 : IntKind.i64.min = -9223372036854775808 := rfl
  have h2 : IntKind.i64.max = 9223372036854775807 := rfl
  simpa [Lit.wf, h1, h2] using h

/-- what came in reads behind the call as before it -/
theorem trodAll_below {H : Type} {enc : TypeId × Value → H} {P : Program} (hl : laidOutB P = true) {W W' : World} (hb : Below W.heap.size W W') : ∀ {ts : List TypeId} {vs : List Value} {ds : List (DataW H)} {ps : List MemPlace},
    (∀ t ∈ ts, P.readableRec t = true ∧ t < P.types.size) → DataW.TrodAll enc P W 0 (fun _ => true) true ts vs ds ps → (∀ x ∈ ps, x.block < W.heap.size) →
    DataW.TrodAll enc P W' 0 (fun b => decide (b < W.heap.size)) true ts vs ds ps
  | [], _, _, _, _, h, _ => by
    obtain ⟨rfl, rfl, rfl⟩ := trodAll_nil h
    exact trodAll_mk0
  | t :: ts, _, _, _, hr, h, hp => by
    obtain ⟨v, vs, d, ds, p, q, rfl, rfl, rfl, h0, h1⟩ := trodAll_cons h
    exact trodAll_cons_mk (Below.trod hl (hr t (by simp)).1 (hr t (by simp)).2 h0 hb (fun x hx => hp x (List.mem_append_left _ hx)))
      (trodAll_below hl hb (fun t ht => hr t (List.mem_cons_of_mem _ ht)) h1 (fun x hx => hp x (List.mem_append_right _ hx)))

/-- a law that answers true and keeps what was there meets its row's post -/
theorem law_post {H : Type} {enc : TypeId × Value → H} {P : Program} {f : Func} {s : ChangeSpec} {W W' : World} {args : Array Value} {ds : List (DataW H)} {ps : List MemPlace} {tb : TypeId}
    (hl : laidOutB P = true) (hvars : s.vars = []) (hb2 : P.underlying tb = some .bool) (hres : f.resultTypes = #[tb]) (hr : ∀ t ∈ f.params.toList, P.readableRec t = true ∧ t < P.types.size)
    (hfn : s.fn H (ds ++ []) = { results := [.lit (.bool true)], args := ds })
    (hW : DataW.Whole enc P f.params.toList s.vars false W args.toList ds [] ps) (hb : Below W.heap.size W W') :
    s.post enc P f false true false false W args (.bool true) W' := by
  have hW2 := hW
  obtain ⟨p, q, hA, hV, rfl, _, _⟩ := hW2
  rw [hvars] at hV
  obtain ⟨_, hq⟩ := trodVars_none hV
  subst hq
  refine ⟨ds, [], _, [], p, [], hW, ?_, ?_, ?_, hb.frame _, fun h => by cases h⟩
  · rw [hfn, hres]
    exact trodAll_mk1 (shut_bool hb2 true)
  · rw [hfn]
    exact trodAll_below hl hb hr hA (fun x hx => by simpa using hW.lt x (by simpa using hx))
  · rw [hvars, hfn]
    exact rfl

end Go.Proofs.YtemngidkfgcigaaGreatDoor
namespace Go.Proofs.YtemngidkfgcigaaGreatDoor
open Go.RowKit

/-- a map of the view -/
abbrev VM (w : World) (g n : Nat) (f : Int → Option Int) : Prop := MapIn Tryz.prog 3 3 (fun x : Int => .lit (.int .i64 x)) w g n f
/-- a view in block vb; its maps in g0 (places in the base), g1 (places in the order), g2 (depths), g3 (pages) -/
structure VW (X w : World) (vb g0 g1 g2 g3 : Nat) (bs : Value) (na K : Nat) (fa : Int → Option Int) (os : List Int) (fp fd fg : Int → Option Int) : Prop where
  ex : ∃ v, Blk w vb 54 #[bs, .map (some g0), v, .map (some g1), .map (some g2), .map (some g3)] ∧ w.ownsRow X.heap.size 3 1 v os.length (os.map (.int .i64)) ∧ (v.ownBlock ≠ some vb ∧ v.ownBlock ≠ some g0 ∧ v.ownBlock ≠ some g1 ∧ v.ownBlock ≠ some g2 ∧ v.ownBlock ≠ some g3)
  ma : VM w g0 na fa
  mp : ∃ n, n ≤ K ∧ VM w g1 n fp
  md : ∃ n, n ≤ K ∧ VM w g2 n fd
  mg : ∃ n, n ≤ K ∧ VM w g3 n fg
  nd : (vb ≠ g0 ∧ vb ≠ g1 ∧ vb ≠ g2 ∧ vb ≠ g3) ∧ (g0 ≠ g1 ∧ g0 ≠ g2 ∧ g0 ≠ g3) ∧ (g1 ≠ g2 ∧ g1 ≠ g3) ∧ g2 ≠ g3
  ge : X.heap.size ≤ vb ∧ X.heap.size ≤ g0 ∧ X.heap.size ≤ g1 ∧ X.heap.size ≤ g2 ∧ X.heap.size ≤ g3
  below : Below X.heap.size X w
section
variable {X w w' : World} {vb g0 g1 g2 g3 na K K' : Nat} {bs : Value} {fa fp fd fg : Int → Option Int} {os : List Int}
theorem VW.mono (h : VW X w vb g0 g1 g2 g3 bs na K fa os fp fd fg) (hK : K ≤ K') : VW X w vb g0 g1 g2 g3 bs na K' fa os fp fd fg := by
  obtain ⟨n1, a1, b1⟩ := h.mp
  obtain ⟨n2, a2, b2⟩ := h.md
  obtain ⟨n3, a3, b3⟩ := h.mg
  exact ⟨h.ex, h.ma, ⟨n1, Nat.le_trans a1 hK, b1⟩, ⟨n2, Nat.le_trans a2 hK, b2⟩, ⟨n3, Nat.le_trans a3 hK, b3⟩, h.nd, h.ge, h.below⟩
theorem VW.vlt (h : VW X w vb g0 g1 g2 g3 bs na K fa os fp fd fg) : vb < w.heap.size := by
  obtain ⟨v, hb, _⟩ := h.ex
  exact hb.lt
theorem VW.lts (h : VW X w vb g0 g1 g2 g3 bs na K fa os fp fd fg) : g0 < w.heap.size ∧ g1 < w.heap.size ∧ g2 < w.heap.size ∧ g3 < w.heap.size := by
  obtain ⟨n1, a1, b1⟩ := h.mp
  obtain ⟨n2, a2, b2⟩ := h.md
  obtain ⟨n3, a3, b3⟩ := h.mg
  exact ⟨h.ma.lt_, b1.lt_, b2.lt_, b3.lt_⟩
theorem VW.step (h : VW X w vb g0 g1 g2 g3 bs na K fa os fp fd fg) (hb : Below w.heap.size w w') : VW X w' vb g0 g1 g2 g3 bs na K fa os fp fd fg := by
  obtain ⟨l0, l1, l2, l3⟩ := h.lts
  obtain ⟨v, k1, k2, k3⟩ := h.ex
  obtain ⟨n1, a1, b1⟩ := h.mp
  obtain ⟨n2, a2, b2⟩ := h.md
  obtain ⟨n3, a3, b3⟩ := h.mg
  exact ⟨⟨v, k1.below hb k1.lt, own_below k2 hb, k3⟩, h.ma.below hb l0, ⟨n1, a1, b1.below hb l1⟩, ⟨n2, a2, b2.below hb l2⟩, ⟨n3, a3, b3.below hb l3⟩, h.nd, h.ge, h.below.trans (hb.mono h.below.size)⟩
/-- the own row stays where another block is turned -/
theorem row_other {base n size g : Nat} {e : TypeId} {v : Value} {xs : List Value} (h : w.ownsRow base e size v n xs) (hg : w.grownBy w' (some g)) (hv : v.ownBlock ≠ some g) : w'.ownsRow base e size v n xs := by
  obtain ⟨h1, h2⟩ := h
  refine ⟨h1, ?_⟩
  rcases h2 with h2 | ⟨b, cap, cur, e1, hb, hh, r⟩
  · exact .inl h2
  · refine .inr ⟨b, cap, cur, e1, hb, ?_, r⟩
    have hlt : b < w.heap.size := by
      rcases Nat.lt_or_ge b w.heap.size with h | h
      · exact h
      · rw [Array.getElem?_eq_none h] at hh; cases hh
    rw [hg.block b hlt (fun e => hv (by injection e with e; subst e; rw [e1]; rfl))]
    exact hh
theorem gr_belowV {B g : Nat} (hg : w.grownBy w' (some g)) (hB : B ≤ g) (hw : B ≤ w.heap.size) : Below B w w' := (Below.refl B w).grown hg hw (fun k hk => by injection hk with hk; omega)
/-- a place is noted -/
theorem VW.putP (h : VW X w vb g0 g1 g2 g3 bs na K fa os fp fd fg) {n : Nat} {x a : Int} (hg : w.grownBy w' (some g1)) (hm : VM w' g1 n (putF fp x a)) (hn : n ≤ K + 1) : VW X w' vb g0 g1 g2 g3 bs na (K + 1) fa os (putF fp x a) fd fg := by
  obtain ⟨⟨d1, d2, d3, d4⟩, ⟨d5, d6, d7⟩, ⟨d8, d9⟩, d10⟩ := h.nd
  obtain ⟨v, k1, k2, k3⟩ := h.ex
  obtain ⟨n2, a2, b2⟩ := h.md
  obtain ⟨n3, a3, b3⟩ := h.mg
  refine ⟨⟨v, k1.grown hg (fun e => d2 (by injection e)), row_other k2 hg k3.2.2.1, k3⟩, h.ma.grown hg (fun e => d5 (by injection e)), ⟨n, hn, hm⟩, ⟨n2, by omega, b2.grown hg (fun e => d8 (by injection e with e; exact e.symm))⟩, ⟨n3, by omega, b3.grown hg (fun e => d9 (by injection e with e; exact e.symm))⟩, h.nd, h.ge, h.below.trans (gr_belowV hg h.ge.2.2.1 h.below.size)⟩
theorem VW.putD (h : VW X w vb g0 g1 g2 g3 bs na K fa os fp fd fg) {n : Nat} {x a : Int} (hg : w.grownBy w' (some g2)) (hm : VM w' g2 n (putF fd x a)) (hn : n ≤ K + 1) : VW X w' vb g0 g1 g2 g3 bs na (K + 1) fa os fp (putF fd x a) fg := by
  obtain ⟨⟨d1, d2, d3, d4⟩, ⟨d5, d6, d7⟩, ⟨d8, d9⟩, d10⟩ := h.nd
  obtain ⟨v, k1, k2, k3⟩ := h.ex
  obtain ⟨n1, a1, b1⟩ := h.mp
  obtain ⟨n3, a3, b3⟩ := h.mg
  refine ⟨⟨v, k1.grown hg (fun e => d3 (by injection e)), row_other k2 hg k3.2.2.2.1, k3⟩, h.ma.grown hg (fun e => d6 (by injection e)), ⟨n1, by omega, b1.grown hg (fun e => d8 (by injection e))⟩, ⟨n, hn, hm⟩, ⟨n3, by omega, b3.grown hg (fun e => d10 (by injection e with e; exact e.symm))⟩, h.nd, h.ge, h.below.trans (gr_belowV hg h.ge.2.2.2.1 h.below.size)⟩
theorem VW.putG (h : VW X w vb g0 g1 g2 g3 bs na K fa os fp fd fg) {n : Nat} {x a : Int} (hg : w.grownBy w' (some g3)) (hm : VM w' g3 n (putF fg x a)) (hn : n ≤ K + 1) : VW X w' vb g0 g1 g2 g3 bs na (K + 1) fa os fp fd (putF fg x a) := by
  obtain ⟨⟨d1, d2, d3, d4⟩, ⟨d5, d6, d7⟩, ⟨d8, d9⟩, d10⟩ := h.nd
  obtain ⟨v, k1, k2, k3⟩ := h.ex
  obtain ⟨n1, a1, b1⟩ := h.mp
  obtain ⟨n2, a2, b2⟩ := h.md
  refine ⟨⟨v, k1.grown hg (fun e => d4 (by injection e)), row_other k2 hg k3.2.2.2.2, k3⟩, h.ma.grown hg (fun e => d7 (by injection e)), ⟨n1, by omega, b1.grown hg (fun e => d9 (by injection e))⟩, ⟨n2, by omega, b2.grown hg (fun e => d10 (by injection e))⟩, ⟨n, hn, hm⟩, h.nd, h.ge, h.below.trans (gr_belowV hg h.ge.2.2.2.2 h.below.size)⟩
theorem VW.putA (h : VW X w vb g0 g1 g2 g3 bs na K fa os fp fd fg) {n : Nat} {f2 : Int → Option Int} (hg : w.grownBy w' (some g0)) (hm : VM w' g0 n f2) : VW X w' vb g0 g1 g2 g3 bs n K f2 os fp fd fg := by
  obtain ⟨⟨d1, d2, d3, d4⟩, ⟨d5, d6, d7⟩, ⟨d8, d9⟩, d10⟩ := h.nd
  obtain ⟨v, k1, k2, k3⟩ := h.ex
  obtain ⟨n1, a1, b1⟩ := h.mp
  obtain ⟨n2, a2, b2⟩ := h.md
  obtain ⟨n3, a3, b3⟩ := h.mg
  refine ⟨⟨v, k1.grown hg (fun e => d1 (by injection e)), row_other k2 hg k3.2.1, k3⟩, hm, ⟨n1, a1, b1.grown hg (fun e => d5 (by injection e with e; exact e.symm))⟩, ⟨n2, a2, b2.grown hg (fun e => d6 (by injection e with e; exact e.symm))⟩, ⟨n3, a3, b3.grown hg (fun e => d7 (by injection e with e; exact e.symm))⟩, h.nd, h.ge, h.below.trans (gr_belowV hg h.ge.2.1 h.below.size)⟩
/-- an id is put at the end of the order: the row has grown, the view's field is turned -/
theorem VW.push (h : VW X w vb g0 g1 g2 g3 bs na K fa os fp fd fg) {v v' : Value} {w3 : World} {x : Int} {tmp : Obj} (hb : Blk w vb 54 #[bs, .map (some g0), v, .map (some g1), .map (some g2), .map (some g3)]) (hl : ∀ b, v.ownBlock = some b → X.heap.size ≤ b) (hv : v.ownBlock ≠ some vb ∧ v.ownBlock ≠ some g0 ∧ v.ownBlock ≠ some g1 ∧ v.ownBlock ≠ some g2 ∧ v.ownBlock ≠ some g3)
    (hown : w3.ownsRow X.heap.size 3 1 v' (os.length + 1) (os.map (.int .i64) ++ [.int .i64 x])) (hg : (w.alloc tmp).grownBy w3 v.ownBlock) (hat : v'.ownBlock = v.ownBlock ∨ v'.ownBlock = some (w.heap.size + 1)) :
    (w3.cell? ⟨vb, 2, none⟩ = some v ∧ w3.frozen? ⟨vb, 2, none⟩ = false) ∧ VW X (w3.setCell ⟨vb, 2, none⟩ v') vb g0 g1 g2 g3 bs na K fa (os ++ [x]) fp fd fg := by
  obtain ⟨l0, l1, l2, l3⟩ := h.lts
  have lv := h.vlt
  obtain ⟨⟨d1, d2, d3, d4⟩, ⟨d5, d6, d7⟩, ⟨d8, d9⟩, d10⟩ := h.nd
  obtain ⟨n1, a1, b1⟩ := h.mp
  obtain ⟨n2, a2, b2⟩ := h.md
  obtain ⟨n3, a3, b3⟩ := h.mg
  obtain ⟨u1, u2, u3, u4, u5⟩ := hv
  have kb : Blk w3 vb 54 #[bs, .map (some g0), v, .map (some g1), .map (some g2), .map (some g3)] := (hb.alloc tmp).grown hg (fun e => u1 e.symm)
  have hn : ∀ g, g < w.heap.size → v.ownBlock ≠ some g → v'.ownBlock ≠ some g := fun g hg hne => by
    rcases hat with e | e
    · rw [e]; exact hne
    · rw [e]; intro q; injection q with q; omega
  have hB : Below X.heap.size X w3 := ((h.below.alloc h.below.size tmp).grown hg (by have := h.below.size; simp; omega) hl)
  refine ⟨⟨kb.cell 2, kb.frozen 2⟩, ⟨v', kb.set_ 2 v', ?_, hn vb lv u1, hn g0 l0 u2, hn g1 l1 u3, hn g2 l2 u4, hn g3 l3 u5⟩, ?_, ⟨n1, a1, ?_⟩, ⟨n2, a2, ?_⟩, ⟨n3, a3, ?_⟩, h.nd, h.ge, hB.setCell (p := ⟨vb, 2, none⟩) h.ge.1 _⟩
  · rw [List.length_append, List.map_append]
    exact ownsRow_setCell_other (a := ⟨vb, 2, none⟩) hown (hn vb lv u1) v'
  · exact ((h.ma.alloc tmp).grown hg (fun e => u2 e.symm)).setCell (fun e => d1 e.symm) _
  · exact ((b1.alloc tmp).grown hg (fun e => u3 e.symm)).setCell (fun e => d2 e.symm) _
  · exact ((b2.alloc tmp).grown hg (fun e => u4 e.symm)).setCell (fun e => d3 e.symm) _
  · exact ((b3.alloc tmp).grown hg (fun e => u5 e.symm)).setCell (fun e => d4 e.symm) _
end
end Go.Proofs.YtemngidkfgcigaaGreatDoor
namespace Go.Proofs.YtemngidkfgcigaaGreatDoor

/-- kids that are right -/
structure Kids (l : List Bl) : Prop where
  rise : Rise l
  ids : IdsIn l
  root : ∃ r, l[0]? = some r ∧ r.id = 0 ∧ r.parent = 0
  kid : ∀ b ∈ l, ∀ k ∈ b.kids, k ≠ 0 ∧ ∃ y ∈ l, y.id = k ∧ y.parent = b.id
  nod : ∀ b ∈ l, b.kids.Nodup
  short : l.length ≤ 2000
  few : ∀ b ∈ l, b.kids.length ≤ 500
theorem Rise.inj {l : List Bl} (h : Rise l) {x y : Bl} (hx : x ∈ l) (hy : y ∈ l) (e : x.id = y.id) : x = y := by
  obtain ⟨i, hi, rfl⟩ := List.mem_iff_getElem.1 hx
  obtain ⟨j, hj, rfl⟩ := List.mem_iff_getElem.1 hy
  rcases Nat.lt_trichotomy i j with g | g | g
  · have := h i j _ _ g (List.getElem?_eq_getElem hi) (List.getElem?_eq_getElem hj); omega
  · subst g; rfl
  · have := h j i _ _ g (List.getElem?_eq_getElem hj) (List.getElem?_eq_getElem hi); omega
/-- a block that the root reaches, and how deep it is -/
inductive Dp (l : List Bl) : Int → Nat → Prop
  | root : Dp l 0 0
  | step (b : Bl) (d : Nat) (k : Int) : Dp l b.id d → b ∈ l → k ∈ b.kids → Dp l k (d + 1)
theorem Dp.zero {l : List Bl} (K : Kids l) {d : Nat} (h : Dp l 0 d) : d = 0 := by
  generalize hz : (0 : Int) = z at h
  cases h with
  | root => rfl
  | step b d k h hb hk => exact absurd hz.symm (K.kid b hb _ hk).1
theorem Dp.fun_ {l : List Bl} (K : Kids l) {k : Int} {d : Nat} (h : Dp l k d) : ∀ {d' : Nat}, Dp l k d' → d = d' := by
  induction h with
  | root => intro d' h'; exact (h'.zero K).symm
  | step b d k h hb hk ih =>
    intro d' h'
    cases h' with
    | root => exact absurd rfl (K.kid b hb _ hk).1
    | step b' d' _ h' hb' hk' =>
      obtain ⟨_, y, hy, e1, e2⟩ := K.kid b hb k hk
      obtain ⟨_, y', hy', e1', e2'⟩ := K.kid b' hb' k hk'
      have e := K.rise.inj hy hy' (e1.trans e1'.symm)
      subst e
      rw [← e2', e2] at h'
      rw [ih h']
theorem Dp.mem {l : List Bl} (K : Kids l) {k : Int} {d : Nat} (h : Dp l k d) : ∃ y ∈ l, y.id = k := by
  cases h with
  | root =>
    obtain ⟨r, h1, h2, _⟩ := K.root
    exact ⟨r, List.mem_of_getElem? h1, h2⟩
  | step b d _ h hb hk =>
    obtain ⟨_, y, hy, e, _⟩ := K.kid b hb k hk
    exact ⟨y, hy, e⟩
/-- f says how deep each block is that the root reaches -/
def IsDep (l : List Bl) (f : Int → Option Int) : Prop := ∀ id d, f id = some d ↔ ∃ n : Nat, d = n ∧ Dp l id n
theorem IsDep.uniq {l : List Bl} {f g : Int → Option Int} (hf : IsDep l f) (hg : IsDep l g) : f = g := by
  funext id
  cases h : f id with
  | none =>
    cases h' : g id with
    | none => rfl
    | some d => rw [(hf id d).2 ((hg id d).1 h')] at h; cases h
  | some d => exact ((hg id d).2 ((hf id d).1 h)).symm
theorem IsDep.exists {l : List Bl} (K : Kids l) : ∃ f, IsDep l f := by
  classical
  refine ⟨fun id => if h : ∃ n : Nat, Dp l id n then some (h.choose : Int) else none, fun id d => ?_⟩
  by_cases h : ∃ n : Nat, Dp l id n
  · simp only [dif_pos h]
    constructor
    · intro e
      injection e with e
      exact ⟨h.choose, e.symm, h.choose_spec⟩
    · rintro ⟨n, rfl, hn⟩
      rw [h.choose_spec.fun_ K hn]
  · simp only [dif_neg h]
    exact ⟨(fun e => by cases e), fun ⟨n, _, hn⟩ => absurd ⟨n, hn⟩ h⟩
/-- the error of blocks' depths -/
def lvlE (f : Int → Option Int) : List Bl → Int
  | [] => 0
  | b :: r => if f b.id = none then 12 else if 40 < (f b.id).getD 0 then 13 else lvlE f r
theorem lvlE_at {f : Int → Option Int} {l : List Bl} {i : Nat} {b : Bl} (h : l[i]? = some b) : lvlE f (l.drop i) = if f b.id = none then 12 else if 40 < (f b.id).getD 0 then 13 else lvlE f (l.drop (i + 1)) := by
  obtain ⟨hk, e⟩ := List.getElem?_eq_some_iff.1 h
  rw [List.drop_eq_getElem_cons hk, lvlE, e]

/-! ### a search in the breadth -/
/-- how many blocks have no depth yet -/
def cntF (l : List Bl) (f : Int → Option Int) : Nat := (l.filter fun b => (f b.id).isNone).length
theorem cntF_le (l : List Bl) (f : Int → Option Int) : cntF l f ≤ l.length := List.length_filter_le _ _
theorem filter_less {α : Type} (p q : α → Bool) (hpq : ∀ x, q x = true → p x = true) {e : α} (hp : p e = true) (hq : q e = false) : ∀ {l : List α}, e ∈ l → (l.filter q).length < (l.filter p).length
  | [], h => by cases h
  | a :: l, h => by
    have hle : ∀ l : List α, (l.filter q).length ≤ (l.filter p).length := by
      intro l
      induction l with
      | nil => exact Nat.le_refl _
      | cons a l ih =>
        rw [List.filter_cons, List.filter_cons]
        cases h1 : q a with
        | false =>
          rw [if_neg (by decide)]
          cases h2 : p a with
          | false => rw [if_neg (by decide)]; exact ih
          | true => rw [if_pos rfl, List.length_cons]; omega
        | true => rw [if_pos rfl, if_pos (hpq a h1), List.length_cons, List.length_cons]; omega
    rw [List.filter_cons, List.filter_cons]
    rcases List.mem_cons.1 h with rfl | h
    · rw [hq, hp, if_neg (by decide), if_pos rfl, List.length_cons]
      have := hle l
      omega
    · have ih := filter_less p q hpq hp hq h
      cases h1 : q a with
      | false =>
        rw [if_neg (by decide)]
        cases h2 : p a with
        | false => rw [if_neg (by decide)]; exact ih
        | true => rw [if_pos rfl, List.length_cons]; omega
      | true => rw [if_pos rfl, if_pos (hpq a h1), List.length_cons, List.length_cons]; omega
/-- what the search keeps; t: the block that is being looked at, of whose kids the first are done -/
structure Bfs (l : List Bl) (f : Int → Option Int) (T : List Int) (t : Option (Bl × Nat)) (m : Nat) : Prop where
  zero : f 0 = some 0
  sound : ∀ id d, f id = some d → ∃ n : Nat, d = n ∧ Dp l id n ∧ n + cntF l f ≤ l.length
  queue : ∀ x ∈ T, ∃ d, f x = some d
  now : ∀ b j, t = some (b, j) → b ∈ l ∧ (∃ d, f b.id = some d) ∧ ∀ k ∈ b.kids.take j, ∃ d, f k = some d
  closed : ∀ b ∈ l, (∃ d, f b.id = some d) → b.id ∉ T → (∀ c j, t = some (c, j) → c.id ≠ b.id) → ∀ k ∈ b.kids, ∃ d, f k = some d
  less : cntF l f + T.length ≤ m
section
variable {l : List Bl} {f : Int → Option Int} {T : List Int} {m : Nat}
theorem Bfs.start (_K : Kids l) : Bfs l (fun id => if id = 0 then some 0 else none) [0] none (l.length + 1) where
  zero := rfl
  sound id d h := by
    have h : (if id = 0 then some (0 : Int) else none) = some d := h
    split at h
    · rename_i e
      injection h with h2
      subst h2
      rw [e]
      refine ⟨0, rfl, .root, ?_⟩
      have := cntF_le l (fun id => if id = 0 then some 0 else none)
      omega
    · cases h
  queue x hx := by
    obtain rfl : x = 0 := by simpa using hx
    exact ⟨0, rfl⟩
  now b j h := by cases h
  closed b hb h hT := by
    obtain ⟨d, h⟩ := h
    have h : (if b.id = 0 then some (0 : Int) else none) = some d := h
    split at h
    · rename_i e
      exact absurd (by rw [e]; simp) hT
    · cases h
  less := by
    have := cntF_le l (fun id => if id = 0 then some 0 else none)
    show _ + 1 ≤ _
    omega
theorem Bfs.pop {x : Int} (h : Bfs l f (x :: T) none (m + 1)) {b : Bl} (hb : b ∈ l) (e : b.id = x) : Bfs l f T (some (b, 0)) m where
  zero := h.zero
  sound := h.sound
  queue y hy := h.queue y (List.mem_cons_of_mem _ hy)
  now c j hc := by
    injection hc with hc
    injection hc with h1 h2
    subst h1 h2
    exact ⟨hb, e ▸ h.queue x (by simp), fun k hk => by simp at hk⟩
  closed c hc hf hT hn := h.closed c hc hf (fun hm => by
    rcases List.mem_cons.1 hm with g | g
    · exact hn b 0 rfl (e.trans g.symm)
    · exact hT g) (fun _ _ g => by cases g)
  less := by have := h.less; rw [List.length_cons] at this; omega
theorem Bfs.skip {b : Bl} {j : Nat} {k d : Int} (h : Bfs l f T (some (b, j)) m) (hk : b.kids[j]? = some k) (hd : f k = some d) : Bfs l f T (some (b, j + 1)) m where
  zero := h.zero
  sound := h.sound
  queue := h.queue
  now c i hc := by
    injection hc with hc
    injection hc with h1 h2
    subst h1 h2
    obtain ⟨a1, a2, a3⟩ := h.now b j rfl
    refine ⟨a1, a2, fun y hy => ?_⟩
    obtain ⟨hj, e⟩ := List.getElem?_eq_some_iff.1 hk
    rw [List.take_succ_eq_append_getElem hj, List.mem_append] at hy
    rcases hy with hy | hy
    · exact a3 y hy
    · obtain rfl : y = k := by rw [← e]; simpa using hy
      exact ⟨d, hd⟩
  closed c hc hf hT hn := h.closed c hc hf hT fun e i he => by
    injection he with he
    injection he with h1 h2
    subst h1 h2
    exact hn b (j + 1) rfl
  less := h.less
theorem cntF_put {k : Int} (hd : f k = none) {y : Bl} (hy : y ∈ l) (hyi : y.id = k) (d : Int) : cntF l (putF f k d) + 1 ≤ cntF l f := by
  refine Nat.succ_le_of_lt (filter_less _ _ (fun x hx => ?_) (e := y) (by simp [hyi, hd]) (by rw [hyi, putF_same]; rfl) hy)
  cases hfx : f x.id with
  | none => rfl
  | some v =>
    rw [putF_other f d (fun e => by rw [e, hd] at hfx; cases hfx), hfx] at hx
    cases hx
theorem Bfs.cnt (K : Kids l) {b : Bl} {j : Nat} {k : Int} (h : Bfs l f T (some (b, j)) m) (hk : b.kids[j]? = some k) (hd : f k = none) (d : Int) : cntF l (putF f k d) + 1 ≤ cntF l f := by
  obtain ⟨_, y, hy, hyi, _⟩ := K.kid b (h.now b j rfl).1 k (List.mem_of_getElem? hk)
  exact cntF_put hd hy hyi d
theorem Bfs.add (K : Kids l) {b : Bl} {j : Nat} {k : Int} (h : Bfs l f T (some (b, j)) m) (hk : b.kids[j]? = some k) (hd : f k = none) {d : Int} (hb : f b.id = some d) : Bfs l (putF f k (d + 1)) (T ++ [k]) (some (b, j + 1)) m := by
  obtain ⟨a1, a2, a3⟩ := h.now b j rfl
  have hkm : k ∈ b.kids := List.mem_of_getElem? hk
  have hsome : ∀ z d', f z = some d' → putF f k (d + 1) z = some d' := fun z d' h' => by
    unfold putF
    rw [if_neg (fun e => by rw [e, hd] at h'; cases h')]
    exact h'
  have hself : putF f k (d + 1) k = some (d + 1) := if_pos rfl
  have hc := h.cnt K hk hd (d + 1)
  obtain ⟨n, rfl, hn1, hn2⟩ := h.sound _ _ hb
  refine ⟨hsome _ _ h.zero, fun z e hz => ?_, fun x hx => ?_, fun c i hc => ?_, fun c hcl hf hT hn => ?_, ?_⟩
  · unfold putF at hz
    split at hz
    · rename_i e1
      injection hz with hz
      subst e1 hz
      exact ⟨n + 1, rfl, .step b n _ hn1 a1 hkm, by omega⟩
    · obtain ⟨n', h1, h2, h3⟩ := h.sound z e hz
      exact ⟨n', h1, h2, by omega⟩
  · rcases List.mem_append.1 hx with hx | hx
    · obtain ⟨v, hv⟩ := h.queue x hx
      exact ⟨v, hsome _ _ hv⟩
    · obtain rfl : x = k := by simpa using hx
      exact ⟨_, hself⟩
  · injection hc with hc
    injection hc with h1 h2
    subst h1 h2
    obtain ⟨v, hv⟩ := a2
    refine ⟨a1, ⟨v, hsome _ _ hv⟩, fun z hz => ?_⟩
    obtain ⟨hj, e⟩ := List.getElem?_eq_some_iff.1 hk
    rw [List.take_succ_eq_append_getElem hj, List.mem_append] at hz
    rcases hz with hz | hz
    · obtain ⟨v, hv⟩ := a3 z hz
      exact ⟨v, hsome _ _ hv⟩
    · obtain rfl : z = k := by rw [← e]; simpa using hz
      exact ⟨_, hself⟩
  · have hck : c.id ≠ k := fun e => hT (by rw [e]; simp)
    have hcT : c.id ∉ T := fun g => hT (List.mem_append_left _ g)
    obtain ⟨v, hv⟩ := hf
    have hv' : f c.id = some v := by
      unfold putF at hv
      rwa [if_neg hck] at hv
    intro z hz
    obtain ⟨v', hv2⟩ := h.closed c hcl ⟨v, hv'⟩ hcT (fun e i he => by
      injection he with he
      injection he with h1 h2
      subst h1 h2
      exact hn b (j + 1) rfl) z hz
    exact ⟨v', hsome _ _ hv2⟩
  · have := h.less
    rw [List.length_append, List.length_singleton]
    omega
theorem Bfs.done {b : Bl} {j : Nat} (h : Bfs l f T (some (b, j)) m) (hj : b.kids.length ≤ j) (K : Kids l) : Bfs l f T none m where
  zero := h.zero
  sound := h.sound
  queue := h.queue
  now c i hc := by cases hc
  closed c hc hf hT _ k hk := by
    obtain ⟨a1, a2, a3⟩ := h.now b j rfl
    by_cases e : b.id = c.id
    · have e := K.rise.inj a1 hc e
      subst e
      exact a3 k (by rw [List.take_of_length_le hj]; exact hk)
    · exact h.closed c hc hf hT (fun d i hd => by
        injection hd with hd
        injection hd with h1 h2
        subst h1
        exact e) k hk
  less := h.less
theorem Bfs.isDep (K : Kids l) (h : Bfs l f [] none m) : IsDep l f := by
  have key : ∀ {id : Int} {n : Nat}, Dp l id n → ∃ d, f id = some d := by
    intro id n hd
    induction hd with
    | root => exact ⟨0, h.zero⟩
    | step b d k hd hb hk ih => exact h.closed b hb ih (by simp) (fun _ _ g => by cases g) k hk
  intro id d
  constructor
  · intro hd
    obtain ⟨n, h1, h2, _⟩ := h.sound id d hd
    exact ⟨n, h1, h2⟩
  · rintro ⟨n, rfl, hn⟩
    obtain ⟨d, hd⟩ := key hn
    obtain ⟨n', rfl, h2, _⟩ := h.sound id d hd
    rw [hd, h2.fun_ K hn]
end
end Go.Proofs.YtemngidkfgcigaaGreatDoor
