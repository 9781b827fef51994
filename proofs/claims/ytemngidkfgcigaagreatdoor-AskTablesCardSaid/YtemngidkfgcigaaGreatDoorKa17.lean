/-
  DERIVED. The walk of ask.view's block. Conditions: none.
  A block's kids, taken out of a block that a call hands back. Conditions: none.
  What the reference's search in the depth keeps. Plain law. Conditions: none.
  The walk of the reference's reach. Conditions: sizes; a base whose kids are right.
  By an AI agent.
-/
import Derived.Test.YtemngidkfgcigaaGreatDoorKa13
import Derived.Test.YtemngidkfgcigaaGreatDoorKa07
import Derived.StillTailTactics
import Derived.Deep.RegionWith
import Derived.Deep.LoopGhost
import Derived.Deep.DeepCutAuto
namespace Go.Proofs.YtemngidkfgcigaaGreatDoor
open Go.RowKit

theorem vw_zero : ∀ w, (zeroValue 3).run Tryz.prog w = .ok (.int .i64 0) w := fun w => Tryz.zeroValue3 w
theorem vw_elem : ElemLaw Tryz.prog 3 (Value.int .i64) (fun x : Int => .lit (.int .i64 x)) I64 0 := intElem (P := Tryz.prog) (e := 3) Tryz.underlying3 vw_zero

theorem vfin5 {w w1 : World} {t : TypeId} {z0 z1 z2 z3 z4 : Value} (hg : Below w.heap.size w w1) (hP : Blk w1 w.heap.size t #[z0, z1, z2, z3, z4]) (x0 x1 x2 x3 x4 : Value) (WF : World)
    (hWF : WF = ((((w1.setCell ⟨w.heap.size, 0, none⟩ x0).setCell ⟨w.heap.size, 1, none⟩ x1).setCell ⟨w.heap.size, 2, none⟩ x2).setCell ⟨w.heap.size, 3, none⟩ x3).setCell ⟨w.heap.size, 4, none⟩ x4) :
    (WF.cell? ⟨w.heap.size, 0, none⟩ = some x0 ∧ WF.cell? ⟨w.heap.size, 1, none⟩ = some x1 ∧ WF.cell? ⟨w.heap.size, 2, none⟩ = some x2 ∧ WF.cell? ⟨w.heap.size, 3, none⟩ = some x3 ∧ WF.cell? ⟨w.heap.size, 4, none⟩ = some x4)
      ∧ Below w.heap.size w WF := by
  subst hWF
  have hb := ((((hP.set_ 0 x0).set_ 1 x1).set_ 2 x2).set_ 3 x3).set_ 4 x4
  refine ⟨⟨hb.cell 0, hb.cell 1, hb.cell 2, hb.cell 3, hb.cell 4⟩, ?_⟩
  exact ((((hg.setCell (p := ⟨w.heap.size, 0, none⟩) (Nat.le_refl _) _).setCell (p := ⟨w.heap.size, 1, none⟩) (Nat.le_refl _) _).setCell (p := ⟨w.heap.size, 2, none⟩) (Nat.le_refl _) _).setCell (p := ⟨w.heap.size, 3, none⟩) (Nat.le_refl _) _).setCell (p := ⟨w.heap.size, 4, none⟩) (Nat.le_refl _) _

set_option maxHeartbeats 1000000 in
set_option maxRecDepth 100000 in
theorem vblock_any {X : World} {vb g0 g1 g2 g3 na K : Nat} {A : Option Addr} {n c : Nat} {fa fp fd fg : Int → Option Int} {os : List Int} (l : List Bl) (id : Int) (p : Nat) (b : Bl) (w : World) (h : VW X w vb g0 g1 g2 g3 (.slice A n c) na K fa os fp fd fg)
    (hb : RB X X.heap.size (.slice A n c) l) (hid : I64 id) (hfa : fa id = some (p : Int)) (hp : l[p]? = some b) :
    Calls Tryz.prog 39 #[.pointer (some ⟨vb, 0, none⟩), .int .i64 id] w fun e w' => ∃ Ak nk ck Ap np cp, e = .returned (AB (b, .slice Ak nk ck, .slice Ap np cp)) ∧ RIn X X.heap.size (.slice Ak nk ck) b.kids ∧ RPr X X.heap.size (.slice Ap np cp) b.props ∧ Below w.heap.size w w' := by
  obtain ⟨hn, hnc, hn8⟩ := hb.len
  obtain ⟨bl, off, Ak, nk, ck, Ap, np, cp, rfl, hbb, u0, u1, u2, u3, u4, hk, hpr⟩ := hb.at_ hp
  obtain ⟨W1, hW1⟩ : ∃ W1, W1 = w.alloc (.cells #[.int .i64 0, .int .i64 0, .slice none 0 0, .string ⟨#[]⟩, .slice none 0 0] 35) := ⟨_, rfl⟩
  have hb1 : Below w.heap.size w W1 := by rw [hW1]; exact (Below.refl _ _).alloc (Nat.le_refl _) _
  have hK1 : Blk W1 w.heap.size 35 #[.int .i64 0, .int .i64 0, .slice none 0 0, .string ⟨#[]⟩, .slice none 0 0] := by rw [hW1]; exact Blk.new _ _ _
  obtain ⟨W2, hW2⟩ : ∃ W2, W2 = W1.drew := ⟨_, rfl⟩
  have hb2 : Below w.heap.size w W2 := by rw [hW2]; exact hb1.drew
  have h2 := h.step hb2
  have hK2 : Blk W2 w.heap.size 35 #[.int .i64 0, .int .i64 0, .slice none 0 0, .string ⟨#[]⟩, .slice none 0 0] := by rw [hW2]; exact hK1
  obtain ⟨v, k1, _, _⟩ := h2.ex
  obtain ⟨v', k1', _, _⟩ := (h.step hb1).ex
  have c0 : W1.cell? ⟨vb, 0, none⟩ = some (.slice (some ⟨bl, off, none⟩) n c) := k1'.cell 0
  have c1 : W1.cell? ⟨vb, 1, none⟩ = some (.map (some g0)) := k1'.cell 1
  have h1 := h.step hb1
  have e0 := (h1.below.cell (p := ⟨bl, off + p * 5, none⟩) hbb).trans u0
  have e1 := (h1.below.cell (p := ⟨bl, off + p * 5 + 1, none⟩) hbb).trans u1
  have e2 := (h1.below.cell (p := ⟨bl, off + p * 5 + 2, none⟩) hbb).trans u2
  have e3 := (h1.below.cell (p := ⟨bl, off + p * 5 + 3, none⟩) hbb).trans u3
  have e4 := (h1.below.cell (p := ⟨bl, off + p * 5 + 4, none⟩) hbb).trans u4
  have hlk := h1.ma.look vw_elem Tryz.underlying3 Tryz.underlying52 hid
  rw [hfa] at hlk
  have hlk2 : (Instr.lookup 52 (.map (some g0)) (.int .i64 id) false).run Tryz.prog W1 = .ok (.int .i64 (p : Int)) W1 := hlk
  have hlk3 : (Instr.lookup 52 (.map (some g0)) (.int .i64 id) false).run Tryz.prog W1.drew = .ok (.int .i64 (p : Int)) W1.drew := by
    have h3 := (show VM W1.drew g0 na fa from h1.ma).look vw_elem Tryz.underlying3 Tryz.underlying52 hid
    rw [hfa] at h3
    exact h3
  have hpl := (List.getElem?_eq_some_iff.1 hp).1
  have j0 : (0 : Int) ≤ (p : Int) := by omega
  have j1 : (p : Int) < (n : Int) := by omega
  have HK := Lib.hid hk
  have HP := Lib.hid hpr
  have HW1 := Lib.hid hW1
  have HB1 := Lib.hid hb1
  have y0 : W1.cell? ⟨w.heap.size, 0, none⟩ = some (.int .i64 0) := hK1.cell 0
  have y1 : W1.cell? ⟨w.heap.size, 1, none⟩ = some (.int .i64 0) := hK1.cell 1
  have y2 : W1.cell? ⟨w.heap.size, 2, none⟩ = some (.slice none 0 0) := hK1.cell 2
  have y3 : W1.cell? ⟨w.heap.size, 3, none⟩ = some (.string ⟨#[]⟩) := hK1.cell 3
  have y4 : W1.cell? ⟨w.heap.size, 4, none⟩ = some (.slice none 0 0) := hK1.cell 4
  have z0 := hK1.frozen 0
  have z1 := hK1.frozen 1
  have z2 := hK1.frozen 2
  have z3 := hK1.frozen 3
  have z4 := hK1.frozen 4
  have HK1 := Lib.hid hK1
  obtain ⟨bi, bp, bk, bt, bq⟩ := b
  dsimp only at e0 e1 e2 e3 e4 HK HP ⊢
  unfold AB
  dsimp only
  clear h hb hfa hp u0 u1 u2 u3 u4 hk hpr k1 k1' hn hpl hid hlk hK1 hK2 h1 h2 hW1 hb1 hW2 hb2
  go_enter Tryz.func39, Tryz.ntmps39
  go_upto_region 1 with fail
  rw [← HW1.out]
  go_region_with fail
  all_goals
    clear e0 e1 e2 e3 e4 y0 y1 y2 y3 y4 z0 z1 z2 z3 z4 c0 c1 hlk2 hlk3
    go_wp2_with fail
    obtain ⟨WF, hWF⟩ : ∃ WF, WF = ((((W1.setCell ⟨w.heap.size, 0, none⟩ (.int .i64 bi)).setCell ⟨w.heap.size, 1, none⟩ (.int .i64 bp)).setCell ⟨w.heap.size, 2, none⟩ (.slice Ak nk ck)).setCell ⟨w.heap.size, 3, none⟩ (.string bt)).setCell ⟨w.heap.size, 4, none⟩ (.slice Ap np cp) := ⟨_, rfl⟩
    rw [← hWF]
    obtain ⟨⟨r0, r1, r2, r3, r4⟩, bF⟩ := vfin5 (w1 := W1) HB1.out HK1.out (.int .i64 bi) (.int .i64 bp) (.slice Ak nk ck) (.string bt) (.slice Ap np cp) WF hWF
    clear hWF
    have r0 : WF.drew.cell? ⟨w.heap.size, 0, none⟩ = some (.int .i64 bi) := r0
    have r1 : WF.drew.cell? ⟨w.heap.size, 1, none⟩ = some (.int .i64 bp) := r1
    have r2 : WF.drew.cell? ⟨w.heap.size, 2, none⟩ = some (.slice Ak nk ck) := r2
    have r3 : WF.drew.cell? ⟨w.heap.size, 3, none⟩ = some (.string bt) := r3
    have r4 : WF.drew.cell? ⟨w.heap.size, 4, none⟩ = some (.slice Ap np cp) := r4
    refine bodyPost_ret (v := .agg #[.int .i64 bi, .int .i64 bp, .slice Ak nk ck, .string bt, .slice Ap np cp]) (by simp [results, Tryz.results39, go_sem, r0, r1, r2, r3, r4]) rfl ?_
    exact ⟨Ak, nk, ck, Ap, np, cp, rfl, HK.out, HP.out, bF.drew⟩
end Go.Proofs.YtemngidkfgcigaaGreatDoor
namespace Go.Proofs.YtemngidkfgcigaaGreatDoor
open Go.RowKit
theorem field_kids (a b d e : Value) (A : Option Addr) (n c : Nat) (w : World) : (Instr.field 35 (.agg #[a, b, .slice A n c, d, e]) 2).run Tryz.prog w = .ok (.slice A n c) w := by
  have h := Tryz.underlying35
  have h2 := Tryz.isAgg23
  have h3 := Tryz.sizeOf23
  simp [Instr.field, part, asAgg, h2, Result.andThen, go_sem]
end Go.Proofs.YtemngidkfgcigaaGreatDoor
namespace Go.Proofs.YtemngidkfgcigaaGreatDoor

def zeros (D : List Int) : Nat := (D.filter (· == 0)).length
theorem zeros_set {D : List Int} {p : Nat} {v : Int} (h : D[p]? = some 0) (hv : v ≠ 0) : zeros (D.set p v) + 1 = zeros D := by
  induction D generalizing p with
  | nil => simp at h
  | cons a D ih =>
    rcases p with _ | p
    · obtain rfl : a = 0 := by simpa using h
      simp [zeros, hv]
    · have := ih (by simpa using h)
      unfold zeros at this ⊢
      rw [List.set_cons_succ, List.filter_cons, List.filter_cons]
      split
      · rw [List.length_cons, List.length_cons]; omega
      · exact this
theorem zeros_le (D : List Int) : zeros D ≤ D.length := List.length_filter_le _ _
theorem zeros_pos {D : List Int} {p : Nat} (h : D[p]? = some 0) : 1 ≤ zeros D := by
  have := zeros_set h (v := 1) (by omega)
  omega
/-- depths that are right -/
structure Rch (l : List Bl) (D : List Int) : Prop where
  len : D.length = l.length
  sound : ∀ (i : Nat) (d : Int), D[i]? = some d → d ≠ 0 → ∃ (y : Bl) (n : Nat), l[i]? = some y ∧ d = (n : Int) ∧ Dp l y.id n
/-- a kid has its depth -/
def Mk (l : List Bl) (D : List Int) (k : Int) : Prop := ∃ (p : Nat) (d : Int), posOf l k = (p : Int) ∧ D[p]? = some d ∧ d ≠ 0
/-- what has been done since D, of the first j kids of x -/
structure RchTo (l : List Bl) (D D' : List Int) (kids : List Int) : Prop where
  rch : Rch l D'
  mono : ∀ (j : Nat) (d : Int), D[j]? = some d → d ≠ 0 → D'[j]? = some d
  fresh : ∀ (j : Nat) (d : Int) (y : Bl), D[j]? = some 0 → D'[j]? = some d → d ≠ 0 → l[j]? = some y → ∀ k ∈ y.kids, Mk l D' k
  kids : ∀ k ∈ kids, Mk l D' k
  less : zeros D' ≤ zeros D
section
variable {l : List Bl} {D D' D2 : List Int} {ks : List Int}
theorem RchTo.start (h : Rch l D) : RchTo l D D [] where
  rch := h
  mono _ _ h _ := h
  fresh j d y h h' hd := by rw [h] at h'; injection h' with h'; exact absurd h'.symm hd
  kids k hk := by cases hk
  less := Nat.le_refl _
theorem Mk.mono (h : RchTo l D D' ks) {k : Int} (hm : Mk l D k) : Mk l D' k := by
  obtain ⟨p, d, h1, h2, h3⟩ := hm
  exact ⟨p, d, h1, h.mono p d h2 h3, h3⟩
theorem RchTo.skip (h : RchTo l D D' ks) {k : Int} {p : Nat} {d : Int} (hp : posOf l k = (p : Int)) (hd : D'[p]? = some d) (h0 : d ≠ 0) : RchTo l D D' (ks ++ [k]) where
  rch := h.rch
  mono := h.mono
  fresh := h.fresh
  kids z hz := by
    rcases List.mem_append.1 hz with hz | hz
    · exact h.kids z hz
    · obtain rfl : z = k := by simpa using hz
      exact ⟨p, d, hp, hd, h0⟩
  less := h.less
theorem Rch.set (h : Rch l D) {x y : Bl} (hx : x ∈ l) {k : Int} (hk : k ∈ x.kids) {n : Nat} (hn : Dp l x.id n) {p : Nat} (hy : l[p]? = some y) (hyk : y.id = k) : Rch l (D.set p ((n : Int) + 1)) where
  len := by rw [List.length_set]; exact h.len
  sound i d hi hd := by
    rw [List.getElem?_set] at hi
    split at hi
    · rename_i e
      subst e
      split at hi
      · injection hi with hi
        exact ⟨y, n + 1, hy, by omega, by rw [hyk]; exact .step x n k hn hx hk⟩
      · cases hi
    · exact h.sound i d hi hd
theorem RchTo.down (h : RchTo l D D' ks) {k : Int} {p : Nat} (hp : posOf l k = (p : Int)) {y : Bl} (hy : l[p]? = some y) (h0 : D'[p]? = some 0) {v : Int} (hv : v ≠ 0) (h2 : RchTo l (D'.set p v) D2 y.kids) : RchTo l D D2 (ks ++ [k]) := by
  have hpl : p < D'.length := (List.getElem?_eq_some_iff.1 h0).1
  have hset : ∀ (j : Nat) (d : Int), D'[j]? = some d → d ≠ 0 → D2[j]? = some d := fun j d hj hd => by
    refine h2.mono j d ?_ hd
    rw [List.getElem?_set]
    split
    · rename_i e
      subst e
      rw [h0] at hj; injection hj with hj; exact absurd hj.symm hd
    · exact hj
  have hmk : ∀ k, Mk l D' k → Mk l D2 k := fun k ⟨p, d, a, b, c⟩ => ⟨p, d, a, hset p d b c, c⟩
  have hp2 : D2[p]? = some v := h2.mono p v (by rw [List.getElem?_set_self hpl]) hv
  refine ⟨h2.rch, fun j d hj hd => hset j d (h.mono j d hj hd) hd, fun j d z hj hj2 hd hz k hk => ?_, fun z hz => ?_, ?_⟩
  · obtain ⟨d', hd'⟩ : ∃ d', D'[j]? = some d' := ⟨_, List.getElem?_eq_getElem (by rw [h.rch.len]; exact (List.getElem?_eq_some_iff.1 hz).1)⟩
    by_cases e : d' = 0
    · subst e
      by_cases ej : j = p
      · subst ej
        rw [hy] at hz
        obtain rfl := Option.some.inj hz
        exact h2.kids k hk
      · exact h2.fresh j d z (by rw [List.getElem?_set_ne (fun e => ej e.symm)]; exact hd') hj2 hd hz k hk
    · exact hmk k (h.fresh j d' z hj hd' e hz k hk)
  · rcases List.mem_append.1 hz with hz | hz
    · exact hmk z (h.kids z hz)
    · obtain rfl : z = k := by simpa using hz
      exact ⟨p, v, hp, hp2, hv⟩
  · have := zeros_set h0 hv
    have := h2.less
    have := h.less
    omega
/-- what the search from the root has found -/
theorem RchTo.isDep (K : Kids l) {f : Int → Option Int} (hf : IsDep l f) {r : Bl} (hr : l[0]? = some r) (hD : ∀ (j : Nat) (d : Int), D[j]? = some d → d = 0) (hl : D.length = l.length) (h : RchTo l D D' r.kids) : ∀ (i : Nat) (x : Bl), l[i]? = some x → i ≠ 0 → ∃ d, D'[i]? = some d ∧ (d = 0 → f x.id = none) ∧ (d ≠ 0 → f x.id = some d) := by
  have hr0 : r.id = 0 := by
    obtain ⟨r', h1, h2, _⟩ := K.root
    rw [hr] at h1
    rw [Option.some.inj h1]; exact h2
  have key : ∀ {id : Int} {n : Nat}, Dp l id n → id ≠ 0 → Mk l D' id := by
    intro id n hd
    induction hd with
    | root => intro h0; exact absurd rfl h0
    | step b d k hd hb hk ih =>
      intro _
      by_cases e : b.id = 0
      · have : b = r := K.rise.inj hb (List.mem_of_getElem? hr) (e.trans hr0.symm)
        subst this
        exact h.kids k hk
      · obtain ⟨p, v, h1, h2, h3⟩ := ih e
        obtain ⟨q, hq, hqe⟩ := List.mem_iff_getElem.1 hb
        have hbq : l[q]? = some b := by rw [List.getElem?_eq_getElem hq, hqe]
        have hpq : p = q := by
          have := posOf_of K.rise hbq
          rw [h1] at this
          omega
        subst hpq
        have hz : D[p]? = some 0 := by
          obtain ⟨z, hz⟩ : ∃ z, D[p]? = some z := ⟨_, List.getElem?_eq_getElem (by rw [hl]; exact hq)⟩
          rw [hz, hD p z hz]
        exact h.fresh p v b hz h2 h3 hbq k hk
  intro i x hx hi
  have hil := (List.getElem?_eq_some_iff.1 hx).1
  obtain ⟨d, hd⟩ : ∃ d, D'[i]? = some d := ⟨_, List.getElem?_eq_getElem (by rw [h.rch.len]; exact hil)⟩
  have hx0 : x.id ≠ 0 := by
    have := K.rise 0 i r x (by omega) hr hx
    omega
  refine ⟨d, hd, fun h0 => ?_, fun h0 => ?_⟩
  · cases hfx : f x.id with
    | none => rfl
    | some v =>
      obtain ⟨n, _, hn⟩ := (hf _ _).1 hfx
      obtain ⟨p, v', h1, h2, h3⟩ := key hn hx0
      have := posOf_of K.rise hx
      rw [h1] at this
      have hpi : p = i := by omega
      subst hpi
      rw [hd] at h2
      injection h2 with h2
      exact absurd (h2.symm.trans h0) h3
  · obtain ⟨y, n, h1, h2, h3⟩ := h.rch.sound i d hd h0
    rw [hx] at h1
    obtain rfl := Option.some.inj h1
    exact (hf _ _).2 ⟨n, h2, h3⟩
end
end Go.Proofs.YtemngidkfgcigaaGreatDoor
namespace Go.Proofs.YtemngidkfgcigaaGreatDoor
open Go.RowKit

def ints (D : List Int) : Array Value := (D.map (Value.int .i64)).toArray
theorem ints_at {D : List Int} {p : Nat} {d : Int} (h : D[p]? = some d) : (ints D)[p]? = some (.int .i64 d) := by
  unfold ints; simp [h]
theorem ints_set (D : List Int) (p : Nat) (d : Int) : (ints D).setIfInBounds p (.int .i64 d) = ints (D.set p d) := by
  unfold ints
  apply Array.ext'
  simp [List.map_set]
/-- what reach leaves -/
def ReachP (l : List Bl) (D : List Int) (kids : List Int) (g : Nat) (w : World) (e : Ending) (w' : World) : Prop :=
  e = .returned (.tuple #[]) ∧ ∃ D', RchTo l D D' kids ∧ Blk w' g 3 (ints D') ∧ w.grownBy w' (some g)
theorem grown_refl (w : World) (r : Option Nat) : w.grownBy w r := ⟨rfl, rfl, rfl, Nat.le_refl _, fun _ _ _ => rfl⟩
theorem below_of_grown {w w' : World} {g B : Nat} (h : w.grownBy w' (some g)) (hB : B ≤ g) (hw : B ≤ w.heap.size) : Below B w w' :=
  (Below.refl B w).grown h hw (fun k hk => by injection hk with hk; omega)
theorem grown_of_below {w w1 w2 : World} {r : Option Nat} (h : w.grownBy w1 r) (hb : Below w1.heap.size w1 w2) : w.grownBy w2 r :=
  h.trans ⟨hb.os, hb.tape, hb.output, hb.size, fun k hk _ => hb.block k hk⟩

set_option maxHeartbeats 4000000 in
theorem reach_walk (l : List Bl) (K : Kids l) (A : Option Addr) (n c : Nat) (B : Nat) (D : List Int) (i dd : Nat) (x : Bl) (g : Nat) (w : World) (h : RB w B (.slice A n c) l) (hBg : B ≤ g) (hx : l[i]? = some x) (hdp : Dp l x.id dd) (hdz : dd + zeros D ≤ n) (hg : Blk w g 3 (ints D)) (hD : Rch l D)
    (IH : ∀ (D1 : List Int) (p : Nat) (y : Bl) (W : World), zeros D1 + 1 ≤ zeros D → RB W B (.slice A n c) l → l[p]? = some y → Dp l y.id (dd + 1) → Blk W g 3 (ints D1) → Rch l D1 → Calls Tryz.prog 28 #[.slice A n c, .int .i64 p, .int .i64 ((dd : Int) + 1), .slice (some ⟨g, 0, none⟩) n n] W (ReachP l D1 y.kids g W)) :
    Calls Tryz.prog 28 #[.slice A n c, .int .i64 i, .int .i64 dd, .slice (some ⟨g, 0, none⟩) n n] w (ReachP l D x.kids g w) := by
  have hbg : n * 80 ≤ 140737488351232 := h.len.2.2
  have hgw : g < w.heap.size := hg.lt
  have hil := (List.getElem?_eq_some_iff.1 hx).1
  have hin : i < n := by have := h.len.1; omega
  obtain ⟨b, off, Ak, nk, ck, Ap, np, cp, rfl, hbb, g0, g1, g2, g3, g4, hK, _⟩ := h.at_ hx
  have HN := Lib.hid h.len
  have HAT := Lib.hid fun (id : Int) (W : World) (hW : Below B w W) => at_any l (some ⟨b, off, none⟩) n c id W B (by have := hW.size; omega) (h.below hW)
  have H := Lib.hid h
  have HK := Lib.hid hK
  have HKL := Lib.hid hK.len
  have HX := Lib.hid hx
  have HDP := Lib.hid hdp
  have HDZ := Lib.hid hdz
  have HG := Lib.hid hg
  have HS := Lib.hid (RchTo.start hD)
  have HI := Lib.hid IH
  have KK := Lib.hid K
  have hdn : dd ≤ n := by omega
  have i0 : (0 : Int) ≤ (i : Int) := by omega
  have i1 : (i : Int) < (n : Int) := by omega
  clear h hK hx hdp hdz hg hD IH g0 g1 g3 g4
  go_enter Tryz.func28, Tryz.ntmps28
  go_wp2_with fail
  go_loopg [17] nk (fun gg s17 wr => ∃ (j : Nat) (D' : List Int), j + gg = nk ∧ s17 = .int .i64 (j : Int) ∧ Hid (RchTo l D D' (x.kids.take j)) ∧ Hid (Blk wr g 3 (ints D')) ∧ Hid (w.grownBy wr (some g)))
  case atStart => exact ⟨0, D, by omega, rfl, HS.out, HG, grown_refl _ _⟩
  case round =>
    obtain ⟨j, D', hjg, rfl, hr, hb, hgr⟩ := hrel
    have hbk : nk ≤ ck ∧ nk * 8 ≤ 140737488351232 := HKL.out.2
    have HBW : Hid (Below B w wr) := below_of_grown hgr.out hBg (by omega)
    by_cases hj : j < nk
    case neg =>
      obtain rfl : j = nk := by omega
      have hr' := hr.out
      rw [List.take_of_length_le (by rw [← HKL.out.1]; exact Nat.le_refl _)] at hr'
      have HR := Lib.hid hr'
      clear hr'
      go_wp2_with fail
      go_end0
      exact ⟨rfl, D', HR.out, hb.out, hgr.out⟩
    obtain ⟨k, hkk⟩ : ∃ k, x.kids[j]? = some k := ⟨_, List.getElem?_eq_getElem (by have := HKL.out.1; omega)⟩
    obtain ⟨bk, ok, rfl, hbk2, q0⟩ := HK.out.at_ hkk
    have q0 := (HBW.out.cell (p := ⟨bk, ok + j, none⟩) (by show bk < _; omega)).trans q0
    have z0 : (0 : Int) ≤ (j : Int) := by omega
    have z1 : (j : Int) < (nk : Int) := by omega
    have hkm := List.mem_of_getElem? hkk
    have hxm := List.mem_of_getElem? HX.out
    obtain ⟨_, y, hy, hyk, _⟩ := KK.out.kid x hxm k hkm
    obtain ⟨p, hpl, hpe⟩ := List.mem_iff_getElem.1 hy
    have hly : l[p]? = some y := by rw [List.getElem?_eq_getElem hpl, hpe]
    have hpos : posOf l k = (p : Int) := by rw [← hyk]; exact posOf_of KK.out.rise hly
    have HA := HAT.out k wr HBW.out
    rw [hpos] at HA
    have HA := Lib.hid HA
    have hpn : p < n := by have := HN.out.1; omega
    have p0 : (0 : Int) ≤ (p : Int) := by omega
    have p1 : (p : Int) < (n : Int) := by omega
    obtain ⟨d, hd⟩ : ∃ d, D'[p]? = some d := ⟨_, List.getElem?_eq_getElem (by rw [hr.out.rch.len]; exact hpl)⟩
    have HT : Hid (x.kids.take (j + 1) = x.kids.take j ++ [k]) := by
      show _ = _
      obtain ⟨hk, e⟩ := List.getElem?_eq_some_iff.1 hkk
      rw [List.take_succ_eq_append_getElem hk, e]
    have hgl : g < wr.heap.size := hb.out.lt
    have HY := Lib.hid hly
    have HYK := Lib.hid hyk
    have HKM := Lib.hid hkm
    have HXM := Lib.hid hxm
    have HPOS := Lib.hid hpos
    have HD := Lib.hid hd
    clear hkk hy hyk hpl hpe hly hpos hkm hxm hd
    by_cases h0 : d = 0
    case neg =>
      have HSK : Hid (RchTo l D D' (x.kids.take (j + 1))) := by rw [HT.out]; exact hr.out.skip HPOS.out HD.out h0
      have h0' : (d == 0) = false := by simpa using h0
      clear h0
      go_wp2_with fail
      refine HA.out.mono ?_
      rintro e w2 ⟨rfl, hb2⟩
      have HB2 : Hid (Blk w2 g 3 (ints D')) := hb.out.below hb2 hgl
      have HG2 : Hid (w.grownBy w2 (some g)) := grown_of_below hgr.out hb2
      have c0 : w2.cell? ⟨g, p, none⟩ = some (.int .i64 d) := (HB2.out.cell p).trans (ints_at HD.out)
      clear hb2
      go_wp2_with fail
      go_roundg (nk - (j + 1))
      case measure => omega
      case rel => exact ⟨j + 1, D', by omega, by go_num, HSK, HB2, HG2⟩
    case pos =>
      subst h0
      have hz1 := zeros_pos HD.out
      have hzl := hr.out.less
      have hdz := HDZ.out
      have hne : ((dd : Int) + 1) ≠ 0 := by omega
      have hzs := zeros_set HD.out hne
      have HST := Lib.hid (hr.out.rch.set HXM.out HKM.out HDP.out HY.out HYK.out)
      have HDY : Hid (Dp l y.id (dd + 1)) := by rw [HYK.out]; exact .step x dd k HDP.out HXM.out HKM.out
      have HZL : Hid (zeros (D'.set p ((dd : Int) + 1)) + 1 ≤ zeros D) := by show _ ≤ _; omega
      have HFIN : Hid (∀ D2, RchTo l (D'.set p ((dd : Int) + 1)) D2 y.kids → RchTo l D D2 (x.kids.take (j + 1))) := fun D2 h2 => by rw [HT.out]; exact hr.out.down HPOS.out HY.out HD.out hne h2
      clear hz1 hzl hdz hzs hne
      go_wp2_with fail
      refine HA.out.mono ?_
      rintro e w2 ⟨rfl, hb2⟩
      have HB2 : Hid (Blk w2 g 3 (ints D')) := hb.out.below hb2 hgl
      have HG2 : Hid (w.grownBy w2 (some g)) := grown_of_below hgr.out hb2
      have c0 : w2.cell? ⟨g, p, none⟩ = some (.int .i64 0) := (HB2.out.cell p).trans (ints_at HD.out)
      have f0 : w2.frozen? ⟨g, p, none⟩ = false := HB2.out.frozen p
      have HB3 : Hid (Blk (w2.setCell ⟨g, p, none⟩ (.int .i64 ((dd : Int) + 1))) g 3 (ints (D'.set p ((dd : Int) + 1)))) := by
        have := HB2.out.set_ p (.int .i64 ((dd : Int) + 1))
        rwa [ints_set] at this
      have HG3 : Hid (w.grownBy (w2.setCell ⟨g, p, none⟩ (.int .i64 ((dd : Int) + 1))) (some g)) := HG2.out.trans ⟨rfl, rfl, rfl, by simp [World.setCell], fun k hk hne => Below.heap_setCell w2 ⟨g, p, none⟩ _ k (fun e => hne (by rw [e]))⟩
      have HRC := Lib.hid (HI.out _ p y _ HZL.out (H.out.below (below_of_grown HG3.out hBg (by omega))) HY.out HDY.out HB3.out HST.out)
      clear hb2
      go_wp2_with fail
      refine HRC.out.mono ?_
      rintro e w3 ⟨rfl, D2, h2, hb3, hg3⟩
      have HR2 := Lib.hid (HFIN.out D2 h2)
      have HB4 := Lib.hid hb3
      have HG4 : Hid (w.grownBy w3 (some g)) := HG3.out.trans hg3
      clear h2 hb3 hg3
      go_wp2_with fail
      go_roundg (nk - (j + 1))
      case measure => omega
      case rel => exact ⟨j + 1, D2, by omega, by go_num, HR2, HB4, HG4⟩
/-- the reference's reach -/
theorem reach_any (l : List Bl) (K : Kids l) (A : Option Addr) (n c : Nat) (B g : Nat) (hBg : B ≤ g) : ∀ (m : Nat) (D : List Int) (i dd : Nat) (x : Bl) (w : World), zeros D ≤ m → RB w B (.slice A n c) l → l[i]? = some x → Dp l x.id dd → dd + zeros D ≤ n → Blk w g 3 (ints D) → Rch l D →
    Calls Tryz.prog 28 #[.slice A n c, .int .i64 i, .int .i64 dd, .slice (some ⟨g, 0, none⟩) n n] w (ReachP l D x.kids g w)
  | 0, D, i, dd, x, w, hm, h, hx, hdp, hdz, hg, hD => reach_walk l K A n c B D i dd x g w h hBg hx hdp hdz hg hD fun D1 p y W hz => by omega
  | m + 1, D, i, dd, x, w, hm, h, hx, hdp, hdz, hg, hD => reach_walk l K A n c B D i dd x g w h hBg hx hdp hdz hg hD fun D1 p y W hz h' hy hdy hg' hD' => reach_any l K A n c B g hBg m D1 p (dd + 1) y W (by omega) h' hy hdy (by omega) hg' hD'
end Go.Proofs.YtemngidkfgcigaaGreatDoor
