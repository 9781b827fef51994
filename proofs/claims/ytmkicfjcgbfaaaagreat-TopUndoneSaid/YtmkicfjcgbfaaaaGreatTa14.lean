/-
  DERIVED. What the reference's search in the depth keeps. Plain law. Conditions: none.
  The walk of the reference's reach. Conditions: sizes; a base whose kids are right.
  The walk of tree.attach on a base that is turned in place. Conditions: sizes; ids that rise.
  DERIVED: slices.DeleteFunc at ints, laid at this program in plain words (lay-plain.mjs, shelf_marks.py).
  The walk of tree.detach on a base that is turned in place. Conditions: sizes; ids that rise.
  By an AI agent.
-/
import Derived.Test.YtmkicfjcgbfaaaaGreatTa05
import Derived.Test.YtmkicfjcgbfaaaaGreatTa02
import Derived.Test.YtmkicfjcgbfaaaaGreatTa13
import Derived.Test.YtmkicfjcgbfaaaaGreatTa06
import Derived.Shelf.SlicesE.DeleteFunc
import Derived.Ground.SlgfProg
import Derived.Test.YtmkicfjcgbfaaaaGreatProg
import Derived.Sort.OwnSortedInts
namespace Go.Proofs.YtmkicfjcgbfaaaaGreat

def zeros (D : List Int) : Nat := (D.filter (· == 0)).length
theorem zeros_set {D : List Int} {p : Nat} {v : Int} (h : D[p]? = some 0) (hv : v ≠ 0) : zeros (D.set p v) + 1 = zeros D := by
  induction D generalizing p with
  | nil => simp at h
  | cons a D ih =>
    rcases p with _ | p
    · obtain rfl : a = 0 := by simpa using h
      simp [zeros, hv]
    · have := ih (by simpa using h)
      unfold zeros at this ⊢
      rw [List.set_cons_succ, List.filter_cons, List.filter_cons]
      split
      · rw [List.length_cons, List.length_cons]; omega
      · exact this
theorem zeros_le (D : List Int) : zeros D ≤ D.length := List.length_filter_le _ _
theorem zeros_pos {D : List Int} {p : Nat} (h : D[p]? = some 0) : 1 ≤ zeros D := by
  have := zeros_set h (v := 1) (by omega)
  omega
/-- depths that are right -/
structure Rch (l : List Bl) (D : List Int) : Prop where
  len : D.length = l.length
  sound : ∀ (i : Nat) (d : Int), D[i]? = some d → d ≠ 0 → ∃ (y : Bl) (n : Nat), l[i]? = some y ∧ d = (n : Int) ∧ Dp l y.id n
/-- a kid has its depth -/
def Mk (l : List Bl) (D : List Int) (k : Int) : Prop := ∃ (p : Nat) (d : Int), posOf l k = (p : Int) ∧ D[p]? = some d ∧ d ≠ 0
/-- what has been done since D, of the first j kids of x -/
structure RchTo (l : List Bl) (D D' : List Int) (kids : List Int) : Prop where
  rch : Rch l D'
  mono : ∀ (j : Nat) (d : Int), D[j]? = some d → d ≠ 0 → D'[j]? = some d
  fresh : ∀ (j : Nat) (d : Int) (y : Bl), D[j]? = some 0 → D'[j]? = some d → d ≠ 0 → l[j]? = some y → ∀ k ∈ y.kids, Mk l D' k
  kids : ∀ k ∈ kids, Mk l D' k
  less : zeros D' ≤ zeros D
section
variable {l : List Bl} {D D' D2 : List Int} {ks : List Int}
theorem RchTo.start (h : Rch l D) : RchTo l D D [] where
  rch := h
  mono _ _ h _ := h
  fresh j d y h h' hd := by rw [h] at h'; injection h' with h'; exact absurd h'.symm hd
  kids k hk := by cases hk
  less := Nat.le_refl _
theorem Mk.mono (h : RchTo l D D' ks) {k : Int} (hm : Mk l D k) : Mk l D' k := by
  obtain ⟨p, d, h1, h2, h3⟩ := hm
  exact ⟨p, d, h1, h.mono p d h2 h3, h3⟩
theorem RchTo.skip (h : RchTo l D D' ks) {k : Int} {p : Nat} {d : Int} (hp : posOf l k = (p : Int)) (hd : D'[p]? = some d) (h0 : d ≠ 0) : RchTo l D D' (ks ++ [k]) where
  rch := h.rch
  mono := h.mono
  fresh := h.fresh
  kids z hz := by
    rcases List.mem_append.1 hz with hz | hz
    · exact h.kids z hz
    · obtain rfl : z = k := by simpa using hz
      exact ⟨p, d, hp, hd, h0⟩
  less := h.less
theorem Rch.set (h : Rch l D) {x y : Bl} (hx : x ∈ l) {k : Int} (hk : k ∈ x.kids) {n : Nat} (hn : Dp l x.id n) {p : Nat} (hy : l[p]? = some y) (hyk : y.id = k) : Rch l (D.set p ((n : Int) + 1)) where
  len := by rw [List.length_set]; exact h.len
  sound i d hi hd := by
    rw [List.getElem?_set] at hi
    split at hi
    · rename_i e
      subst e
      split at hi
      · injection hi with hi
        exact ⟨y, n + 1, hy, by omega, by rw [hyk]; exact .step x n k hn hx hk⟩
      · cases hi
    · exact h.sound i d hi hd
theorem RchTo.down (h : RchTo l D D' ks) {k : Int} {p : Nat} (hp : posOf l k = (p : Int)) {y : Bl} (hy : l[p]? = some y) (h0 : D'[p]? = some 0) {v : Int} (hv : v ≠ 0) (h2 : RchTo l (D'.set p v) D2 y.kids) : RchTo l D D2 (ks ++ [k]) := by
  have hpl : p < D'.length := (List.getElem?_eq_some_iff.1 h0).1
  have hset : ∀ (j : Nat) (d : Int), D'[j]? = some d → d ≠ 0 → D2[j]? = some d := fun j d hj hd => by
    refine h2.mono j d ?_ hd
    rw [List.getElem?_set]
    split
    · rename_i e
      subst e
      rw [h0] at hj; injection hj with hj; exact absurd hj.symm hd
    · exact hj
  have hmk : ∀ k, Mk l D' k → Mk l D2 k := fun k ⟨p, d, a, b, c⟩ => ⟨p, d, a, hset p d b c, c⟩
  have hp2 : D2[p]? = some v := h2.mono p v (by rw [List.getElem?_set_self hpl]) hv
  refine ⟨h2.rch, fun j d hj hd => hset j d (h.mono j d hj hd) hd, fun j d z hj hj2 hd hz k hk => ?_, fun z hz => ?_, ?_⟩
  · obtain ⟨d', hd'⟩ : ∃ d', D'[j]? = some d' := ⟨_, List.getElem?_eq_getElem (by rw [h.rch.len]; exact (List.getElem?_eq_some_iff.1 hz).1)⟩
    by_cases e : d' = 0
    · subst e
      by_cases ej : j = p
      · subst ej
        rw [hy] at hz
        obtain rfl := Option.some.inj hz
        exact h2.kids k hk
      · exact h2.fresh j d z (by rw [List.getElem?_set_ne (fun e => ej e.symm)]; exact hd') hj2 hd hz k hk
    · exact hmk k (h.fresh j d' z hj hd' e hz k hk)
  · rcases List.mem_append.1 hz with hz | hz
    · exact hmk z (h.kids z hz)
    · obtain rfl : z = k := by simpa using hz
      exact ⟨p, v, hp, hp2, hv⟩
  · have := zeros_set h0 hv
    have := h2.less
    have := h.less
    omega
/-- what the search from the root has found -/
theorem RchTo.isDep (K : Kids l) {f : Int → Option Int} (hf : IsDep l f) {r : Bl} (hr : l[0]? = some r) (hD : ∀ (j : Nat) (d : Int), D[j]? = some d → d = 0) (hl : D.length = l.length) (h : RchTo l D D' r.kids) : ∀ (i : Nat) (x : Bl), l[i]? = some x → i ≠ 0 → ∃ d, D'[i]? = some d ∧ (d = 0 → f x.id = none) ∧ (d ≠ 0 → f x.id = some d) := by
  have hr0 : r.id = 0 := by
    obtain ⟨r', h1, h2, _⟩ := K.root
    rw [hr] at h1
    rw [Option.some.inj h1]; exact h2
  have key : ∀ {id : Int} {n : Nat}, Dp l id n → id ≠ 0 → Mk l D' id := by
    intro id n hd
    induction hd with
    | root => intro h0; exact absurd rfl h0
    | step b d k hd hb hk ih =>
      intro _
      by_cases e : b.id = 0
      · have : b = r := K.rise.inj hb (List.mem_of_getElem? hr) (e.trans hr0.symm)
        subst this
        exact h.kids k hk
      · obtain ⟨p, v, h1, h2, h3⟩ := ih e
        obtain ⟨q, hq, hqe⟩ := List.mem_iff_getElem.1 hb
        have hbq : l[q]? = some b := by rw [List.getElem?_eq_getElem hq, hqe]
        have hpq : p = q := by
          have := posOf_of K.rise hbq
          rw [h1] at this
          omega
        subst hpq
        have hz : D[p]? = some 0 := by
          obtain ⟨z, hz⟩ : ∃ z, D[p]? = some z := ⟨_, List.getElem?_eq_getElem (by rw [hl]; exact hq)⟩
          rw [hz, hD p z hz]
        exact h.fresh p v b hz h2 h3 hbq k hk
  intro i x hx hi
  have hil := (List.getElem?_eq_some_iff.1 hx).1
  obtain ⟨d, hd⟩ : ∃ d, D'[i]? = some d := ⟨_, List.getElem?_eq_getElem (by rw [h.rch.len]; exact hil)⟩
  have hx0 : x.id ≠ 0 := by
    have := K.rise 0 i r x (by omega) hr hx
    omega
  refine ⟨d, hd, fun h0 => ?_, fun h0 => ?_⟩
  · cases hfx : f x.id with
    | none => rfl
    | some v =>
      obtain ⟨n, _, hn⟩ := (hf _ _).1 hfx
      obtain ⟨p, v', h1, h2, h3⟩ := key hn hx0
      have := posOf_of K.rise hx
      rw [h1] at this
      have hpi : p = i := by omega
      subst hpi
      rw [hd] at h2
      injection h2 with h2
      exact absurd (h2.symm.trans h0) h3
  · obtain ⟨y, n, h1, h2, h3⟩ := h.rch.sound i d hd h0
    rw [hx] at h1
    obtain rfl := Option.some.inj h1
    exact (hf _ _).2 ⟨n, h2, h3⟩
end
end Go.Proofs.YtmkicfjcgbfaaaaGreat
namespace Go.Proofs.YtmkicfjcgbfaaaaGreat
open Go.RowKit

def ints (D : List Int) : Array Value := (D.map (Value.int .i64)).toArray
theorem ints_at {D : List Int} {p : Nat} {d : Int} (h : D[p]? = some d) : (ints D)[p]? = some (.int .i64 d) := by
  unfold ints; simp [h]
theorem ints_set (D : List Int) (p : Nat) (d : Int) : (ints D).setIfInBounds p (.int .i64 d) = ints (D.set p d) := by
  unfold ints
  apply Array.ext'
  simp [List.map_set]
/-- what reach leaves -/
def ReachP (l : List Bl) (D : List Int) (kids : List Int) (g : Nat) (w : World) (e : Ending) (w' : World) : Prop :=
  e = .returned (.tuple #[]) ∧ ∃ D', RchTo l D D' kids ∧ Blk w' g 3 (ints D') ∧ w.grownBy w' (some g)
theorem grown_refl (w : World) (r : Option Nat) : w.grownBy w r := ⟨rfl, rfl, rfl, Nat.le_refl _, fun _ _ _ => rfl⟩
theorem below_of_grown {w w' : World} {g B : Nat} (h : w.grownBy w' (some g)) (hB : B ≤ g) (hw : B ≤ w.heap.size) : Below B w w' :=
  (Below.refl B w).grown h hw (fun k hk => by injection hk with hk; omega)
theorem grown_of_below {w w1 w2 : World} {r : Option Nat} (h : w.grownBy w1 r) (hb : Below w1.heap.size w1 w2) : w.grownBy w2 r :=
  h.trans ⟨hb.os, hb.tape, hb.output, hb.size, fun k hk _ => hb.block k hk⟩

set_option maxHeartbeats 4000000 in
theorem reach_walk (l : List Bl) (K : Kids l) (A : Option Addr) (n c : Nat) (B : Nat) (D : List Int) (i dd : Nat) (x : Bl) (g : Nat) (w : World) (h : RB w B (.slice A n c) l) (hBg : B ≤ g) (hx : l[i]? = some x) (hdp : Dp l x.id dd) (hdz : dd + zeros D ≤ n) (hg : Blk w g 3 (ints D)) (hD : Rch l D)
    (IH : ∀ (D1 : List Int) (p : Nat) (y : Bl) (W : World), zeros D1 + 1 ≤ zeros D → RB W B (.slice A n c) l → l[p]? = some y → Dp l y.id (dd + 1) → Blk W g 3 (ints D1) → Rch l D1 → Calls Tryz.prog 72 #[.slice A n c, .int .i64 p, .int .i64 ((dd : Int) + 1), .slice (some ⟨g, 0, none⟩) n n] W (ReachP l D1 y.kids g W)) :
    Calls Tryz.prog 72 #[.slice A n c, .int .i64 i, .int .i64 dd, .slice (some ⟨g, 0, none⟩) n n] w (ReachP l D x.kids g w) := by
  have hbg : n * 80 ≤ 140737488351232 := h.len.2.2
  have hgw : g < w.heap.size := hg.lt
  have hil := (List.getElem?_eq_some_iff.1 hx).1
  have hin : i < n := by have := h.len.1; omega
  obtain ⟨b, off, Ak, nk, ck, Ap, np, cp, rfl, hbb, g0, g1, g2, g3, g4, hK, _⟩ := h.at_ hx
  have HN := Lib.hid h.len
  have HAT := Lib.hid fun (id : Int) (W : World) (hW : Below B w W) => at_any l (some ⟨b, off, none⟩) n c id W B (by have := hW.size; omega) (h.below hW)
  have H := Lib.hid h
  have HK := Lib.hid hK
  have HKL := Lib.hid hK.len
  have HX := Lib.hid hx
  have HDP := Lib.hid hdp
  have HDZ := Lib.hid hdz
  have HG := Lib.hid hg
  have HS := Lib.hid (RchTo.start hD)
  have HI := Lib.hid IH
  have KK := Lib.hid K
  have hdn : dd ≤ n := by omega
  have i0 : (0 : Int) ≤ (i : Int) := by omega
  have i1 : (i : Int) < (n : Int) := by omega
  clear h hK hx hdp hdz hg hD IH g0 g1 g3 g4
  go_enter Tryz.func72, Tryz.ntmps72
  go_wp2_with fail
  go_loopg [17] nk (fun gg s17 wr => ∃ (j : Nat) (D' : List Int), j + gg = nk ∧ s17 = .int .i64 (j : Int) ∧ Hid (RchTo l D D' (x.kids.take j)) ∧ Hid (Blk wr g 3 (ints D')) ∧ Hid (w.grownBy wr (some g)))
  case atStart => exact ⟨0, D, by omega, rfl, HS.out, HG, grown_refl _ _⟩
  case round =>
    obtain ⟨j, D', hjg, rfl, hr, hb, hgr⟩ := hrel
    have hbk : nk ≤ ck ∧ nk * 8 ≤ 140737488351232 := HKL.out.2
    have HBW : Hid (Below B w wr) := below_of_grown hgr.out hBg (by omega)
    by_cases hj : j < nk
    case neg =>
      obtain rfl : j = nk := by omega
      have hr' := hr.out
      rw [List.take_of_length_le (by rw [← HKL.out.1]; exact Nat.le_refl _)] at hr'
      have HR := Lib.hid hr'
      clear hr'
      go_wp2_with fail
      go_end0
      exact ⟨rfl, D', HR.out, hb.out, hgr.out⟩
    obtain ⟨k, hkk⟩ : ∃ k, x.kids[j]? = some k := ⟨_, List.getElem?_eq_getElem (by have := HKL.out.1; omega)⟩
    obtain ⟨bk, ok, rfl, hbk2, q0⟩ := HK.out.at_ hkk
    have q0 := (HBW.out.cell (p := ⟨bk, ok + j, none⟩) (by show bk < _; omega)).trans q0
    have z0 : (0 : Int) ≤ (j : Int) := by omega
    have z1 : (j : Int) < (nk : Int) := by omega
    have hkm := List.mem_of_getElem? hkk
    have hxm := List.mem_of_getElem? HX.out
    obtain ⟨_, y, hy, hyk, _⟩ := KK.out.kid x hxm k hkm
    obtain ⟨p, hpl, hpe⟩ := List.mem_iff_getElem.1 hy
    have hly : l[p]? = some y := by rw [List.getElem?_eq_getElem hpl, hpe]
    have hpos : posOf l k = (p : Int) := by rw [← hyk]; exact posOf_of KK.out.rise hly
    have HA := HAT.out k wr HBW.out
    rw [hpos] at HA
    have HA := Lib.hid HA
    have hpn : p < n := by have := HN.out.1; omega
    have p0 : (0 : Int) ≤ (p : Int) := by omega
    have p1 : (p : Int) < (n : Int) := by omega
    obtain ⟨d, hd⟩ : ∃ d, D'[p]? = some d := ⟨_, List.getElem?_eq_getElem (by rw [hr.out.rch.len]; exact hpl)⟩
    have HT : Hid (x.kids.take (j + 1) = x.kids.take j ++ [k]) := by
      show _ = _
      obtain ⟨hk, e⟩ := List.getElem?_eq_some_iff.1 hkk
      rw [List.take_succ_eq_append_getElem hk, e]
    have hgl : g < wr.heap.size := hb.out.lt
    have HY := Lib.hid hly
    have HYK := Lib.hid hyk
    have HKM := Lib.hid hkm
    have HXM := Lib.hid hxm
    have HPOS := Lib.hid hpos
    have HD := Lib.hid hd
    clear hkk hy hyk hpl hpe hly hpos hkm hxm hd
    by_cases h0 : d = 0
    case neg =>
      have HSK : Hid (RchTo l D D' (x.kids.take (j + 1))) := by rw [HT.out]; exact hr.out.skip HPOS.out HD.out h0
      have h0' : (d == 0) = false := by simpa using h0
      clear h0
      go_wp2_with fail
      refine HA.out.mono ?_
      rintro e w2 ⟨rfl, hb2⟩
      have HB2 : Hid (Blk w2 g 3 (ints D')) := hb.out.below hb2 hgl
      have HG2 : Hid (w.grownBy w2 (some g)) := grown_of_below hgr.out hb2
      have c0 : w2.cell? ⟨g, p, none⟩ = some (.int .i64 d) := (HB2.out.cell p).trans (ints_at HD.out)
      clear hb2
      go_wp2_with fail
      go_roundg (nk - (j + 1))
      case measure => omega
      case rel => exact ⟨j + 1, D', by omega, by go_num, HSK, HB2, HG2⟩
    case pos =>
      subst h0
      have hz1 := zeros_pos HD.out
      have hzl := hr.out.less
      have hdz := HDZ.out
      have hne : ((dd : Int) + 1) ≠ 0 := by omega
      have hzs := zeros_set HD.out hne
      have HST := Lib.hid (hr.out.rch.set HXM.out HKM.out HDP.out HY.out HYK.out)
      have HDY : Hid (Dp l y.id (dd + 1)) := by rw [HYK.out]; exact .step x dd k HDP.out HXM.out HKM.out
      have HZL : Hid (zeros (D'.set p ((dd : Int) + 1)) + 1 ≤ zeros D) := by show _ ≤ _; omega
      have HFIN : Hid (∀ D2, RchTo l (D'.set p ((dd : Int) + 1)) D2 y.kids → RchTo l D D2 (x.kids.take (j + 1))) := fun D2 h2 => by rw [HT.out]; exact hr.out.down HPOS.out HY.out HD.out hne h2
      clear hz1 hzl hdz hzs hne
      go_wp2_with fail
      refine HA.out.mono ?_
      rintro e w2 ⟨rfl, hb2⟩
      have HB2 : Hid (Blk w2 g 3 (ints D')) := hb.out.below hb2 hgl
      have HG2 : Hid (w.grownBy w2 (some g)) := grown_of_below hgr.out hb2
      have c0 : w2.cell? ⟨g, p, none⟩ = some (.int .i64 0) := (HB2.out.cell p).trans (ints_at HD.out)
      have f0 : w2.frozen? ⟨g, p, none⟩ = false := HB2.out.frozen p
      have HB3 : Hid (Blk (w2.setCell ⟨g, p, none⟩ (.int .i64 ((dd : Int) + 1))) g 3 (ints (D'.set p ((dd : Int) + 1)))) := by
        have := HB2.out.set_ p (.int .i64 ((dd : Int) + 1))
        rwa [ints_set] at this
      have HG3 : Hid (w.grownBy (w2.setCell ⟨g, p, none⟩ (.int .i64 ((dd : Int) + 1))) (some g)) := HG2.out.trans ⟨rfl, rfl, rfl, by simp [World.setCell], fun k hk hne => Below.heap_setCell w2 ⟨g, p, none⟩ _ k (fun e => hne (by rw [e]))⟩
      have HRC := Lib.hid (HI.out _ p y _ HZL.out (H.out.below (below_of_grown HG3.out hBg (by omega))) HY.out HDY.out HB3.out HST.out)
      clear hb2
      go_wp2_with fail
      refine HRC.out.mono ?_
      rintro e w3 ⟨rfl, D2, h2, hb3, hg3⟩
      have HR2 := Lib.hid (HFIN.out D2 h2)
      have HB4 := Lib.hid hb3
      have HG4 : Hid (w.grownBy w3 (some g)) := HG3.out.trans hg3
      clear h2 hb3 hg3
      go_wp2_with fail
      go_roundg (nk - (j + 1))
      case measure => omega
      case rel => exact ⟨j + 1, D2, by omega, by go_num, HR2, HB4, HG4⟩
/-- the reference's reach -/
theorem reach_any (l : List Bl) (K : Kids l) (A : Option Addr) (n c : Nat) (B g : Nat) (hBg : B ≤ g) : ∀ (m : Nat) (D : List Int) (i dd : Nat) (x : Bl) (w : World), zeros D ≤ m → RB w B (.slice A n c) l → l[i]? = some x → Dp l x.id dd → dd + zeros D ≤ n → Blk w g 3 (ints D) → Rch l D →
    Calls Tryz.prog 72 #[.slice A n c, .int .i64 i, .int .i64 dd, .slice (some ⟨g, 0, none⟩) n n] w (ReachP l D x.kids g w)
  | 0, D, i, dd, x, w, hm, h, hx, hdp, hdz, hg, hD => reach_walk l K A n c B D i dd x g w h hBg hx hdp hdz hg hD fun D1 p y W hz => by omega
  | m + 1, D, i, dd, x, w, hm, h, hx, hdp, hdz, hg, hD => reach_walk l K A n c B D i dd x g w h hBg hx hdp hdz hg hD fun D1 p y W hz h' hy hdy hg' hD' => reach_any l K A n c B g hBg m D1 p (dd + 1) y W (by omega) h' hy hdy (by omega) hg' hD'
end Go.Proofs.YtmkicfjcgbfaaaaGreat
namespace Go.Proofs.YtmkicfjcgbfaaaaGreat
open Go.RowKit

/-- slices.Clone at ints: a row of the call's own -/
theorem cloneI_own (A : Option Addr) (n c : Nat) (l : List Int) (w : World) (B : Nat) (h : RIn w B (.slice A n c) l) :
    Calls Tryz.prog 67 #[.slice A n c] w fun e w' => ∃ v', e = .returned v' ∧ w'.ownsRow w.heap.size 3 1 v' n (l.map (.int .i64)) ∧ Below w.heap.size w w' := by
  have hn := h.len
  rcases A with _ | ad
  · have h0 : n = 0 := by
      rcases Nat.eq_zero_or_pos n with g | g
      · exact g
      · obtain ⟨ad, e, _⟩ := h.reads.2 g
        cases e
    subst h0
    have hl : l = [] := List.eq_nil_of_length_eq_zero hn.1.symm
    subst hl
    refine (Tryz.slices_Clone_int_nil 0 c w).mono ?_
    rintro e w' ⟨rfl, rfl⟩
    exact ⟨_, rfl, World.ownsRow_nil _ _ _ _, Below.refl _ _⟩
  · rcases Nat.eq_zero_or_pos n with g | g
    · subst g
      have hl : l = [] := List.eq_nil_of_length_eq_zero hn.1.symm
      subst hl
      refine (Tryz.slices_Clone_int_zero ad c w).mono ?_
      rintro e w' ⟨v', rfl, ho, _, hb⟩
      exact ⟨_, rfl, ho, hb⟩
    · obtain ⟨b, off, e, _, _⟩ := h.reads.plain g (by omega)
      injection e with e
      subst e
      refine (Tryz.slices_Clone_int b off n c l w (by omega) (by omega) h.getD).mono ?_
      rintro e w' ⟨v', rfl, ho, _, hb⟩
      rw [List.take_of_length_le (by omega)] at ho
      exact ⟨_, rfl, ho, hb⟩
theorem plus_map (l : List Int) (i : Nat) (n : Int) : (plusK l i n).map (Value.int .i64) = (l.map (Value.int .i64)).take (i * 1) ++ [.int .i64 n] ++ (l.map (Value.int .i64)).drop (i * 1) := by
  unfold plusK
  rw [Nat.mul_one, List.map_append, List.map_cons, List.map_take, List.map_drop, List.append_assoc]; rfl
theorem grown_put {w w' : World} (h : Below w.heap.size w w') (g i : Nat) (u : Value) : w.grownBy (w'.setCell ⟨g, i, none⟩ u) (some g) :=
  ⟨h.os, h.tape, h.output, by simp only [World.setCell, Array.size_modify]; exact h.size, fun k hk hn => by
    have hne : k ≠ g := fun e => hn (by rw [e])
    rw [← h.block k hk]
    simp only [World.setCell, Array.getElem?_modify, if_neg (Ne.symm hne)]⟩
/-- what a turn of one block's kids leaves -/
def KidsR (S : Nat → Prop) (w : World) (g cap : Nat) (M : List BK) (q : Nat) (y : BK) (ks : List Int) (e : Ending) (w' : World) : Prop :=
  e = .returned (.tuple #[]) ∧ (∃ kv, RowS S w' g cap (M.set q (y.1.withKids ks, kv, y.2.2))) ∧ w.grownBy w' (some g)

set_option maxRecDepth 100000 in
set_option maxHeartbeats 4000000 in
/-- tree.attach -/
theorem attach_any {S : Nat → Prop} (w : World) (hS : ∀ b, w.heap.size ≤ b → S b) (g cap : Nat) (M : List BK) (h : RowS S w g cap M) (hr : Rise (M.map Prod.fst)) (hi : IdsIn (M.map Prod.fst)) (id : Int) (i p q : Nat) (x y : BK) (hx : M[p]? = some x) (hxi : x.1.id = id) (hy : M[q]? = some y) (hyi : y.1.id = x.1.parent) (hat : i ≤ y.1.kids.length) (hk : y.1.kids.length ≤ 500) :
    Calls Tryz.prog 129 #[.slice (some ⟨g, 0, none⟩) M.length cap, .int .i64 id, .int .i64 i] w (KidsR S w g cap M q y (plusK y.1.kids i id)) := by
  have HSS := Lib.hid hS
  clear hS
  have hml := h.few
  have hpx : (M.map Prod.fst)[p]? = some x.1 := by rw [List.getElem?_map, hx]; rfl
  have hqy : (M.map Prod.fst)[q]? = some y.1 := by rw [List.getElem?_map, hy]; rfl
  have hp : posOf (M.map Prod.fst) id = (p : Int) := by rw [← hxi]; exact posOf_of hr hpx
  have hq : posOf (M.map Prod.fst) x.1.parent = (q : Int) := by rw [← hyi]; exact posOf_of hr hqy
  have hidr := hi x.1 (List.mem_of_getElem? hpx)
  have hpar := hi y.1 (List.mem_of_getElem? hqy)
  rw [hxi] at hidr
  rw [hyi] at hpar
  have hid64 : I64 id := by unfold I64; omega
  have hpn : p < M.length := (List.getElem?_eq_some_iff.1 hx).1
  have hqn : q < M.length := (List.getElem?_eq_some_iff.1 hy).1
  obtain ⟨y1, yk, yp⟩ := y
  obtain ⟨⟨xid, xpar, xks, xtx, xps⟩, xk, xpv⟩ := x
  have hxi : xid = id := hxi
  have hnst := h.far _ (List.mem_of_getElem? hy)
  obtain ⟨hkx, hpxx⟩ := hnst
  obtain ⟨Ak, nk, ck, rfl⟩ : ∃ A n c, yk = .slice A n c := by
    obtain ⟨A, n, c, e, _⟩ := hkx
    exact ⟨A, n, c, e⟩
  have hkr := hkx.reads (B := w.heap.size) fun b hb => hb.1.1
  have hkl := hkr.len
  have HIX := Lib.hid (index_any (M.map Prod.fst) (some ⟨g, 0, none⟩) M.length cap id w w.heap.size (Nat.le_refl _) h.rb hr hi hid64)
  rw [hp] at HIX
  have HIP : Hid (∀ W, Below w.heap.size w W → Calls Tryz.prog 105 #[.slice (some ⟨g, 0, none⟩) M.length cap, .int .i64 xpar] W fun e w' => e = .returned (.int .i64 (q : Int)) ∧ Below W.heap.size W w') := fun W hW => by
    have := index_any (M.map Prod.fst) (some ⟨g, 0, none⟩) M.length cap xpar W W.heap.size (Nat.le_refl _) (h.below hW).rb hr hi (by have hpar : 0 ≤ xpar ∧ xpar ≤ 1000000 := hpar; unfold I64; omega)
    have hq : posOf (M.map Prod.fst) xpar = (q : Int) := hq
    rwa [hq] at this
  have H := Lib.hid h
  have HX := Lib.hid hx
  have HY := Lib.hid hy
  have HKR := Lib.hid hkr
  have HPX := Lib.hid hpxx
  have hgw := h.lt
  have i0 : (0 : Int) ≤ (p : Int) := by omega
  have i1 : (p : Int) < (M.length : Int) := by omega
  have i2 : (0 : Int) ≤ (q : Int) := by omega
  have i3 : (q : Int) < (M.length : Int) := by omega
  have H64 : Hid (∀ z ∈ plusK y1.kids i id, I64 z) := fun z hz => by
    rcases (plus_mem _ _ _ _).1 hz with rfl | hz
    · exact hid64
    · exact hkr.i64 hz
  obtain ⟨n, hn⟩ : ∃ n, n = M.length := ⟨_, rfl⟩
  rw [← hn] at HIX HIP i1 i3 hml ⊢
  have HNN := Lib.hid hn
  have HK1 : Hid (nk = y1.kids.length) := hkl.1
  have hkl1 : nk ≤ 500 := by have := HK1.out; omega
  have hat1 : i ≤ nk := by have := HK1.out; omega
  clear hkl hk hat h hx hy hp hq hpx hqy hidr hpar hkr hkx hpxx hr hi hn hxi hyi
  go_enter Tryz.func129, Tryz.ntmps129
  go_wp2_with fail
  refine HIX.out.mono ?_
  rintro e w1 ⟨rfl, hb1⟩
  have HB1 := Lib.hid hb1
  have H1 := Lib.hid (H.out.below hb1)
  have c1 : w1.cell? ⟨g, p * 5 + 1, none⟩ = some (.int .i64 xpar) := H1.out.cell HX.out rfl
  clear hb1
  go_wp2_with fail
  refine (HIP.out w1 HB1.out).mono ?_
  rintro e w2 ⟨rfl, hb⟩
  have HB2 : Hid (Below w.heap.size w w2) := HB1.out.trans (hb.mono HB1.out.size)
  have H2 := Lib.hid (H.out.below HB2.out)
  have c2 : w2.cell? ⟨g, q * 5 + 2, none⟩ = some (.slice Ak nk ck) := H2.out.cell HY.out rfl
  have HCL := Lib.hid (cloneI_own Ak nk ck y1.kids w2 w.heap.size (HKR.out.below HB2.out))
  clear hb c1
  go_wp2_with fail
  refine HCL.out.mono ?_
  rintro e w3 ⟨v3, rfl, hown3, hb3⟩
  have HB3 : Hid (Below w.heap.size w w3) := HB2.out.trans (hb3.mono HB2.out.size)
  have hz3 : w2.heap.size ≤ w3.heap.size := hb3.size
  have hz2 : w.heap.size ≤ w2.heap.size := HB2.out.size
  have HO3 := Lib.hid hown3
  obtain ⟨A3, c3, rfl⟩ : ∃ A c, v3 = .slice A nk c := by
    obtain ⟨A, c, e, _⟩ := RdX.of_own hown3
    exact ⟨A, c, e⟩
  have hob := own_block_lt hown3
  have HINS : Hid (Calls Tryz.prog 158 #[.slice A3 nk c3, .int .i64 i, .slice (some ⟨w3.heap.size, 0, none⟩) 1 1] (w3.alloc (.cells #[.int .i64 id] 3)) (InsR w2.heap.size 3 1 nk (y1.kids.map (.int .i64)) [.int .i64 id] i (w3.alloc (.cells #[.int .i64 id] 3)) (.slice A3 nk c3))) :=
    insI_own (.slice A3 nk c3) nk (y1.kids.map (.int .i64)) w2.heap.size i w3.heap.size [.int .i64 id] _ (hown3.alloc _) (by omega) (by omega) rfl (Blk.new w3 3 #[.int .i64 id]) (fun e => by have := (hob _ e).2; omega) (ints_one _) (ints_one [id]) (by simp; omega)
  clear hb3 hown3 c2
  go_wp2_with fail
  refine HINS.out.mono ?_
  rintro e w4 ⟨v4, rfl, hown4, hg4, hat4⟩
  have HB4 : Hid (Below w.heap.size w w4) := (HB3.out.alloc HB3.out.size (.cells #[.int .i64 id] 3)).grown hg4 (by simp; omega) (fun gg hgg => by have := (hob gg hgg).1; omega)
  obtain ⟨A4, c4, rfl, hc4, hr4⟩ := RdX.of_own hown4
  have hnone : A4 = none → nk + 1 = 0 ∧ c4 = 0 := fun e => by
    rcases hown4.2 with ⟨h, h0⟩ | ⟨g, cap, cur, h, _⟩
    · omega
    · injection h with h; rw [e] at h; cases h
  have HCP := Lib.hid fun W => clipI_any A4 (nk + 1) c4 W hc4 hnone
  have hkid : RInX w4 (fun b => (b < w4.heap.size ∧ b ≠ g) ∧ S b) (.slice A4 (nk + 1) (nk + 1)) (plusK y1.kids i id) :=
    ⟨A4, nk + 1, nk + 1, rfl, by rw [plus_len, HK1.out], ⟨Nat.le_refl _, by omega⟩, by rw [plus_map]; exact hr4.weak fun b hb => ⟨⟨hb.2.2, by have := hb.2.1; omega⟩, HSS.out b (Nat.le_trans hz2 hb.2.1)⟩, H64.out⟩
  have HKD := Lib.hid hkid
  have H4 := Lib.hid (H.out.below HB4.out)
  clear hown4 hg4 hat4 hc4 hr4 hnone hkid
  go_wp2_with fail
  refine (HCP.out _).mono ?_
  rintro e w5 ⟨rfl, rfl⟩
  have f2 := H4.out.frozen (q * 5 + 2)
  have c2 : w5.cell? ⟨g, q * 5 + 2, none⟩ = some (.slice Ak nk ck) := H4.out.cell HY.out rfl
  go_wp2_with fail
  go_end0
  refine ⟨rfl, ⟨.slice A4 (nk + 1) (nk + 1), ?_⟩, ?_⟩
  · refine H4.out.store HY.out (j := 2) (by omega) rfl ⟨HKD.out, ?_⟩
    exact (HPX.out.keep fun p hp => HB4.out.cell hp.1.1).weak fun b hb => ⟨⟨Nat.lt_of_lt_of_le hb.1.1 HB4.out.size, hb.1.2⟩, hb.2⟩
  · exact grown_put HB4.out g _ _
end Go.Proofs.YtmkicfjcgbfaaaaGreat
namespace Go.Proofs
open Go.Shelf

def Tryz.delI_ren : Go.Shelf.Ren := ⟨fun | 10 => 159 | 6 => 177 | n => n, fun | 22 => 34 | 23 => 3 | 25 => 173 | 3 => 3 | 4 => 4 | 0 => 0 | n => n, fun | n => n⟩
theorem Tryz.delI : Go.Proofs.SlLaysH.n10 Tryz.prog Tryz.delI_ren := {
  mixed := by kernel_rfl
  f6 := ⟨Tryz.f177.name, by decide, Tryz.func177.trans (congrArg some (by kernel_rfl))⟩
  f10 := ⟨Tryz.f159.name, by decide, Tryz.func159.trans (congrArg some (by kernel_rfl))⟩
  t0 := Tryz.underlying0
  a0 := Tryz.isAgg0
  z0 := Tryz.sizeOf0
  v0 := Tryz.zeroValue0
  t3 := Tryz.underlying3
  a3 := Tryz.isAgg3
  z3 := Tryz.sizeOf3
  v3 := Tryz.zeroValue3
  t4 := Tryz.underlying4
  a4 := Tryz.isAgg4
  z4 := Tryz.sizeOf4
  v4 := Tryz.zeroValue4
  t22 := Tryz.underlying34
  a22 := Tryz.isAgg34
  z22 := Tryz.sizeOf34
  v22 := Tryz.zeroValue34
  a23 := Tryz.isAgg3
  z23 := Tryz.sizeOf3
  t25 := Tryz.underlying173
  a25 := Tryz.isAgg173
  z25 := Tryz.sizeOf173
  v25 := Tryz.zeroValue173 }
end Go.Proofs
namespace Go.Proofs.YtmkicfjcgbfaaaaGreat
open Go.RowKit Go.Sort Go.Lib

theorem detach1_any (k id : Int) (B : Nat) (W : World) (hc : W.cell? ⟨B, 0, none⟩ = some (.int .i64 id)) :
    FnGives Tryz.prog 160 #[.pointer (some ⟨B, 0, none⟩)] #[.int .i64 k] (.bool (k == id)) W := by
  show Calls Tryz.prog 160 #[.int .i64 k, .pointer (some ⟨B, 0, none⟩)] W _
  go_enter Tryz.func160, Tryz.ntmps160
  go_wp2
  go_ret
  exact ⟨rfl, 0, rfl⟩

/-- slices.DeleteFunc at ints with detach's own closure -/
theorem delI_own (g cap : Nat) (cur : Array Value) (l : List Int) (id : Int) (B base : Nat) (w : World) (hb : w.heap[g]? = some (.cells cur 3 (0, 0))) (hl : l.length ≤ cap) (hm : cap ≤ maxLen) (hs : cur.size = cap * 1) (ht : cur.toList.take (l.length * 1) = l.map (.int .i64)) (hB : B < w.heap.size) (hne : B ≠ g) (hcell : w.cell? ⟨B, 0, none⟩ = some (.int .i64 id)) (hbase : base ≤ g) :
    Calls Tryz.prog 159 #[.slice (some ⟨g, 0, none⟩) l.length cap, .func (.func 160) #[] #[.pointer (some ⟨B, 0, none⟩)]] w fun e w' =>
      e = .returned (.slice (some ⟨g, 0, none⟩) (lessK l id).length cap) ∧ w'.ownsRow base 3 1 (.slice (some ⟨g, 0, none⟩) (lessK l id).length cap) (lessK l id).length ((lessK l id).map (.int .i64)) ∧ w.grownBy w' (some g) := by
  have eg : ∀ args w, (callFunc 160 args).run Tryz.prog w = .ok (.enter 160 args) w := enters_of Tryz.func160 (by kernel_rfl) rfl
  rw [Nat.mul_one] at ht
  have hH := holds_of_blockI hb ht
  have hcon := AnyE.slices_DeleteFunc Tryz.delI (Value.int .i64) (fun _ => rfl) (fun x => x == id) 160 #[.pointer (some ⟨B, 0, none⟩)] eg 0 Tryz.zeroValue3 g 0 cap l.toArray w
    (fun W x hb => detach1_any x id B W ((hb.cell (p := ⟨B, 0, none⟩) hB).trans hcell))
    (fun n os dk x _ => detach1_any x id B _ (by
      unfold sortWorld
      rw [cell?_grow _ _ _ (by show B < (putRow _ _ _ _ _).heap.size; rw [Sort.size_putRow]; exact hB), cell?_putRow_other _ _ g 0 _ _ (Or.inl hne)]
      exact hcell)) hH (by rw [List.size_toArray]; unfold maxLen at hm; omega) (by rw [List.size_toArray]; exact hl)
  change Calls Tryz.prog 159 _ _ _ at hcon
  rw [List.size_toArray] at hcon
  refine hcon.mono ?_
  rintro e w' ⟨rfl, q, rfl⟩
  have hle := less_len l id
  have e1 : (l.toArray.toList.filter fun x => !(x == id)) = lessK l id := rfl
  rw [e1]
  obtain ⟨D, hD⟩ : ∃ D, D = lessK l id ++ List.replicate (l.length - (lessK l id).length) 0 := ⟨_, rfl⟩
  have hDl : D.length = l.length := by rw [hD, List.length_append, List.length_replicate]; omega
  rw [← hD]
  have hh := heap_sortedI (n := q) (os := #[]) D.toArray hb
  have hg := grownBy_sortedI (w := w) (g := g) (n := q) (os := #[]) D.toArray
  rw [grow_empty] at hh hg
  have htk := take_putCellsI cur D (by rw [hDl, hs]; omega)
  refine ⟨rfl, ⟨by rw [List.length_map, Nat.mul_one], .inr ⟨g, cap, _, rfl, hbase, hh, by omega, hm, by simp [putCells, hs], ?_⟩⟩, hg⟩
  have e2 : ((putCells (Value.int .i64) 0 D.toArray cur).toList.take D.length).take (lessK l id).length = (D.map (Value.int .i64)).take (lessK l id).length := by rw [htk]
  rw [List.take_take, Nat.min_eq_left (by omega)] at e2
  rw [Nat.mul_one, e2, hD, List.map_append, List.take_append_of_le_length (by rw [List.length_map]; exact Nat.le_refl _), List.take_of_length_le (by rw [List.length_map]; exact Nat.le_refl _)]

set_option maxRecDepth 100000 in
set_option maxHeartbeats 4000000 in
/-- tree.detach -/
theorem detach_any {S : Nat → Prop} (w0 : World) (hS : ∀ b, w0.heap.size ≤ b → S b) (g cap : Nat) (M : List BK) (h0 : RowS S w0 g cap M) (hr : Rise (M.map Prod.fst)) (hi : IdsIn (M.map Prod.fst)) (id : Int) (p q : Nat) (x y : BK) (hx : M[p]? = some x) (hxi : x.1.id = id) (hy : M[q]? = some y) (hyi : y.1.id = x.1.parent) (hin : id ∈ y.1.kids) (hk : y.1.kids.length ≤ 500) :
    Calls Tryz.prog 130 #[.slice (some ⟨g, 0, none⟩) M.length cap, .int .i64 id] w0 (KidsR S w0 g cap M q y (lessK y.1.kids id)) := by
  have HSS := Lib.hid hS
  clear hS
  have hbA : Below w0.heap.size w0 (w0.alloc (.cells #[.int .i64 id] 3)) := (Below.refl _ _).alloc (Nat.le_refl _) _
  have HBA := Lib.hid hbA
  have hcA : (w0.alloc (.cells #[.int .i64 id] 3)).cell? ⟨w0.heap.size, 0, none⟩ = some (.int .i64 id) := by simp
  have hzA : w0.heap.size < (w0.alloc (.cells #[.int .i64 id] 3)).heap.size := by simp
  obtain ⟨B, hBe⟩ : ∃ B, B = w0.heap.size := ⟨_, rfl⟩
  obtain ⟨w, hwe⟩ : ∃ w, w = w0.alloc (.cells #[.int .i64 id] 3) := ⟨_, rfl⟩
  have h := h0.below hbA
  have hml := h.few
  have hpx : (M.map Prod.fst)[p]? = some x.1 := by rw [List.getElem?_map, hx]; rfl
  have hqy : (M.map Prod.fst)[q]? = some y.1 := by rw [List.getElem?_map, hy]; rfl
  have hp : posOf (M.map Prod.fst) id = (p : Int) := by rw [← hxi]; exact posOf_of hr hpx
  have hq : posOf (M.map Prod.fst) x.1.parent = (q : Int) := by rw [← hyi]; exact posOf_of hr hqy
  have hidr := hi x.1 (List.mem_of_getElem? hpx)
  have hpar := hi y.1 (List.mem_of_getElem? hqy)
  rw [hxi] at hidr
  rw [hyi] at hpar
  have hid64 : I64 id := by unfold I64; omega
  have hpn : p < M.length := (List.getElem?_eq_some_iff.1 hx).1
  have hqn : q < M.length := (List.getElem?_eq_some_iff.1 hy).1
  obtain ⟨y1, yk, yp⟩ := y
  obtain ⟨⟨xid, xpar, xks, xtx, xps⟩, xk, xpv⟩ := x
  have hxi : xid = id := hxi
  have hnst := h.far _ (List.mem_of_getElem? hy)
  obtain ⟨hkx, hpxx⟩ := hnst
  obtain ⟨Ak, nk, ck, rfl⟩ : ∃ A n c, yk = .slice A n c := by
    obtain ⟨A, n, c, e, _⟩ := hkx
    exact ⟨A, n, c, e⟩
  rw [← hwe] at h hkx hpxx HBA
  rw [← hwe, ← hBe] at hcA
  rw [← hwe, ← hBe] at hzA
  have hkr := hkx.reads (B := w.heap.size) fun b hb => hb.1.1
  have hkl := hkr.len
  have HIX := Lib.hid (index_any (M.map Prod.fst) (some ⟨g, 0, none⟩) M.length cap id w w.heap.size (Nat.le_refl _) h.rb hr hi hid64)
  rw [hp] at HIX
  have HIP : Hid (∀ W, Below w.heap.size w W → Calls Tryz.prog 105 #[.slice (some ⟨g, 0, none⟩) M.length cap, .int .i64 xpar] W fun e w' => e = .returned (.int .i64 (q : Int)) ∧ Below W.heap.size W w') := fun W hW => by
    have := index_any (M.map Prod.fst) (some ⟨g, 0, none⟩) M.length cap xpar W W.heap.size (Nat.le_refl _) (h.below hW).rb hr hi (by have hpar : 0 ≤ xpar ∧ xpar ≤ 1000000 := hpar; unfold I64; omega)
    have hq : posOf (M.map Prod.fst) xpar = (q : Int) := hq
    rwa [hq] at this
  have H := Lib.hid h
  have HX := Lib.hid hx
  have HY := Lib.hid hy
  have HKR := Lib.hid hkr
  have HPX := Lib.hid hpxx
  have hgw := h.lt
  have hg0 : g < B := by rw [hBe]; exact h0.lt
  have i0 : (0 : Int) ≤ (p : Int) := by omega
  have i1 : (p : Int) < (M.length : Int) := by omega
  have i2 : (0 : Int) ≤ (q : Int) := by omega
  have i3 : (q : Int) < (M.length : Int) := by omega
  have H64 : Hid (∀ z ∈ lessK y1.kids id, I64 z) := fun z hz => hkr.i64 ((less_mem _ _ _).1 hz).1
  have HIN := Lib.hid hin
  obtain ⟨n, hn⟩ : ∃ n, n = M.length := ⟨_, rfl⟩
  rw [← hn] at HIX HIP i1 i3 hml ⊢
  have HNN := Lib.hid hn
  have HK1 : Hid (nk = y1.kids.length) := hkl.1
  have hkl1 : nk ≤ 500 := by have := HK1.out; omega
  have HC : Hid (w.cell? ⟨B, 0, none⟩ = some (.int .i64 id)) := hcA
  have HBE := Lib.hid hBe
  have HZ0 : Hid (w0.heap.size ≤ w.heap.size) := HBA.out.size
  clear hbA h0 hkl hk hin h hx hy hp hq hpx hqy hidr hpar hkr hkx hpxx hr hi hn hxi hyi
  go_enter Tryz.func130, Tryz.ntmps130
  go_upto_region 1 with fail
  rw [← hwe, ← hBe]
  clear hwe hBe
  go_wp2_with fail
  refine HIX.out.mono ?_
  rintro e w1 ⟨rfl, hb1⟩
  have HB1 := Lib.hid hb1
  have H1 := Lib.hid (H.out.below hb1)
  have c1 : w1.cell? ⟨g, p * 5 + 1, none⟩ = some (.int .i64 xpar) := H1.out.cell HX.out rfl
  clear hb1 hcA
  go_wp2_with fail
  refine (HIP.out w1 HB1.out).mono ?_
  rintro e w2 ⟨rfl, hb⟩
  have HB2 : Hid (Below w.heap.size w w2) := HB1.out.trans (hb.mono HB1.out.size)
  have H2 := Lib.hid (H.out.below HB2.out)
  have c2 : w2.cell? ⟨g, q * 5 + 2, none⟩ = some (.slice Ak nk ck) := H2.out.cell HY.out rfl
  have HCL := Lib.hid (cloneI_own Ak nk ck y1.kids w2 w.heap.size (HKR.out.below HB2.out))
  clear hb c1
  go_wp2_with fail
  refine HCL.out.mono ?_
  rintro e w3 ⟨v3, rfl, hown3, hb3⟩
  have HB3 : Hid (Below w.heap.size w w3) := HB2.out.trans (hb3.mono HB2.out.size)
  have hz3 : w2.heap.size ≤ w3.heap.size := hb3.size
  have hz2 : w.heap.size ≤ w2.heap.size := HB2.out.size
  obtain ⟨g3, c3, rfl, hg3, HDEL⟩ : ∃ g3 c3, v3 = .slice (some ⟨g3, 0, none⟩) nk c3 ∧ w2.heap.size ≤ g3 ∧ Hid (Calls Tryz.prog 159 #[.slice (some ⟨g3, 0, none⟩) nk c3, .func (.func 160) #[] #[.pointer (some ⟨B, 0, none⟩)]] w3 fun e w' =>
      e = .returned (.slice (some ⟨g3, 0, none⟩) (lessK y1.kids id).length c3) ∧ w'.ownsRow w2.heap.size 3 1 (.slice (some ⟨g3, 0, none⟩) (lessK y1.kids id).length c3) (lessK y1.kids id).length ((lessK y1.kids id).map (.int .i64)) ∧ w3.grownBy w' (some g3)) := by
    have hpos : 0 < nk := by rw [HK1.out]; exact List.length_pos_of_mem HIN.out
    rcases hown3.2 with ⟨_, hz⟩ | ⟨g3, c3, cur, rfl, hg, hh, hnc, hcm, hcs, hct⟩
    · omega
    · have hk1 := HK1.out
      have := delI_own g3 c3 cur y1.kids id B w2.heap.size w3 hh (by omega) hcm hcs (by rw [← hk1]; exact hct) (by omega) (by omega) (by rw [HB3.out.cell (p := ⟨B, 0, none⟩) (by show B < w.heap.size; omega)]; exact HC.out) hg
      rw [← hk1] at this
      exact ⟨g3, c3, rfl, hg, this⟩
  clear hb3 hown3 c2
  go_wp2_with fail
  refine HDEL.out.mono ?_
  rintro e w4 ⟨rfl, hown4, hg4⟩
  have HB4 : Hid (Below w.heap.size w w4) := HB3.out.grown hg4 HB3.out.size (fun gg hgg => by injection hgg with e; omega)
  obtain ⟨A4, c4, e4, hc4, hr4⟩ := RdX.of_own hown4
  injection e4 with e41 e42 e43
  subst e41 e43
  have hll := less_len y1.kids id
  have hk1 := HK1.out
  have hkid : RInX w4 (fun b => (b < w4.heap.size ∧ b ≠ g) ∧ S b) (.slice (some ⟨g3, 0, none⟩) (lessK y1.kids id).length c3) (lessK y1.kids id) :=
    ⟨_, _, _, rfl, rfl, ⟨hc4, by omega⟩, hr4.weak fun b hb => ⟨⟨hb.2.2, by have := hb.2.1; omega⟩, HSS.out b (Nat.le_trans HZ0.out (Nat.le_trans hz2 hb.2.1))⟩, H64.out⟩
  have HKD := Lib.hid hkid
  have H4 := Lib.hid (H.out.below HB4.out)
  have f2 := H4.out.frozen (q * 5 + 2)
  have c2 : w4.cell? ⟨g, q * 5 + 2, none⟩ = some (.slice Ak nk ck) := H4.out.cell HY.out rfl
  clear hown4 hg4 hc4 hr4 hkid hll hk1
  go_wp2_with fail
  go_end0
  refine ⟨rfl, ⟨.slice (some ⟨g3, 0, none⟩) (lessK y1.kids id).length c3, ?_⟩, ?_⟩
  · refine H4.out.store HY.out (j := 2) (by omega) rfl ⟨HKD.out, ?_⟩
    exact (HPX.out.keep fun p hp => HB4.out.cell hp.1.1).weak fun b hb => ⟨⟨Nat.lt_of_lt_of_le hb.1.1 HB4.out.size, hb.1.2⟩, hb.2⟩
  · exact grown_put (HBA.out.trans (HB4.out.mono HZ0.out)) g _ _
end Go.Proofs.YtmkicfjcgbfaaaaGreat
