/-
  DERIVED. Same values: tree.sameValue, the reference's SameValue. Conditions: sizes.
  The walk of the reference's reach. Conditions: sizes; a base whose kids are right.
  By an AI agent.
-/
import Derived.Test.YtmkicfjcgbfaaaaGreatTg04
import Derived.Test.YtmkicfjcgbfaaaaGreatChecked
import Derived.WalkSpells
import Derived.Deep.QuietTactic
import Derived.BigQuiet
import Derived.Deep.LoopGhost
import Derived.Test.YtmkicfjcgbfaaaaGreatTg07
import Derived.Test.YtmkicfjcgbfaaaaGreatTg05
namespace Go.Proofs.YtmkicfjcgbfaaaaGreat
open Go.RowKit

set_option maxHeartbeats 2000000 in
theorem eqVals_any (L M : List (Vl × Value)) (A A' : Option Addr) (n c n' c' : Nat) (w : World) (B : Nat) (hB : B ≤ w.heap.size) (h1 : Reads w B 5 A n (L.flatMap vlV)) (h2 : Reads w B 5 A' n' (M.flatMap vlV)) (hn : n = L.length) (hn' : n' = M.length) (hbig : n ≤ 140737488351232) (hbig' : n' ≤ 140737488351232)
    (hs1 : ∀ x ∈ L, ∃ A n c, x.2 = .slice A n c) (hs2 : ∀ x ∈ M, ∃ A n c, x.2 = .slice A n c)
    (hcl : ∀ x ∈ L, ∀ y ∈ M, ∀ W, Below w.heap.size w W → Calls Tryz.prog 96 #[AV x, AV y] W fun e w' => e = .returned (.bool (sameV x.1 y.1)) ∧ Below W.heap.size W w') :
    Calls Tryz.prog 145 #[.slice A n c, .slice A' n' c', .func (.func 96) #[] #[]] w fun e w' => e = .returned (.bool (sameL (L.map Prod.fst) (M.map Prod.fst))) ∧ Below w.heap.size w w' := by
  by_cases hl : n = n'
  · subst hl
    have H1 := Lib.hid h1
    have H2 := Lib.hid h2
    have HN := Lib.hid hn
    have HN' := Lib.hid hn'
    have HC := Lib.hid hcl
    have S1 := Lib.hid hs1
    have S2 := Lib.hid hs2
    clear h1 h2 hn hn' hcl hs1 hs2
    obtain ⟨q, hq⟩ : ∃ q, q = sameL (L.map Prod.fst) (M.map Prod.fst) := ⟨_, rfl⟩
    rw [← hq]
    have HQ := Lib.hid hq
    clear hq
    go_enter Tryz.func145, Tryz.ntmps145
    go_wp2_with fail
    go_loopg [17] n (fun gg s17 wr => ∃ k : Nat, k + gg = n ∧ s17 = .int .i64 (k : Int) ∧ Hid (∀ i x y, i < k → L[i]? = some x → M[i]? = some y → sameV x.1 y.1 = true) ∧ Hid (Below w.heap.size w wr))
    case atStart => exact ⟨0, by omega, rfl, (fun i x y hi => absurd hi (by omega)), Below.refl _ _⟩
    case round =>
      obtain ⟨k, hkg, rfl, hno, hbel⟩ := hrel
      by_cases hk : k < n
      · obtain ⟨x, hx⟩ : ∃ x, L[k]? = some x := ⟨_, List.getElem?_eq_getElem (by have := HN.out; omega)⟩
        obtain ⟨y, hy⟩ : ∃ x, M[k]? = some x := ⟨_, List.getElem?_eq_getElem (by have := HN'.out; omega)⟩
        obtain ⟨b, off, rfl, hbb, hc⟩ := H1.out.plain_at (by omega) vlV_len HN.out hx
        obtain ⟨b', off', rfl, hbb', hc'⟩ := H2.out.plain_at (by omega) vlV_len HN'.out hy
        have HX : Hid (∀ W, Below wr.heap.size wr W → Calls _ _ #[AV x, AV y] W _) := fun W hW => HC.out x (List.mem_of_getElem? hx) y (List.mem_of_getElem? hy) W (hbel.out.trans (hW.mono hbel.out.size))
        obtain ⟨⟨kx, ix, tx, sx, lx⟩, vx⟩ := x
        obtain ⟨⟨ky, iy, ty, sy, ly⟩, vy⟩ := y
        obtain ⟨Ax, nx, cx, rfl⟩ := S1.out _ (List.mem_of_getElem? hx)
        obtain ⟨Ay, ny, cy, rfl⟩ := S2.out _ (List.mem_of_getElem? hy)
        have g0 := (hbel.out.cell (p := ⟨b, off + k * 5, none⟩) (by show b < _; omega)).trans (hc 0 _ rfl)
        have g1 := (hbel.out.cell (p := ⟨b, off + k * 5 + 1, none⟩) (by show b < _; omega)).trans (hc 1 _ rfl)
        have g2 := (hbel.out.cell (p := ⟨b, off + k * 5 + 2, none⟩) (by show b < _; omega)).trans (hc 2 _ rfl)
        have g3 := (hbel.out.cell (p := ⟨b, off + k * 5 + 3, none⟩) (by show b < _; omega)).trans (hc 3 _ rfl)
        have g4 := (hbel.out.cell (p := ⟨b, off + k * 5 + 4, none⟩) (by show b < _; omega)).trans (hc 4 _ rfl)
        have k0 := fun o => (World.cell?_alloc_lt wr o ⟨b', off' + k * 5, none⟩ (by show b' < _; have := hbel.out.size; omega)).trans ((hbel.out.cell (p := ⟨b', off' + k * 5, none⟩) (by show b' < _; omega)).trans (hc' 0 _ rfl))
        have k1 := fun o => (World.cell?_alloc_lt wr o ⟨b', off' + k * 5 + 1, none⟩ (by show b' < _; have := hbel.out.size; omega)).trans ((hbel.out.cell (p := ⟨b', off' + k * 5 + 1, none⟩) (by show b' < _; omega)).trans (hc' 1 _ rfl))
        have k2 := fun o => (World.cell?_alloc_lt wr o ⟨b', off' + k * 5 + 2, none⟩ (by show b' < _; have := hbel.out.size; omega)).trans ((hbel.out.cell (p := ⟨b', off' + k * 5 + 2, none⟩) (by show b' < _; omega)).trans (hc' 2 _ rfl))
        have k3 := fun o => (World.cell?_alloc_lt wr o ⟨b', off' + k * 5 + 3, none⟩ (by show b' < _; have := hbel.out.size; omega)).trans ((hbel.out.cell (p := ⟨b', off' + k * 5 + 3, none⟩) (by show b' < _; omega)).trans (hc' 3 _ rfl))
        have k4 := fun o => (World.cell?_alloc_lt wr o ⟨b', off' + k * 5 + 4, none⟩ (by show b' < _; have := hbel.out.size; omega)).trans ((hbel.out.cell (p := ⟨b', off' + k * 5 + 4, none⟩) (by show b' < _; omega)).trans (hc' 4 _ rfl))
        have j0 : (0 : Int) ≤ (k : Int) := by omega
        have j1 : (k : Int) < (n : Int) := by omega
        have HXK := Lib.hid hx
        have HYK := Lib.hid hy
        clear hx hy hc hc'
        obtain ⟨r, hr⟩ : ∃ r, sameV (Vl.mk kx ix tx sx lx) (Vl.mk ky iy ty sy ly) = r := ⟨_, rfl⟩
        simp only [hr] at HX
        have HR := Lib.hid hr
        clear hr
        go_wp2_with fail
        refine (HX.out _ ((Below.refl _ _).alloc (Nat.le_refl _) _ |>.alloc (by simp) _)).mono ?_
        rintro e w2 ⟨rfl, hb2⟩
        have HB2 : Hid (Below w.heap.size w w2) := hbel.out.trans ((((Below.refl _ _).alloc (Nat.le_refl _) _ |>.alloc (by simp) _).trans (hb2.mono (by simp; omega))).mono hbel.out.size)
        clear hb2
        cases r
        · go_wp2_with fail
          go_ret
          refine ⟨?_, HB2.out⟩
          rw [HQ.out]
          refine congrArg (fun b => Ending.returned (.bool b)) (Eq.symm (Bool.eq_false_iff.2 fun h => ?_))
          exact Bool.false_ne_true (HR.out.symm.trans (sameL_at h (by rw [List.getElem?_map, HXK.out]; rfl) (by rw [List.getElem?_map, HYK.out]; rfl)))
        · go_wp2_with fail
          go_roundg (n - (k + 1))
          case measure => omega
          case rel =>
            refine ⟨k + 1, by omega, by go_num, ?_, HB2⟩
            intro i x y hi h1 h2
            by_cases e : i = k
            · subst e
              obtain rfl := Option.some.inj (HXK.out.symm.trans h1)
              obtain rfl := Option.some.inj (HYK.out.symm.trans h2)
              exact HR.out
            · exact hno.out i x y (by omega) h1 h2
      · obtain rfl : k = n := by omega
        go_wp2_with fail
        go_ret
        refine ⟨?_, hbel.out⟩
        rw [HQ.out]
        refine congrArg (fun b => Ending.returned (.bool b)) (Eq.symm (sameL_of (by rw [List.length_map, List.length_map, ← HN.out, HN'.out]) ?_))
        intro i x y h1 h2
        rw [List.getElem?_map, Option.map_eq_some_iff] at h1 h2
        obtain ⟨x', h1, rfl⟩ := h1
        obtain ⟨y', h2, rfl⟩ := h2
        exact hno.out i x' y' (by rw [HN.out]; exact (List.getElem?_eq_some_iff.1 h1).1) h1 h2
  · have hq : sameL (L.map Prod.fst) (M.map Prod.fst) = false := by
      refine Bool.eq_false_iff.2 fun h => hl ?_
      have := sameL_len h
      rw [List.length_map, List.length_map] at this
      omega
    rw [hq]
    have hl' : ((n : Int) == (n' : Int)) = false := by
      rw [beq_eq_false_iff_ne]; omega
    clear h1 h2 hn hn' hcl hs1 hs2 hq
    go_enter Tryz.func145, Tryz.ntmps145
    go_wp2_with fail
    go_ret
    exact ⟨rfl, Below.refl _ _⟩
/-- the walk of sameValue, its items' comparison laid -/
theorem sameVal_walk (x y : Vl × Value) (w : World) (Ax Ay : Option Addr) (nx cx ny cy : Nat) (hx : x.2 = .slice Ax nx cx) (hy : y.2 = .slice Ay ny cy)
    (hq : ∀ W, Below w.heap.size w W → Calls Tryz.prog 145 #[x.2, y.2, .func (.func 96) #[] #[]] W fun e w' => e = .returned (.bool (sameL x.1.items y.1.items)) ∧ Below W.heap.size W w') :
    Calls Tryz.prog 96 #[AV x, AV y] w fun e w' => e = .returned (.bool (sameV x.1 y.1)) ∧ Below w.heap.size w w' := by
  obtain ⟨⟨kx, ix, tx, sx, lx⟩, vx⟩ := x
  obtain ⟨⟨ky, iy, ty, sy, ly⟩, vy⟩ := y
  obtain rfl : vx = _ := hx
  obtain rfl : vy = _ := hy
  have HE := Lib.hid hq
  rw [sameV]
  obtain ⟨q, hq⟩ : ∃ q, q = sameL lx ly := ⟨_, rfl⟩
  simp only [Vl.items, ← hq] at HE ⊢
  obtain ⟨q1, h1⟩ : ∃ q, (kx == ky) = q := ⟨_, rfl⟩
  obtain ⟨q2, h2⟩ : ∃ q, (ix == iy) = q := ⟨_, rfl⟩
  obtain ⟨q3, h3⟩ : ∃ q, (tx == ty) = q := ⟨_, rfl⟩
  rw [dec_toList sx sy]
  obtain ⟨q4, h4⟩ : ∃ q, (sx.toList == sy.toList) = q := ⟨_, rfl⟩
  rw [h1, h2, h3, h4]
  clear hq
  dsimp only [AV, Vl.kind, Vl.int_, Vl.to_, Vl.text]
  cases q1
  · go_enter Tryz.func96, Tryz.ntmps96
    go_wp2_with fail
    go_ret
    exact ⟨rfl, ((Below.refl _ _).alloc (Nat.le_refl _) _).alloc (by simp) _⟩
  cases q2
  · go_enter Tryz.func96, Tryz.ntmps96
    go_wp2_with fail
    go_ret
    exact ⟨rfl, ((Below.refl _ _).alloc (Nat.le_refl _) _).alloc (by simp) _⟩
  cases q3
  · go_enter Tryz.func96, Tryz.ntmps96
    go_wp2_with fail
    go_ret
    exact ⟨rfl, ((Below.refl _ _).alloc (Nat.le_refl _) _).alloc (by simp) _⟩
  cases q4
  · go_enter Tryz.func96, Tryz.ntmps96
    go_wp2_with fail
    go_ret
    exact ⟨rfl, ((Below.refl _ _).alloc (Nat.le_refl _) _).alloc (by simp) _⟩
  go_enter Tryz.func96, Tryz.ntmps96
  go_wp2_with fail
  refine (HE.out _ (((Below.refl _ _).alloc (Nat.le_refl _) _).alloc (by simp) _)).mono ?_
  rintro e w2 ⟨rfl, hb2⟩
  have HB2 : Hid (Below w.heap.size w w2) := (((Below.refl _ _).alloc (Nat.le_refl _) _).alloc (by simp) _).trans (hb2.mono (by simp; omega))
  clear hb2
  go_wp2_with fail
  go_ret
  exact ⟨rfl, HB2.out⟩
/-- tree.sameValue -/
theorem sameVal_any : ∀ (d : Nat) (x y : Vl × Value) (w : World) (B : Nat), B ≤ w.heap.size → RVd w B d x.2 x.1.items → RVd w B d y.2 y.1.items →
    Calls Tryz.prog 96 #[AV x, AV y] w fun e w' => e = .returned (.bool (sameV x.1 y.1)) ∧ Below w.heap.size w w'
  | 0, x, y, w, B, hB, hx, hy => by
    obtain ⟨A, n, c, M, h1, h2, h3, h4, h5, h6⟩ := hx.deeper
    obtain ⟨A', n', c', M', k1, k2, k3, k4, k5, k6⟩ := hy.deeper
    refine sameVal_walk x y w _ _ _ _ _ _ h2 k2 fun W hW => ?_
    rw [h2, k2, ← h1, ← k1]
    have e : M = [] := by rw [← List.map_eq_nil_iff, h1]; exact hx.1
    exact eqVals_any M M' A A' n c n' c' W B (Nat.le_trans hB hW.size) (h5.below (hW.mono hB)) (k5.below (hW.mono hB)) h3 k3 (by omega) (by omega) (fun z hz => (RV.slice ⟨_, h6 z hz⟩)) (fun z hz => (RV.slice ⟨_, k6 z hz⟩)) (fun z hz => by rw [e] at hz; cases hz)
  | d + 1, x, y, w, B, hB, ⟨A, n, c, M, h1, h2, h3, h4, h5, h6⟩, ⟨A', n', c', M', k1, k2, k3, k4, k5, k6⟩ => by
    refine sameVal_walk x y w _ _ _ _ _ _ h2 k2 fun W hW => ?_
    rw [h2, k2, ← h1, ← k1]
    exact eqVals_any M M' A A' n c n' c' W B (Nat.le_trans hB hW.size) (h5.below (hW.mono hB)) (k5.below (hW.mono hB)) h3 k3 (by omega) (by omega) (fun z hz => (RV.slice ⟨_, h6 z hz⟩)) (fun z hz => (RV.slice ⟨_, k6 z hz⟩)) (fun z hz u hu W' hW' => sameVal_any d z u W' B (by have := hW.size; have := hW'.size; omega) (((h6 z hz).below (hW.mono hB)).below (hW'.mono (Nat.le_trans hB hW.size))) (((k6 u hu).below (hW.mono hB)).below (hW'.mono (Nat.le_trans hB hW.size))) )
end Go.Proofs.YtmkicfjcgbfaaaaGreat
namespace Go.Proofs.YtmkicfjcgbfaaaaGreat
open Go.RowKit

def ints (D : List Int) : Array Value := (D.map (Value.int .i64)).toArray
theorem ints_at {D : List Int} {p : Nat} {d : Int} (h : D[p]? = some d) : (ints D)[p]? = some (.int .i64 d) := by
  unfold ints; simp [h]
theorem ints_set (D : List Int) (p : Nat) (d : Int) : (ints D).setIfInBounds p (.int .i64 d) = ints (D.set p d) := by
  unfold ints
  apply Array.ext'
  simp [List.map_set]
/-- what reach leaves -/
def ReachP (l : List Bl) (D : List Int) (kids : List Int) (g : Nat) (w : World) (e : Ending) (w' : World) : Prop :=
  e = .returned (.tuple #[]) ∧ ∃ D', RchTo l D D' kids ∧ Blk w' g 3 (ints D') ∧ w.grownBy w' (some g)
theorem grown_refl (w : World) (r : Option Nat) : w.grownBy w r := ⟨rfl, rfl, rfl, Nat.le_refl _, fun _ _ _ => rfl⟩
theorem below_of_grown {w w' : World} {g B : Nat} (h : w.grownBy w' (some g)) (hB : B ≤ g) (hw : B ≤ w.heap.size) : Below B w w' :=
  (Below.refl B w).grown h hw (fun k hk => by injection hk with hk; omega)
theorem grown_of_below {w w1 w2 : World} {r : Option Nat} (h : w.grownBy w1 r) (hb : Below w1.heap.size w1 w2) : w.grownBy w2 r :=
  h.trans ⟨hb.os, hb.tape, hb.output, hb.size, fun k hk _ => hb.block k hk⟩

set_option maxHeartbeats 4000000 in
theorem reach_walk (l : List Bl) (K : Kids l) (A : Option Addr) (n c : Nat) (B : Nat) (D : List Int) (i dd : Nat) (x : Bl) (g : Nat) (w : World) (h : RB w B (.slice A n c) l) (hBg : B ≤ g) (hx : l[i]? = some x) (hdp : Dp l x.id dd) (hdz : dd + zeros D ≤ n) (hg : Blk w g 3 (ints D)) (hD : Rch l D)
    (IH : ∀ (D1 : List Int) (p : Nat) (y : Bl) (W : World), zeros D1 + 1 ≤ zeros D → RB W B (.slice A n c) l → l[p]? = some y → Dp l y.id (dd + 1) → Blk W g 3 (ints D1) → Rch l D1 → Calls Tryz.prog 72 #[.slice A n c, .int .i64 p, .int .i64 ((dd : Int) + 1), .slice (some ⟨g, 0, none⟩) n n] W (ReachP l D1 y.kids g W)) :
    Calls Tryz.prog 72 #[.slice A n c, .int .i64 i, .int .i64 dd, .slice (some ⟨g, 0, none⟩) n n] w (ReachP l D x.kids g w) := by
  have hbg : n * 80 ≤ 140737488351232 := h.len.2.2
  have hgw : g < w.heap.size := hg.lt
  have hil := (List.getElem?_eq_some_iff.1 hx).1
  have hin : i < n := by have := h.len.1; omega
  obtain ⟨b, off, Ak, nk, ck, Ap, np, cp, rfl, hbb, g0, g1, g2, g3, g4, hK, _⟩ := h.at_ hx
  have HN := Lib.hid h.len
  have HAT := Lib.hid fun (id : Int) (W : World) (hW : Below B w W) => at_any l (some ⟨b, off, none⟩) n c id W B (by have := hW.size; omega) (h.below hW)
  have H := Lib.hid h
  have HK := Lib.hid hK
  have HKL := Lib.hid hK.len
  have HX := Lib.hid hx
  have HDP := Lib.hid hdp
  have HDZ := Lib.hid hdz
  have HG := Lib.hid hg
  have HS := Lib.hid (RchTo.start hD)
  have HI := Lib.hid IH
  have KK := Lib.hid K
  have hdn : dd ≤ n := by omega
  have i0 : (0 : Int) ≤ (i : Int) := by omega
  have i1 : (i : Int) < (n : Int) := by omega
  clear h hK hx hdp hdz hg hD IH g0 g1 g3 g4
  go_enter Tryz.func72, Tryz.ntmps72
  go_wp2_with fail
  go_loopg [17] nk (fun gg s17 wr => ∃ (j : Nat) (D' : List Int), j + gg = nk ∧ s17 = .int .i64 (j : Int) ∧ Hid (RchTo l D D' (x.kids.take j)) ∧ Hid (Blk wr g 3 (ints D')) ∧ Hid (w.grownBy wr (some g)))
  case atStart => exact ⟨0, D, by omega, rfl, HS.out, HG, grown_refl _ _⟩
  case round =>
    obtain ⟨j, D', hjg, rfl, hr, hb, hgr⟩ := hrel
    have hbk : nk ≤ ck ∧ nk * 8 ≤ 140737488351232 := HKL.out.2
    have HBW : Hid (Below B w wr) := below_of_grown hgr.out hBg (by omega)
    by_cases hj : j < nk
    case neg =>
      obtain rfl : j = nk := by omega
      have hr' := hr.out
      rw [List.take_of_length_le (by rw [← HKL.out.1]; exact Nat.le_refl _)] at hr'
      have HR := Lib.hid hr'
      clear hr'
      go_wp2_with fail
      go_end0
      exact ⟨rfl, D', HR.out, hb.out, hgr.out⟩
    obtain ⟨k, hkk⟩ : ∃ k, x.kids[j]? = some k := ⟨_, List.getElem?_eq_getElem (by have := HKL.out.1; omega)⟩
    obtain ⟨bk, ok, rfl, hbk2, q0⟩ := HK.out.at_ hkk
    have q0 := (HBW.out.cell (p := ⟨bk, ok + j, none⟩) (by show bk < _; omega)).trans q0
    have z0 : (0 : Int) ≤ (j : Int) := by omega
    have z1 : (j : Int) < (nk : Int) := by omega
    have hkm := List.mem_of_getElem? hkk
    have hxm := List.mem_of_getElem? HX.out
    obtain ⟨_, y, hy, hyk, _⟩ := KK.out.kid x hxm k hkm
    obtain ⟨p, hpl, hpe⟩ := List.mem_iff_getElem.1 hy
    have hly : l[p]? = some y := by rw [List.getElem?_eq_getElem hpl, hpe]
    have hpos : posOf l k = (p : Int) := by rw [← hyk]; exact posOf_of KK.out.rise hly
    have HA := HAT.out k wr HBW.out
    rw [hpos] at HA
    have HA := Lib.hid HA
    have hpn : p < n := by have := HN.out.1; omega
    have p0 : (0 : Int) ≤ (p : Int) := by omega
    have p1 : (p : Int) < (n : Int) := by omega
    obtain ⟨d, hd⟩ : ∃ d, D'[p]? = some d := ⟨_, List.getElem?_eq_getElem (by rw [hr.out.rch.len]; exact hpl)⟩
    have HT : Hid (x.kids.take (j + 1) = x.kids.take j ++ [k]) := by
      show _ = _
      obtain ⟨hk, e⟩ := List.getElem?_eq_some_iff.1 hkk
      rw [List.take_succ_eq_append_getElem hk, e]
    have hgl : g < wr.heap.size := hb.out.lt
    have HY := Lib.hid hly
    have HYK := Lib.hid hyk
    have HKM := Lib.hid hkm
    have HXM := Lib.hid hxm
    have HPOS := Lib.hid hpos
    have HD := Lib.hid hd
    clear hkk hy hyk hpl hpe hly hpos hkm hxm hd
    by_cases h0 : d = 0
    case neg =>
      have HSK : Hid (RchTo l D D' (x.kids.take (j + 1))) := by rw [HT.out]; exact hr.out.skip HPOS.out HD.out h0
      have h0' : (d == 0) = false := by simpa using h0
      clear h0
      go_wp2_with fail
      refine HA.out.mono ?_
      rintro e w2 ⟨rfl, hb2⟩
      have HB2 : Hid (Blk w2 g 3 (ints D')) := hb.out.below hb2 hgl
      have HG2 : Hid (w.grownBy w2 (some g)) := grown_of_below hgr.out hb2
      have c0 : w2.cell? ⟨g, p, none⟩ = some (.int .i64 d) := (HB2.out.cell p).trans (ints_at HD.out)
      clear hb2
      go_wp2_with fail
      go_roundg (nk - (j + 1))
      case measure => omega
      case rel => exact ⟨j + 1, D', by omega, by go_num, HSK, HB2, HG2⟩
    case pos =>
      subst h0
      have hz1 := zeros_pos HD.out
      have hzl := hr.out.less
      have hdz := HDZ.out
      have hne : ((dd : Int) + 1) ≠ 0 := by omega
      have hzs := zeros_set HD.out hne
      have HST := Lib.hid (hr.out.rch.set HXM.out HKM.out HDP.out HY.out HYK.out)
      have HDY : Hid (Dp l y.id (dd + 1)) := by rw [HYK.out]; exact .step x dd k HDP.out HXM.out HKM.out
      have HZL : Hid (zeros (D'.set p ((dd : Int) + 1)) + 1 ≤ zeros D) := by show _ ≤ _; omega
      have HFIN : Hid (∀ D2, RchTo l (D'.set p ((dd : Int) + 1)) D2 y.kids → RchTo l D D2 (x.kids.take (j + 1))) := fun D2 h2 => by rw [HT.out]; exact hr.out.down HPOS.out HY.out HD.out hne h2
      clear hz1 hzl hdz hzs hne
      go_wp2_with fail
      refine HA.out.mono ?_
      rintro e w2 ⟨rfl, hb2⟩
      have HB2 : Hid (Blk w2 g 3 (ints D')) := hb.out.below hb2 hgl
      have HG2 : Hid (w.grownBy w2 (some g)) := grown_of_below hgr.out hb2
      have c0 : w2.cell? ⟨g, p, none⟩ = some (.int .i64 0) := (HB2.out.cell p).trans (ints_at HD.out)
      have f0 : w2.frozen? ⟨g, p, none⟩ = false := HB2.out.frozen p
      have HB3 : Hid (Blk (w2.setCell ⟨g, p, none⟩ (.int .i64 ((dd : Int) + 1))) g 3 (ints (D'.set p ((dd : Int) + 1)))) := by
        have := HB2.out.set_ p (.int .i64 ((dd : Int) + 1))
        rwa [ints_set] at this
      have HG3 : Hid (w.grownBy (w2.setCell ⟨g, p, none⟩ (.int .i64 ((dd : Int) + 1))) (some g)) := HG2.out.trans ⟨rfl, rfl, rfl, by simp [World.setCell], fun k hk hne => Below.heap_setCell w2 ⟨g, p, none⟩ _ k (fun e => hne (by rw [e]))⟩
      have HRC := Lib.hid (HI.out _ p y _ HZL.out (H.out.below (below_of_grown HG3.out hBg (by omega))) HY.out HDY.out HB3.out HST.out)
      clear hb2
      go_wp2_with fail
      refine HRC.out.mono ?_
      rintro e w3 ⟨rfl, D2, h2, hb3, hg3⟩
      have HR2 := Lib.hid (HFIN.out D2 h2)
      have HB4 := Lib.hid hb3
      have HG4 : Hid (w.grownBy w3 (some g)) := HG3.out.trans hg3
      clear h2 hb3 hg3
      go_wp2_with fail
      go_roundg (nk - (j + 1))
      case measure => omega
      case rel => exact ⟨j + 1, D2, by omega, by go_num, HR2, HB4, HG4⟩
/-- the reference's reach -/
theorem reach_any (l : List Bl) (K : Kids l) (A : Option Addr) (n c : Nat) (B g : Nat) (hBg : B ≤ g) : ∀ (m : Nat) (D : List Int) (i dd : Nat) (x : Bl) (w : World), zeros D ≤ m → RB w B (.slice A n c) l → l[i]? = some x → Dp l x.id dd → dd + zeros D ≤ n → Blk w g 3 (ints D) → Rch l D →
    Calls Tryz.prog 72 #[.slice A n c, .int .i64 i, .int .i64 dd, .slice (some ⟨g, 0, none⟩) n n] w (ReachP l D x.kids g w)
  | 0, D, i, dd, x, w, hm, h, hx, hdp, hdz, hg, hD => reach_walk l K A n c B D i dd x g w h hBg hx hdp hdz hg hD fun D1 p y W hz => by omega
  | m + 1, D, i, dd, x, w, hm, h, hx, hdp, hdz, hg, hD => reach_walk l K A n c B D i dd x g w h hBg hx hdp hdz hg hD fun D1 p y W hz h' hy hdy hg' hD' => reach_any l K A n c B g hBg m D1 p (dd + 1) y W (by omega) h' hy hdy (by omega) hg' hD'
end Go.Proofs.YtmkicfjcgbfaaaaGreat
