/-
  DERIVED. Same values: the reference's SameValue. Conditions: sizes.
  The walks of the reference's sameNumbers, SameBlock and SameBase. Conditions: sizes.
  The walks of the reference's SameOp at equal operations, and position. Conditions: sizes.
  The walks of tree.copyOp and slices.Clone, Clip at operations. Conditions: sizes.
  By an AI agent.
-/
import Derived.Test.YtmkicfjcgbfaaaaGreatTe14
import Derived.Deep.RegionHeld3
import Derived.Test.YtmkicfjcgbfaaaaGreatTe13
import Derived.Test.YtmkicfjcgbfaaaaGreatTe05
import Derived.Deep.DeepCutAuto
import Derived.Test.YtmkicfjcgbfaaaaGreatTe25
import Derived.Test.YtmkicfjcgbfaaaaGreatTe26
import Derived.Test.YtmkicfjcgbfaaaaGreatTe28
import Derived.Test.YtmkicfjcgbfaaaaGreatTe29
import Derived.Lib.SliceRun
import Derived.Laws.IdiomCopy
import Derived.Maps.AppendAt
namespace Go.Proofs.YtmkicfjcgbfaaaaGreat
open Go.RowKit

set_option maxHeartbeats 4000000 in
theorem sameR_walk (x y : Vl × Value) (L M : List (Vl × Value)) (A A' : Option Addr) (n c n' c' : Nat) (w : World) (B : Nat) (hB : B ≤ w.heap.size) (hx : x.2 = .slice A n c) (hy : y.2 = .slice A' n' c') (hxl : L.map Prod.fst = x.1.items) (hyl : M.map Prod.fst = y.1.items) (h1 : Reads w B 5 A n (L.flatMap vlV)) (h2 : Reads w B 5 A' n' (M.flatMap vlV)) (hn : n = L.length) (hn' : n' = M.length) (hbig : n ≤ 140737488351232) (hbig' : n' ≤ 140737488351232)
    (hs1 : ∀ x ∈ L, ∃ A n c, x.2 = .slice A n c) (hs2 : ∀ x ∈ M, ∃ A n c, x.2 = .slice A n c)
    (hcl : ∀ x ∈ L, ∀ y ∈ M, ∀ W, Below w.heap.size w W → Calls Tryz.prog 108 #[AV x, AV y] W fun e w' => e = .returned (.bool (sameV x.1 y.1)) ∧ Below W.heap.size W w') :
    Calls Tryz.prog 108 #[AV x, AV y] w fun e w' => e = .returned (.bool (sameV x.1 y.1)) ∧ Below w.heap.size w w' := by
  obtain ⟨⟨kx, ix, tx, sx, lx⟩, vx⟩ := x
  obtain ⟨⟨ky, iy, ty, sy, ly⟩, vy⟩ := y
  obtain rfl : vx = _ := hx
  obtain rfl : vy = _ := hy
  obtain rfl : _ = lx := hxl
  obtain rfl : _ = ly := hyl
  have H1 := Lib.hid h1
  have H2 := Lib.hid h2
  have HN := Lib.hid hn
  have HN' := Lib.hid hn'
  have HC := Lib.hid hcl
  have S1 := Lib.hid hs1
  have S2 := Lib.hid hs2
  clear h1 h2 hn hn' hcl hs1 hs2
  dsimp only [AV, Vl.kind, Vl.int_, Vl.to_, Vl.text]
  rw [sameV]
  rw [dec_toList sx sy]
  obtain ⟨q1, h1⟩ : ∃ q, (kx == ky) = q := ⟨_, rfl⟩
  obtain ⟨q2, h2⟩ : ∃ q, (ix == iy) = q := ⟨_, rfl⟩
  obtain ⟨q3, h3⟩ : ∃ q, (tx == ty) = q := ⟨_, rfl⟩
  obtain ⟨q4, h4⟩ : ∃ q, (sx.toList == sy.toList) = q := ⟨_, rfl⟩
  rw [h1, h2, h3, h4]
  cases q1
  · have b1 : (kx != ky) = true := congrArg (!·) h1
    go_enter Tryz.func108, Tryz.ntmps108
    go_wp2_with fail
    go_ret
    exact ⟨rfl, ((Below.refl _ _).alloc (Nat.le_refl _) _).alloc (by simp) _⟩
  have b1 : (kx != ky) = false := congrArg (!·) h1
  cases q2
  · have b2 : (ix != iy) = true := congrArg (!·) h2
    go_enter Tryz.func108, Tryz.ntmps108
    go_wp2_with fail
    go_ret
    exact ⟨rfl, ((Below.refl _ _).alloc (Nat.le_refl _) _).alloc (by simp) _⟩
  have b2 : (ix != iy) = false := congrArg (!·) h2
  cases q3
  · have b3 : (tx != ty) = true := congrArg (!·) h3
    go_enter Tryz.func108, Tryz.ntmps108
    go_wp2_with fail
    go_ret
    exact ⟨rfl, ((Below.refl _ _).alloc (Nat.le_refl _) _).alloc (by simp) _⟩
  have b3 : (tx != ty) = false := congrArg (!·) h3
  cases q4
  · have b4 : (sx.toList != sy.toList) = true := congrArg (!·) h4
    go_enter Tryz.func108, Tryz.ntmps108
    go_wp2_with fail
    go_ret
    exact ⟨rfl, ((Below.refl _ _).alloc (Nat.le_refl _) _).alloc (by simp) _⟩
  have b4 : (sx.toList != sy.toList) = false := congrArg (!·) h4
  by_cases hl : n = n'
  · subst hl
    obtain ⟨q, hq⟩ : ∃ q, q = sameL (L.map Prod.fst) (M.map Prod.fst) := ⟨_, rfl⟩
    rw [← hq]
    have HQ := Lib.hid hq
    clear hq
    go_enter Tryz.func108, Tryz.ntmps108
    go_wp2_with fail
    obtain ⟨X, hX⟩ : ∃ X, X = ((w.alloc (.cells #[.int .i64 kx, .int .i64 ix, .int .i64 tx, .string sx, .slice A n c] 29)).alloc (.cells #[.int .i64 ky, .int .i64 iy, .int .i64 ty, .string sy, .slice A' n c'] 29)) := ⟨_, rfl⟩
    have p0 : Blk X w.heap.size 29 #[.int .i64 kx, .int .i64 ix, .int .i64 tx, .string sx, .slice A n c] := by rw [hX]; exact (Blk.new w _ _).alloc _
    have p1 : Blk X (w.heap.size + 1) 29 #[.int .i64 ky, .int .i64 iy, .int .i64 ty, .string sy, .slice A' n c'] := by
      rw [hX]
      have h := Blk.new (w.alloc (.cells #[.int .i64 kx, .int .i64 ix, .int .i64 tx, .string sx, .slice A n c] 29)) 29 #[.int .i64 ky, .int .i64 iy, .int .i64 ty, .string sy, .slice A' n c']
      simpa only [World.size_alloc] using h
    have hbX : Below w.heap.size w X := by rw [hX]; exact ((Below.refl _ _).alloc (Nat.le_refl _) _).alloc (by simp) _
    have hzX : w.heap.size + 1 < X.heap.size := p1.lt
    rw [← hX]
    clear hX
    go_loopg [44] n (fun gg s44 wr => ∃ k : Nat, k + gg = n ∧ s44 = .int .i64 (k : Int) ∧ Hid (∀ i x y, i < k → L[i]? = some x → M[i]? = some y → sameV x.1 y.1 = true) ∧ Hid (Below X.heap.size X wr))
    case atStart => exact ⟨0, by omega, rfl, (fun i x y hi => absurd hi (by omega)), Below.refl _ _⟩
    case round =>
      obtain ⟨k, hkg, rfl, hno, hbel⟩ := hrel
      have hwr : Below w.heap.size w wr := hbX.trans (hbel.out.mono (by omega))
      have hzr := hbel.out.size
      by_cases hk : k < n
      · obtain ⟨x, hx⟩ : ∃ x, L[k]? = some x := ⟨_, List.getElem?_eq_getElem (by have := HN.out; omega)⟩
        obtain ⟨y, hy⟩ : ∃ x, M[k]? = some x := ⟨_, List.getElem?_eq_getElem (by have := HN'.out; omega)⟩
        obtain ⟨b, off, rfl, hbb, hc⟩ := H1.out.plain_at (by omega) vlV_len HN.out hx
        obtain ⟨b', off', rfl, hbb', hc'⟩ := H2.out.plain_at (by omega) vlV_len HN'.out hy
        have HX : Hid (∀ W, Below w.heap.size w W → Calls _ _ #[AV x, AV y] W _) := fun W hW => HC.out x (List.mem_of_getElem? hx) y (List.mem_of_getElem? hy) W hW
        obtain ⟨⟨kx', ix', tx', sx', lx'⟩, vx⟩ := x
        obtain ⟨⟨ky', iy', ty', sy', ly'⟩, vy⟩ := y
        obtain ⟨Ax, nx, cx, rfl⟩ := S1.out _ (List.mem_of_getElem? hx)
        obtain ⟨Ay, ny, cy, rfl⟩ := S2.out _ (List.mem_of_getElem? hy)
        have g0 := (hwr.cell (p := ⟨b, off + k * 5, none⟩) (by show b < _; omega)).trans (hc 0 _ rfl)
        have g1 := (hwr.cell (p := ⟨b, off + k * 5 + 1, none⟩) (by show b < _; omega)).trans (hc 1 _ rfl)
        have g2 := (hwr.cell (p := ⟨b, off + k * 5 + 2, none⟩) (by show b < _; omega)).trans (hc 2 _ rfl)
        have g3 := (hwr.cell (p := ⟨b, off + k * 5 + 3, none⟩) (by show b < _; omega)).trans (hc 3 _ rfl)
        have g4 := (hwr.cell (p := ⟨b, off + k * 5 + 4, none⟩) (by show b < _; omega)).trans (hc 4 _ rfl)
        have k0 := (hwr.cell (p := ⟨b', off' + k * 5, none⟩) (by show b' < _; omega)).trans (hc' 0 _ rfl)
        have k1 := (hwr.cell (p := ⟨b', off' + k * 5 + 1, none⟩) (by show b' < _; omega)).trans (hc' 1 _ rfl)
        have k2 := (hwr.cell (p := ⟨b', off' + k * 5 + 2, none⟩) (by show b' < _; omega)).trans (hc' 2 _ rfl)
        have k3 := (hwr.cell (p := ⟨b', off' + k * 5 + 3, none⟩) (by show b' < _; omega)).trans (hc' 3 _ rfl)
        have k4 := (hwr.cell (p := ⟨b', off' + k * 5 + 4, none⟩) (by show b' < _; omega)).trans (hc' 4 _ rfl)
        have m4 := (hbel.out.cell (p := ⟨w.heap.size, 4, none⟩) (by show w.heap.size < _; omega)).trans (p0.cell 4)
        have o4 := (hbel.out.cell (p := ⟨w.heap.size + 1, 4, none⟩) (by show w.heap.size + 1 < _; omega)).trans (p1.cell 4)
        have j0 : (0 : Int) ≤ (k : Int) := by omega
        have j1 : (k : Int) < (n : Int) := by omega
        have HXK := Lib.hid hx
        have HYK := Lib.hid hy
        clear hx hy hc hc'
        obtain ⟨r, hr⟩ : ∃ r, sameV (Vl.mk kx' ix' tx' sx' lx') (Vl.mk ky' iy' ty' sy' ly') = r := ⟨_, rfl⟩
        simp only [hr] at HX
        have HR := Lib.hid hr
        clear hr
        go_wp2_with fail
        go_region_held3 (fun w' => w'.cell? ⟨w.heap.size, 4, none⟩ = some (.slice (some ⟨b, off, none⟩) n c) ∧ w'.cell? ⟨w.heap.size + 1, 4, none⟩ = some (.slice (some ⟨b', off', none⟩) n c') ∧ w'.cell? ⟨b, off + k * 5, none⟩ = some (.int .i64 kx') ∧ w'.cell? ⟨b, off + k * 5 + 1, none⟩ = some (.int .i64 ix') ∧ w'.cell? ⟨b, off + k * 5 + 2, none⟩ = some (.int .i64 tx') ∧ w'.cell? ⟨b, off + k * 5 + 3, none⟩ = some (.string sx') ∧ w'.cell? ⟨b, off + k * 5 + 4, none⟩ = some (.slice Ax nx cx) ∧ w'.cell? ⟨b', off' + k * 5, none⟩ = some (.int .i64 ky') ∧ w'.cell? ⟨b', off' + k * 5 + 1, none⟩ = some (.int .i64 iy') ∧ w'.cell? ⟨b', off' + k * 5 + 2, none⟩ = some (.int .i64 ty') ∧ w'.cell? ⟨b', off' + k * 5 + 3, none⟩ = some (.string sy') ∧ w'.cell? ⟨b', off' + k * 5 + 4, none⟩ = some (.slice Ay ny cy))
          (first | exact ⟨m4, o4, g0, g1, g2, g3, g4, k0, k1, k2, k3, k4⟩ | (obtain ⟨a0, a1, a2, a3, a4, a5, a6, a7, a8, a9, a10, a11⟩ := ‹_ ∧ _ ∧ _ ∧ _ ∧ _ ∧ _ ∧ _ ∧ _ ∧ _ ∧ _ ∧ _ ∧ _›; exact ⟨(hb2.cell (by show w.heap.size < wr.drew.heap.size; show w.heap.size < wr.heap.size; omega)).trans a0, (hb2.cell (by show w.heap.size + 1 < wr.drew.heap.size; show w.heap.size + 1 < wr.heap.size; omega)).trans a1, (hb2.cell (by show b < wr.heap.size; omega)).trans a2, (hb2.cell (by show b < wr.heap.size; omega)).trans a3, (hb2.cell (by show b < wr.heap.size; omega)).trans a4, (hb2.cell (by show b < wr.heap.size; omega)).trans a5, (hb2.cell (by show b < wr.heap.size; omega)).trans a6, (hb2.cell (by show b' < wr.heap.size; omega)).trans a7, (hb2.cell (by show b' < wr.heap.size; omega)).trans a8, (hb2.cell (by show b' < wr.heap.size; omega)).trans a9, (hb2.cell (by show b' < wr.heap.size; omega)).trans a10, (hb2.cell (by show b' < wr.heap.size; omega)).trans a11⟩))
          (first | (go_at_call 108; refine (HX.out _ hwr.drew).mono ?_; rintro e w2 ⟨rfl, hb2⟩; have HB2 : Hid (Below X.heap.size X w2) := (bdrew hbel.out _).trans (hb2.mono hzr)))
        clear hb2
        cases r
        · go_wp2_with fail
          go_ret
          refine ⟨?_, hbX.trans (HB2.out.mono (by omega))⟩
          rw [HQ.out]
          refine congrArg (fun b => Ending.returned (.bool b)) (Eq.symm (Bool.eq_false_iff.2 fun h => ?_))
          exact Bool.false_ne_true (HR.out.symm.trans (sameL_at h (by rw [List.getElem?_map, HXK.out]; rfl) (by rw [List.getElem?_map, HYK.out]; rfl)))
        · go_wp2_with fail
          go_roundg (n - (k + 1))
          case measure => omega
          case rel =>
            refine ⟨k + 1, by omega, by go_num, ?_, HB2⟩
            intro i x y hi h1 h2
            by_cases e : i = k
            · subst e
              obtain rfl := Option.some.inj (HXK.out.symm.trans h1)
              obtain rfl := Option.some.inj (HYK.out.symm.trans h2)
              exact HR.out
            · exact hno.out i x y (by omega) h1 h2
      · obtain rfl : k = n := by omega
        go_wp2_with fail
        go_ret
        refine ⟨?_, hwr⟩
        rw [HQ.out]
        refine congrArg (fun b => Ending.returned (.bool b)) (Eq.symm (sameL_of (by rw [List.length_map, List.length_map, ← HN.out, HN'.out]) ?_))
        intro i x y h1 h2
        rw [List.getElem?_map, Option.map_eq_some_iff] at h1 h2
        obtain ⟨x', h1, rfl⟩ := h1
        obtain ⟨y', h2, rfl⟩ := h2
        exact hno.out i x' y' (by rw [HN.out]; exact (List.getElem?_eq_some_iff.1 h1).1) h1 h2
  · have hq : sameL (L.map Prod.fst) (M.map Prod.fst) = false := by
      refine Bool.eq_false_iff.2 fun h => hl ?_
      have := sameL_len h
      rw [List.length_map, List.length_map] at this
      rw [HN.out, HN'.out]; exact this
    rw [hq]
    have hl' : ((n : Int) != (n' : Int)) = true := by
      rw [bne_iff_ne]; omega
    clear hq
    go_enter Tryz.func108, Tryz.ntmps108
    go_wp2_with fail
    go_ret
    exact ⟨rfl, ((Below.refl _ _).alloc (Nat.le_refl _) _).alloc (by simp) _⟩
/-- the reference's SameValue -/
theorem sameRef_any : ∀ (d : Nat) (x y : Vl × Value) (w : World) (B : Nat), B ≤ w.heap.size → RVd w B d x.2 x.1.items → RVd w B d y.2 y.1.items →
    Calls Tryz.prog 108 #[AV x, AV y] w fun e w' => e = .returned (.bool (sameV x.1 y.1)) ∧ Below w.heap.size w w'
  | 0, x, y, w, B, hB, hx, hy => by
    obtain ⟨A, n, c, M, h1, h2, h3, h4, h5, h6⟩ := hx.deeper
    obtain ⟨A', n', c', M', k1, k2, k3, k4, k5, k6⟩ := hy.deeper
    have e : M = [] := by rw [← List.map_eq_nil_iff, h1]; exact hx.1
    exact sameR_walk x y M M' A A' n c n' c' w B hB h2 k2 h1 k1 h5 k5 h3 k3 (by omega) (by omega) (fun z hz => (RV.slice ⟨_, h6 z hz⟩)) (fun z hz => (RV.slice ⟨_, k6 z hz⟩)) (fun z hz => by rw [e] at hz; cases hz)
  | d + 1, x, y, w, B, hB, ⟨A, n, c, M, h1, h2, h3, h4, h5, h6⟩, ⟨A', n', c', M', k1, k2, k3, k4, k5, k6⟩ =>
    sameR_walk x y M M' A A' n c n' c' w B hB h2 k2 h1 k1 h5 k5 h3 k3 (by omega) (by omega) (fun z hz => (RV.slice ⟨_, h6 z hz⟩)) (fun z hz => (RV.slice ⟨_, k6 z hz⟩)) (fun z hz u hu W hW => sameRef_any d z u W B (Nat.le_trans hB hW.size) ((h6 z hz).below (hW.mono hB)) ((k6 u hu).below (hW.mono hB)))
end Go.Proofs.YtmkicfjcgbfaaaaGreat
namespace Go.Proofs.YtmkicfjcgbfaaaaGreat
open Go.RowKit

/-- the reference's SameValue, of whatever depths -/
theorem sameRef_at (x y : Vl) (Ax Ay : Option Addr) (nx cx ny cy : Nat) (w : World) (B : Nat) (hB : B ≤ w.heap.size) (hx : RV w B (.slice Ax nx cx) x.items) (hy : RV w B (.slice Ay ny cy) y.items) :
    Calls Tryz.prog 108 #[AV (x, .slice Ax nx cx), AV (y, .slice Ay ny cy)] w fun e w' => e = .returned (.bool (sameV x y)) ∧ Below w.heap.size w w' := by
  obtain ⟨d1, h1⟩ := hx
  obtain ⟨d2, h2⟩ := hy
  have h1' : RVd w B (d1 + d2) (.slice Ax nx cx) x.items := by
    have := (RVdX.of h1).deep (k := d2)
    exact this.reads (fun _ h => h)
  have h2' : RVd w B (d1 + d2) (.slice Ay ny cy) y.items := by
    have := (RVdX.of h2).deep (k := d1)
    rw [Nat.add_comm]
    exact this.reads (fun _ h => h)
  exact sameRef_any (d1 + d2) (x, .slice Ax nx cx) (y, .slice Ay ny cy) w B hB h1' h2'

end Go.Proofs.YtmkicfjcgbfaaaaGreat
namespace Go.Proofs.YtmkicfjcgbfaaaaGreat
open Go.RowKit

set_option maxRecDepth 100000 in
set_option maxHeartbeats 4000000 in
/-- the reference's SameOp at one operation -/
theorem sameOp_any (o : Opn) (A A' : Option Addr) (n c n' c' : Nat) (w : World) (B : Nat) (hB : B ≤ w.heap.size) (h1 : RV w B (.slice A n c) o.val.items) (h2 : RV w B (.slice A' n' c') o.val.items) :
    Calls Tryz.prog 41 #[AO (o, .slice A n c), AO (o, .slice A' n' c')] w fun e w' => e = .returned (.bool true) ∧ Below w.heap.size w w' := by
  have HS := Lib.hid fun W (hW : Below w.heap.size w W) => sameRef_at o.val o.val A A' n c n' c' W B (Nat.le_trans hB hW.size) (h1.below (hW.mono hB)) (h2.below (hW.mono hB))
  rw [sameV_refl] at HS
  obtain ⟨ok, oi, op, oa, of, ot, ox, on, ⟨vk, vi, vt, vs, vl⟩⟩ := o
  dsimp only [AO, AV, Vl.kind, Vl.int_, Vl.to_, Vl.text] at HS ⊢
  have HB2 : Hid (Below w.heap.size w ((w.alloc (.cells #[.int .i64 ok, .int .i64 oi, .int .i64 op, .int .i64 oa, .int .i64 of, .int .i64 ot, .string ox, .string on, .int .i64 vk, .int .i64 vi, .int .i64 vt, .string vs, .slice A n c] 31)).alloc (.cells #[.int .i64 ok, .int .i64 oi, .int .i64 op, .int .i64 oa, .int .i64 of, .int .i64 ot, .string ox, .string on, .int .i64 vk, .int .i64 vi, .int .i64 vt, .string vs, .slice A' n' c'] 31))) := ((Below.refl _ _).alloc (Nat.le_refl _) _).alloc (by simp) _
  clear h1 h2
  go_enter Tryz.func41, Tryz.ntmps41
  go_wp2_with fail
  refine (HS.out _ HB2.out).mono ?_
  rintro e w2 ⟨rfl, hb⟩
  have HB3 : Hid (Below w.heap.size w w2) := HB2.out.trans (hb.mono HB2.out.size)
  clear hb
  go_wp2_with fail
  go_ret
  exact ⟨rfl, HB3.out⟩

set_option maxRecDepth 100000 in
set_option maxHeartbeats 4000000 in
/-- the reference's position -/
theorem position_any (l : List Bl) (A : Option Addr) (n c : Nat) (id : Int) (p q : Nat) (x y : Bl) (w : World) (B : Nat) (hB : B ≤ w.heap.size) (h : RB w B (.slice A n c) l) (hr : Rise l) (hx : l[p]? = some x) (hxi : x.id = id) (hy : l[q]? = some y) (hyi : y.id = x.parent) (hin : id ∈ y.kids) :
    Calls Tryz.prog 110 #[.slice A n c, .int .i64 id] w fun e w' => e = .returned (.int .i64 (ixOf y.kids id)) ∧ Below w.heap.size w w' := by
  have HA1 := Lib.hid fun W (hW : Below w.heap.size w W) => at_any l A n c id W B (Nat.le_trans hB hW.size) (h.below (hW.mono hB))
  have HA2 := Lib.hid fun W (hW : Below w.heap.size w W) => at_any l A n c x.parent W B (Nat.le_trans hB hW.size) (h.below (hW.mono hB))
  rw [show posOf l id = (p : Int) by rw [← hxi]; exact posOf_of hr hx] at HA1
  rw [show posOf l x.parent = (q : Int) by rw [← hyi]; exact posOf_of hr hy] at HA2
  have hpn : p < n := by have := (List.getElem?_eq_some_iff.1 hx).1; have := h.len.1; omega
  have hqn : q < n := by have := (List.getElem?_eq_some_iff.1 hy).1; have := h.len.1; omega
  have hbg : n * 80 ≤ 140737488351232 := h.len.2.2
  obtain ⟨b, off, _, _, _, _, _, _, rfl, hbb, _, g1, _⟩ := h.at_ hx
  obtain ⟨b', off', Ak, nk, ck, _, _, _, e, _, _, _, g2, _, _, hK, _⟩ := h.at_ hy
  have e : b = b' ∧ off = off' := by injection e with e; injection e with e1 e2; exact ⟨e1, e2⟩
  obtain ⟨rfl, rfl⟩ := e
  have hnk := hK.len
  have G1 := Lib.hid g1
  have G2 := Lib.hid g2
  have HK := Lib.hid hK
  have HV : Hid (ixOf y.kids id = ixFrom (y.kids.drop 0) id 0) := rfl
  obtain ⟨V, hV⟩ : ∃ V, V = ixOf y.kids id := ⟨_, rfl⟩
  rw [← hV] at HV ⊢
  have HNK : Hid (nk = y.kids.length) := hnk.1
  have HIN := Lib.hid hin
  have hnb : nk * 8 ≤ 140737488351232 := hnk.2.2
  have i0 : (0 : Int) ≤ (p : Int) := by omega
  have i1 : (p : Int) < (n : Int) := by omega
  have i2 : (0 : Int) ≤ (q : Int) := by omega
  have i3 : (q : Int) < (n : Int) := by omega
  clear h hx hxi hy hyi hK hnk g1 g2 hV hin hr
  go_enter Tryz.func110, Tryz.ntmps110
  go_wp2_with fail
  refine (HA1.out w (Below.refl _ _)).mono ?_
  rintro e w1 ⟨rfl, hb1⟩
  have HB1 := Lib.hid hb1
  have c1 : w1.cell? ⟨b, off + p * 5 + 1, none⟩ = some (.int .i64 x.parent) := (hb1.cell (p := ⟨b, off + p * 5 + 1, none⟩) (by show b < _; omega)).trans G1.out
  clear hb1
  go_wp2_with fail
  refine (HA2.out w1 HB1.out).mono ?_
  rintro e w2 ⟨rfl, hb⟩
  have HB2 : Hid (Below w.heap.size w w2) := HB1.out.trans (hb.mono HB1.out.size)
  have c2 : w2.cell? ⟨b, off + q * 5 + 2, none⟩ = some (.slice Ak nk ck) := (HB2.out.cell (p := ⟨b, off + q * 5 + 2, none⟩) (by show b < _; omega)).trans G2.out
  clear hb c1
  go_wp2_with fail
  clear c2
  go_loopg [21] nk (fun gg s21 wr => ∃ k : Nat, k + gg = nk ∧ s21 = .int .i64 (k : Int) ∧ Hid (V = ixFrom (y.kids.drop k) id k) ∧ Hid (id ∈ y.kids.drop k) ∧ w2 = wr)
  case atStart => exact ⟨0, by omega, rfl, HV, HIN, rfl⟩
  case round =>
    obtain ⟨k, hkg, rfl, hv, hin, rfl⟩ := hrel
    by_cases hk : k < nk
    · obtain ⟨z, hz⟩ : ∃ z, y.kids[k]? = some z := ⟨_, List.getElem?_eq_getElem (by have := HNK.out; omega)⟩
      obtain ⟨bk, ok, rfl, hbk, hck⟩ := (HK.out.below (HB2.out.mono hB)).at_ hz
      have hst := hv.out.trans (ixFrom_at hz id)
      have j0 : (0 : Int) ≤ (k : Int) := by omega
      have j1 : (k : Int) < (nk : Int) := by omega
      by_cases he : id = z
      · have HS : Hid (V = k) := hst.trans (if_pos he)
        subst he
        clear hst hz
        go_wp2_with fail
        go_ret
        exact ⟨by rw [HS.out]; rfl, HB2.out⟩
      · have HS := Lib.hid (hst.trans (if_neg he))
        have he' : (z == id) = false := by simpa using fun e => he e.symm
        have HI2 : Hid (id ∈ y.kids.drop (k + 1)) := by
          have h1 := hin.out
          obtain ⟨hkk, e⟩ := List.getElem?_eq_some_iff.1 hz
          rw [List.drop_eq_getElem_cons hkk, e] at h1
          rcases List.mem_cons.1 h1 with h1 | h1
          · exact absurd h1 he
          · exact h1
        clear hst hz he
        go_wp2_with fail
        go_roundg (nk - (k + 1))
        case measure => omega
        case rel => exact ⟨k + 1, by omega, by go_num, HS, HI2, rfl⟩
    · have h1 := hin.out
      rw [List.drop_of_length_le (by have := HNK.out; omega)] at h1
      cases h1
end Go.Proofs.YtmkicfjcgbfaaaaGreat
namespace Go.Proofs.YtmkicfjcgbfaaaaGreat
open Go.RowKit

def opZ : Value := .agg #[.int .i64 0, .int .i64 0, .int .i64 0, .int .i64 0, .int .i64 0, .int .i64 0, .string ⟨#[]⟩, .string ⟨#[]⟩, .int .i64 0, .int .i64 0, .int .i64 0, .string ⟨#[]⟩, .slice none 0 0]
theorem op_info : (Tryz.prog.info? 31).map (fun i => (i.zero, i.size, i.bytes)) = some (some opZ, 13, 144) := by kernel_rfl
theorem opV_one (x : Opn × Value) (h : ∃ A n c, x.2 = .slice A n c) : ∀ u ∈ opV x, u.oneCell' = true := by
  obtain ⟨o, v⟩ := x
  obtain ⟨A, n, c, rfl⟩ : ∃ A n c, v = .slice A n c := h
  intro u hu
  simp only [opV, List.mem_cons, List.not_mem_nil, or_false] at hu
  rcases hu with rfl | rfl | rfl | rfl | rfl | rfl | rfl | rfl | rfl | rfl | rfl | rfl | rfl <;> rfl
set_option maxHeartbeats 1000000 in
/-- slices.Clip at operations -/
theorem clipO_any (A : Option Addr) (n c : Nat) (w : World) (h : n ≤ c) (hA : A = none → n = 0 ∧ c = 0) :
    Calls Tryz.prog 90 #[.slice A n c] w fun e w' => e = .returned (.slice A n n) ∧ w' = w := by
  rcases A with _ | ad
  · obtain ⟨rfl, rfl⟩ := hA rfl
    clear hA
    go_enter Tryz.func90, Tryz.ntmps90
    go_wp2_with fail
    go_ret
    exact ⟨rfl, rfl⟩
  · clear hA
    go_enter Tryz.func90, Tryz.ntmps90
    go_wp2_with fail
    go_ret
    exact ⟨rfl, rfl⟩
end Go.Proofs.YtmkicfjcgbfaaaaGreat
