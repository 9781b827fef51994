/-
  DERIVED. Same values: the reference's SameValue. Conditions: sizes.
  The walk of the reference's sameNumbers. Conditions: sizes.
  The walk of slices.IndexFunc at blocks. Conditions: sizes.
  By an AI agent.
-/
import Derived.Test.YtemngidkfgcigaaGreatDoorKa07
import Derived.Test.YtemngidkfgcigaaGreatDoorChecked
import Derived.WalkSpells
import Derived.Deep.QuietTactic
import Derived.BigQuiet
import Derived.Deep.LoopGhost
import Derived.Deep.RegionHeld3
import Derived.Test.YtemngidkfgcigaaGreatDoorKa09
import Derived.Deep.DeepCutAuto
namespace Go.Proofs.YtemngidkfgcigaaGreatDoor
open Go.RowKit

set_option maxHeartbeats 4000000 in
theorem sameR_walk (x y : Vl × Value) (L M : List (Vl × Value)) (A A' : Option Addr) (n c n' c' : Nat) (w : World) (B : Nat) (hB : B ≤ w.heap.size) (hx : x.2 = .slice A n c) (hy : y.2 = .slice A' n' c') (hxl : L.map Prod.fst = x.1.items) (hyl : M.map Prod.fst = y.1.items) (h1 : Reads w B 5 A n (L.flatMap vlV)) (h2 : Reads w B 5 A' n' (M.flatMap vlV)) (hn : n = L.length) (hn' : n' = M.length) (hbig : n ≤ 140737488351232) (hbig' : n' ≤ 140737488351232)
    (hs1 : ∀ x ∈ L, ∃ A n c, x.2 = .slice A n c) (hs2 : ∀ x ∈ M, ∃ A n c, x.2 = .slice A n c)
    (hcl : ∀ x ∈ L, ∀ y ∈ M, ∀ W, Below w.heap.size w W → Calls Tryz.prog 11 #[AV x, AV y] W fun e w' => e = .returned (.bool (sameV x.1 y.1)) ∧ Below W.heap.size W w') :
    Calls Tryz.prog 11 #[AV x, AV y] w fun e w' => e = .returned (.bool (sameV x.1 y.1)) ∧ Below w.heap.size w w' := by
  obtain ⟨⟨kx, ix, tx, sx, lx⟩, vx⟩ := x
  obtain ⟨⟨ky, iy, ty, sy, ly⟩, vy⟩ := y
  obtain rfl : vx = _ := hx
  obtain rfl : vy = _ := hy
  obtain rfl : _ = lx := hxl
  obtain rfl : _ = ly := hyl
  have H1 := Lib.hid h1
  have H2 := Lib.hid h2
  have HN := Lib.hid hn
  have HN' := Lib.hid hn'
  have HC := Lib.hid hcl
  have S1 := Lib.hid hs1
  have S2 := Lib.hid hs2
  clear h1 h2 hn hn' hcl hs1 hs2
  dsimp only [AV, Vl.kind, Vl.int_, Vl.to_, Vl.text]
  rw [sameV]
  rw [dec_toList sx sy]
  obtain ⟨q1, h1⟩ : ∃ q, (kx == ky) = q := ⟨_, rfl⟩
  obtain ⟨q2, h2⟩ : ∃ q, (ix == iy) = q := ⟨_, rfl⟩
  obtain ⟨q3, h3⟩ : ∃ q, (tx == ty) = q := ⟨_, rfl⟩
  obtain ⟨q4, h4⟩ : ∃ q, (sx.toList == sy.toList) = q := ⟨_, rfl⟩
  rw [h1, h2, h3, h4]
  cases q1
  · have b1 : (kx != ky) = true := congrArg (!·) h1
    go_enter Tryz.func11, Tryz.ntmps11
    go_wp2_with fail
    go_ret
    exact ⟨rfl, ((Below.refl _ _).alloc (Nat.le_refl _) _).alloc (by simp) _⟩
  have b1 : (kx != ky) = false := congrArg (!·) h1
  cases q2
  · have b2 : (ix != iy) = true := congrArg (!·) h2
    go_enter Tryz.func11, Tryz.ntmps11
    go_wp2_with fail
    go_ret
    exact ⟨rfl, ((Below.refl _ _).alloc (Nat.le_refl _) _).alloc (by simp) _⟩
  have b2 : (ix != iy) = false := congrArg (!·) h2
  cases q3
  · have b3 : (tx != ty) = true := congrArg (!·) h3
    go_enter Tryz.func11, Tryz.ntmps11
    go_wp2_with fail
    go_ret
    exact ⟨rfl, ((Below.refl _ _).alloc (Nat.le_refl _) _).alloc (by simp) _⟩
  have b3 : (tx != ty) = false := congrArg (!·) h3
  cases q4
  · have b4 : (sx.toList != sy.toList) = true := congrArg (!·) h4
    go_enter Tryz.func11, Tryz.ntmps11
    go_wp2_with fail
    go_ret
    exact ⟨rfl, ((Below.refl _ _).alloc (Nat.le_refl _) _).alloc (by simp) _⟩
  have b4 : (sx.toList != sy.toList) = false := congrArg (!·) h4
  by_cases hl : n = n'
  · subst hl
    obtain ⟨q, hq⟩ : ∃ q, q = sameL (L.map Prod.fst) (M.map Prod.fst) := ⟨_, rfl⟩
    rw [← hq]
    have HQ := Lib.hid hq
    clear hq
    go_enter Tryz.func11, Tryz.ntmps11
    go_wp2_with fail
    obtain ⟨X, hX⟩ : ∃ X, X = ((w.alloc (.cells #[.int .i64 kx, .int .i64 ix, .int .i64 tx, .string sx, .slice A n c] 41)).alloc (.cells #[.int .i64 ky, .int .i64 iy, .int .i64 ty, .string sy, .slice A' n c'] 41)) := ⟨_, rfl⟩
    have p0 : Blk X w.heap.size 41 #[.int .i64 kx, .int .i64 ix, .int .i64 tx, .string sx, .slice A n c] := by rw [hX]; exact (Blk.new w _ _).alloc _
    have p1 : Blk X (w.heap.size + 1) 41 #[.int .i64 ky, .int .i64 iy, .int .i64 ty, .string sy, .slice A' n c'] := by
      rw [hX]
      have h := Blk.new (w.alloc (.cells #[.int .i64 kx, .int .i64 ix, .int .i64 tx, .string sx, .slice A n c] 41)) 41 #[.int .i64 ky, .int .i64 iy, .int .i64 ty, .string sy, .slice A' n c']
      simpa only [World.size_alloc] using h
    have hbX : Below w.heap.size w X := by rw [hX]; exact ((Below.refl _ _).alloc (Nat.le_refl _) _).alloc (by simp) _
    have hzX : w.heap.size + 1 < X.heap.size := p1.lt
    rw [← hX]
    clear hX
    go_loopg [44] n (fun gg s44 wr => ∃ k : Nat, k + gg = n ∧ s44 = .int .i64 (k : Int) ∧ Hid (∀ i x y, i < k → L[i]? = some x → M[i]? = some y → sameV x.1 y.1 = true) ∧ Hid (Below X.heap.size X wr))
    case atStart => exact ⟨0, by omega, rfl, (fun i x y hi => absurd hi (by omega)), Below.refl _ _⟩
    case round =>
      obtain ⟨k, hkg, rfl, hno, hbel⟩ := hrel
      have hwr : Below w.heap.size w wr := hbX.trans (hbel.out.mono (by omega))
      have hzr := hbel.out.size
      by_cases hk : k < n
      · obtain ⟨x, hx⟩ : ∃ x, L[k]? = some x := ⟨_, List.getElem?_eq_getElem (by have := HN.out; omega)⟩
        obtain ⟨y, hy⟩ : ∃ x, M[k]? = some x := ⟨_, List.getElem?_eq_getElem (by have := HN'.out; omega)⟩
        obtain ⟨b, off, rfl, hbb, hc⟩ := H1.out.plain_at (by omega) vlV_len HN.out hx
        obtain ⟨b', off', rfl, hbb', hc'⟩ := H2.out.plain_at (by omega) vlV_len HN'.out hy
        have HX : Hid (∀ W, Below w.heap.size w W → Calls _ _ #[AV x, AV y] W _) := fun W hW => HC.out x (List.mem_of_getElem? hx) y (List.mem_of_getElem? hy) W hW
        obtain ⟨⟨kx', ix', tx', sx', lx'⟩, vx⟩ := x
        obtain ⟨⟨ky', iy', ty', sy', ly'⟩, vy⟩ := y
        obtain ⟨Ax, nx, cx, rfl⟩ := S1.out _ (List.mem_of_getElem? hx)
        obtain ⟨Ay, ny, cy, rfl⟩ := S2.out _ (List.mem_of_getElem? hy)
        have g0 := (hwr.cell (p := ⟨b, off + k * 5, none⟩) (by show b < _; omega)).trans (hc 0 _ rfl)
        have g1 := (hwr.cell (p := ⟨b, off + k * 5 + 1, none⟩) (by show b < _; omega)).trans (hc 1 _ rfl)
        have g2 := (hwr.cell (p := ⟨b, off + k * 5 + 2, none⟩) (by show b < _; omega)).trans (hc 2 _ rfl)
        have g3 := (hwr.cell (p := ⟨b, off + k * 5 + 3, none⟩) (by show b < _; omega)).trans (hc 3 _ rfl)
        have g4 := (hwr.cell (p := ⟨b, off + k * 5 + 4, none⟩) (by show b < _; omega)).trans (hc 4 _ rfl)
        have k0 := (hwr.cell (p := ⟨b', off' + k * 5, none⟩) (by show b' < _; omega)).trans (hc' 0 _ rfl)
        have k1 := (hwr.cell (p := ⟨b', off' + k * 5 + 1, none⟩) (by show b' < _; omega)).trans (hc' 1 _ rfl)
        have k2 := (hwr.cell (p := ⟨b', off' + k * 5 + 2, none⟩) (by show b' < _; omega)).trans (hc' 2 _ rfl)
        have k3 := (hwr.cell (p := ⟨b', off' + k * 5 + 3, none⟩) (by show b' < _; omega)).trans (hc' 3 _ rfl)
        have k4 := (hwr.cell (p := ⟨b', off' + k * 5 + 4, none⟩) (by show b' < _; omega)).trans (hc' 4 _ rfl)
        have m4 := (hbel.out.cell (p := ⟨w.heap.size, 4, none⟩) (by show w.heap.size < _; omega)).trans (p0.cell 4)
        have o4 := (hbel.out.cell (p := ⟨w.heap.size + 1, 4, none⟩) (by show w.heap.size + 1 < _; omega)).trans (p1.cell 4)
        have j0 : (0 : Int) ≤ (k : Int) := by omega
        have j1 : (k : Int) < (n : Int) := by omega
        have HXK := Lib.hid hx
        have HYK := Lib.hid hy
        clear hx hy hc hc'
        obtain ⟨r, hr⟩ : ∃ r, sameV (Vl.mk kx' ix' tx' sx' lx') (Vl.mk ky' iy' ty' sy' ly') = r := ⟨_, rfl⟩
        simp only [hr] at HX
        have HR := Lib.hid hr
        clear hr
        go_wp2_with fail
        go_region_held3 (fun w' => w'.cell? ⟨w.heap.size, 4, none⟩ = some (.slice (some ⟨b, off, none⟩) n c) ∧ w'.cell? ⟨w.heap.size + 1, 4, none⟩ = some (.slice (some ⟨b', off', none⟩) n c') ∧ w'.cell? ⟨b, off + k * 5, none⟩ = some (.int .i64 kx') ∧ w'.cell? ⟨b, off + k * 5 + 1, none⟩ = some (.int .i64 ix') ∧ w'.cell? ⟨b, off + k * 5 + 2, none⟩ = some (.int .i64 tx') ∧ w'.cell? ⟨b, off + k * 5 + 3, none⟩ = some (.string sx') ∧ w'.cell? ⟨b, off + k * 5 + 4, none⟩ = some (.slice Ax nx cx) ∧ w'.cell? ⟨b', off' + k * 5, none⟩ = some (.int .i64 ky') ∧ w'.cell? ⟨b', off' + k * 5 + 1, none⟩ = some (.int .i64 iy') ∧ w'.cell? ⟨b', off' + k * 5 + 2, none⟩ = some (.int .i64 ty') ∧ w'.cell? ⟨b', off' + k * 5 + 3, none⟩ = some (.string sy') ∧ w'.cell? ⟨b', off' + k * 5 + 4, none⟩ = some (.slice Ay ny cy))
          (first | exact ⟨m4, o4, g0, g1, g2, g3, g4, k0, k1, k2, k3, k4⟩ | (obtain ⟨a0, a1, a2, a3, a4, a5, a6, a7, a8, a9, a10, a11⟩ := ‹_ ∧ _ ∧ _ ∧ _ ∧ _ ∧ _ ∧ _ ∧ _ ∧ _ ∧ _ ∧ _ ∧ _›; exact ⟨(hb2.cell (by show w.heap.size < wr.drew.heap.size; show w.heap.size < wr.heap.size; omega)).trans a0, (hb2.cell (by show w.heap.size + 1 < wr.drew.heap.size; show w.heap.size + 1 < wr.heap.size; omega)).trans a1, (hb2.cell (by show b < wr.heap.size; omega)).trans a2, (hb2.cell (by show b < wr.heap.size; omega)).trans a3, (hb2.cell (by show b < wr.heap.size; omega)).trans a4, (hb2.cell (by show b < wr.heap.size; omega)).trans a5, (hb2.cell (by show b < wr.heap.size; omega)).trans a6, (hb2.cell (by show b' < wr.heap.size; omega)).trans a7, (hb2.cell (by show b' < wr.heap.size; omega)).trans a8, (hb2.cell (by show b' < wr.heap.size; omega)).trans a9, (hb2.cell (by show b' < wr.heap.size; omega)).trans a10, (hb2.cell (by show b' < wr.heap.size; omega)).trans a11⟩))
          (first | (go_at_call 11; refine (HX.out _ hwr.drew).mono ?_; rintro e w2 ⟨rfl, hb2⟩; have HB2 : Hid (Below X.heap.size X w2) := (bdrew hbel.out _).trans (hb2.mono hzr)))
        clear hb2
        cases r
        · go_wp2_with fail
          go_ret
          refine ⟨?_, hbX.trans (HB2.out.mono (by omega))⟩
          rw [HQ.out]
          refine congrArg (fun b => Ending.returned (.bool b)) (Eq.symm (Bool.eq_false_iff.2 fun h => ?_))
          exact Bool.false_ne_true (HR.out.symm.trans (sameL_at h (by rw [List.getElem?_map, HXK.out]; rfl) (by rw [List.getElem?_map, HYK.out]; rfl)))
        · go_wp2_with fail
          go_roundg (n - (k + 1))
          case measure => omega
          case rel =>
            refine ⟨k + 1, by omega, by go_num, ?_, HB2⟩
            intro i x y hi h1 h2
            by_cases e : i = k
            · subst e
              obtain rfl := Option.some.inj (HXK.out.symm.trans h1)
              obtain rfl := Option.some.inj (HYK.out.symm.trans h2)
              exact HR.out
            · exact hno.out i x y (by omega) h1 h2
      · obtain rfl : k = n := by omega
        go_wp2_with fail
        go_ret
        refine ⟨?_, hwr⟩
        rw [HQ.out]
        refine congrArg (fun b => Ending.returned (.bool b)) (Eq.symm (sameL_of (by rw [List.length_map, List.length_map, ← HN.out, HN'.out]) ?_))
        intro i x y h1 h2
        rw [List.getElem?_map, Option.map_eq_some_iff] at h1 h2
        obtain ⟨x', h1, rfl⟩ := h1
        obtain ⟨y', h2, rfl⟩ := h2
        exact hno.out i x' y' (by rw [HN.out]; exact (List.getElem?_eq_some_iff.1 h1).1) h1 h2
  · have hq : sameL (L.map Prod.fst) (M.map Prod.fst) = false := by
      refine Bool.eq_false_iff.2 fun h => hl ?_
      have := sameL_len h
      rw [List.length_map, List.length_map] at this
      rw [HN.out, HN'.out]; exact this
    rw [hq]
    have hl' : ((n : Int) != (n' : Int)) = true := by
      rw [bne_iff_ne]; omega
    clear hq
    go_enter Tryz.func11, Tryz.ntmps11
    go_wp2_with fail
    go_ret
    exact ⟨rfl, ((Below.refl _ _).alloc (Nat.le_refl _) _).alloc (by simp) _⟩
/-- the reference's SameValue -/
theorem sameRef_any : ∀ (d : Nat) (x y : Vl × Value) (w : World) (B : Nat), B ≤ w.heap.size → RVd w B d x.2 x.1.items → RVd w B d y.2 y.1.items →
    Calls Tryz.prog 11 #[AV x, AV y] w fun e w' => e = .returned (.bool (sameV x.1 y.1)) ∧ Below w.heap.size w w'
  | 0, x, y, w, B, hB, hx, hy => by
    obtain ⟨A, n, c, M, h1, h2, h3, h4, h5, h6⟩ := hx.deeper
    obtain ⟨A', n', c', M', k1, k2, k3, k4, k5, k6⟩ := hy.deeper
    have e : M = [] := by rw [← List.map_eq_nil_iff, h1]; exact hx.1
    exact sameR_walk x y M M' A A' n c n' c' w B hB h2 k2 h1 k1 h5 k5 h3 k3 (by omega) (by omega) (fun z hz => (RV.slice ⟨_, h6 z hz⟩)) (fun z hz => (RV.slice ⟨_, k6 z hz⟩)) (fun z hz => by rw [e] at hz; cases hz)
  | d + 1, x, y, w, B, hB, ⟨A, n, c, M, h1, h2, h3, h4, h5, h6⟩, ⟨A', n', c', M', k1, k2, k3, k4, k5, k6⟩ =>
    sameR_walk x y M M' A A' n c n' c' w B hB h2 k2 h1 k1 h5 k5 h3 k3 (by omega) (by omega) (fun z hz => (RV.slice ⟨_, h6 z hz⟩)) (fun z hz => (RV.slice ⟨_, k6 z hz⟩)) (fun z hz u hu W hW => sameRef_any d z u W B (Nat.le_trans hB hW.size) ((h6 z hz).below (hW.mono hB)) ((k6 u hu).below (hW.mono hB)))
end Go.Proofs.YtemngidkfgcigaaGreatDoor
namespace Go.Proofs.YtemngidkfgcigaaGreatDoor
open Go.RowKit

theorem drewN_add (w : World) (a b : Nat) : (w.drewN a).drewN b = w.drewN (a + b) := by simp [World.drewN, Nat.add_assoc]
set_option maxHeartbeats 2000000 in
/-- the reference's sameNumbers -/
theorem sameNumbers_any (l m : List Int) (A A' : Option Addr) (n c n' c' : Nat) (w : World) (B : Nat) (h1 : RIn w B (.slice A n c) l) (h2 : RIn w B (.slice A' n' c') m) :
    Calls Tryz.prog 17 #[.slice A n c, .slice A' n' c'] w fun e w' => e = .returned (.bool (l == m)) ∧ ∃ q, w' = w.drewN q := by
  obtain ⟨V, hV⟩ : ∃ V, V = (l == m) := ⟨_, rfl⟩
  rw [← hV]
  have HV := Lib.hid hV
  clear hV
  by_cases hl : n = n'
  · subst hl
    have HL1 := Lib.hid h1.len
    have HL2 := Lib.hid h2.len
    have H1 := Lib.hid h1
    have H2 := Lib.hid h2
    clear h1 h2
    go_enter Tryz.func17, Tryz.ntmps17
    go_wp2_with fail
    go_loopg [13] n (fun gg s13 wr => ∃ k q : Nat, k + gg = n ∧ s13 = .int .i64 (k : Int) ∧ Hid (∀ (i : Nat) (x y : Int), i < k → l[i]? = some x → m[i]? = some y → x = y) ∧ wr = w.drewN q)
    case atStart => exact ⟨0, 0, by omega, rfl, (fun i x y hi => absurd hi (by omega)), rfl⟩
    case round =>
      obtain ⟨k, q, hkg, rfl, hno, rfl⟩ := hrel
      have hbg : n * 8 ≤ 140737488351232 := HL1.out.2.2
      by_cases hk : k < n
      · obtain ⟨x, hx⟩ : ∃ x, l[k]? = some x := ⟨_, List.getElem?_eq_getElem (by have := HL1.out.1; omega)⟩
        obtain ⟨y, hy⟩ : ∃ x, m[k]? = some x := ⟨_, List.getElem?_eq_getElem (by have := HL2.out.1; omega)⟩
        obtain ⟨b, off, rfl, hbb, g0⟩ := H1.out.at_ hx
        obtain ⟨b', off', rfl, hbb', k0⟩ := H2.out.at_ hy
        have j0 : (0 : Int) ≤ (k : Int) := by omega
        have j1 : (k : Int) < (n : Int) := by omega
        have HXK := Lib.hid hx
        have HYK := Lib.hid hy
        clear hx hy
        obtain ⟨r, hr⟩ : ∃ r, (x != y) = r := ⟨_, rfl⟩
        cases r
        · have hxy : x = y := by simpa using hr
          go_wp2_with fail
          go_quiet (fail)
          go_wp2_with fail
          go_roundg (n - (k + 1))
          case measure => omega
          case rel =>
            refine ⟨k + 1, _, by omega, by go_num, ?_, rfl⟩
            intro i x' y' hi h1 h2
            by_cases e : i = k
            · subst e
              obtain rfl := Option.some.inj (HXK.out.symm.trans h1)
              obtain rfl := Option.some.inj (HYK.out.symm.trans h2)
              exact hxy
            · exact hno.out i x' y' (by omega) h1 h2
        · have hz : V = false := by
            rw [HV.out, beq_eq_false_iff_ne]
            intro e
            have hne : x ≠ y := by simpa using hr
            have h1 := HXK.out
            rw [e, HYK.out] at h1
            exact hne (Option.some.inj h1).symm
          have HZ := Lib.hid hz
          clear hz
          go_wp2_with fail
          go_quiet (fail)
          go_wp2_with fail
          go_ret
          exact ⟨by rw [HZ.out]; rfl, _, drewN_add _ _ _⟩
      · obtain rfl : n = k := by omega
        have hz : V = true := by
          rw [HV.out, beq_iff_eq]
          apply List.ext_getElem?
          intro i
          rcases Nat.lt_or_ge i n with hi | hi
          · obtain ⟨x, hx⟩ : ∃ x, l[i]? = some x := ⟨_, List.getElem?_eq_getElem (by have := HL1.out.1; omega)⟩
            obtain ⟨y, hy⟩ : ∃ x, m[i]? = some x := ⟨_, List.getElem?_eq_getElem (by have := HL2.out.1; omega)⟩
            rw [hx, hy, hno.out i x y hi hx hy]
          · rw [List.getElem?_eq_none (by have := HL1.out.1; omega), List.getElem?_eq_none (by have := HL2.out.1; omega)]
        have HZ := Lib.hid hz
        clear hz
        go_wp2_with fail
        go_ret
        exact ⟨by rw [HZ.out]; rfl, _, rfl⟩
  · have hz : V = false := by
      rw [HV.out, beq_eq_false_iff_ne]
      intro e
      have := h1.len.1
      have := h2.len.1
      rw [e] at *
      omega
    have hl' : ((n : Int) != (n' : Int)) = true := by rw [bne_iff_ne]; omega
    rw [hz]
    clear hz h1 h2
    go_enter Tryz.func17, Tryz.ntmps17
    go_wp2_with fail
    go_ret
    exact ⟨rfl, 0, rfl⟩

/-- the reference's SameValue, of whatever depths -/
theorem sameRef_at (x y : Vl) (Ax Ay : Option Addr) (nx cx ny cy : Nat) (w : World) (B : Nat) (hB : B ≤ w.heap.size) (hx : RV w B (.slice Ax nx cx) x.items) (hy : RV w B (.slice Ay ny cy) y.items) :
    Calls Tryz.prog 11 #[AV (x, .slice Ax nx cx), AV (y, .slice Ay ny cy)] w fun e w' => e = .returned (.bool (sameV x y)) ∧ Below w.heap.size w w' := by
  obtain ⟨d1, h1⟩ := hx
  obtain ⟨d2, h2⟩ := hy
  have h1' : RVd w B (d1 + d2) (.slice Ax nx cx) x.items := by
    have := (RVdX.of h1).deep (k := d2)
    exact this.reads (fun _ h => h)
  have h2' : RVd w B (d1 + d2) (.slice Ay ny cy) y.items := by
    have := (RVdX.of h2).deep (k := d1)
    rw [Nat.add_comm]
    exact this.reads (fun _ h => h)
  exact sameRef_any (d1 + d2) (x, .slice Ax nx cx) (y, .slice Ay ny cy) w B hB h1' h2'

end Go.Proofs.YtemngidkfgcigaaGreatDoor
namespace Go.Proofs.YtemngidkfgcigaaGreatDoor
open Go.RowKit

/-- what a closure that looks for an id says -/
def IdCl (g : Nat) : Prop := ∀ (x : Bl) (Kx Px : Option Addr) (nx cx mx ex P : Nat) (id : Int) (w : World), P < w.heap.size → w.cell? ⟨P, 0, none⟩ = some (.int .i64 id) → Calls Tryz.prog g #[AB (x, .slice Kx nx cx, .slice Px mx ex), .pointer (some ⟨P, 0, none⟩)] w fun e w' => e = .returned (.bool (x.id == id)) ∧ Below w.heap.size w w'
set_option maxHeartbeats 2000000 in
/-- slices.IndexFunc at blocks, with a closure that looks for an id -/
theorem indexF_any (g : Nat) (hg : IdCl g) (hent : ∀ args w, (callFunc g args).run Tryz.prog w = .ok (.enter g args) w) (l : List Bl) (A : Option Addr) (n c P : Nat) (id : Int) (w : World) (B : Nat) (hB : B ≤ w.heap.size) (hP : P < w.heap.size) (hPc : w.cell? ⟨P, 0, none⟩ = some (.int .i64 id)) (h : RB w B (.slice A n c) l) :
    Calls Tryz.prog 29 #[.slice A n c, .func (.func g) #[] #[.pointer (some ⟨P, 0, none⟩)]] w fun e w' => e = .returned (.int .i64 (posOf l id)) ∧ Below w.heap.size w w' := by
  obtain ⟨V, hV⟩ : ∃ V, V = posOf l id := ⟨_, rfl⟩
  rw [← hV]
  have HV : Hid (V = posFrom (l.drop 0) id 0) := hV
  have HN := Lib.hid h.len
  have H := Lib.hid h
  have HG := Lib.hid hg
  have HPC := Lib.hid hPc
  clear h hV hg hPc
  go_enter Tryz.func29, Tryz.ntmps29
  go_wp2_with fail
  go_loopg [8] n (fun gg s8 wr => ∃ k : Nat, k + gg = n ∧ s8 = .int .i64 (k : Int) ∧ Hid (V = posFrom (l.drop k) id k) ∧ Hid (Below w.heap.size w wr))
  case atStart => exact ⟨0, by omega, rfl, HV, Below.refl _ _⟩
  case round =>
    obtain ⟨k, hkg, rfl, hno, hbel⟩ := hrel
    have hbg : n * 80 ≤ 140737488351232 := HN.out.2.2
    by_cases hk : k < n
    · obtain ⟨x, hx⟩ : ∃ x, l[k]? = some x := ⟨_, List.getElem?_eq_getElem (by have := HN.out.1; omega)⟩
      obtain ⟨b, off, Ak, nk, ck, Ap, np, cp, rfl, hbb, g0, g1, g2, g3, g4, _, _⟩ := (H.out.below (hbel.out.mono hB)).at_ hx
      have hst := hno.out.trans (posFrom_at hx id)
      have HX := Lib.hid (HG.out x Ak Ap nk ck np cp P id wr (Nat.lt_of_lt_of_le hP hbel.out.size) ((hbel.out.cell (p := ⟨P, 0, none⟩) hP).trans HPC.out))
      dsimp only [AB] at HX
      have j0 : (0 : Int) ≤ (k : Int) := by omega
      have j1 : (k : Int) < (n : Int) := by omega
      clear hx
      obtain ⟨q, hq⟩ : ∃ q, (x.id == id) = q := ⟨_, rfl⟩
      rw [hq] at HX
      cases q
      · have HS := Lib.hid (hst.trans (if_neg (by simpa using hq)))
        clear hst hq
        go_wp2_with fail
        refine HX.out.mono ?_
        rintro e w2 ⟨rfl, hb⟩
        have HB2 : Hid (Below w.heap.size w w2) := hbel.out.trans (hb.mono hbel.out.size)
        clear hb
        go_wp2_with fail
        go_roundg (n - (k + 1))
        case measure => omega
        case rel => exact ⟨k + 1, by omega, by go_num, HS, HB2⟩
      · have HS := Lib.hid (hst.trans (if_pos (by simpa using hq)))
        clear hst hq
        go_wp2_with fail
        refine HX.out.mono ?_
        rintro e w2 ⟨rfl, hb⟩
        have HB2 : Hid (Below w.heap.size w w2) := hbel.out.trans (hb.mono hbel.out.size)
        clear hb
        go_wp2_with fail
        go_ret
        exact ⟨by rw [HS.out]; rfl, HB2.out⟩
    · obtain rfl : n = k := by omega
      have HZ : Hid (V = -1) := hno.out.trans (by rw [List.drop_of_length_le (by rw [← HN.out.1]; exact Nat.le_refl _)]; rfl)
      go_wp2_with fail
      go_ret
      exact ⟨by rw [HZ.out]; rfl, hbel.out⟩

end Go.Proofs.YtemngidkfgcigaaGreatDoor
