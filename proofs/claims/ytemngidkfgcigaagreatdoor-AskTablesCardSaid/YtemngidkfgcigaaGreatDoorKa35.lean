/-
  DERIVED. A table of values: plain law, its rows and a list of strings in memory. Conditions: none.
  The same groups: the walks of ask.SameGroups and its closure. Conditions: sizes.
  A base that came in: its blocks, numbers, properties and values in memory. Conditions: none.
  By an AI agent.
-/
import Derived.Test.YtemngidkfgcigaaGreatDoorKa29
import Derived.Test.YtemngidkfgcigaaGreatDoorKa30
import Derived.Test.YtemngidkfgcigaaGreatDoorKa26
import Derived.Test.YtemngidkfgcigaaGreatDoorKa09
import Derived.Test.YtemngidkfgcigaaGreatDoorKa19
namespace Go.Proofs.YtemngidkfgcigaaGreatDoor
open Go.RowKit

/-- whether an id is that of a block below the root -/
def plcd (l : List Bl) (id : Int) : Bool := decide (id ∈ ord l 41 0)
/-- the error of a table -/
def tabE (l : List Bl) (f : Int → Option Int) (ids : List Int) (cols : List ByteArray) : Int :=
  if baseE l f ≠ 0 then baseE l f else if 2000 < ids.length ∨ 10 < cols.length then 4 else if ids.all (plcd l) then (if cols.all isByL then 0 else 3) else 7
/-- a row of a table -/
def rowL (l : List Bl) (f : Int → Option Int) (cols : List ByteArray) (id : Int) : List Vl :=
  match l[(posOf l id).toNat]? with
  | some b => cols.map (cellV b (dpI f id))
  | none => []
section
variable {l : List Bl} {f : Int → Option Int}
theorem dpI_of (G : Good l f) {id : Int} {d : Nat} (h : Dp l id d) : dpI f id = (d : Int) := by
  unfold dpI
  rw [(G.dep id d).2 ⟨d, rfl, h⟩]
  rfl
/-- a block that is placed -/
theorem plc_blk (G : Good l f) {id : Int} (h : id ∈ ord l 41 0) : ∃ (d p : Nat) (b : Bl), Dp l id d ∧ d ≤ 40 ∧ l[p]? = some b ∧ b.id = id ∧ posOf l id = (p : Int) ∧ id ≠ 0 := by
  obtain ⟨j, h1, _⟩ := ord_mem G.kids 41 .root h
  obtain ⟨p, b, h2, h3, h4⟩ := h1.blk G.kids
  exact ⟨_, p, b, h1, G.low h1, h3, h4, h2, fun e => ord_zero G.kids 41 (e ▸ h)⟩
/-- whether an id is placed, as the law asks it -/
theorem plc_iff (G : Good l f) (id : Int) : id ∈ ord l 41 0 ↔ id ≠ 0 ∧ ∃ b ∈ l, b.id = id := by
  constructor
  · intro h
    obtain ⟨d, p, b, _, _, h3, h4, _, h5⟩ := plc_blk G h
    exact ⟨h5, b, List.mem_of_getElem? h3, h4⟩
  · rintro ⟨h0, b, hb, e⟩
    subst e
    obtain ⟨d, _, hd, h40⟩ := G.dp hb
    exact ord_has G.kids hd 41 (by omega) h0
theorem plc_place (G : Good l f) (id : Int) : (plF (ord l 41 0) 0 noF id).isSome = plcd l id := by
  unfold plcd
  by_cases h : id ∈ ord l 41 0
  · obtain ⟨k, _, _, e⟩ := plF_some (s := 0) (f := noF) (ord_nodup G.kids 41 .root) h
    rw [e, decide_eq_true h]; rfl
  · rw [plF_not h, decide_eq_false h]; rfl
theorem plc_depth (_G : Good l f) {id : Int} (h : id ∈ ord l 41 0) : (gnF (dpI f) (ord l 41 0) noF id).getD 0 = dpI f id := by
  rw [gnF_mem h]; rfl
theorem rowL_of {p : Nat} {b : Bl} {id : Int} {cols : List ByteArray} (hp : posOf l id = (p : Int)) (hb : l[p]? = some b) : rowL l f cols id = cols.map (cellV b (dpI f id)) := by
  unfold rowL
  rw [hp, Int.toNat_natCast, hb]
end
/-- a list of strings in memory -/
def RSs (W : World) (B : Nat) (v : Value) (l : List ByteArray) : Prop := ∃ A n c, v = .slice A n c ∧ n = l.length ∧ (n ≤ c ∧ n * 16 ≤ 140737488351232) ∧ Reads W B 1 A n (l.map .string)
/-- the rows of a table in memory -/
def tbV (x : List Vl × Value) : List Value := [x.2]
abbrev NR : Nest (List Vl × Value) := fun w S x => RVX w S x.2 x.1
theorem NR_ok : NestOk NR := fun _ _ _ _ _ h hk hS => (h.keep hk).weak hS
def RTab (W : World) (S : Nat → Prop) (v : Value) (tt : List (List Vl)) : Prop := ∃ A n c, ∃ M : List (List Vl × Value), M.map Prod.fst = tt ∧ v = .slice A n c ∧ n = M.length ∧ n ≤ c ∧ RdX W S 1 A n (M.flatMap tbV) ∧ ∀ x ∈ M, RVX W S x.2 x.1
section
variable {w w' : World} {B : Nat} {A : Option Addr} {n c : Nat}
theorem RSs.below {v : Value} {l : List ByteArray} (h : RSs w B v l) (hb : Below B w w') : RSs w' B v l := by
  obtain ⟨A, n, c, h1, h2, h3, h4⟩ := h
  exact ⟨A, n, c, h1, h2, h3, h4.below hb⟩
theorem RSs.len {l : List ByteArray} (h : RSs w B (.slice A n c) l) : n = l.length ∧ n ≤ c ∧ n * 16 ≤ 140737488351232 := by
  obtain ⟨A', n', c', e, h1, h2, _⟩ := h
  injection e with e1 e2 e3
  subst e2 e3
  exact ⟨h1, h2⟩
theorem RSs.at_ {l : List ByteArray} (h : RSs w B (.slice A n c) l) {k : Nat} {x : ByteArray} (hk : l[k]? = some x) : ∃ b off, A = some ⟨b, off, none⟩ ∧ b < B ∧ w.cell? ⟨b, off + k, none⟩ = some (.string x) := by
  have hl := h.len
  have hkl := (List.getElem?_eq_some_iff.1 hk).1
  obtain ⟨A', n', c', e, h1, h2, h3⟩ := h
  injection e with e1 e2 e3
  subst e1 e2 e3
  obtain ⟨b, off, e, hb, hc⟩ := h3.plain (by omega) (by omega)
  exact ⟨b, off, e, hb, hc k _ (by rw [List.getElem?_map, hk]; rfl)⟩
end
end Go.Proofs.YtemngidkfgcigaaGreatDoor
namespace Go.Proofs.YtemngidkfgcigaaGreatDoor
open Go.RowKit

set_option maxHeartbeats 1000000 in
/-- the closure of ask.SameGroups -/
theorem sameG1_any (x y : Gp) (Ax Ay : Option Addr) (nx cx ny cy : Nat) (Ix Iy : Option Addr) (ix jx iy jy : Nat) (w : World) (B : Nat) (hB : B ≤ w.heap.size) (hx : RV w B (.slice Ax nx cx) x.val.items) (hy : RV w B (.slice Ay ny cy) y.val.items) (hi : RIn w B (.slice Ix ix jx) x.ids) (hj : RIn w B (.slice Iy iy jy) y.ids) :
    Calls Tryz.prog 14 #[AGp (x, .slice Ax nx cx, .slice Ix ix jx), AGp (y, .slice Ay ny cy, .slice Iy iy jy)] w fun e w' => e = .returned (.bool (sameG x y)) ∧ Below w.heap.size w w' := by
  obtain ⟨d1, h1⟩ := hx
  obtain ⟨d2, h2⟩ := hy
  have h1' : RVd w B (d1 + d2) (.slice Ax nx cx) x.val.items := by
    have := (RVdX.of h1).deep (k := d2)
    exact this.reads (fun _ h => h)
  have h2' : RVd w B (d1 + d2) (.slice Ay ny cy) y.val.items := by
    have := (RVdX.of h2).deep (k := d1)
    rw [Nat.add_comm]
    exact this.reads (fun _ h => h)
  have HV : Hid (∀ W, Below w.heap.size w W → Calls Tryz.prog 15 #[AV (x.val, .slice Ax nx cx), AV (y.val, .slice Ay ny cy)] W fun e w' => e = .returned (.bool (sameV x.val y.val)) ∧ Below W.heap.size W w') := fun W hW => aqVal_any (d1 + d2) (x.val, .slice Ax nx cx) (y.val, .slice Ay ny cy) W B (Nat.le_trans hB hW.size) (h1'.below (hW.mono hB)) (h2'.below (hW.mono hB))
  have HI : Hid (∀ W, Below w.heap.size w W → Calls Tryz.prog 16 #[.slice Ix ix jx, .slice Iy iy jy] W fun e w' => e = .returned (.bool (x.ids == y.ids)) ∧ ∃ q, w' = W.drewN q) := fun W hW => equalI_any Ix Iy ix jx iy jy x.ids y.ids W B (hi.below (hW.mono hB)) (hj.below (hW.mono hB))
  clear h1 h2 h1' h2' hi hj
  unfold sameG
  obtain ⟨⟨kx, ax, tx, sx, lx⟩, mx⟩ := x
  obtain ⟨⟨ky, ay, ty, sy, ly⟩, my⟩ := y
  dsimp only [AGp, AV, Vl.kind, Vl.int_, Vl.to_, Vl.text] at HV HI ⊢
  obtain ⟨q1, hq1⟩ : ∃ q, sameV (Vl.mk kx ax tx sx lx) (Vl.mk ky ay ty sy ly) = q := ⟨_, rfl⟩
  obtain ⟨q2, hq2⟩ : ∃ q, (mx == my) = q := ⟨_, rfl⟩
  rw [hq1, hq2]
  simp only [hq1] at HV
  simp only [hq2] at HI
  clear hq1 hq2
  have HB := Lib.hid (((Below.refl w.heap.size w).alloc (Nat.le_refl _) (.cells #[.int .i64 kx, .int .i64 ax, .int .i64 tx, .string sx, .slice Ax nx cx, .slice Ix ix jx] 46)).alloc (by simp) (.cells #[.int .i64 ky, .int .i64 ay, .int .i64 ty, .string sy, .slice Ay ny cy, .slice Iy iy jy] 46))
  obtain ⟨W2, hW2⟩ : ∃ W2, W2 = (w.alloc (.cells #[.int .i64 kx, .int .i64 ax, .int .i64 tx, .string sx, .slice Ax nx cx, .slice Ix ix jx] 46)).alloc (.cells #[.int .i64 ky, .int .i64 ay, .int .i64 ty, .string sy, .slice Ay ny cy, .slice Iy iy jy] 46) := ⟨_, rfl⟩
  rw [← hW2] at HB
  have hz : W2.heap.size = w.heap.size + 2 := by rw [hW2]; simp
  have b1 : Blk W2 w.heap.size 46 #[.int .i64 kx, .int .i64 ax, .int .i64 tx, .string sx, .slice Ax nx cx, .slice Ix ix jx] := by rw [hW2]; exact (Blk.new _ _ _).alloc _
  have b2 : Blk W2 (w.heap.size + 1) 46 #[.int .i64 ky, .int .i64 ay, .int .i64 ty, .string sy, .slice Ay ny cy, .slice Iy iy jy] := by
    rw [hW2]
    have := Blk.new (w.alloc (.cells #[.int .i64 kx, .int .i64 ax, .int .i64 tx, .string sx, .slice Ax nx cx, .slice Ix ix jx] 46)) 46 #[.int .i64 ky, .int .i64 ay, .int .i64 ty, .string sy, .slice Ay ny cy, .slice Iy iy jy]
    simpa using this
  have HW2 := Lib.hid hW2
  have HZ := Lib.hid hz
  have HB1 := Lib.hid b1
  have HB2 := Lib.hid b2
  clear hW2 hz
  go_enter Tryz.func14, Tryz.ntmps14
  go_upto_region 1 with fail
  rw [← HW2.out]
  have c0 := b1.cell 0
  have c1 := b1.cell 1
  have c2 := b1.cell 2
  have c3 := b1.cell 3
  have c4 := b1.cell 4
  have e0 := b2.cell 0
  have e1 := b2.cell 1
  have e2 := b2.cell 2
  have e3 := b2.cell 3
  have e4 := b2.cell 4
  clear b1 b2
  go_wp2_with fail
  refine (HV.out _ HB.out).mono ?_
  rintro e w2 ⟨rfl, hb⟩
  have HBB : Hid (Below w.heap.size w w2) := HB.out.trans (hb.mono HB.out.size)
  have d5 : w2.cell? ⟨w.heap.size, 5, none⟩ = some (.slice Ix ix jx) := (HB1.out.below hb (by have := HZ.out; omega)).cell 5
  have f5 : w2.cell? ⟨w.heap.size + 1, 5, none⟩ = some (.slice Iy iy jy) := (HB2.out.below hb (by have := HZ.out; omega)).cell 5
  clear hb c0 c1 c2 c3 c4 e0 e1 e2 e3 e4
  cases q1
  · go_wp2_with fail
    go_ret
    exact ⟨rfl, HBB.out⟩
  · go_wp2_with fail
    refine (HI.out _ HBB.out).mono ?_
    rintro e w3 ⟨rfl, q, rfl⟩
    go_wp2_with fail
    go_ret
    exact ⟨rfl, bdrew HBB.out q⟩

set_option maxHeartbeats 2000000 in
/-- slices.EqualFunc at groups -/
theorem eqGps_any (l m : List Gp) (A A' : Option Addr) (n c n' c' : Nat) (w : World) (B : Nat) (hB : B ≤ w.heap.size) (h1 : RGp w B (.slice A n c) l) (h2 : RGp w B (.slice A' n' c') m) :
    Calls Tryz.prog 13 #[.slice A n c, .slice A' n' c', .func (.func 14) #[] #[]] w fun e w' => e = .returned (.bool (sameGs l m)) ∧ Below w.heap.size w w' := by
  obtain ⟨V, hV⟩ : ∃ V, V = sameGs l m := ⟨_, rfl⟩
  rw [← hV]
  have HV := Lib.hid hV
  clear hV
  by_cases hl : n = n'
  · subst hl
    have HL1 := Lib.hid h1.len
    have HL2 := Lib.hid h2.len
    have H1 := Lib.hid h1
    have H2 := Lib.hid h2
    clear h1 h2
    go_enter Tryz.func13, Tryz.ntmps13
    go_wp2_with fail
    go_loopg [17] n (fun gg s17 wr => ∃ k : Nat, k + gg = n ∧ s17 = .int .i64 (k : Int) ∧ Hid (∀ i x y, i < k → l[i]? = some x → m[i]? = some y → sameG x y = true) ∧ Hid (Below w.heap.size w wr))
    case atStart => exact ⟨0, by omega, rfl, (fun i x y hi => absurd hi (by omega)), Below.refl _ _⟩
    case round =>
      obtain ⟨k, hkg, rfl, hno, hbel⟩ := hrel
      have hbg : n * 88 ≤ 140737488351232 := HL1.out.2.2
      by_cases hk : k < n
      · obtain ⟨x, hx⟩ : ∃ x, l[k]? = some x := ⟨_, List.getElem?_eq_getElem (by have := HL1.out.1; omega)⟩
        obtain ⟨y, hy⟩ : ∃ x, m[k]? = some x := ⟨_, List.getElem?_eq_getElem (by have := HL2.out.1; omega)⟩
        obtain ⟨b, off, Ax, nx, cx, Ix, ix, jx, rfl, hbb, g0, g1, g2, g3, g4, g5, hv1, hi1⟩ := (H1.out.below (hbel.out.mono hB)).at_ hx
        obtain ⟨b', off', Ay, ny, cy, Iy, iy, jy, rfl, hbb', k0, k1, k2, k3, k4, k5, hv2, hi2⟩ := (H2.out.below (hbel.out.mono hB)).at_ hy
        have hzr := hbel.out.size
        obtain ⟨wa, hwa⟩ : ∃ wa, wa = (wr.alloc (.cells #[.int .i64 x.val.kind, .int .i64 x.val.int_, .int .i64 x.val.to_, .string x.val.text, .slice Ax nx cx, .slice Ix ix jx] 46)) := ⟨_, rfl⟩
        have hal : Below wr.heap.size wr wa := by rw [hwa]; exact (Below.refl _ _).alloc (Nat.le_refl _) _
        have k0 := (hal.cell (p := ⟨b', off' + k * 6, none⟩) (by show b' < _; omega)).trans k0
        have k1 := (hal.cell (p := ⟨b', off' + k * 6 + 1, none⟩) (by show b' < _; omega)).trans k1
        have k2 := (hal.cell (p := ⟨b', off' + k * 6 + 2, none⟩) (by show b' < _; omega)).trans k2
        have k3 := (hal.cell (p := ⟨b', off' + k * 6 + 3, none⟩) (by show b' < _; omega)).trans k3
        have k4 := (hal.cell (p := ⟨b', off' + k * 6 + 4, none⟩) (by show b' < _; omega)).trans k4
        have k5 := (hal.cell (p := ⟨b', off' + k * 6 + 5, none⟩) (by show b' < _; omega)).trans k5
        have HX : Hid (∀ W, Below wr.heap.size wr W → Calls _ _ #[AGp (x, .slice Ax nx cx, .slice Ix ix jx), AGp (y, .slice Ay ny cy, .slice Iy iy jy)] W _) := fun W hW => sameG1_any x y Ax Ay nx cx ny cy Ix Iy ix jx iy jy W B (by have := hW.size; omega) (hv1.below (hW.mono (by omega))) (hv2.below (hW.mono (by omega))) (hi1.below (hW.mono (by omega))) (hi2.below (hW.mono (by omega)))
        dsimp only [AGp] at HX
        have j0 : (0 : Int) ≤ (k : Int) := by omega
        have j1 : (k : Int) < (n : Int) := by omega
        have HXK := Lib.hid hx
        have HYK := Lib.hid hy
        have HAB := Lib.hid (hal.alloc hal.size (.cells #[.int .i64 y.val.kind, .int .i64 y.val.int_, .int .i64 y.val.to_, .string y.val.text, .slice Ay ny cy, .slice Iy iy jy] 46))
        have HWA := Lib.hid hwa
        clear hx hy hv1 hv2 hi1 hi2 hal hwa
        obtain ⟨r, hr⟩ : ∃ r, sameG x y = r := ⟨_, rfl⟩
        simp only [hr] at HX
        have HR := Lib.hid hr
        clear hr
        go_upto_region 6 with fail
        rw [← HWA.out]
        have z0 : wa.heap.size = wr.heap.size + 1 := by rw [HWA.out]; simp
        have p0 : Blk wa wr.heap.size 46 #[.int .i64 x.val.kind, .int .i64 x.val.int_, .int .i64 x.val.to_, .string x.val.text, .slice Ax nx cx, .slice Ix ix jx] := by rw [HWA.out]; exact Blk.new _ _ _
        have e0 := fun o => (p0.alloc o).cell 0
        have e1 := fun o => (p0.alloc o).cell 1
        have e2 := fun o => (p0.alloc o).cell 2
        have e3 := fun o => (p0.alloc o).cell 3
        have e4 := fun o => (p0.alloc o).cell 4
        have e5 := fun o => (p0.alloc o).cell 5
        clear g0 g1 g2 g3 g4 g5 p0
        go_wp2_with fail
        refine (HX.out _ HAB.out).mono ?_
        rintro e w2 ⟨rfl, hb2⟩
        have HB2 : Hid (Below w.heap.size w w2) := hbel.out.trans ((HAB.out.trans (hb2.mono HAB.out.size)).mono hzr)
        clear hb2
        cases r
        · have hz : V = false := by
            rw [HV.out]
            refine Bool.eq_false_iff.2 fun h => ?_
            have := eqL_at h HXK.out HYK.out
            rw [HR.out] at this
            cases this
          have HZ := Lib.hid hz
          clear hz
          go_wp2_with fail
          go_ret
          exact ⟨by rw [HZ.out]; rfl, HB2.out⟩
        · go_wp2_with fail
          go_roundg (n - (k + 1))
          case measure => omega
          case rel =>
            refine ⟨k + 1, by omega, by go_num, ?_, HB2⟩
            intro i x' y' hi h1 h2
            by_cases e : i = k
            · subst e
              obtain rfl := Option.some.inj (HXK.out.symm.trans h1)
              obtain rfl := Option.some.inj (HYK.out.symm.trans h2)
              exact HR.out
            · exact hno.out i x' y' (by omega) h1 h2
      · obtain rfl : n = k := by omega
        have hz : V = true := by
          rw [HV.out]
          exact eqL_of (by rw [← HL1.out.1, ← HL2.out.1]) fun i x y h1 h2 => hno.out i x y (by rw [HL1.out.1]; exact (List.getElem?_eq_some_iff.1 h1).1) h1 h2
        have HZ := Lib.hid hz
        clear hz
        go_wp2_with fail
        go_ret
        exact ⟨by rw [HZ.out]; rfl, hbel.out⟩
  · have hz : V = false := by
      rw [HV.out]
      refine Bool.eq_false_iff.2 fun h => hl ?_
      have := eqL_len h
      rw [h1.len.1, h2.len.1]
      exact this
    have hl' : ((n : Int) != (n' : Int)) = true := by rw [bne_iff_ne]; omega
    rw [hz]
    clear hz h1 h2
    go_enter Tryz.func13, Tryz.ntmps13
    go_wp2_with fail
    go_ret
    exact ⟨rfl, Below.refl _ _⟩

set_option maxHeartbeats 1000000 in
/-- ask.SameGroups -/
theorem sameGroups_any (l m : List Gp) (A A' : Option Addr) (n c n' c' : Nat) (w : World) (B : Nat) (hB : B ≤ w.heap.size) (h1 : RGp w B (.slice A n c) l) (h2 : RGp w B (.slice A' n' c') m) :
    Calls Tryz.prog 4 #[.slice A n c, .slice A' n' c'] w fun e w' => e = .returned (.bool (sameGs l m)) ∧ Below w.heap.size w w' := by
  have HC := Lib.hid (eqGps_any l m A A' n c n' c' w B hB h1 h2)
  clear h1 h2
  go_enter Tryz.func4, Tryz.ntmps4
  go_wp2_with fail
  refine HC.out.mono ?_
  rintro e w1 ⟨rfl, hb⟩
  have HB := Lib.hid hb
  clear hb
  go_wp2_with fail
  go_ret
  exact ⟨rfl, HB.out⟩
end Go.Proofs.YtemngidkfgcigaaGreatDoor
namespace Go.Proofs.YtemngidkfgcigaaGreatDoor
open Go.ChangeShapes Go.WideShapes Go.RowKit

theorem cellsB : Tryz.prog.cellsOf 35 = 5 := by kernel_rfl
theorem cells_of_ints : Tryz.prog.cellsOf 23 = 1 := by kernel_rfl

section
variable {H : Type} {enc : TypeId × Value → H} {W : World}
theorem ints_flat : ∀ M : List Int, M.map (Value.int .i64) = M.flatMap fun x => [Value.int .i64 x]
  | [] => rfl
  | x :: M => by rw [List.map_cons, List.flatMap_cons, ints_flat M]; rfl
set_option maxRecDepth 100000 in
theorem ints_open {fuel : Nat} {u : Value} {y : DataW H × List MemPlace} (h : DataW.trod enc Tryz.prog W 0 (fun _ => true) true fuel 23 [u] = some y) (hp : ∀ x ∈ y.2, x.block < W.heap.size) (hfit : Fits Tryz.prog 23 y.1) : ∃ ks, RIn W W.heap.size u ks := by
  obtain ⟨A, len, cap, M, rfl, h1, h2, h3, h4⟩ := open_list (en := fun x : Int => [Value.int .i64 x]) (Q := fun _ x => I64 x) Tryz.underlying23 cells_of_int (by omega) (show _ = 8 by kernel_rfl) (fun _ => rfl)
    (fun m cs z hm htr hz hft => by
      obtain ⟨k, e0, rfl, hk⟩ := DataW.trod_int Tryz.underlying3 htr
      exact ⟨k, e0.symm, i64_bounds hk⟩) h hp hfit
  exact ⟨M, A, len, cap, rfl, h1, h2, by rw [show M.map (Value.int .i64) = M.flatMap fun x => [Value.int .i64 x] from ints_flat M]; exact h3, fun x hx => by
    obtain ⟨m, _, hq⟩ := h4 x hx
    exact hq⟩

set_option maxRecDepth 100000 in
theorem block_open (fuel : Nat) (cs : List Value) (x : DataW H × List MemPlace)
    (h : DataW.trod enc Tryz.prog W 0 (fun _ => true) true fuel 35 cs = some x) (hp : ∀ y ∈ x.2, y.block < W.heap.size) (hfit : Fits Tryz.prog 35 x.1) : ∃ b : Bl × Value × Value, blV b = cs ∧ RIn W W.heap.size b.2.1 b.1.kids ∧ RPr W W.heap.size b.2.2 b.1.props := by
  obtain ⟨xs, n, rfl, rfl, hlen, hxl, hf⟩ := DataW.trod_struct Tryz.underlying35 h
  rw [cellsB] at hlen
  match cs, hlen with
  | [u0, u1, u2, u3, u4], _ =>
    match xs, hxl with
    | [y0, y1, y2, y3, y4], _ =>
      have g0 : DataW.trod enc Tryz.prog W 0 (fun _ => true) true n 3 (([u0, u1, u2, u3, u4].drop 0).take (Tryz.prog.cellsOf 3)) = some y0 := hf 0 _ rfl
      have g1 : DataW.trod enc Tryz.prog W 0 (fun _ => true) true n 3 (([u0, u1, u2, u3, u4].drop 1).take (Tryz.prog.cellsOf 3)) = some y1 := hf 1 _ rfl
      have g2 : DataW.trod enc Tryz.prog W 0 (fun _ => true) true n 23 (([u0, u1, u2, u3, u4].drop 2).take (Tryz.prog.cellsOf 23)) = some y2 := hf 2 _ rfl
      have g3 : DataW.trod enc Tryz.prog W 0 (fun _ => true) true n 9 (([u0, u1, u2, u3, u4].drop 3).take (Tryz.prog.cellsOf 9)) = some y3 := hf 3 _ rfl
      have g4 : DataW.trod enc Tryz.prog W 0 (fun _ => true) true n 33 (([u0, u1, u2, u3, u4].drop 4).take (Tryz.prog.cellsOf 33)) = some y4 := hf 4 _ rfl
      rw [cells_of_int] at g0 g1
      rw [cells_of_ints] at g2
      rw [cells_of_str] at g3
      rw [cells_of_props] at g4
      change DataW.trod enc Tryz.prog W 0 (fun _ => true) true n 3 [u0] = some y0 at g0
      change DataW.trod enc Tryz.prog W 0 (fun _ => true) true n 3 [u1] = some y1 at g1
      change DataW.trod enc Tryz.prog W 0 (fun _ => true) true n 23 [u2] = some y2 at g2
      change DataW.trod enc Tryz.prog W 0 (fun _ => true) true n 9 [u3] = some y3 at g3
      change DataW.trod enc Tryz.prog W 0 (fun _ => true) true n 33 [u4] = some y4 at g4
      obtain ⟨k, e0, rfl, _⟩ := DataW.trod_int Tryz.underlying3 g0
      obtain ⟨i, e1, rfl, _⟩ := DataW.trod_int Tryz.underlying3 g1
      obtain ⟨s, e3, rfl, _⟩ := DataW.trod_string Tryz.underlying9 g3
      simp at e0 e1 e3
      subst e0 e1 e3
      obtain ⟨ks, hk⟩ := ints_open g2 (fun y hy => hp y (by simp [hy])) (hfit.part Tryz.underlying35 (j := 2) rfl rfl)
      obtain ⟨ps, hq⟩ := props_open g4 (fun y hy => hp y (by simp [hy])) (hfit.part Tryz.underlying35 (j := 4) rfl rfl)
      exact ⟨(⟨k, i, ks, s, ps⟩, u2, u4), rfl, hk, hq⟩

set_option maxRecDepth 100000 in
/-- a base that came in -/
theorem base_open {u : Value} {d : DataW H} {p : List MemPlace} {r : Reach} {b0 : Nat} (hv : Value.okWide Tryz.prog W r b0 22 u) (h : DataW.Trod enc Tryz.prog W 0 (fun _ => true) true 22 u d p) (hp : ∀ x ∈ p, x.block < W.heap.size) (hfit : Fits Tryz.prog 22 d) :
    ∃ A n c, ∃ l, u = .slice A n c ∧ RB W W.heap.size u l := by
  obtain ⟨a0, n0, c0, rfl⟩ := okWide_slice Tryz.underlying22 hv
  obtain ⟨fuel, hf⟩ := h
  obtain ⟨A, len, cap, M, e, h1, h2, h3, h4⟩ := open_list (en := blV) (Q := fun _ x => RIn W W.heap.size x.2.1 x.1.kids ∧ RPr W W.heap.size x.2.2 x.1.props) Tryz.underlying22 cellsB (by omega) (show _ = 80 by kernel_rfl) blV_len
    (fun m cs z hm htr hz hft => block_open m cs z htr hz hft) hf hp hfit
  exact ⟨a0, n0, c0, M.map Prod.fst, rfl, A, len, cap, M, rfl, e, h1, h2, h3, fun x hx => by
    obtain ⟨m, _, hq⟩ := h4 x hx
    exact hq⟩
end
end Go.Proofs.YtemngidkfgcigaaGreatDoor
