/-
  DERIVED. DERIVED: THE SHELF's CONTRACTS AT THIS DUMP, IN PLAIN WORDS (tools/lay-plain.mjs out of 'TryShelf.lean', which tools/lay-shelf.mjs wrote): THE SAME DECLARATIONS UNDER THE SAME NAMES: 'import', 'namespace', 'open', 'def', 'theorem' AND NOTHING ELSE: no command of the shelf's: FOR A HAND-IN. Each laying: the table of numbers ('.._ren') and one theorem, a field a fact of the dump's own or the kernel's comparison; each contract: ONE APPLICATION.
  Slices of ints: what Equal says. Conditions: sizes.
  The same properties, blocks and bases: plain law, the walks of tree.Same and its closures. Conditions: sizes.
  The walk of tree.Same. Conditions: sizes.
  By an AI agent.
-/
import Derived.Shelf.Slices.Equal
import Derived.Shelf.Slices.Cells
import Derived.Shelf.Slices.Empties2
import Derived.Test.YtmkicfjcgbfaaaaGreatProg
import Derived.Test.YtmkicfjcgbfaaaaGreatTg11
import Derived.Test.YtmkicfjcgbfaaaaGreatTg09
import Derived.Test.YtmkicfjcgbfaaaaGreatTg10
import Derived.Test.YtmkicfjcgbfaaaaGreatTg04
import Derived.Laws.EntriesVeiled
namespace Go.Proofs
open Go.Shelf
def Tryz.lays111_ren : Go.Shelf.Ren := ⟨fun | 111 => 99 | n => n, fun | 28 => 34 | 3 => 3 | 4 => 4 | 0 => 0 | n => n, fun | n => n⟩
theorem Tryz.lays111 : Go.Proofs.Lays.n111 Tryz.prog Tryz.lays111_ren := {
  mixed := by kernel_rfl
  f111 := Tryz.func99.trans (congrArg some (by kernel_rfl))
  t0 := Tryz.underlying0
  a0 := Tryz.isAgg0
  z0 := Tryz.sizeOf0
  v0 := Tryz.zeroValue0
  t3 := Tryz.underlying3
  a3 := Tryz.isAgg3
  z3 := Tryz.sizeOf3
  v3 := Tryz.zeroValue3
  t4 := Tryz.underlying4
  a4 := Tryz.isAgg4
  z4 := Tryz.sizeOf4
  v4 := Tryz.zeroValue4
  t28 := Tryz.underlying34
  a28 := Tryz.isAgg34
  z28 := Tryz.sizeOf34
  v28 := Tryz.zeroValue34 }
open Go.RowKit Go.Lib in
theorem Tryz.slices_Equal_int (b1 o1 n c b2 o2 m d : Nat) (xs ys : List Int) (w : World) (hx : n ≤ xs.length) (hy : m ≤ ys.length) (hbig : n ≤ 9223372036854775807) (hbig2 : m ≤ 9223372036854775807) (hc1 : ∀ j, j < xs.length → w.cell? ⟨b1, o1 + j, none⟩ = some (.int .i64 (xs.getD j 0))) (hc2 : ∀ j, j < ys.length → w.cell? ⟨b2, o2 + j, none⟩ = some (.int .i64 (ys.getD j 0))) :
    Calls Tryz.prog 99 #[.slice (some ⟨b1, o1, none⟩) n c, .slice (some ⟨b2, o2, none⟩) m d] w fun e w' => e = .returned (.bool (xs.take n == ys.take m)) ∧ ∃ q, w' = w.drewN q := Any.slices_Equal_int Tryz.lays111 b1 o1 n c b2 o2 m d xs ys w hx hy hbig hbig2 hc1 hc2
open Go.RowKit Go.Lib in
theorem Tryz.slices_Equal_int_empty (a1 a2 : Option Addr) (c m d : Nat) (w : World) (hbig2 : m ≤ 9223372036854775807) :
    Calls Tryz.prog 99 #[.slice a1 0 c, .slice a2 m d] w fun e w' => e = .returned (.bool (decide (m = 0))) ∧ w' = w := Any.slices_Equal_int_empty Tryz.lays111 a1 a2 c m d w hbig2
open Go.RowKit Go.Lib in
theorem Tryz.slices_Equal_int_lens (a1 a2 : Option Addr) (n c m d : Nat) (w : World) (hnm : n ≠ m) :
    Calls Tryz.prog 99 #[.slice a1 n c, .slice a2 m d] w fun e w' => e = .returned (.bool false) ∧ w' = w := Any.slices_Equal_int_lens Tryz.lays111 a1 a2 n c m d w hnm
end Go.Proofs
namespace Go.Proofs.YtmkicfjcgbfaaaaGreat
open Go.RowKit

theorem equalI_any (A A' : Option Addr) (n c n' c' : Nat) (l m : List Int) (w : World) (B : Nat) (h : RIn w B (.slice A n c) l) (h' : RIn w B (.slice A' n' c') m) :
    Calls Tryz.prog 99 #[.slice A n c, .slice A' n' c'] w fun e w' => e = .returned (.bool (l == m)) ∧ ∃ q, w' = w.drewN q := by
  have hn := h.len
  have hn' := h'.len
  by_cases hl : n = n'
  · subst hl
    rcases Nat.eq_zero_or_pos n with g | g
    · subst g
      have e1 : l = [] := List.eq_nil_of_length_eq_zero hn.1.symm
      have e2 : m = [] := List.eq_nil_of_length_eq_zero hn'.1.symm
      subst e1 e2
      refine (Tryz.slices_Equal_int_empty A A' c 0 c' w (by omega)).mono ?_
      rintro e w' ⟨rfl, rfl⟩
      exact ⟨rfl, 0, rfl⟩
    · obtain ⟨b, off, e, _, _⟩ := h.reads.plain g (by omega)
      obtain ⟨b', off', e', _, _⟩ := h'.reads.plain g (by omega)
      subst e e'
      refine (Tryz.slices_Equal_int b off n c b' off' n c' l m w (by omega) (by omega) (by omega) (by omega) h.getD h'.getD).mono ?_
      rintro e w' ⟨rfl, hq⟩
      rw [List.take_of_length_le (by omega), List.take_of_length_le (by omega)]
      exact ⟨rfl, hq⟩
  · refine (Tryz.slices_Equal_int_lens A A' n c n' c' w hl).mono ?_
    rintro e w' ⟨rfl, rfl⟩
    have : (l == m) = false := by
      rw [beq_eq_false_iff_ne]
      intro e
      rw [e] at hn
      omega
    rw [this]
    exact ⟨rfl, 0, rfl⟩
end Go.Proofs.YtmkicfjcgbfaaaaGreat
namespace Go.Proofs.YtmkicfjcgbfaaaaGreat
open Go.RowKit


set_option maxHeartbeats 1000000 in
/-- the closure of tree.Same at properties -/
theorem same1_any (x y : Pr) (Ax Ay : Option Addr) (nx cx ny cy : Nat) (w : World) (B : Nat) (hB : B ≤ w.heap.size) (hx : RV w B (.slice Ax nx cx) x.val.items) (hy : RV w B (.slice Ay ny cy) y.val.items) :
    Calls Tryz.prog 95 #[AP (x, .slice Ax nx cx), AP (y, .slice Ay ny cy)] w fun e w' => e = .returned (.bool (samePr x y)) ∧ Below w.heap.size w w' := by
  obtain ⟨d1, h1⟩ := hx
  obtain ⟨d2, h2⟩ := hy
  have h1' : RVd w B (d1 + d2) (.slice Ax nx cx) x.val.items := by
    have := (RVdX.of h1).deep (k := d2)
    exact this.reads (fun _ h => h)
  have h2' : RVd w B (d1 + d2) (.slice Ay ny cy) y.val.items := by
    have := (RVdX.of h2).deep (k := d1)
    rw [Nat.add_comm]
    exact this.reads (fun _ h => h)
  have HV : Hid (∀ W, Below w.heap.size w W → Calls Tryz.prog 96 #[AV (x.val, .slice Ax nx cx), AV (y.val, .slice Ay ny cy)] W fun e w' => e = .returned (.bool (sameV x.val y.val)) ∧ Below W.heap.size W w') := fun W hW => sameVal_any (d1 + d2) (x.val, .slice Ax nx cx) (y.val, .slice Ay ny cy) W B (Nat.le_trans hB hW.size) (h1'.below (hW.mono hB)) (h2'.below (hW.mono hB))
  clear h1 h2 h1' h2'
  unfold samePr
  obtain ⟨xn, ⟨kx, ix, tx, sx, lx⟩⟩ := x
  obtain ⟨yn, ⟨ky, iy, ty, sy, ly⟩⟩ := y
  dsimp only [AP, AV, Vl.kind, Vl.int_, Vl.to_, Vl.text] at HV ⊢
  obtain ⟨q1, hq1⟩ : ∃ q, (xn.toList == yn.toList) = q := ⟨_, rfl⟩
  obtain ⟨q2, hq2⟩ : ∃ q, sameV (Vl.mk kx ix tx sx lx) (Vl.mk ky iy ty sy ly) = q := ⟨_, rfl⟩
  rw [hq1, hq2]
  simp only [hq2] at HV
  clear hq2
  have HB := Lib.hid (((Below.refl w.heap.size w).alloc (Nat.le_refl _) (.cells #[.string xn, .int .i64 kx, .int .i64 ix, .int .i64 tx, .string sx, .slice Ax nx cx] 116)).alloc (by simp) (.cells #[.string yn, .int .i64 ky, .int .i64 iy, .int .i64 ty, .string sy, .slice Ay ny cy] 116))
  cases q1
  · go_enter Tryz.func95, Tryz.ntmps95
    go_wp2_with fail
    go_ret
    exact ⟨rfl, HB.out⟩
  · go_enter Tryz.func95, Tryz.ntmps95
    go_wp2_with fail
    refine (HV.out _ HB.out).mono ?_
    rintro e w2 ⟨rfl, hb⟩
    have HB2 : Hid (Below w.heap.size w w2) := HB.out.trans (hb.mono HB.out.size)
    clear hb
    go_wp2_with fail
    go_ret
    exact ⟨rfl, HB2.out⟩

set_option maxHeartbeats 2000000 in
/-- slices.EqualFunc at properties -/
theorem eqProps_any (l m : List Pr) (A A' : Option Addr) (n c n' c' : Nat) (w : World) (B : Nat) (hB : B ≤ w.heap.size) (h1 : RPr w B (.slice A n c) l) (h2 : RPr w B (.slice A' n' c') m) :
    Calls Tryz.prog 100 #[.slice A n c, .slice A' n' c', .func (.func 95) #[] #[]] w fun e w' => e = .returned (.bool (samePs l m)) ∧ Below w.heap.size w w' := by
  obtain ⟨V, hV⟩ : ∃ V, V = samePs l m := ⟨_, rfl⟩
  rw [← hV]
  have HV := Lib.hid hV
  clear hV
  by_cases hl : n = n'
  · subst hl
    have HL1 := Lib.hid h1.len
    have HL2 := Lib.hid h2.len
    have H1 := Lib.hid h1
    have H2 := Lib.hid h2
    clear h1 h2
    go_enter Tryz.func100, Tryz.ntmps100
    go_wp2_with fail
    go_loopg [17] n (fun gg s17 wr => ∃ k : Nat, k + gg = n ∧ s17 = .int .i64 (k : Int) ∧ Hid (∀ i x y, i < k → l[i]? = some x → m[i]? = some y → samePr x y = true) ∧ Hid (Below w.heap.size w wr))
    case atStart => exact ⟨0, by omega, rfl, (fun i x y hi => absurd hi (by omega)), Below.refl _ _⟩
    case round =>
      obtain ⟨k, hkg, rfl, hno, hbel⟩ := hrel
      have hbg : n * 80 ≤ 140737488351232 := HL1.out.2.2
      by_cases hk : k < n
      · obtain ⟨x, hx⟩ : ∃ x, l[k]? = some x := ⟨_, List.getElem?_eq_getElem (by have := HL1.out.1; omega)⟩
        obtain ⟨y, hy⟩ : ∃ x, m[k]? = some x := ⟨_, List.getElem?_eq_getElem (by have := HL2.out.1; omega)⟩
        obtain ⟨b, off, Ax, nx, cx, rfl, hbb, g0, g1, g2, g3, g4, g5, hv1⟩ := (H1.out.below (hbel.out.mono hB)).at_ hx
        obtain ⟨b', off', Ay, ny, cy, rfl, hbb', k0, k1, k2, k3, k4, k5, hv2⟩ := (H2.out.below (hbel.out.mono hB)).at_ hy
        have hzr := hbel.out.size
        obtain ⟨wa, hwa⟩ : ∃ wa, wa = (wr.alloc (.cells #[.string x.name, .int .i64 x.val.kind, .int .i64 x.val.int_, .int .i64 x.val.to_, .string x.val.text, .slice Ax nx cx] 116)) := ⟨_, rfl⟩
        have hal : Below wr.heap.size wr wa := by rw [hwa]; exact (Below.refl _ _).alloc (Nat.le_refl _) _
        have k0 := (hal.cell (p := ⟨b', off' + k * 6, none⟩) (by show b' < _; omega)).trans k0
        have k1 := (hal.cell (p := ⟨b', off' + k * 6 + 1, none⟩) (by show b' < _; omega)).trans k1
        have k2 := (hal.cell (p := ⟨b', off' + k * 6 + 2, none⟩) (by show b' < _; omega)).trans k2
        have k3 := (hal.cell (p := ⟨b', off' + k * 6 + 3, none⟩) (by show b' < _; omega)).trans k3
        have k4 := (hal.cell (p := ⟨b', off' + k * 6 + 4, none⟩) (by show b' < _; omega)).trans k4
        have k5 := (hal.cell (p := ⟨b', off' + k * 6 + 5, none⟩) (by show b' < _; omega)).trans k5
        have HX : Hid (∀ W, Below wr.heap.size wr W → Calls _ _ #[AP (x, .slice Ax nx cx), AP (y, .slice Ay ny cy)] W _) := fun W hW => same1_any x y Ax Ay nx cx ny cy W B (by have := hW.size; omega) (hv1.below (hW.mono (by omega))) (hv2.below (hW.mono (by omega)))
        dsimp only [AP] at HX
        have j0 : (0 : Int) ≤ (k : Int) := by omega
        have j1 : (k : Int) < (n : Int) := by omega
        have HXK := Lib.hid hx
        have HYK := Lib.hid hy
        have HAB := Lib.hid (hal.alloc hal.size (.cells #[.string y.name, .int .i64 y.val.kind, .int .i64 y.val.int_, .int .i64 y.val.to_, .string y.val.text, .slice Ay ny cy] 116))
        have HWA := Lib.hid hwa
        clear hx hy hv1 hv2 hal hwa
        obtain ⟨r, hr⟩ : ∃ r, samePr x y = r := ⟨_, rfl⟩
        simp only [hr] at HX
        have HR := Lib.hid hr
        clear hr
        go_upto_region 6 with fail
        rw [← HWA.out]
        have z0 : wa.heap.size = wr.heap.size + 1 := by rw [HWA.out]; simp
        have p0 : Blk wa wr.heap.size 116 #[.string x.name, .int .i64 x.val.kind, .int .i64 x.val.int_, .int .i64 x.val.to_, .string x.val.text, .slice Ax nx cx] := by rw [HWA.out]; exact Blk.new _ _ _
        have e0 := fun o => (p0.alloc o).cell 0
        have e1 := fun o => (p0.alloc o).cell 1
        have e2 := fun o => (p0.alloc o).cell 2
        have e3 := fun o => (p0.alloc o).cell 3
        have e4 := fun o => (p0.alloc o).cell 4
        have e5 := fun o => (p0.alloc o).cell 5
        clear g0 g1 g2 g3 g4 g5 p0
        go_wp2_with fail
        refine (HX.out _ HAB.out).mono ?_
        rintro e w2 ⟨rfl, hb2⟩
        have HB2 : Hid (Below w.heap.size w w2) := hbel.out.trans ((HAB.out.trans (hb2.mono HAB.out.size)).mono hzr)
        clear hb2
        cases r
        · have hz : V = false := by
            rw [HV.out]
            refine Bool.eq_false_iff.2 fun h => ?_
            have := eqL_at h HXK.out HYK.out
            rw [HR.out] at this
            cases this
          have HZ := Lib.hid hz
          clear hz
          go_wp2_with fail
          go_ret
          exact ⟨by rw [HZ.out]; rfl, HB2.out⟩
        · go_wp2_with fail
          go_roundg (n - (k + 1))
          case measure => omega
          case rel =>
            refine ⟨k + 1, by omega, by go_num, ?_, HB2⟩
            intro i x' y' hi h1 h2
            by_cases e : i = k
            · subst e
              obtain rfl := Option.some.inj (HXK.out.symm.trans h1)
              obtain rfl := Option.some.inj (HYK.out.symm.trans h2)
              exact HR.out
            · exact hno.out i x' y' (by omega) h1 h2
      · obtain rfl : n = k := by omega
        have hz : V = true := by
          rw [HV.out]
          exact eqL_of (by rw [← HL1.out.1, ← HL2.out.1]) fun i x y h1 h2 => hno.out i x y (by rw [HL1.out.1]; exact (List.getElem?_eq_some_iff.1 h1).1) h1 h2
        have HZ := Lib.hid hz
        clear hz
        go_wp2_with fail
        go_ret
        exact ⟨by rw [HZ.out]; rfl, hbel.out⟩
  · have hz : V = false := by
      rw [HV.out]
      refine Bool.eq_false_iff.2 fun h => hl ?_
      have := eqL_len h
      rw [h1.len.1, h2.len.1]
      exact this
    have hl' : ((n : Int) != (n' : Int)) = true := by rw [bne_iff_ne]; omega
    rw [hz]
    clear hz h1 h2
    go_enter Tryz.func100, Tryz.ntmps100
    go_wp2_with fail
    go_ret
    exact ⟨rfl, Below.refl _ _⟩
end Go.Proofs.YtmkicfjcgbfaaaaGreat
namespace Go.Proofs.YtmkicfjcgbfaaaaGreat
open Go.RowKit

theorem enters_same1 : ∀ args w, (callFunc 95 args).run Tryz.prog w = .ok (.enter 95 args) w := enters_of Tryz.func95 (by kernel_rfl) rfl
set_option maxHeartbeats 2000000 in
/-- the closure of tree.Same at blocks; P: the block that holds the other closure -/
theorem same2_any (x y : Bl) (Kx Px Ky Py : Option Addr) (nx cx mx ex ny cy my ey P : Nat) (w : World) (B : Nat) (hB : B ≤ w.heap.size) (hP : P < w.heap.size) (hPc : w.cell? ⟨P, 0, none⟩ = some (.func (.func 95) #[] #[])) (h1 : RIn w B (.slice Kx nx cx) x.kids) (h2 : RPr w B (.slice Px mx ex) x.props) (h3 : RIn w B (.slice Ky ny cy) y.kids) (h4 : RPr w B (.slice Py my ey) y.props) :
    Calls Tryz.prog 98 #[AB (x, .slice Kx nx cx, .slice Px mx ex), AB (y, .slice Ky ny cy, .slice Py my ey), .pointer (some ⟨P, 0, none⟩)] w fun e w' => e = .returned (.bool (sameB x y)) ∧ Below w.heap.size w w' := by
  obtain ⟨wb, hwb⟩ : ∃ wb, wb = (w.alloc (.cells #[.int .i64 x.id, .int .i64 x.parent, .slice Kx nx cx, .string x.text, .slice Px mx ex] 38)).alloc (.cells #[.int .i64 y.id, .int .i64 y.parent, .slice Ky ny cy, .string y.text, .slice Py my ey] 38) := ⟨_, rfl⟩
  have hbb : Below w.heap.size w wb := by rw [hwb]; exact ((Below.refl _ _).alloc (Nat.le_refl _) _).alloc (by simp) _
  have p0 : Blk wb w.heap.size 38 #[.int .i64 x.id, .int .i64 x.parent, .slice Kx nx cx, .string x.text, .slice Px mx ex] := by rw [hwb]; exact (Blk.new w _ _).alloc _
  have p1 : Blk wb (w.heap.size + 1) 38 #[.int .i64 y.id, .int .i64 y.parent, .slice Ky ny cy, .string y.text, .slice Py my ey] := by
    rw [hwb]
    have h := Blk.new (w.alloc (.cells #[.int .i64 x.id, .int .i64 x.parent, .slice Kx nx cx, .string x.text, .slice Px mx ex] 38)) 38 #[.int .i64 y.id, .int .i64 y.parent, .slice Ky ny cy, .string y.text, .slice Py my ey]
    simpa only [World.size_alloc] using h
  have hpc : wb.cell? ⟨P, 0, none⟩ = some (.func (.func 95) #[] #[]) := (hbb.cell (p := ⟨P, 0, none⟩) hP).trans hPc
  have HE := Lib.hid (equalI_any Kx Ky nx cx ny cy x.kids y.kids wb B (h1.below (hbb.mono hB)) (h3.below (hbb.mono hB)))
  have HP := Lib.hid fun W (hW : Below wb.heap.size wb W) => eqProps_any x.props y.props Px Py mx ex my ey W B (Nat.le_trans hB (Nat.le_trans hbb.size hW.size)) (h2.below ((hbb.trans (hW.mono hbb.size)).mono hB)) (h4.below ((hbb.trans (hW.mono hbb.size)).mono hB))
  have HBB := Lib.hid hbb
  have HWB := Lib.hid hwb
  have e0 : wb.cell? ⟨w.heap.size, 0, none⟩ = some (.int .i64 x.id) := p0.cell 0
  have e1 : wb.cell? ⟨w.heap.size, 1, none⟩ = some (.int .i64 x.parent) := p0.cell 1
  have e2 : wb.cell? ⟨w.heap.size, 2, none⟩ = some (.slice Kx nx cx) := p0.cell 2
  have e3 : wb.cell? ⟨w.heap.size, 3, none⟩ = some (.string x.text) := p0.cell 3
  have e4 : wb.cell? ⟨w.heap.size, 4, none⟩ = some (.slice Px mx ex) := p0.cell 4
  have f0 : wb.cell? ⟨w.heap.size + 1, 0, none⟩ = some (.int .i64 y.id) := p1.cell 0
  have f1 : wb.cell? ⟨w.heap.size + 1, 1, none⟩ = some (.int .i64 y.parent) := p1.cell 1
  have f2 : wb.cell? ⟨w.heap.size + 1, 2, none⟩ = some (.slice Ky ny cy) := p1.cell 2
  have f3 : wb.cell? ⟨w.heap.size + 1, 3, none⟩ = some (.string y.text) := p1.cell 3
  have f4 : wb.cell? ⟨w.heap.size + 1, 4, none⟩ = some (.slice Py my ey) := p1.cell 4
  have hent := enters_same1
  unfold sameB
  obtain ⟨q1, hq1⟩ : ∃ q, (x.id == y.id) = q := ⟨_, rfl⟩
  obtain ⟨q2, hq2⟩ : ∃ q, (x.parent == y.parent) = q := ⟨_, rfl⟩
  obtain ⟨q3, hq3⟩ : ∃ q, (x.text.toList == y.text.toList) = q := ⟨_, rfl⟩
  obtain ⟨q4, hq4⟩ : ∃ q, (x.kids == y.kids) = q := ⟨_, rfl⟩
  obtain ⟨q5, hq5⟩ : ∃ q, samePs x.props y.props = q := ⟨_, rfl⟩
  rw [hq1, hq2, hq3, hq4, hq5]
  rw [hq4] at HE
  simp only [hq5] at HP
  clear h1 h2 h3 h4 hq4 hq5 hwb hbb p0 p1 hPc
  dsimp only [AB]
  cases q1
  · go_enter Tryz.func98, Tryz.ntmps98
    go_upto_region 1 with fail
    rw [← HWB.out]
    go_wp2_with fail
    go_ret
    exact ⟨rfl, HBB.out⟩
  cases q2
  · go_enter Tryz.func98, Tryz.ntmps98
    go_upto_region 1 with fail
    rw [← HWB.out]
    go_wp2_with fail
    go_ret
    exact ⟨rfl, HBB.out⟩
  cases q3
  · go_enter Tryz.func98, Tryz.ntmps98
    go_upto_region 1 with fail
    rw [← HWB.out]
    go_wp2_with fail
    go_ret
    exact ⟨rfl, HBB.out⟩
  go_enter Tryz.func98, Tryz.ntmps98
  go_upto_region 1 with fail
  rw [← HWB.out]
  go_wp2_with fail
  refine HE.out.mono ?_
  rintro e w2 ⟨rfl, q, rfl⟩
  have HBQ : Hid (Below w.heap.size w (wb.drewN q)) := bdrew HBB.out _
  cases q4
  · go_wp2_with fail
    go_ret
    exact ⟨rfl, HBQ.out⟩
  have HPX := Lib.hid (HP.out (wb.drewN q) (bdrew (Below.refl _ _) _))
  go_wp2_with fail
  refine HPX.out.mono ?_
  rintro e w3 ⟨rfl, hb⟩
  have HB3 : Hid (Below w.heap.size w w3) := HBQ.out.trans (hb.mono HBQ.out.size)
  clear hb
  go_wp2_with fail
  go_ret
  exact ⟨rfl, HB3.out⟩

set_option maxHeartbeats 2000000 in
/-- slices.EqualFunc at blocks -/
theorem eqBlocks_any (l m : List Bl) (A A' : Option Addr) (n c n' c' P : Nat) (w : World) (B : Nat) (hB : B ≤ w.heap.size) (hP : P < w.heap.size) (hPc : w.cell? ⟨P, 0, none⟩ = some (.func (.func 95) #[] #[])) (h1 : RB w B (.slice A n c) l) (h2 : RB w B (.slice A' n' c') m) :
    Calls Tryz.prog 97 #[.slice A n c, .slice A' n' c', .func (.func 98) #[] #[.pointer (some ⟨P, 0, none⟩)]] w fun e w' => e = .returned (.bool (sameBs l m)) ∧ Below w.heap.size w w' := by
  have hent : ∀ args w, (callFunc 98 args).run Tryz.prog w = .ok (.enter 98 args) w := enters_of Tryz.func98 (by kernel_rfl) rfl
  obtain ⟨V, hV⟩ : ∃ V, V = sameBs l m := ⟨_, rfl⟩
  rw [← hV]
  have HV := Lib.hid hV
  clear hV
  have HPC := Lib.hid hPc
  clear hPc
  by_cases hl : n = n'
  · subst hl
    have HL1 := Lib.hid h1.len
    have HL2 := Lib.hid h2.len
    have H1 := Lib.hid h1
    have H2 := Lib.hid h2
    clear h1 h2
    go_enter Tryz.func97, Tryz.ntmps97
    go_wp2_with fail
    go_loopg [17] n (fun gg s17 wr => ∃ k : Nat, k + gg = n ∧ s17 = .int .i64 (k : Int) ∧ Hid (∀ i x y, i < k → l[i]? = some x → m[i]? = some y → sameB x y = true) ∧ Hid (Below w.heap.size w wr))
    case atStart => exact ⟨0, by omega, rfl, (fun i x y hi => absurd hi (by omega)), Below.refl _ _⟩
    case round =>
      obtain ⟨k, hkg, rfl, hno, hbel⟩ := hrel
      have hbg : n * 80 ≤ 140737488351232 := HL1.out.2.2
      by_cases hk : k < n
      · obtain ⟨x, hx⟩ : ∃ x, l[k]? = some x := ⟨_, List.getElem?_eq_getElem (by have := HL1.out.1; omega)⟩
        obtain ⟨y, hy⟩ : ∃ x, m[k]? = some x := ⟨_, List.getElem?_eq_getElem (by have := HL2.out.1; omega)⟩
        obtain ⟨b, off, Kx, nx, cx, Px, mx, ex, rfl, hbb, g0, g1, g2, g3, g4, hi1, hp1⟩ := (H1.out.below (hbel.out.mono hB)).at_ hx
        obtain ⟨b', off', Ky, ny, cy, Py, my, ey, rfl, hbb', k0, k1, k2, k3, k4, hi2, hp2⟩ := (H2.out.below (hbel.out.mono hB)).at_ hy
        have hzr := hbel.out.size
        obtain ⟨wa, hwa⟩ : ∃ wa, wa = (wr.alloc (.cells #[.int .i64 x.id, .int .i64 x.parent, .slice Kx nx cx, .string x.text, .slice Px mx ex] 38)) := ⟨_, rfl⟩
        have hal : Below wr.heap.size wr wa := by rw [hwa]; exact (Below.refl _ _).alloc (Nat.le_refl _) _
        have k0 := (hal.cell (p := ⟨b', off' + k * 5, none⟩) (by show b' < _; omega)).trans k0
        have k1 := (hal.cell (p := ⟨b', off' + k * 5 + 1, none⟩) (by show b' < _; omega)).trans k1
        have k2 := (hal.cell (p := ⟨b', off' + k * 5 + 2, none⟩) (by show b' < _; omega)).trans k2
        have k3 := (hal.cell (p := ⟨b', off' + k * 5 + 3, none⟩) (by show b' < _; omega)).trans k3
        have k4 := (hal.cell (p := ⟨b', off' + k * 5 + 4, none⟩) (by show b' < _; omega)).trans k4
        have HX : Hid (∀ W, Below wr.heap.size wr W → Calls _ _ #[AB (x, .slice Kx nx cx, .slice Px mx ex), AB (y, .slice Ky ny cy, .slice Py my ey), .pointer (some ⟨P, 0, none⟩)] W _) := fun W hW => same2_any x y Kx Px Ky Py nx cx mx ex ny cy my ey P W B (by have := hW.size; omega) (by have := hW.size; omega) ((hW.cell (p := ⟨P, 0, none⟩) (by show P < _; omega)).trans ((hbel.out.cell (p := ⟨P, 0, none⟩) hP).trans HPC.out)) (hi1.below (hW.mono (by omega))) (hp1.below (hW.mono (by omega))) (hi2.below (hW.mono (by omega))) (hp2.below (hW.mono (by omega)))
        dsimp only [AB] at HX
        have j0 : (0 : Int) ≤ (k : Int) := by omega
        have j1 : (k : Int) < (n : Int) := by omega
        have HXK := Lib.hid hx
        have HYK := Lib.hid hy
        have HAB := Lib.hid (hal.alloc hal.size (.cells #[.int .i64 y.id, .int .i64 y.parent, .slice Ky ny cy, .string y.text, .slice Py my ey] 38))
        have HWA := Lib.hid hwa
        clear hx hy hi1 hp1 hi2 hp2 hal hwa
        obtain ⟨r, hr⟩ : ∃ r, sameB x y = r := ⟨_, rfl⟩
        simp only [hr] at HX
        have HR := Lib.hid hr
        clear hr
        go_upto_region 6 with fail
        rw [← HWA.out]
        have z0 : wa.heap.size = wr.heap.size + 1 := by rw [HWA.out]; simp
        have p0 : Blk wa wr.heap.size 38 #[.int .i64 x.id, .int .i64 x.parent, .slice Kx nx cx, .string x.text, .slice Px mx ex] := by rw [HWA.out]; exact Blk.new _ _ _
        have e0 := fun o => (p0.alloc o).cell 0
        have e1 := fun o => (p0.alloc o).cell 1
        have e2 := fun o => (p0.alloc o).cell 2
        have e3 := fun o => (p0.alloc o).cell 3
        have e4 := fun o => (p0.alloc o).cell 4
        clear g0 g1 g2 g3 g4 p0
        go_wp2_with fail
        refine (HX.out _ HAB.out).mono ?_
        rintro e w2 ⟨rfl, hb2⟩
        have HB2 : Hid (Below w.heap.size w w2) := hbel.out.trans ((HAB.out.trans (hb2.mono HAB.out.size)).mono hzr)
        clear hb2
        cases r
        · have hz : V = false := by
            rw [HV.out]
            refine Bool.eq_false_iff.2 fun h => ?_
            have := eqL_at h HXK.out HYK.out
            rw [HR.out] at this
            cases this
          have HZ := Lib.hid hz
          clear hz
          go_wp2_with fail
          go_ret
          exact ⟨by rw [HZ.out]; rfl, HB2.out⟩
        · go_wp2_with fail
          go_roundg (n - (k + 1))
          case measure => omega
          case rel =>
            refine ⟨k + 1, by omega, by go_num, ?_, HB2⟩
            intro i x' y' hi h1 h2
            by_cases e : i = k
            · subst e
              obtain rfl := Option.some.inj (HXK.out.symm.trans h1)
              obtain rfl := Option.some.inj (HYK.out.symm.trans h2)
              exact HR.out
            · exact hno.out i x' y' (by omega) h1 h2
      · obtain rfl : n = k := by omega
        have hz : V = true := by
          rw [HV.out]
          exact eqL_of (by rw [← HL1.out.1, ← HL2.out.1]) fun i x y h1 h2 => hno.out i x y (by rw [HL1.out.1]; exact (List.getElem?_eq_some_iff.1 h1).1) h1 h2
        have HZ := Lib.hid hz
        clear hz
        go_wp2_with fail
        go_ret
        exact ⟨by rw [HZ.out]; rfl, hbel.out⟩
  · have hz : V = false := by
      rw [HV.out]
      refine Bool.eq_false_iff.2 fun h => hl ?_
      have := eqL_len h
      rw [h1.len.1, h2.len.1]
      exact this
    have hl' : ((n : Int) != (n' : Int)) = true := by rw [bne_iff_ne]; omega
    rw [hz]
    clear hz h1 h2
    go_enter Tryz.func97, Tryz.ntmps97
    go_wp2_with fail
    go_ret
    exact ⟨rfl, Below.refl _ _⟩

set_option maxHeartbeats 1000000 in
/-- tree.Same -/
theorem same_any (l m : List Bl) (A A' : Option Addr) (n c n' c' : Nat) (w : World) (B : Nat) (hB : B ≤ w.heap.size) (h1 : RB w B (.slice A n c) l) (h2 : RB w B (.slice A' n' c') m) :
    Calls Tryz.prog 35 #[.slice A n c, .slice A' n' c'] w fun e w' => e = .returned (.bool (sameBs l m)) ∧ Below w.heap.size w w' := by
  have hb := (Below.refl w.heap.size w).alloc (Nat.le_refl _) (.cells #[.func (.func 95) #[] #[]] 119)
  have HE := Lib.hid (eqBlocks_any l m A A' n c n' c' w.heap.size _ B (by simp; omega) (by simp) ((Blk.new w 119 #[.func (.func 95) #[] #[]]).cell 0) (h1.below (hb.mono hB)) (h2.below (hb.mono hB)))
  have HB := Lib.hid hb
  clear h1 h2 hb
  go_enter Tryz.func35, Tryz.ntmps35
  go_wp2_with fail
  refine HE.out.mono ?_
  rintro e w2 ⟨rfl, hb⟩
  have HB2 : Hid (Below w.heap.size w w2) := HB.out.trans (hb.mono HB.out.size)
  clear hb
  go_wp2_with fail
  go_ret
  exact ⟨rfl, HB2.out⟩
end Go.Proofs.YtmkicfjcgbfaaaaGreat
