/-
  DERIVED. The walks of the reference's sameNumbers, SameBlock and SameBase. Conditions: sizes.
  By an AI agent.
-/
import Derived.Test.YtmkicfjcgbfaaaaGreatTg09
import Derived.Deep.DeepCutAuto
import Derived.Test.YtmkicfjcgbfaaaaGreatTg20
namespace Go.Proofs.YtmkicfjcgbfaaaaGreat
open Go.RowKit

theorem drewN_add (w : World) (a b : Nat) : (w.drewN a).drewN b = w.drewN (a + b) := by simp [World.drewN, Nat.add_assoc]
set_option maxHeartbeats 2000000 in
/-- the reference's sameNumbers -/
theorem sameNumbers_any (l m : List Int) (A A' : Option Addr) (n c n' c' : Nat) (w : World) (B : Nat) (h1 : RIn w B (.slice A n c) l) (h2 : RIn w B (.slice A' n' c') m) :
    Calls Tryz.prog 142 #[.slice A n c, .slice A' n' c'] w fun e w' => e = .returned (.bool (l == m)) ∧ ∃ q, w' = w.drewN q := by
  obtain ⟨V, hV⟩ : ∃ V, V = (l == m) := ⟨_, rfl⟩
  rw [← hV]
  have HV := Lib.hid hV
  clear hV
  by_cases hl : n = n'
  · subst hl
    have HL1 := Lib.hid h1.len
    have HL2 := Lib.hid h2.len
    have H1 := Lib.hid h1
    have H2 := Lib.hid h2
    clear h1 h2
    go_enter Tryz.func142, Tryz.ntmps142
    go_wp2_with fail
    go_loopg [13] n (fun gg s13 wr => ∃ k q : Nat, k + gg = n ∧ s13 = .int .i64 (k : Int) ∧ Hid (∀ (i : Nat) (x y : Int), i < k → l[i]? = some x → m[i]? = some y → x = y) ∧ wr = w.drewN q)
    case atStart => exact ⟨0, 0, by omega, rfl, (fun i x y hi => absurd hi (by omega)), rfl⟩
    case round =>
      obtain ⟨k, q, hkg, rfl, hno, rfl⟩ := hrel
      have hbg : n * 8 ≤ 140737488351232 := HL1.out.2.2
      by_cases hk : k < n
      · obtain ⟨x, hx⟩ : ∃ x, l[k]? = some x := ⟨_, List.getElem?_eq_getElem (by have := HL1.out.1; omega)⟩
        obtain ⟨y, hy⟩ : ∃ x, m[k]? = some x := ⟨_, List.getElem?_eq_getElem (by have := HL2.out.1; omega)⟩
        obtain ⟨b, off, rfl, hbb, g0⟩ := H1.out.at_ hx
        obtain ⟨b', off', rfl, hbb', k0⟩ := H2.out.at_ hy
        have j0 : (0 : Int) ≤ (k : Int) := by omega
        have j1 : (k : Int) < (n : Int) := by omega
        have HXK := Lib.hid hx
        have HYK := Lib.hid hy
        clear hx hy
        obtain ⟨r, hr⟩ : ∃ r, (x != y) = r := ⟨_, rfl⟩
        cases r
        · have hxy : x = y := by simpa using hr
          go_wp2_with fail
          go_quiet (fail)
          go_wp2_with fail
          go_roundg (n - (k + 1))
          case measure => omega
          case rel =>
            refine ⟨k + 1, _, by omega, by go_num, ?_, rfl⟩
            intro i x' y' hi h1 h2
            by_cases e : i = k
            · subst e
              obtain rfl := Option.some.inj (HXK.out.symm.trans h1)
              obtain rfl := Option.some.inj (HYK.out.symm.trans h2)
              exact hxy
            · exact hno.out i x' y' (by omega) h1 h2
        · have hz : V = false := by
            rw [HV.out, beq_eq_false_iff_ne]
            intro e
            have hne : x ≠ y := by simpa using hr
            have h1 := HXK.out
            rw [e, HYK.out] at h1
            exact hne (Option.some.inj h1).symm
          have HZ := Lib.hid hz
          clear hz
          go_wp2_with fail
          go_quiet (fail)
          go_wp2_with fail
          go_ret
          exact ⟨by rw [HZ.out]; rfl, _, drewN_add _ _ _⟩
      · obtain rfl : n = k := by omega
        have hz : V = true := by
          rw [HV.out, beq_iff_eq]
          apply List.ext_getElem?
          intro i
          rcases Nat.lt_or_ge i n with hi | hi
          · obtain ⟨x, hx⟩ : ∃ x, l[i]? = some x := ⟨_, List.getElem?_eq_getElem (by have := HL1.out.1; omega)⟩
            obtain ⟨y, hy⟩ : ∃ x, m[i]? = some x := ⟨_, List.getElem?_eq_getElem (by have := HL2.out.1; omega)⟩
            rw [hx, hy, hno.out i x y hi hx hy]
          · rw [List.getElem?_eq_none (by have := HL1.out.1; omega), List.getElem?_eq_none (by have := HL2.out.1; omega)]
        have HZ := Lib.hid hz
        clear hz
        go_wp2_with fail
        go_ret
        exact ⟨by rw [HZ.out]; rfl, _, rfl⟩
  · have hz : V = false := by
      rw [HV.out, beq_eq_false_iff_ne]
      intro e
      have := h1.len.1
      have := h2.len.1
      rw [e] at *
      omega
    have hl' : ((n : Int) != (n' : Int)) = true := by rw [bne_iff_ne]; omega
    rw [hz]
    clear hz h1 h2
    go_enter Tryz.func142, Tryz.ntmps142
    go_wp2_with fail
    go_ret
    exact ⟨rfl, 0, rfl⟩

/-- the reference's SameValue, of whatever depths -/
theorem sameRef_at (x y : Vl) (Ax Ay : Option Addr) (nx cx ny cy : Nat) (w : World) (B : Nat) (hB : B ≤ w.heap.size) (hx : RV w B (.slice Ax nx cx) x.items) (hy : RV w B (.slice Ay ny cy) y.items) :
    Calls Tryz.prog 108 #[AV (x, .slice Ax nx cx), AV (y, .slice Ay ny cy)] w fun e w' => e = .returned (.bool (sameV x y)) ∧ Below w.heap.size w w' := by
  obtain ⟨d1, h1⟩ := hx
  obtain ⟨d2, h2⟩ := hy
  have h1' : RVd w B (d1 + d2) (.slice Ax nx cx) x.items := by
    have := (RVdX.of h1).deep (k := d2)
    exact this.reads (fun _ h => h)
  have h2' : RVd w B (d1 + d2) (.slice Ay ny cy) y.items := by
    have := (RVdX.of h2).deep (k := d1)
    rw [Nat.add_comm]
    exact this.reads (fun _ h => h)
  exact sameRef_any (d1 + d2) (x, .slice Ax nx cx) (y, .slice Ay ny cy) w B hB h1' h2'

set_option maxHeartbeats 8000000 in
/-- the reference's SameBlock -/
theorem sameBlock_any (x y : Bl) (Kx Px Ky Py : Option Addr) (nx cx mx ex ny cy my ey : Nat) (w : World) (B : Nat) (hB : B ≤ w.heap.size) (h1 : RIn w B (.slice Kx nx cx) x.kids) (h2 : RPr w B (.slice Px mx ex) x.props) (h3 : RIn w B (.slice Ky ny cy) y.kids) (h4 : RPr w B (.slice Py my ey) y.props) :
    Calls Tryz.prog 89 #[AB (x, .slice Kx nx cx, .slice Px mx ex), AB (y, .slice Ky ny cy, .slice Py my ey)] w fun e w' => e = .returned (.bool (sameB x y)) ∧ Below w.heap.size w w' := by
  obtain ⟨wb, hwb⟩ : ∃ wb, wb = (w.alloc (.cells #[.int .i64 x.id, .int .i64 x.parent, .slice Kx nx cx, .string x.text, .slice Px mx ex] 38)).alloc (.cells #[.int .i64 y.id, .int .i64 y.parent, .slice Ky ny cy, .string y.text, .slice Py my ey] 38) := ⟨_, rfl⟩
  have hbb : Below w.heap.size w wb := by rw [hwb]; exact ((Below.refl _ _).alloc (Nat.le_refl _) _).alloc (by simp) _
  have p0 : Blk wb w.heap.size 38 #[.int .i64 x.id, .int .i64 x.parent, .slice Kx nx cx, .string x.text, .slice Px mx ex] := by rw [hwb]; exact (Blk.new w _ _).alloc _
  have p1 : Blk wb (w.heap.size + 1) 38 #[.int .i64 y.id, .int .i64 y.parent, .slice Ky ny cy, .string y.text, .slice Py my ey] := by
    rw [hwb]
    have h := Blk.new (w.alloc (.cells #[.int .i64 x.id, .int .i64 x.parent, .slice Kx nx cx, .string x.text, .slice Px mx ex] 38)) 38 #[.int .i64 y.id, .int .i64 y.parent, .slice Ky ny cy, .string y.text, .slice Py my ey]
    simpa only [World.size_alloc] using h
  have HE := Lib.hid (sameNumbers_any x.kids y.kids Kx Ky nx cx ny cy wb B (h1.below (hbb.mono hB)) (h3.below (hbb.mono hB)))
  have HX2 := Lib.hid h2
  have HY2 := Lib.hid h4
  have HL1 := Lib.hid h2.len
  have HL2 := Lib.hid h4.len
  have HBB := Lib.hid hbb
  have HWB := Lib.hid hwb
  have P0 := Lib.hid p0
  have P1 := Lib.hid p1
  have hzb := p1.lt
  have e0 : wb.cell? ⟨w.heap.size, 0, none⟩ = some (.int .i64 x.id) := p0.cell 0
  have e1 : wb.cell? ⟨w.heap.size, 1, none⟩ = some (.int .i64 x.parent) := p0.cell 1
  have e2 : wb.cell? ⟨w.heap.size, 2, none⟩ = some (.slice Kx nx cx) := p0.cell 2
  have e3 : wb.cell? ⟨w.heap.size, 3, none⟩ = some (.string x.text) := p0.cell 3
  have e4 : wb.cell? ⟨w.heap.size, 4, none⟩ = some (.slice Px mx ex) := p0.cell 4
  have f0 : wb.cell? ⟨w.heap.size + 1, 0, none⟩ = some (.int .i64 y.id) := p1.cell 0
  have f1 : wb.cell? ⟨w.heap.size + 1, 1, none⟩ = some (.int .i64 y.parent) := p1.cell 1
  have f2 : wb.cell? ⟨w.heap.size + 1, 2, none⟩ = some (.slice Ky ny cy) := p1.cell 2
  have f3 : wb.cell? ⟨w.heap.size + 1, 3, none⟩ = some (.string y.text) := p1.cell 3
  have f4 : wb.cell? ⟨w.heap.size + 1, 4, none⟩ = some (.slice Py my ey) := p1.cell 4
  obtain ⟨V, hV⟩ : ∃ V, V = sameB x y := ⟨_, rfl⟩
  rw [← hV]
  unfold sameB at hV
  obtain ⟨q1, hq1⟩ : ∃ q, (x.id == y.id) = q := ⟨_, rfl⟩
  obtain ⟨q2, hq2⟩ : ∃ q, (x.parent == y.parent) = q := ⟨_, rfl⟩
  obtain ⟨q3, hq3⟩ : ∃ q, (x.text.toList == y.text.toList) = q := ⟨_, rfl⟩
  obtain ⟨q4, hq4⟩ : ∃ q, (x.kids == y.kids) = q := ⟨_, rfl⟩
  rw [hq1, hq2, hq3, hq4] at hV
  rw [hq4] at HE
  clear h1 h2 h3 h4 hq4 hwb hbb p0 p1
  dsimp only [AB]
  cases q1
  · have HV : Hid (V = false) := hV
    have b1 : (x.id != y.id) = true := congrArg (!·) hq1
    clear hV
    go_enter Tryz.func89, Tryz.ntmps89
    go_upto_region 1 with fail
    rw [← HWB.out]
    go_wp2_with fail
    go_ret
    exact ⟨by rw [HV.out]; rfl, HBB.out⟩
  have b1 : (x.id != y.id) = false := congrArg (!·) hq1
  cases q2
  · have HV : Hid (V = false) := hV
    have b2 : (x.parent != y.parent) = true := congrArg (!·) hq2
    clear hV
    go_enter Tryz.func89, Tryz.ntmps89
    go_upto_region 1 with fail
    rw [← HWB.out]
    go_wp2_with fail
    go_ret
    exact ⟨by rw [HV.out]; rfl, HBB.out⟩
  have b2 : (x.parent != y.parent) = false := congrArg (!·) hq2
  cases q3
  · have HV : Hid (V = false) := hV
    have b3 : (x.text.toList != y.text.toList) = true := congrArg (!·) hq3
    clear hV
    go_enter Tryz.func89, Tryz.ntmps89
    go_upto_region 1 with fail
    rw [← HWB.out]
    go_wp2_with fail
    go_ret
    exact ⟨by rw [HV.out]; rfl, HBB.out⟩
  have b3 : (x.text.toList != y.text.toList) = false := congrArg (!·) hq3
  by_cases hl : mx = my
  case neg =>
    have HV : Hid (V = false) := by
      show _ = _
      rw [hV]
      have : samePs x.props y.props = false := Bool.eq_false_iff.2 fun h => hl (by have := eqL_len h; rw [HL1.out.1, HL2.out.1]; exact this)
      rw [this, Bool.and_false]
    have hl' : ((mx : Int) != (my : Int)) = true := by rw [bne_iff_ne]; omega
    clear hV hl
    go_enter Tryz.func89, Tryz.ntmps89
    go_upto_region 1 with fail
    rw [← HWB.out]
    go_wp2_with fail
    go_ret
    exact ⟨by rw [HV.out]; rfl, HBB.out⟩
  subst hl
  cases q4
  · have HV : Hid (V = false) := hV
    clear hV
    go_enter Tryz.func89, Tryz.ntmps89
    go_upto_region 1 with fail
    rw [← HWB.out]
    go_wp2_with fail
    refine HE.out.mono ?_
    rintro e w2 ⟨rfl, q, rfl⟩
    go_wp2_with fail
    go_ret
    exact ⟨by rw [HV.out]; rfl, bdrew HBB.out _⟩
  have HV : Hid (V = samePs x.props y.props) := hV
  clear hV
  go_enter Tryz.func89, Tryz.ntmps89
  go_upto_region 1 with fail
  rw [← HWB.out]
  go_wp2_with fail
  refine HE.out.mono ?_
  rintro e w2 ⟨rfl, q, rfl⟩
  obtain ⟨X, hX⟩ : ∃ X, X = wb.drewN q := ⟨_, rfl⟩
  have HBX : Hid (Below w.heap.size w X) := by rw [hX]; exact bdrew HBB.out _
  have PX0 : Hid (Blk X w.heap.size 38 #[.int .i64 x.id, .int .i64 x.parent, .slice Kx nx cx, .string x.text, .slice Px mx ex]) := by rw [hX]; exact P0.out.drewN q
  have PX1 : Hid (Blk X (w.heap.size + 1) 38 #[.int .i64 y.id, .int .i64 y.parent, .slice Ky ny cy, .string y.text, .slice Py mx ey]) := by rw [hX]; exact P1.out.drewN q
  have hzX : w.heap.size + 1 < X.heap.size := PX1.out.lt
  rw [← hX]
  clear hX e0 e1 e2 e3 f0 f1 f2 f3 e4 f4
  have e4 : X.cell? ⟨w.heap.size, 4, none⟩ = some (.slice Px mx ex) := PX0.out.cell 4
  go_wp2_with fail
  go_loopg [45] mx (fun gg s45 wr => ∃ k : Nat, k + gg = mx ∧ s45 = .int .i64 (k : Int) ∧ Hid (∀ i a b, i < k → x.props[i]? = some a → y.props[i]? = some b → samePr a b = true) ∧ Hid (Below X.heap.size X wr))
  case atStart => exact ⟨0, by omega, rfl, (fun i x y hi => absurd hi (by omega)), Below.refl _ _⟩
  case round =>
    obtain ⟨k, hkg, rfl, hno, hbel⟩ := hrel
    have hwX := HBX.out.size
    have hwr : Below w.heap.size w wr := HBX.out.trans (hbel.out.mono hwX)
    have HWR := Lib.hid hwr
    have hzr := hbel.out.size
    have hbg : mx * 80 ≤ 140737488351232 := HL1.out.2.2
    by_cases hk : k < mx
    case neg =>
      obtain rfl : mx = k := by omega
      have hz : V = true := by
        rw [HV.out]
        exact eqL_of (by rw [← HL1.out.1, ← HL2.out.1]) fun i a b h1 h2 => hno.out i a b (by rw [HL1.out.1]; exact (List.getElem?_eq_some_iff.1 h1).1) h1 h2
      have HZ := Lib.hid hz
      clear hz hwr
      go_wp2_with fail
      go_ret
      exact ⟨by rw [HZ.out]; rfl, HWR.out⟩
    obtain ⟨a, ha⟩ : ∃ a, x.props[k]? = some a := ⟨_, List.getElem?_eq_getElem (by have := HL1.out.1; omega)⟩
    obtain ⟨c, hc⟩ : ∃ a, y.props[k]? = some a := ⟨_, List.getElem?_eq_getElem (by have := HL2.out.1; omega)⟩
    obtain ⟨b, off, Av, nv, cv, rfl, hbb, g0, g1, g2, g3, g4, g5, hv1⟩ := (HX2.out.below (hwr.mono hB)).at_ ha
    obtain ⟨b', off', Aw, nw, cw, rfl, hbb', k0, k1, k2, k3, k4, k5, hv2⟩ := (HY2.out.below (hwr.mono hB)).at_ hc
    have HX : Hid (∀ W, Below wr.heap.size wr W → Calls _ _ #[AV (a.val, .slice Av nv cv), AV (c.val, .slice Aw nw cw)] W _) := fun W hW => sameRef_at a.val c.val Av Aw nv cv nw cw W B (by have := hW.size; have := hwr.size; omega) (hv1.below (hW.mono (by have := hwr.size; omega))) (hv2.below (hW.mono (by have := hwr.size; omega)))
    dsimp only [AV] at HX
    have m4 : wr.cell? ⟨w.heap.size, 4, none⟩ = some (.slice (some ⟨b, off, none⟩) mx ex) := (hbel.out.cell (p := ⟨w.heap.size, 4, none⟩) (by show w.heap.size < _; omega)).trans (PX0.out.cell 4)
    have o4 : wr.cell? ⟨w.heap.size + 1, 4, none⟩ = some (.slice (some ⟨b', off', none⟩) mx ey) := (hbel.out.cell (p := ⟨w.heap.size + 1, 4, none⟩) (by show w.heap.size + 1 < _; omega)).trans (PX1.out.cell 4)
    have j0 : (0 : Int) ≤ (k : Int) := by omega
    have j1 : (k : Int) < (mx : Int) := by omega
    have HXK := Lib.hid ha
    have HYK := Lib.hid hc
    have hbr : b < wr.heap.size := by have := hwr.size; omega
    have hbr' : b' < wr.heap.size := by have := hwr.size; omega
    clear ha hc hv1 hv2 hwr
    obtain ⟨r1, hr1⟩ : ∃ r, (a.name.toList == c.name.toList) = r := ⟨_, rfl⟩
    obtain ⟨r2, hr2⟩ : ∃ r, sameV a.val c.val = r := ⟨_, rfl⟩
    simp only [hr2] at HX
    have HR : Hid (samePr a c = (r1 && r2)) := by show _ = _; unfold samePr; rw [hr1, hr2]
    clear hr2
    cases r1
    · have hn1 : (a.name.toList != c.name.toList) = true := congrArg (!·) hr1
      have hz : V = false := by
        rw [HV.out]
        refine Bool.eq_false_iff.2 fun h => ?_
        have := eqL_at h HXK.out HYK.out
        rw [HR.out] at this
        cases this
      have HZ := Lib.hid hz
      clear hz
      go_wp2_with fail
      go_quiet (fail)
      go_wp2_with fail
      go_ret
      exact ⟨by rw [HZ.out]; rfl, bdrew HWR.out _⟩
    have hn1 : (a.name.toList != c.name.toList) = false := congrArg (!·) hr1
    go_wp2_with fail
    go_region_held3 (fun w' => w'.cell? ⟨w.heap.size, 4, none⟩ = some (.slice (some ⟨b, off, none⟩) mx ex) ∧ w'.cell? ⟨w.heap.size + 1, 4, none⟩ = some (.slice (some ⟨b', off', none⟩) mx ey) ∧ w'.cell? ⟨b, off + k * 6, none⟩ = some (.string a.name) ∧ w'.cell? ⟨b, off + k * 6 + 1, none⟩ = some (.int .i64 a.val.kind) ∧ w'.cell? ⟨b, off + k * 6 + 2, none⟩ = some (.int .i64 a.val.int_) ∧ w'.cell? ⟨b, off + k * 6 + 3, none⟩ = some (.int .i64 a.val.to_) ∧ w'.cell? ⟨b, off + k * 6 + 4, none⟩ = some (.string a.val.text) ∧ w'.cell? ⟨b, off + k * 6 + 5, none⟩ = some (.slice Av nv cv) ∧ w'.cell? ⟨b', off' + k * 6, none⟩ = some (.string c.name) ∧ w'.cell? ⟨b', off' + k * 6 + 1, none⟩ = some (.int .i64 c.val.kind) ∧ w'.cell? ⟨b', off' + k * 6 + 2, none⟩ = some (.int .i64 c.val.int_) ∧ w'.cell? ⟨b', off' + k * 6 + 3, none⟩ = some (.int .i64 c.val.to_) ∧ w'.cell? ⟨b', off' + k * 6 + 4, none⟩ = some (.string c.val.text) ∧ w'.cell? ⟨b', off' + k * 6 + 5, none⟩ = some (.slice Aw nw cw))
      (first | exact ⟨m4, o4, g0, g1, g2, g3, g4, g5, k0, k1, k2, k3, k4, k5⟩ | exact ⟨kp _ _ _ (by omega) m4, kp _ _ _ (by omega) o4, kp _ _ _ hbr g0, kp _ _ _ hbr g1, kp _ _ _ hbr g2, kp _ _ _ hbr g3, kp _ _ _ hbr g4, kp _ _ _ hbr g5, kp _ _ _ hbr' k0, kp _ _ _ hbr' k1, kp _ _ _ hbr' k2, kp _ _ _ hbr' k3, kp _ _ _ hbr' k4, kp _ _ _ hbr' k5⟩)
      (first | (go_at_call 108; refine (HX.out _ (Below.refl _ _).drew).mono ?_; rintro e w2 ⟨rfl, hb2⟩; have hb2 : Below wr.heap.size wr w2 := (Below.refl wr.heap.size wr).drew.trans hb2; have kp : ∀ (bb oo : Nat) (u : Value), bb < wr.heap.size → wr.cell? ⟨bb, oo, none⟩ = some u → w2.cell? ⟨bb, oo, none⟩ = some u := fun bb oo u h1 h2 => (hb2.cell (p := ⟨bb, oo, none⟩) h1).trans h2; have HB2 := Lib.hid hb2; clear hb2))
    clear kp
    have HBN : Hid (Below X.heap.size X w2) := hbel.out.trans (HB2.out.mono hzr)
    have HWN : Hid (Below w.heap.size w w2) := HWR.out.trans (HB2.out.mono HWR.out.size)
    cases r2
    · have hz : V = false := by
        rw [HV.out]
        refine Bool.eq_false_iff.2 fun h => ?_
        have := eqL_at h HXK.out HYK.out
        rw [HR.out] at this
        cases this
      have HZ := Lib.hid hz
      clear hz
      go_wp2_with fail
      go_ret
      exact ⟨by rw [HZ.out]; rfl, HWN.out⟩
    · go_wp2_with fail
      go_roundg (mx - (k + 1))
      case measure => omega
      case rel =>
        refine ⟨k + 1, by omega, by go_num, ?_, HBN⟩
        intro i a' c' hi h1 h2
        by_cases e : i = k
        · subst e
          obtain rfl := Option.some.inj (HXK.out.symm.trans h1)
          obtain rfl := Option.some.inj (HYK.out.symm.trans h2)
          exact HR.out
        · exact hno.out i a' c' (by omega) h1 h2

set_option maxHeartbeats 4000000 in
/-- the reference's SameBase -/
theorem sameBase_any (l m : List Bl) (A A' : Option Addr) (n c n' c' : Nat) (w : World) (B : Nat) (hB : B ≤ w.heap.size) (h1 : RB w B (.slice A n c) l) (h2 : RB w B (.slice A' n' c') m) :
    Calls Tryz.prog 26 #[.slice A n c, .slice A' n' c'] w fun e w' => e = .returned (.bool (sameBs l m)) ∧ Below w.heap.size w w' := by
  obtain ⟨V, hV⟩ : ∃ V, V = sameBs l m := ⟨_, rfl⟩
  rw [← hV]
  have HV := Lib.hid hV
  clear hV
  by_cases hl : n = n'
  · subst hl
    have HL1 := Lib.hid h1.len
    have HL2 := Lib.hid h2.len
    have H1 := Lib.hid h1
    have H2 := Lib.hid h2
    clear h1 h2
    go_enter Tryz.func26, Tryz.ntmps26
    go_wp2_with fail
    go_loopg [13] n (fun gg s13 wr => ∃ k : Nat, k + gg = n ∧ s13 = .int .i64 (k : Int) ∧ Hid (∀ i x y, i < k → l[i]? = some x → m[i]? = some y → sameB x y = true) ∧ Hid (Below w.heap.size w wr))
    case atStart => exact ⟨0, by omega, rfl, (fun i x y hi => absurd hi (by omega)), Below.refl _ _⟩
    case round =>
      obtain ⟨k, hkg, rfl, hno, hbel⟩ := hrel
      have hbg : n * 80 ≤ 140737488351232 := HL1.out.2.2
      by_cases hk : k < n
      · obtain ⟨x, hx⟩ : ∃ x, l[k]? = some x := ⟨_, List.getElem?_eq_getElem (by have := HL1.out.1; omega)⟩
        obtain ⟨y, hy⟩ : ∃ x, m[k]? = some x := ⟨_, List.getElem?_eq_getElem (by have := HL2.out.1; omega)⟩
        obtain ⟨b, off, Kx, nx, cx, Px, mx, ex, rfl, hbb, g0, g1, g2, g3, g4, hi1, hp1⟩ := (H1.out.below (hbel.out.mono hB)).at_ hx
        obtain ⟨b', off', Ky, ny, cy, Py, my, ey, rfl, hbb', k0, k1, k2, k3, k4, hi2, hp2⟩ := (H2.out.below (hbel.out.mono hB)).at_ hy
        have hzr := hbel.out.size
        have hbr : b < wr.heap.size := by omega
        have hbr' : b' < wr.heap.size := by omega
        have HX : Hid (∀ W, Below wr.heap.size wr W → Calls _ _ #[AB (x, .slice Kx nx cx, .slice Px mx ex), AB (y, .slice Ky ny cy, .slice Py my ey)] W _) := fun W hW => sameBlock_any x y Kx Px Ky Py nx cx mx ex ny cy my ey W B (by have := hW.size; omega) (hi1.below (hW.mono (by omega))) (hp1.below (hW.mono (by omega))) (hi2.below (hW.mono (by omega))) (hp2.below (hW.mono (by omega)))
        dsimp only [AB] at HX
        have j0 : (0 : Int) ≤ (k : Int) := by omega
        have j1 : (k : Int) < (n : Int) := by omega
        have HXK := Lib.hid hx
        have HYK := Lib.hid hy
        clear hx hy hi1 hp1 hi2 hp2
        obtain ⟨r, hr⟩ : ∃ r, sameB x y = r := ⟨_, rfl⟩
        simp only [hr] at HX
        have HR := Lib.hid hr
        clear hr
        go_wp2_with fail
        go_region_held3 (fun w' => w'.cell? ⟨b, off + k * 5, none⟩ = some (.int .i64 x.id) ∧ w'.cell? ⟨b, off + k * 5 + 1, none⟩ = some (.int .i64 x.parent) ∧ w'.cell? ⟨b, off + k * 5 + 2, none⟩ = some (.slice Kx nx cx) ∧ w'.cell? ⟨b, off + k * 5 + 3, none⟩ = some (.string x.text) ∧ w'.cell? ⟨b, off + k * 5 + 4, none⟩ = some (.slice Px mx ex) ∧ w'.cell? ⟨b', off' + k * 5, none⟩ = some (.int .i64 y.id) ∧ w'.cell? ⟨b', off' + k * 5 + 1, none⟩ = some (.int .i64 y.parent) ∧ w'.cell? ⟨b', off' + k * 5 + 2, none⟩ = some (.slice Ky ny cy) ∧ w'.cell? ⟨b', off' + k * 5 + 3, none⟩ = some (.string y.text) ∧ w'.cell? ⟨b', off' + k * 5 + 4, none⟩ = some (.slice Py my ey))
          (first | exact ⟨g0, g1, g2, g3, g4, k0, k1, k2, k3, k4⟩ | exact ⟨kp _ _ _ hbr g0, kp _ _ _ hbr g1, kp _ _ _ hbr g2, kp _ _ _ hbr g3, kp _ _ _ hbr g4, kp _ _ _ hbr' k0, kp _ _ _ hbr' k1, kp _ _ _ hbr' k2, kp _ _ _ hbr' k3, kp _ _ _ hbr' k4⟩)
          (first | (go_at_call 89; refine (HX.out _ (Below.refl _ _).drew).mono ?_; rintro e w2 ⟨rfl, hb2⟩; have hb2 : Below wr.heap.size wr w2 := (Below.refl wr.heap.size wr).drew.trans hb2; have kp : ∀ (bb oo : Nat) (u : Value), bb < wr.heap.size → wr.cell? ⟨bb, oo, none⟩ = some u → w2.cell? ⟨bb, oo, none⟩ = some u := fun bb oo u h1 h2 => (hb2.cell (p := ⟨bb, oo, none⟩) h1).trans h2; have HB2 := Lib.hid hb2; clear hb2))
        clear kp
        have HWN : Hid (Below w.heap.size w w2) := hbel.out.trans (HB2.out.mono hzr)
        cases r
        · have hz : V = false := by
            rw [HV.out]
            refine Bool.eq_false_iff.2 fun h => ?_
            have := eqL_at h HXK.out HYK.out
            rw [HR.out] at this
            cases this
          have HZ := Lib.hid hz
          clear hz
          go_wp2_with fail
          go_ret
          exact ⟨by rw [HZ.out]; rfl, HWN.out⟩
        · go_wp2_with fail
          go_roundg (n - (k + 1))
          case measure => omega
          case rel =>
            refine ⟨k + 1, by omega, by go_num, ?_, HWN⟩
            intro i x' y' hi h1 h2
            by_cases e : i = k
            · subst e
              obtain rfl := Option.some.inj (HXK.out.symm.trans h1)
              obtain rfl := Option.some.inj (HYK.out.symm.trans h2)
              exact HR.out
            · exact hno.out i x' y' (by omega) h1 h2
      · obtain rfl : n = k := by omega
        have hz : V = true := by
          rw [HV.out]
          exact eqL_of (by rw [← HL1.out.1, ← HL2.out.1]) fun i x y h1 h2 => hno.out i x y (by rw [HL1.out.1]; exact (List.getElem?_eq_some_iff.1 h1).1) h1 h2
        have HZ := Lib.hid hz
        clear hz
        go_wp2_with fail
        go_ret
        exact ⟨by rw [HZ.out]; rfl, hbel.out⟩
  · have hz : V = false := by
      rw [HV.out]
      refine Bool.eq_false_iff.2 fun h => hl ?_
      have := eqL_len h
      rw [h1.len.1, h2.len.1]
      exact this
    have hl' : ((n : Int) != (n' : Int)) = true := by rw [bne_iff_ne]; omega
    rw [hz]
    clear hz h1 h2
    go_enter Tryz.func26, Tryz.ntmps26
    go_wp2_with fail
    go_ret
    exact ⟨rfl, Below.refl _ _⟩
end Go.Proofs.YtmkicfjcgbfaaaaGreat
