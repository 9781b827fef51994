/-
  DERIVED. The same properties, blocks and bases: plain law, the walks of tree.Same and its closures. Conditions: sizes. By an AI agent.
-/
import Derived.Test.YtbkhnfdfdgdfkaaBsInts
import Derived.Test.YtbkhnfdfdgdfkaaBsSame
namespace Go.Proofs.Ytbkhnfdfdgdfkaa
open Go.RowKit

/-- two lists alike, element by element -/
def eqL {α β : Type} (f : α → β → Bool) : List α → List β → Bool
  | [], [] => true
  | a :: l, b :: m => f a b && eqL f l m
  | _, _ => false
section
variable {α β : Type} {f : α → β → Bool}
theorem eqL_len : ∀ {l : List α} {m : List β}, eqL f l m = true → l.length = m.length
  | [], [], _ => rfl
  | a :: l, b :: m, h => by
    rw [eqL, Bool.and_eq_true] at h
    simp only [List.length_cons, eqL_len h.2]
  | [], b :: m, h => by simp [eqL] at h
  | a :: l, [], h => by simp [eqL] at h
theorem eqL_at : ∀ {l : List α} {m : List β} {k : Nat} {x : α} {y : β}, eqL f l m = true → l[k]? = some x → m[k]? = some y → f x y = true
  | [], _, k, _, _, _, h1, _ => by simp at h1
  | _ :: _, [], k, _, _, _, _, h2 => by simp at h2
  | a :: l, b :: m, 0, x, y, h, h1, h2 => by
    rw [eqL, Bool.and_eq_true] at h
    obtain rfl : a = x := by simpa using h1
    obtain rfl : b = y := by simpa using h2
    exact h.1
  | a :: l, b :: m, k + 1, x, y, h, h1, h2 => by
    rw [eqL, Bool.and_eq_true] at h
    exact eqL_at h.2 (by simpa using h1) (by simpa using h2)
theorem eqL_of : ∀ {l : List α} {m : List β}, l.length = m.length → (∀ (k : Nat) (x : α) (y : β), l[k]? = some x → m[k]? = some y → f x y = true) → eqL f l m = true
  | [], [], _, _ => by rw [eqL]
  | a :: l, b :: m, h, H => by
    rw [eqL, Bool.and_eq_true]
    exact ⟨H 0 a b rfl rfl, eqL_of (by simpa using h) fun k x y h1 h2 => H (k + 1) x y (by rw [List.getElem?_cons_succ]; exact h1) (by rw [List.getElem?_cons_succ]; exact h2)⟩
  | [], b :: m, h, _ => by simp at h
  | a :: l, [], h, _ => by simp at h
theorem eqL_refl {f : α → α → Bool} (hf : ∀ x, f x x = true) (l : List α) : eqL f l l = true :=
  eqL_of rfl fun k x y h1 h2 => by
    rw [h1] at h2
    rw [← Option.some.inj h2]; exact hf x
end
def samePr (x y : Pr) : Bool := (x.name.toList == y.name.toList) && sameV x.val y.val
def samePs : List Pr → List Pr → Bool := eqL samePr
def sameB (x y : Bl) : Bool := (x.id == y.id) && (x.parent == y.parent) && (x.text.toList == y.text.toList) && (x.kids == y.kids) && samePs x.props y.props
def sameBs : List Bl → List Bl → Bool := eqL sameB
theorem samePs_refl (l : List Pr) : samePs l l = true := eqL_refl (fun x => by unfold samePr; rw [beq_self_eq_true, sameV_refl]; rfl) l
theorem sameB_refl (x : Bl) : sameB x x = true := by unfold sameB; rw [beq_self_eq_true, beq_self_eq_true, beq_self_eq_true, beq_self_eq_true, samePs_refl]; rfl
theorem sameBs_refl (l : List Bl) : sameBs l l = true := eqL_refl sameB_refl l
/-- a property in memory, its items told apart -/
def AP (x : Pr × Value) : Value := .agg #[.string x.1.name, .int .i64 x.1.val.kind, .int .i64 x.1.val.int_, .int .i64 x.1.val.to_, .string x.1.val.text, x.2]
/-- a block in memory, its kids and properties told apart -/
def AB (x : Bl × Value × Value) : Value := .agg #[.int .i64 x.1.id, .int .i64 x.1.parent, x.2.1, .string x.1.text, x.2.2]

section
variable {w : World} {B : Nat} {A : Option Addr} {n c : Nat}
theorem RPr.len {l : List Pr} (h : RPr w B (.slice A n c) l) : n = l.length ∧ n ≤ c ∧ n * 80 ≤ 140737488351232 := by
  obtain ⟨A', n', c', M, h1, e, h2, h3, _⟩ := h
  injection e with e1 e2 e3
  subst e2 e3
  exact ⟨by rw [h2, ← h1, List.length_map], h3⟩
/-- a property in a row -/
theorem RPr.at_ {l : List Pr} (h : RPr w B (.slice A n c) l) {k : Nat} {x : Pr} (hk : l[k]? = some x) : ∃ b off Av nv cv, A = some ⟨b, off, none⟩ ∧ b < B ∧ w.cell? ⟨b, off + k * 6, none⟩ = some (.string x.name) ∧ w.cell? ⟨b, off + k * 6 + 1, none⟩ = some (.int .i64 x.val.kind) ∧ w.cell? ⟨b, off + k * 6 + 2, none⟩ = some (.int .i64 x.val.int_) ∧ w.cell? ⟨b, off + k * 6 + 3, none⟩ = some (.int .i64 x.val.to_) ∧ w.cell? ⟨b, off + k * 6 + 4, none⟩ = some (.string x.val.text) ∧ w.cell? ⟨b, off + k * 6 + 5, none⟩ = some (.slice Av nv cv) ∧ RV w B (.slice Av nv cv) x.val.items := by
  obtain ⟨A', n', c', M, h1, e, h2, h3, h4, h5⟩ := h
  injection e with e1 e2 e3
  subst e1 e2 e3
  obtain ⟨y, hy, rfl⟩ : ∃ y, M[k]? = some y ∧ y.1 = x := by
    rw [← h1, List.getElem?_map, Option.map_eq_some_iff] at hk
    exact hk
  obtain ⟨b, off, e, hb, hc⟩ := h4.plain_at (by omega) prV_len h2 hy
  have k1 := h5 y (List.mem_of_getElem? hy)
  obtain ⟨⟨nm, ⟨kx, ix, tx, sx, lx⟩⟩, v⟩ := y
  obtain ⟨Av, nv, cv, rfl⟩ := k1.slice
  exact ⟨b, off, Av, nv, cv, e, hb, hc 0 _ rfl, hc 1 _ rfl, hc 2 _ rfl, hc 3 _ rfl, hc 4 _ rfl, hc 5 _ rfl, k1⟩
end

set_option maxHeartbeats 1000000 in
/-- the closure of tree.Same at properties -/
theorem same1_any (x y : Pr) (Ax Ay : Option Addr) (nx cx ny cy : Nat) (w : World) (B : Nat) (hB : B ≤ w.heap.size) (hx : RV w B (.slice Ax nx cx) x.val.items) (hy : RV w B (.slice Ay ny cy) y.val.items) :
    Calls Try.prog 32 #[AP (x, .slice Ax nx cx), AP (y, .slice Ay ny cy)] w fun e w' => e = .returned (.bool (samePr x y)) ∧ Below w.heap.size w w' := by
  obtain ⟨d1, h1⟩ := hx
  obtain ⟨d2, h2⟩ := hy
  have h1' : RVd w B (d1 + d2) (.slice Ax nx cx) x.val.items := by
    have := (RVdX.of h1).deep (k := d2)
    exact this.reads (fun _ h => h)
  have h2' : RVd w B (d1 + d2) (.slice Ay ny cy) y.val.items := by
    have := (RVdX.of h2).deep (k := d1)
    rw [Nat.add_comm]
    exact this.reads (fun _ h => h)
  have HV : Hid (∀ W, Below w.heap.size w W → Calls Try.prog 33 #[AV (x.val, .slice Ax nx cx), AV (y.val, .slice Ay ny cy)] W fun e w' => e = .returned (.bool (sameV x.val y.val)) ∧ Below W.heap.size W w') := fun W hW => sameVal_any (d1 + d2) (x.val, .slice Ax nx cx) (y.val, .slice Ay ny cy) W B (Nat.le_trans hB hW.size) (h1'.below (hW.mono hB)) (h2'.below (hW.mono hB))
  clear h1 h2 h1' h2'
  unfold samePr
  obtain ⟨xn, ⟨kx, ix, tx, sx, lx⟩⟩ := x
  obtain ⟨yn, ⟨ky, iy, ty, sy, ly⟩⟩ := y
  dsimp only [AP, AV, Vl.kind, Vl.int_, Vl.to_, Vl.text] at HV ⊢
  obtain ⟨q1, hq1⟩ : ∃ q, (xn.toList == yn.toList) = q := ⟨_, rfl⟩
  obtain ⟨q2, hq2⟩ : ∃ q, sameV (Vl.mk kx ix tx sx lx) (Vl.mk ky iy ty sy ly) = q := ⟨_, rfl⟩
  rw [hq1, hq2]
  simp only [hq2] at HV
  clear hq2
  have HB := Lib.hid (((Below.refl w.heap.size w).alloc (Nat.le_refl _) (.cells #[.string xn, .int .i64 kx, .int .i64 ix, .int .i64 tx, .string sx, .slice Ax nx cx] 58)).alloc (by simp) (.cells #[.string yn, .int .i64 ky, .int .i64 iy, .int .i64 ty, .string sy, .slice Ay ny cy] 58))
  cases q1
  · go_enter Try.func32, Try.ntmps32
    go_wp2_with fail
    go_ret
    exact ⟨rfl, HB.out⟩
  · go_enter Try.func32, Try.ntmps32
    go_wp2_with fail
    refine (HV.out _ HB.out).mono ?_
    rintro e w2 ⟨rfl, hb⟩
    have HB2 : Hid (Below w.heap.size w w2) := HB.out.trans (hb.mono HB.out.size)
    clear hb
    go_wp2_with fail
    go_ret
    exact ⟨rfl, HB2.out⟩

set_option maxHeartbeats 2000000 in
/-- slices.EqualFunc at properties -/
theorem eqProps_any (l m : List Pr) (A A' : Option Addr) (n c n' c' : Nat) (w : World) (B : Nat) (hB : B ≤ w.heap.size) (h1 : RPr w B (.slice A n c) l) (h2 : RPr w B (.slice A' n' c') m) :
    Calls Try.prog 36 #[.slice A n c, .slice A' n' c', .func (.func 32) #[] #[]] w fun e w' => e = .returned (.bool (samePs l m)) ∧ Below w.heap.size w w' := by
  obtain ⟨V, hV⟩ : ∃ V, V = samePs l m := ⟨_, rfl⟩
  rw [← hV]
  have HV := Lib.hid hV
  clear hV
  by_cases hl : n = n'
  · subst hl
    have HL1 := Lib.hid h1.len
    have HL2 := Lib.hid h2.len
    have H1 := Lib.hid h1
    have H2 := Lib.hid h2
    clear h1 h2
    go_enter Try.func36, Try.ntmps36
    go_wp2_with fail
    go_loopg [17] n (fun gg s17 wr => ∃ k : Nat, k + gg = n ∧ s17 = .int .i64 (k : Int) ∧ Hid (∀ i x y, i < k → l[i]? = some x → m[i]? = some y → samePr x y = true) ∧ Hid (Below w.heap.size w wr))
    case atStart => exact ⟨0, by omega, rfl, (fun i x y hi => absurd hi (by omega)), Below.refl _ _⟩
    case round =>
      obtain ⟨k, hkg, rfl, hno, hbel⟩ := hrel
      have hbg : n * 80 ≤ 140737488351232 := HL1.out.2.2
      by_cases hk : k < n
      · obtain ⟨x, hx⟩ : ∃ x, l[k]? = some x := ⟨_, List.getElem?_eq_getElem (by have := HL1.out.1; omega)⟩
        obtain ⟨y, hy⟩ : ∃ x, m[k]? = some x := ⟨_, List.getElem?_eq_getElem (by have := HL2.out.1; omega)⟩
        obtain ⟨b, off, Ax, nx, cx, rfl, hbb, g0, g1, g2, g3, g4, g5, hv1⟩ := (H1.out.below (hbel.out.mono hB)).at_ hx
        obtain ⟨b', off', Ay, ny, cy, rfl, hbb', k0, k1, k2, k3, k4, k5, hv2⟩ := (H2.out.below (hbel.out.mono hB)).at_ hy
        have hzr := hbel.out.size
        obtain ⟨wa, hwa⟩ : ∃ wa, wa = (wr.alloc (.cells #[.string x.name, .int .i64 x.val.kind, .int .i64 x.val.int_, .int .i64 x.val.to_, .string x.val.text, .slice Ax nx cx] 58)) := ⟨_, rfl⟩
        have hal : Below wr.heap.size wr wa := by rw [hwa]; exact (Below.refl _ _).alloc (Nat.le_refl _) _
        have k0 := (hal.cell (p := ⟨b', off' + k * 6, none⟩) (by show b' < _; omega)).trans k0
        have k1 := (hal.cell (p := ⟨b', off' + k * 6 + 1, none⟩) (by show b' < _; omega)).trans k1
        have k2 := (hal.cell (p := ⟨b', off' + k * 6 + 2, none⟩) (by show b' < _; omega)).trans k2
        have k3 := (hal.cell (p := ⟨b', off' + k * 6 + 3, none⟩) (by show b' < _; omega)).trans k3
        have k4 := (hal.cell (p := ⟨b', off' + k * 6 + 4, none⟩) (by show b' < _; omega)).trans k4
        have k5 := (hal.cell (p := ⟨b', off' + k * 6 + 5, none⟩) (by show b' < _; omega)).trans k5
        have HX : Hid (∀ W, Below wr.heap.size wr W → Calls _ _ #[AP (x, .slice Ax nx cx), AP (y, .slice Ay ny cy)] W _) := fun W hW => same1_any x y Ax Ay nx cx ny cy W B (by have := hW.size; omega) (hv1.below (hW.mono (by omega))) (hv2.below (hW.mono (by omega)))
        dsimp only [AP] at HX
        have j0 : (0 : Int) ≤ (k : Int) := by omega
        have j1 : (k : Int) < (n : Int) := by omega
        have HXK := Lib.hid hx
        have HYK := Lib.hid hy
        have HAB := Lib.hid (hal.alloc hal.size (.cells #[.string y.name, .int .i64 y.val.kind, .int .i64 y.val.int_, .int .i64 y.val.to_, .string y.val.text, .slice Ay ny cy] 58))
        have HWA := Lib.hid hwa
        clear hx hy hv1 hv2 hal hwa
        obtain ⟨r, hr⟩ : ∃ r, samePr x y = r := ⟨_, rfl⟩
        simp only [hr] at HX
        have HR := Lib.hid hr
        clear hr
        go_upto_region 6 with fail
        rw [← HWA.out]
        have z0 : wa.heap.size = wr.heap.size + 1 := by rw [HWA.out]; simp
        have p0 : Blk wa wr.heap.size 58 #[.string x.name, .int .i64 x.val.kind, .int .i64 x.val.int_, .int .i64 x.val.to_, .string x.val.text, .slice Ax nx cx] := by rw [HWA.out]; exact Blk.new _ _ _
        have e0 := fun o => (p0.alloc o).cell 0
        have e1 := fun o => (p0.alloc o).cell 1
        have e2 := fun o => (p0.alloc o).cell 2
        have e3 := fun o => (p0.alloc o).cell 3
        have e4 := fun o => (p0.alloc o).cell 4
        have e5 := fun o => (p0.alloc o).cell 5
        clear g0 g1 g2 g3 g4 g5 p0
        go_wp2_with fail
        refine (HX.out _ HAB.out).mono ?_
        rintro e w2 ⟨rfl, hb2⟩
        have HB2 : Hid (Below w.heap.size w w2) := hbel.out.trans ((HAB.out.trans (hb2.mono HAB.out.size)).mono hzr)
        clear hb2
        cases r
        · have hz : V = false := by
            rw [HV.out]
            refine Bool.eq_false_iff.2 fun h => ?_
            have := eqL_at h HXK.out HYK.out
            rw [HR.out] at this
            cases this
          have HZ := Lib.hid hz
          clear hz
          go_wp2_with fail
          go_ret
          exact ⟨by rw [HZ.out]; rfl, HB2.out⟩
        · go_wp2_with fail
          go_roundg (n - (k + 1))
          case measure => omega
          case rel =>
            refine ⟨k + 1, by omega, by go_num, ?_, HB2⟩
            intro i x' y' hi h1 h2
            by_cases e : i = k
            · subst e
              obtain rfl := Option.some.inj (HXK.out.symm.trans h1)
              obtain rfl := Option.some.inj (HYK.out.symm.trans h2)
              exact HR.out
            · exact hno.out i x' y' (by omega) h1 h2
      · obtain rfl : n = k := by omega
        have hz : V = true := by
          rw [HV.out]
          exact eqL_of (by rw [← HL1.out.1, ← HL2.out.1]) fun i x y h1 h2 => hno.out i x y (by rw [HL1.out.1]; exact (List.getElem?_eq_some_iff.1 h1).1) h1 h2
        have HZ := Lib.hid hz
        clear hz
        go_wp2_with fail
        go_ret
        exact ⟨by rw [HZ.out]; rfl, hbel.out⟩
  · have hz : V = false := by
      rw [HV.out]
      refine Bool.eq_false_iff.2 fun h => hl ?_
      have := eqL_len h
      rw [h1.len.1, h2.len.1]
      exact this
    have hl' : ((n : Int) != (n' : Int)) = true := by rw [bne_iff_ne]; omega
    rw [hz]
    clear hz h1 h2
    go_enter Try.func36, Try.ntmps36
    go_wp2_with fail
    go_ret
    exact ⟨rfl, Below.refl _ _⟩
end Go.Proofs.Ytbkhnfdfdgdfkaa
