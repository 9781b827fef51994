/-
  DERIVED. The same groups: the walk of the reference's SameGroups. Conditions: sizes.
  By an AI agent.
-/
import Derived.Test.YtemngidkfgcigaaGreatDoorKa09
import Derived.Test.YtemngidkfgcigaaGreatDoorKa12
import Derived.Test.YtemngidkfgcigaaGreatDoorKa02
import Derived.StillTailTactics
namespace Go.Proofs.YtemngidkfgcigaaGreatDoor
open Go.RowKit

set_option maxHeartbeats 8000000 in
set_option maxRecDepth 100000 in
/-- the reference's SameGroups -/
theorem sameGroupsR_any (l m : List Gp) (A A' : Option Addr) (n c n' c' : Nat) (w : World) (B : Nat) (hB : B ≤ w.heap.size) (h1 : RGp w B (.slice A n c) l) (h2 : RGp w B (.slice A' n' c') m) :
    Calls Tryz.prog 5 #[.slice A n c, .slice A' n' c'] w fun e w' => e = .returned (.bool (sameGs l m)) ∧ Below w.heap.size w w' := by
  obtain ⟨V, hV⟩ : ∃ V, V = sameGs l m := ⟨_, rfl⟩
  rw [← hV]
  have HV := Lib.hid hV
  clear hV
  by_cases hl : n = n'
  case neg =>
    have hz : V = false := by
      rw [HV.out]
      refine Bool.eq_false_iff.2 fun h => hl ?_
      have := eqL_len h
      rw [h1.len.1, h2.len.1]
      exact this
    have hl' : ((n : Int) != (n' : Int)) = true := by rw [bne_iff_ne]; omega
    rw [hz]
    clear hz h1 h2
    go_enter Tryz.func5, Tryz.ntmps5
    go_wp2_with fail
    go_ret
    exact ⟨rfl, Below.refl _ _⟩
  subst hl
  have HL1 := Lib.hid h1.len
  have HL2 := Lib.hid h2.len
  have H1 := Lib.hid h1
  have H2 := Lib.hid h2
  clear h1 h2
  go_enter Tryz.func5, Tryz.ntmps5
  go_wp2_with fail
  go_loopg [13] n (fun gg s13 wr => ∃ k : Nat, k + gg = n ∧ s13 = .int .i64 (k : Int) ∧ Hid (∀ i x y, i < k → l[i]? = some x → m[i]? = some y → sameG x y = true) ∧ Hid (Below w.heap.size w wr))
  case atStart => exact ⟨0, by omega, rfl, (fun i x y hi => absurd hi (by omega)), Below.refl _ _⟩
  case round =>
    obtain ⟨k, hkg, rfl, hno, hbel⟩ := hrel
    have hbg : n * 88 ≤ 140737488351232 := HL1.out.2.2
    by_cases hk : k < n
    case neg =>
      obtain rfl : n = k := by omega
      have hz : V = true := by
        rw [HV.out]
        exact eqL_of (by rw [← HL1.out.1, ← HL2.out.1]) fun i x y h1 h2 => hno.out i x y (by rw [HL1.out.1]; exact (List.getElem?_eq_some_iff.1 h1).1) h1 h2
      have HZ := Lib.hid hz
      clear hz
      go_wp2_with fail
      go_ret
      exact ⟨by rw [HZ.out]; rfl, hbel.out⟩
    obtain ⟨x, hx⟩ : ∃ x, l[k]? = some x := ⟨_, List.getElem?_eq_getElem (by have := HL1.out.1; omega)⟩
    obtain ⟨y, hy⟩ : ∃ x, m[k]? = some x := ⟨_, List.getElem?_eq_getElem (by have := HL2.out.1; omega)⟩
    have hzr := hbel.out.size
    obtain ⟨b, off, Ax, nx, cx, Ix, ix, jx, rfl, hbb, g0, g1, g2, g3, g4, g5, hv1, hi1⟩ := (H1.out.below (hbel.out.mono hB)).at_ hx
    obtain ⟨b', off', Ay, ny, cy, Iy, iy, jy, rfl, hbb', k0, k1, k2, k3, k4, k5, hv2, hi2⟩ := (H2.out.below (hbel.out.mono hB)).at_ hy
    have HX : Hid (∀ W, Below wr.heap.size wr W → Calls _ _ #[AV (x.val, .slice Ax nx cx), AV (y.val, .slice Ay ny cy)] W _) := fun W hW => sameRef_at x.val y.val Ax Ay nx cx ny cy W B (by have := hW.size; omega) (hv1.below (hW.mono (by omega))) (hv2.below (hW.mono (by omega)))
    have HI : Hid (∀ W, Below wr.heap.size wr W → Calls Tryz.prog 17 #[.slice Ix ix jx, .slice Iy iy jy] W fun e w' => e = .returned (.bool (x.ids == y.ids)) ∧ ∃ q, w' = W.drewN q) := fun W hW => sameNumbers_any x.ids y.ids Ix Iy ix jx iy jy W B (hi1.below (hW.mono (by omega))) (hi2.below (hW.mono (by omega)))
    dsimp only [AV] at HX
    have j0 : (0 : Int) ≤ (k : Int) := by omega
    have j1 : (k : Int) < (n : Int) := by omega
    have HXK := Lib.hid hx
    have HYK := Lib.hid hy
    have hbr : b < wr.heap.size := by omega
    have hbr' : b' < wr.heap.size := by omega
    clear hx hy hv1 hv2 hi1 hi2
    obtain ⟨r1, hr1⟩ : ∃ r, sameV x.val y.val = r := ⟨_, rfl⟩
    obtain ⟨r2, hr2⟩ : ∃ r, (x.ids == y.ids) = r := ⟨_, rfl⟩
    simp only [hr1] at HX
    simp only [hr2] at HI
    have HR : Hid (sameG x y = (r1 && r2)) := by show _ = _; unfold sameG; rw [hr1, hr2]
    clear hr1 hr2
    go_upto_region 6 with fail
    cases r1
    · refine wp_region_held_drew (S := (fun w' => w'.cell? ⟨b, off + k * 6, none⟩ = some (.int .i64 x.val.kind) ∧ w'.cell? ⟨b, off + k * 6 + 1, none⟩ = some (.int .i64 x.val.int_) ∧ w'.cell? ⟨b, off + k * 6 + 2, none⟩ = some (.int .i64 x.val.to_) ∧ w'.cell? ⟨b, off + k * 6 + 3, none⟩ = some (.string x.val.text) ∧ w'.cell? ⟨b, off + k * 6 + 4, none⟩ = some (.slice Ax nx cx) ∧ w'.cell? ⟨b, off + k * 6 + 5, none⟩ = some (.slice Ix ix jx) ∧ w'.cell? ⟨b', off' + k * 6, none⟩ = some (.int .i64 y.val.kind) ∧ w'.cell? ⟨b', off' + k * 6 + 1, none⟩ = some (.int .i64 y.val.int_) ∧ w'.cell? ⟨b', off' + k * 6 + 2, none⟩ = some (.int .i64 y.val.to_) ∧ w'.cell? ⟨b', off' + k * 6 + 3, none⟩ = some (.string y.val.text) ∧ w'.cell? ⟨b', off' + k * 6 + 4, none⟩ = some (.slice Ay ny cy) ∧ w'.cell? ⟨b', off' + k * 6 + 5, none⟩ = some (.slice Iy iy jy))) (by kernel_rfl) ?_ (fun hHeld => ?_)
      · (try dsimp only); exact ⟨g0, g1, g2, g3, g4, g5, k0, k1, k2, k3, k4, k5⟩
      refine handTake (i := 0) (v := ?vn0) (d := 16) rfl (by kernel_rfl) (by kernel_rfl) (by kernel_rfl) (by kernel_rfl) (fun _ _ _ h => h) (Or.inl ⟨by kernel_rfl, ?yn0⟩) (by assumption) ?zn0
      case yn0 => intro w hSw; (try dsimp only at hSw); go_simp; try with_reducible rfl
      try simp only [List.setIfInBounds_toArray, List.set_cons_zero, List.set_cons_succ]
      refine handTake (i := 1) (v := ?vn1) (d := 17) rfl (by kernel_rfl) (by kernel_rfl) (by kernel_rfl) (by kernel_rfl) (fun _ _ _ h => h) (Or.inl ⟨by kernel_rfl, ?yn1⟩) (by assumption) ?zn1
      case yn1 => intro w hSw; (try dsimp only at hSw); go_simp; try with_reducible rfl
      try simp only [List.setIfInBounds_toArray, List.set_cons_zero, List.set_cons_succ]
      refine handTake (i := 2) (v := ?vn2) (d := 18) rfl (by kernel_rfl) (by kernel_rfl) (by kernel_rfl) (by kernel_rfl) (fun _ _ _ h => h) (Or.inl ⟨by kernel_rfl, ?yn2⟩) (by assumption) ?zn2
      case yn2 => intro w hSw; (try dsimp only at hSw); go_simp; try with_reducible rfl
      try simp only [List.setIfInBounds_toArray, List.set_cons_zero, List.set_cons_succ]
      refine handTake (i := 3) (v := ?vn3) (d := 19) rfl (by kernel_rfl) (by kernel_rfl) (by kernel_rfl) (by kernel_rfl) (fun _ _ _ h => h) (Or.inl ⟨by kernel_rfl, ?yn3⟩) (by assumption) ?zn3
      case yn3 => intro w hSw; (try dsimp only at hSw); go_simp; try with_reducible rfl
      try simp only [List.setIfInBounds_toArray, List.set_cons_zero, List.set_cons_succ]
      refine handTake (i := 4) (v := ?vn4) (d := 20) rfl (by kernel_rfl) (by kernel_rfl) (by kernel_rfl) (by kernel_rfl) (fun _ _ _ h => h) (Or.inl ⟨by kernel_rfl, ?yn4⟩) (by assumption) ?zn4
      case yn4 => intro w hSw; (try dsimp only at hSw); go_simp; try with_reducible rfl
      try simp only [List.setIfInBounds_toArray, List.set_cons_zero, List.set_cons_succ]
      refine handTake (i := 5) (v := ?vn5) (d := 21) rfl (by kernel_rfl) (by kernel_rfl) (by kernel_rfl) (by kernel_rfl) (fun _ _ _ h => h) (Or.inl ⟨by kernel_rfl, ?yn5⟩) (by assumption) ?zn5
      case yn5 => intro w hSw; (try dsimp only at hSw); go_simp; try with_reducible rfl
      try simp only [List.setIfInBounds_toArray, List.set_cons_zero, List.set_cons_succ]
      refine handTake (i := 6) (v := ?vn6) (d := 22) rfl (by kernel_rfl) (by kernel_rfl) (by kernel_rfl) (by kernel_rfl) (fun _ _ _ h => h) (Or.inl ⟨by kernel_rfl, ?yn6⟩) (by assumption) ?zn6
      case yn6 => intro w hSw; (try dsimp only at hSw); go_simp; try with_reducible rfl
      try simp only [List.setIfInBounds_toArray, List.set_cons_zero, List.set_cons_succ]
      refine handTake (i := 7) (v := ?vn7) (d := 23) rfl (by kernel_rfl) (by kernel_rfl) (by kernel_rfl) (by kernel_rfl) (fun _ _ _ h => h) (Or.inl ⟨by kernel_rfl, ?yn7⟩) (by assumption) ?zn7
      case yn7 => intro w hSw; (try dsimp only at hSw); go_simp; try with_reducible rfl
      try simp only [List.setIfInBounds_toArray, List.set_cons_zero, List.set_cons_succ]
      refine handTake (i := 8) (v := ?vn8) (d := 24) rfl (by kernel_rfl) (by kernel_rfl) (by kernel_rfl) (by kernel_rfl) (fun _ _ _ h => h) (Or.inl ⟨by kernel_rfl, ?yn8⟩) (by assumption) ?zn8
      case yn8 => intro w hSw; (try dsimp only at hSw); go_simp; try with_reducible rfl
      try simp only [List.setIfInBounds_toArray, List.set_cons_zero, List.set_cons_succ]
      refine handTake (i := 9) (v := ?vn9) (d := 25) rfl (by kernel_rfl) (by kernel_rfl) (by kernel_rfl) (by kernel_rfl) (fun _ _ _ h => h) (Or.inl ⟨by kernel_rfl, ?yn9⟩) (by assumption) ?zn9
      case yn9 => intro w hSw; (try dsimp only at hSw); go_simp; try with_reducible rfl
      try simp only [List.setIfInBounds_toArray, List.set_cons_zero, List.set_cons_succ]
      refine wpAnyH_ready (rs := [10]) (by kernel_rfl) (by simp) ?_
      refine AllReadyH.cons rfl (fun K hK => ?_) AllReadyH.nil
      go_simp
      refine (HX.out _ (Below.refl _ _).drew).mono ?_
      rintro e w2 ⟨rfl, hb2⟩
      have hb2 : Below wr.heap.size wr w2 := (Below.refl wr.heap.size wr).drew.trans hb2
      have kp : ∀ (bb oo : Nat) (u : Value), bb < wr.heap.size → wr.cell? ⟨bb, oo, none⟩ = some u → w2.cell? ⟨bb, oo, none⟩ = some u := fun bb oo u h1 h2 => (hb2.cell (p := ⟨bb, oo, none⟩) h1).trans h2
      have HB2 := Lib.hid hb2
      clear hb2
      try go_simp
      refine hK.out _ _ (⟨kp _ _ _ hbr g0, kp _ _ _ hbr g1, kp _ _ _ hbr g2, kp _ _ _ hbr g3, kp _ _ _ hbr g4, kp _ _ _ hbr g5, kp _ _ _ hbr' k0, kp _ _ _ hbr' k1, kp _ _ _ hbr' k2, kp _ _ _ hbr' k3, kp _ _ _ hbr' k4, kp _ _ _ hbr' k5⟩) (fun hHeld2 => ?_)
      clear hK K hHeld
      try simp only [Act.put, List.setIfInBounds_toArray, List.set_cons_zero, List.set_cons_succ]
      refine handTake (i := 11) (v := ?vn11) (d := 27) rfl (by kernel_rfl) (by kernel_rfl) (by kernel_rfl) (by kernel_rfl) (fun _ _ _ h => h) (Or.inl ⟨by kernel_rfl, ?yn11⟩) (by assumption) ?zn11
      case yn11 => intro w hSw; (try dsimp only at hSw); go_simp; try with_reducible rfl
      try simp only [List.setIfInBounds_toArray, List.set_cons_zero, List.set_cons_succ]
      refine handTake (i := 12) (v := ?vn12) (d := 28) rfl (by kernel_rfl) (by kernel_rfl) (by kernel_rfl) (by kernel_rfl) (fun _ _ _ h => h) (Or.inl ⟨by kernel_rfl, ?yn12⟩) (by assumption) ?zn12
      case yn12 => intro w hSw; (try dsimp only at hSw); go_simp; try with_reducible rfl
      try simp only [List.setIfInBounds_toArray, List.set_cons_zero, List.set_cons_succ]
      refine handTake (i := 13) (v := undef) (d := 29) rfl (by kernel_rfl) (by kernel_rfl) (by kernel_rfl) (by kernel_rfl) (fun _ _ _ h => h) (Or.inr ⟨by kernel_rfl, rfl⟩) (by assumption) ?_
      try simp only [List.setIfInBounds_toArray, List.set_cons_zero, List.set_cons_succ]
      refine handTake (i := 14) (v := undef) (d := 30) rfl (by kernel_rfl) (by kernel_rfl) (by kernel_rfl) (by kernel_rfl) (fun _ _ _ h => h) (Or.inr ⟨by kernel_rfl, rfl⟩) (by assumption) ?_
      try simp only [List.setIfInBounds_toArray, List.set_cons_zero, List.set_cons_succ]
      refine handTake (i := 15) (v := undef) (d := 31) rfl (by kernel_rfl) (by kernel_rfl) (by kernel_rfl) (by kernel_rfl) (fun _ _ _ h => h) (Or.inr ⟨by kernel_rfl, rfl⟩) (by assumption) ?_
      try simp only [List.setIfInBounds_toArray, List.set_cons_zero, List.set_cons_succ]
      refine handTake (i := 16) (v := undef) (d := 32) rfl (by kernel_rfl) (by kernel_rfl) (by kernel_rfl) (by kernel_rfl) (fun _ _ _ h => h) (Or.inr ⟨by kernel_rfl, rfl⟩) (by assumption) ?_
      try simp only [List.setIfInBounds_toArray, List.set_cons_zero, List.set_cons_succ]
      refine handTake (i := 17) (v := undef) (d := 33) rfl (by kernel_rfl) (by kernel_rfl) (by kernel_rfl) (by kernel_rfl) (fun _ _ _ h => h) (Or.inr ⟨by kernel_rfl, rfl⟩) (by assumption) ?_
      try simp only [List.setIfInBounds_toArray, List.set_cons_zero, List.set_cons_succ]
      refine handTake (i := 18) (v := undef) (d := 34) rfl (by kernel_rfl) (by kernel_rfl) (by kernel_rfl) (by kernel_rfl) (fun _ _ _ h => h) (Or.inr ⟨by kernel_rfl, rfl⟩) (by assumption) ?_
      try simp only [List.setIfInBounds_toArray, List.set_cons_zero, List.set_cons_succ]
      refine handTake (i := 19) (v := undef) (d := 35) rfl (by kernel_rfl) (by kernel_rfl) (by kernel_rfl) (by kernel_rfl) (fun _ _ _ h => h) (Or.inr ⟨by kernel_rfl, rfl⟩) (by assumption) ?_
      try simp only [List.setIfInBounds_toArray, List.set_cons_zero, List.set_cons_succ]
      refine handTake (i := 20) (v := undef) (d := 36) rfl (by kernel_rfl) (by kernel_rfl) (by kernel_rfl) (by kernel_rfl) (fun _ _ _ h => h) (Or.inr ⟨by kernel_rfl, rfl⟩) (by assumption) ?_
      try simp only [List.setIfInBounds_toArray, List.set_cons_zero, List.set_cons_succ]
      refine handTake (i := 21) (v := undef) (d := 37) rfl (by kernel_rfl) (by kernel_rfl) (by kernel_rfl) (by kernel_rfl) (fun _ _ _ h => h) (Or.inr ⟨by kernel_rfl, rfl⟩) (by assumption) ?_
      try simp only [List.setIfInBounds_toArray, List.set_cons_zero, List.set_cons_succ]
      refine handTake (i := 22) (v := undef) (d := 38) rfl (by kernel_rfl) (by kernel_rfl) (by kernel_rfl) (by kernel_rfl) (fun _ _ _ h => h) (Or.inr ⟨by kernel_rfl, rfl⟩) (by assumption) ?_
      try simp only [List.setIfInBounds_toArray, List.set_cons_zero, List.set_cons_succ]
      refine handTake (i := 23) (v := undef) (d := 39) rfl (by kernel_rfl) (by kernel_rfl) (by kernel_rfl) (by kernel_rfl) (fun _ _ _ h => h) (Or.inr ⟨by kernel_rfl, rfl⟩) (by assumption) ?_
      try simp only [List.setIfInBounds_toArray, List.set_cons_zero, List.set_cons_succ]
      refine handTake (i := 24) (v := undef) (d := 40) rfl (by kernel_rfl) (by kernel_rfl) (by kernel_rfl) (by kernel_rfl) (fun _ _ _ h => h) (Or.inr ⟨by kernel_rfl, rfl⟩) (by assumption) ?_
      try simp only [List.setIfInBounds_toArray, List.set_cons_zero, List.set_cons_succ]
      refine handTake (i := 25) (v := ?vn25) (d := 41) rfl (by kernel_rfl) (by kernel_rfl) (by kernel_rfl) (by kernel_rfl) (fun _ _ _ h => h) (Or.inl ⟨by kernel_rfl, ?yn25⟩) (by assumption) ?zn25
      case yn25 => intro w hSw; (try dsimp only at hSw); go_simp; try with_reducible rfl
      try simp only [List.setIfInBounds_toArray, List.set_cons_zero, List.set_cons_succ]
      refine wpAnyH_done (by kernel_rfl) ?_ _
      clear kp
      have HWN : Hid (Below w.heap.size w w2) := hbel.out.trans (HB2.out.mono hzr)
      have hz : V = false := by
        rw [HV.out]
        refine Bool.eq_false_iff.2 fun h => ?_
        have := eqL_at h HXK.out HYK.out
        rw [HR.out] at this
        cases this
      have HZ := Lib.hid hz
      clear hz g0 g1 g2 g3 g4 g5 k0 k1 k2 k3 k4 k5
      go_wp2_with fail
      go_ret
      exact ⟨by rw [HZ.out]; rfl, HWN.out⟩
    · refine wp_region_held_drew (S := (fun w' => w'.cell? ⟨b, off + k * 6, none⟩ = some (.int .i64 x.val.kind) ∧ w'.cell? ⟨b, off + k * 6 + 1, none⟩ = some (.int .i64 x.val.int_) ∧ w'.cell? ⟨b, off + k * 6 + 2, none⟩ = some (.int .i64 x.val.to_) ∧ w'.cell? ⟨b, off + k * 6 + 3, none⟩ = some (.string x.val.text) ∧ w'.cell? ⟨b, off + k * 6 + 4, none⟩ = some (.slice Ax nx cx) ∧ w'.cell? ⟨b, off + k * 6 + 5, none⟩ = some (.slice Ix ix jx) ∧ w'.cell? ⟨b', off' + k * 6, none⟩ = some (.int .i64 y.val.kind) ∧ w'.cell? ⟨b', off' + k * 6 + 1, none⟩ = some (.int .i64 y.val.int_) ∧ w'.cell? ⟨b', off' + k * 6 + 2, none⟩ = some (.int .i64 y.val.to_) ∧ w'.cell? ⟨b', off' + k * 6 + 3, none⟩ = some (.string y.val.text) ∧ w'.cell? ⟨b', off' + k * 6 + 4, none⟩ = some (.slice Ay ny cy) ∧ w'.cell? ⟨b', off' + k * 6 + 5, none⟩ = some (.slice Iy iy jy))) (by kernel_rfl) ?_ (fun hHeld => ?_)
      · (try dsimp only); exact ⟨g0, g1, g2, g3, g4, g5, k0, k1, k2, k3, k4, k5⟩
      refine handTake (i := 0) (v := ?vp0) (d := 16) rfl (by kernel_rfl) (by kernel_rfl) (by kernel_rfl) (by kernel_rfl) (fun _ _ _ h => h) (Or.inl ⟨by kernel_rfl, ?yp0⟩) (by assumption) ?zp0
      case yp0 => intro w hSw; (try dsimp only at hSw); go_simp; try with_reducible rfl
      try simp only [List.setIfInBounds_toArray, List.set_cons_zero, List.set_cons_succ]
      refine handTake (i := 1) (v := ?vp1) (d := 17) rfl (by kernel_rfl) (by kernel_rfl) (by kernel_rfl) (by kernel_rfl) (fun _ _ _ h => h) (Or.inl ⟨by kernel_rfl, ?yp1⟩) (by assumption) ?zp1
      case yp1 => intro w hSw; (try dsimp only at hSw); go_simp; try with_reducible rfl
      try simp only [List.setIfInBounds_toArray, List.set_cons_zero, List.set_cons_succ]
      refine handTake (i := 2) (v := ?vp2) (d := 18) rfl (by kernel_rfl) (by kernel_rfl) (by kernel_rfl) (by kernel_rfl) (fun _ _ _ h => h) (Or.inl ⟨by kernel_rfl, ?yp2⟩) (by assumption) ?zp2
      case yp2 => intro w hSw; (try dsimp only at hSw); go_simp; try with_reducible rfl
      try simp only [List.setIfInBounds_toArray, List.set_cons_zero, List.set_cons_succ]
      refine handTake (i := 3) (v := ?vp3) (d := 19) rfl (by kernel_rfl) (by kernel_rfl) (by kernel_rfl) (by kernel_rfl) (fun _ _ _ h => h) (Or.inl ⟨by kernel_rfl, ?yp3⟩) (by assumption) ?zp3
      case yp3 => intro w hSw; (try dsimp only at hSw); go_simp; try with_reducible rfl
      try simp only [List.setIfInBounds_toArray, List.set_cons_zero, List.set_cons_succ]
      refine handTake (i := 4) (v := ?vp4) (d := 20) rfl (by kernel_rfl) (by kernel_rfl) (by kernel_rfl) (by kernel_rfl) (fun _ _ _ h => h) (Or.inl ⟨by kernel_rfl, ?yp4⟩) (by assumption) ?zp4
      case yp4 => intro w hSw; (try dsimp only at hSw); go_simp; try with_reducible rfl
      try simp only [List.setIfInBounds_toArray, List.set_cons_zero, List.set_cons_succ]
      refine handTake (i := 5) (v := ?vp5) (d := 21) rfl (by kernel_rfl) (by kernel_rfl) (by kernel_rfl) (by kernel_rfl) (fun _ _ _ h => h) (Or.inl ⟨by kernel_rfl, ?yp5⟩) (by assumption) ?zp5
      case yp5 => intro w hSw; (try dsimp only at hSw); go_simp; try with_reducible rfl
      try simp only [List.setIfInBounds_toArray, List.set_cons_zero, List.set_cons_succ]
      refine handTake (i := 6) (v := ?vp6) (d := 22) rfl (by kernel_rfl) (by kernel_rfl) (by kernel_rfl) (by kernel_rfl) (fun _ _ _ h => h) (Or.inl ⟨by kernel_rfl, ?yp6⟩) (by assumption) ?zp6
      case yp6 => intro w hSw; (try dsimp only at hSw); go_simp; try with_reducible rfl
      try simp only [List.setIfInBounds_toArray, List.set_cons_zero, List.set_cons_succ]
      refine handTake (i := 7) (v := ?vp7) (d := 23) rfl (by kernel_rfl) (by kernel_rfl) (by kernel_rfl) (by kernel_rfl) (fun _ _ _ h => h) (Or.inl ⟨by kernel_rfl, ?yp7⟩) (by assumption) ?zp7
      case yp7 => intro w hSw; (try dsimp only at hSw); go_simp; try with_reducible rfl
      try simp only [List.setIfInBounds_toArray, List.set_cons_zero, List.set_cons_succ]
      refine handTake (i := 8) (v := ?vp8) (d := 24) rfl (by kernel_rfl) (by kernel_rfl) (by kernel_rfl) (by kernel_rfl) (fun _ _ _ h => h) (Or.inl ⟨by kernel_rfl, ?yp8⟩) (by assumption) ?zp8
      case yp8 => intro w hSw; (try dsimp only at hSw); go_simp; try with_reducible rfl
      try simp only [List.setIfInBounds_toArray, List.set_cons_zero, List.set_cons_succ]
      refine handTake (i := 9) (v := ?vp9) (d := 25) rfl (by kernel_rfl) (by kernel_rfl) (by kernel_rfl) (by kernel_rfl) (fun _ _ _ h => h) (Or.inl ⟨by kernel_rfl, ?yp9⟩) (by assumption) ?zp9
      case yp9 => intro w hSw; (try dsimp only at hSw); go_simp; try with_reducible rfl
      try simp only [List.setIfInBounds_toArray, List.set_cons_zero, List.set_cons_succ]
      refine wpAnyH_ready (rs := [10]) (by kernel_rfl) (by simp) ?_
      refine AllReadyH.cons rfl (fun K hK => ?_) AllReadyH.nil
      go_simp
      refine (HX.out _ (Below.refl _ _).drew).mono ?_
      rintro e w2 ⟨rfl, hb2⟩
      have hb2 : Below wr.heap.size wr w2 := (Below.refl wr.heap.size wr).drew.trans hb2
      have kp : ∀ (bb oo : Nat) (u : Value), bb < wr.heap.size → wr.cell? ⟨bb, oo, none⟩ = some u → w2.cell? ⟨bb, oo, none⟩ = some u := fun bb oo u h1 h2 => (hb2.cell (p := ⟨bb, oo, none⟩) h1).trans h2
      have HB2 := Lib.hid hb2
      clear hb2
      try go_simp
      refine hK.out _ _ (⟨kp _ _ _ hbr g0, kp _ _ _ hbr g1, kp _ _ _ hbr g2, kp _ _ _ hbr g3, kp _ _ _ hbr g4, kp _ _ _ hbr g5, kp _ _ _ hbr' k0, kp _ _ _ hbr' k1, kp _ _ _ hbr' k2, kp _ _ _ hbr' k3, kp _ _ _ hbr' k4, kp _ _ _ hbr' k5⟩) (fun hHeld2 => ?_)
      clear hK K hHeld
      try simp only [Act.put, List.setIfInBounds_toArray, List.set_cons_zero, List.set_cons_succ]
      refine handTake (i := 11) (v := ?vp11) (d := 27) rfl (by kernel_rfl) (by kernel_rfl) (by kernel_rfl) (by kernel_rfl) (fun _ _ _ h => h) (Or.inl ⟨by kernel_rfl, ?yp11⟩) (by assumption) ?zp11
      case yp11 => intro w hSw; (try dsimp only at hSw); go_simp; try with_reducible rfl
      try simp only [List.setIfInBounds_toArray, List.set_cons_zero, List.set_cons_succ]
      refine handTake (i := 12) (v := ?vp12) (d := 28) rfl (by kernel_rfl) (by kernel_rfl) (by kernel_rfl) (by kernel_rfl) (fun _ _ _ h => h) (Or.inl ⟨by kernel_rfl, ?yp12⟩) (by assumption) ?zp12
      case yp12 => intro w hSw; (try dsimp only at hSw); go_simp; try with_reducible rfl
      try simp only [List.setIfInBounds_toArray, List.set_cons_zero, List.set_cons_succ]
      refine handTake (i := 13) (v := ?vp13) (d := 29) rfl (by kernel_rfl) (by kernel_rfl) (by kernel_rfl) (by kernel_rfl) (fun _ _ _ h => h) (Or.inl ⟨by kernel_rfl, ?yp13⟩) (by assumption) ?zp13
      case yp13 => intro w hSw; (try dsimp only at hSw); go_simp; try with_reducible rfl
      try simp only [List.setIfInBounds_toArray, List.set_cons_zero, List.set_cons_succ]
      refine handTake (i := 14) (v := ?vp14) (d := 30) rfl (by kernel_rfl) (by kernel_rfl) (by kernel_rfl) (by kernel_rfl) (fun _ _ _ h => h) (Or.inl ⟨by kernel_rfl, ?yp14⟩) (by assumption) ?zp14
      case yp14 => intro w hSw; (try dsimp only at hSw); go_simp; try with_reducible rfl
      try simp only [List.setIfInBounds_toArray, List.set_cons_zero, List.set_cons_succ]
      refine handTake (i := 15) (v := ?vp15) (d := 31) rfl (by kernel_rfl) (by kernel_rfl) (by kernel_rfl) (by kernel_rfl) (fun _ _ _ h => h) (Or.inl ⟨by kernel_rfl, ?yp15⟩) (by assumption) ?zp15
      case yp15 => intro w hSw; (try dsimp only at hSw); go_simp; try with_reducible rfl
      try simp only [List.setIfInBounds_toArray, List.set_cons_zero, List.set_cons_succ]
      refine handTake (i := 16) (v := ?vp16) (d := 32) rfl (by kernel_rfl) (by kernel_rfl) (by kernel_rfl) (by kernel_rfl) (fun _ _ _ h => h) (Or.inl ⟨by kernel_rfl, ?yp16⟩) (by assumption) ?zp16
      case yp16 => intro w hSw; (try dsimp only at hSw); go_simp; try with_reducible rfl
      try simp only [List.setIfInBounds_toArray, List.set_cons_zero, List.set_cons_succ]
      refine handTake (i := 17) (v := ?vp17) (d := 33) rfl (by kernel_rfl) (by kernel_rfl) (by kernel_rfl) (by kernel_rfl) (fun _ _ _ h => h) (Or.inl ⟨by kernel_rfl, ?yp17⟩) (by assumption) ?zp17
      case yp17 => intro w hSw; (try dsimp only at hSw); go_simp; try with_reducible rfl
      try simp only [List.setIfInBounds_toArray, List.set_cons_zero, List.set_cons_succ]
      refine handTake (i := 18) (v := ?vp18) (d := 34) rfl (by kernel_rfl) (by kernel_rfl) (by kernel_rfl) (by kernel_rfl) (fun _ _ _ h => h) (Or.inl ⟨by kernel_rfl, ?yp18⟩) (by assumption) ?zp18
      case yp18 => intro w hSw; (try dsimp only at hSw); go_simp; try with_reducible rfl
      try simp only [List.setIfInBounds_toArray, List.set_cons_zero, List.set_cons_succ]
      refine handTake (i := 19) (v := ?vp19) (d := 35) rfl (by kernel_rfl) (by kernel_rfl) (by kernel_rfl) (by kernel_rfl) (fun _ _ _ h => h) (Or.inl ⟨by kernel_rfl, ?yp19⟩) (by assumption) ?zp19
      case yp19 => intro w hSw; (try dsimp only at hSw); go_simp; try with_reducible rfl
      try simp only [List.setIfInBounds_toArray, List.set_cons_zero, List.set_cons_succ]
      refine handTake (i := 20) (v := ?vp20) (d := 36) rfl (by kernel_rfl) (by kernel_rfl) (by kernel_rfl) (by kernel_rfl) (fun _ _ _ h => h) (Or.inl ⟨by kernel_rfl, ?yp20⟩) (by assumption) ?zp20
      case yp20 => intro w hSw; (try dsimp only at hSw); go_simp; try with_reducible rfl
      try simp only [List.setIfInBounds_toArray, List.set_cons_zero, List.set_cons_succ]
      refine handTake (i := 21) (v := ?vp21) (d := 37) rfl (by kernel_rfl) (by kernel_rfl) (by kernel_rfl) (by kernel_rfl) (fun _ _ _ h => h) (Or.inl ⟨by kernel_rfl, ?yp21⟩) (by assumption) ?zp21
      case yp21 => intro w hSw; (try dsimp only at hSw); go_simp; try with_reducible rfl
      try simp only [List.setIfInBounds_toArray, List.set_cons_zero, List.set_cons_succ]
      refine handTake (i := 22) (v := ?vp22) (d := 38) rfl (by kernel_rfl) (by kernel_rfl) (by kernel_rfl) (by kernel_rfl) (fun _ _ _ h => h) (Or.inl ⟨by kernel_rfl, ?yp22⟩) (by assumption) ?zp22
      case yp22 => intro w hSw; (try dsimp only at hSw); go_simp; try with_reducible rfl
      try simp only [List.setIfInBounds_toArray, List.set_cons_zero, List.set_cons_succ]
      refine wpAnyH_ready (rs := [23]) (by kernel_rfl) (by simp) ?_
      refine AllReadyH.cons rfl (fun K hK => ?_) AllReadyH.nil
      go_simp
      refine (HI.out _ HB2.out).mono ?_
      rintro e w3 ⟨rfl, qd, hw3⟩
      have HB3 : Hid (Below wr.heap.size wr w3) := by rw [hw3]; exact bdrew HB2.out qd
      clear hw3 kp
      have kp : ∀ (bb oo : Nat) (u : Value), bb < wr.heap.size → wr.cell? ⟨bb, oo, none⟩ = some u → w3.cell? ⟨bb, oo, none⟩ = some u := fun bb oo u h1 h2 => (HB3.out.cell (p := ⟨bb, oo, none⟩) h1).trans h2
      try go_simp
      refine hK.out _ _ (⟨kp _ _ _ hbr g0, kp _ _ _ hbr g1, kp _ _ _ hbr g2, kp _ _ _ hbr g3, kp _ _ _ hbr g4, kp _ _ _ hbr g5, kp _ _ _ hbr' k0, kp _ _ _ hbr' k1, kp _ _ _ hbr' k2, kp _ _ _ hbr' k3, kp _ _ _ hbr' k4, kp _ _ _ hbr' k5⟩) (fun hHeld3 => ?_)
      clear hK K hHeld2
      try simp only [Act.put, List.setIfInBounds_toArray, List.set_cons_zero, List.set_cons_succ]
      refine handTake (i := 24) (v := ?vp24) (d := 40) rfl (by kernel_rfl) (by kernel_rfl) (by kernel_rfl) (by kernel_rfl) (fun _ _ _ h => h) (Or.inl ⟨by kernel_rfl, ?yp24⟩) (by assumption) ?zp24
      case yp24 => intro w hSw; (try dsimp only at hSw); go_simp; try with_reducible rfl
      try simp only [List.setIfInBounds_toArray, List.set_cons_zero, List.set_cons_succ]
      refine handTake (i := 25) (v := ?vp25) (d := 41) rfl (by kernel_rfl) (by kernel_rfl) (by kernel_rfl) (by kernel_rfl) (fun _ _ _ h => h) (Or.inl ⟨by kernel_rfl, ?yp25⟩) (by assumption) ?zp25
      case yp25 => intro w hSw; (try dsimp only at hSw); go_simp; try with_reducible rfl
      try simp only [List.setIfInBounds_toArray, List.set_cons_zero, List.set_cons_succ]
      refine wpAnyH_done (by kernel_rfl) ?_ _
      clear kp
      have HWN : Hid (Below w.heap.size w w3) := hbel.out.trans (HB3.out.mono hzr)
      clear g0 g1 g2 g3 g4 g5 k0 k1 k2 k3 k4 k5
      cases r2
      · have hz : V = false := by
          rw [HV.out]
          refine Bool.eq_false_iff.2 fun h => ?_
          have := eqL_at h HXK.out HYK.out
          rw [HR.out] at this
          cases this
        have HZ := Lib.hid hz
        clear hz
        go_wp2_with fail
        go_ret
        exact ⟨by rw [HZ.out]; rfl, HWN.out⟩
      · go_wp2_with fail
        go_roundg (n - (k + 1))
        case measure => omega
        case rel =>
          refine ⟨k + 1, by omega, by go_num, ?_, HWN⟩
          intro i a' c' hi h1 h2
          by_cases e : i = k
          · subst e
            obtain rfl := Option.some.inj (HXK.out.symm.trans h1)
            obtain rfl := Option.some.inj (HYK.out.symm.trans h2)
            exact HR.out
          · exact hno.out i a' c' (by omega) h1 h2
end Go.Proofs.YtemngidkfgcigaaGreatDoor
