/-
  DERIVED. The walks of a copy's small functions on stamps and spots, program and reference. Conditions: none.
  Words that are gathered in a variable that a closure holds; the walk of that closure (numbers put as words). Conditions: sizes; the table of powers of ten is laid.
  Two words put at once into a row of words. Conditions: none.
  By an AI agent.
-/
import Derived.Test.YtinllchioeldbaaGreatDoorCa10
import Derived.Test.YtinllchioeldbaaGreatDoorCa08
import Derived.Deep.RegionHeld3
import Derived.Deep.DeepCutAuto
import Derived.Laws.StructEq
import Derived.Test.YtinllchioeldbaaGreatDoorCa11
import Derived.Test.YtinllchioeldbaaGreatDoorCa09
import Derived.OneCell
import Derived.Deep.LoopGhost
namespace Go.Proofs.YtinllchioeldbaaGreatDoor
open Go.RowKit

def stA (s : Stp) : Value := .agg #[.int .i64 s.time, .int .i64 s.cp]
def spA (x : Spt) : Value := .agg #[.int .i64 x.st.time, .int .i64 x.st.cp, .int .i64 x.at_]
/-- three ways -/
def cmpS (a b : Stp) : Int := orI (c3 a.time b.time) (c3 a.cp b.cp)
def cmpP (a b : Spt) : Int := orI (cmpS a.st b.st) (c3 a.at_ b.at_)
theorem c3n_iff {a b : Int} : (c3 a b < 0) ↔ a < b := by unfold c3; repeat' split <;> omega
theorem c3z_iff {a b : Int} : (c3 a b = 0) ↔ a = b := by unfold c3; repeat' split <;> omega
theorem cmpS_neg (a b : Stp) : decide (cmpS a b < 0) = befS a b := by
  unfold cmpS orI befS
  by_cases h : c3 a.time b.time = 0
  · rw [if_pos h]
    have := c3z_iff.1 h
    rw [Bool.eq_iff_iff]
    simp [c3n_iff, this]
  · rw [if_neg h]
    have h' : a.time ≠ b.time := fun e => h (c3z_iff.2 e)
    rw [Bool.eq_iff_iff]
    simp [c3n_iff, h']
theorem cmpS_zero (a b : Stp) : cmpS a b = 0 ↔ a.time = b.time ∧ a.cp = b.cp := by
  unfold cmpS orI
  by_cases h : c3 a.time b.time = 0
  · rw [if_pos h]
    have := c3z_iff.1 h
    simp [c3z_iff, this]
  · rw [if_neg h]
    have h' : a.time ≠ b.time := fun e => h (c3z_iff.2 e)
    simp [h, h']
theorem cmpP_neg (a b : Spt) : decide (0 ≤ cmpP a b) = !sptLt a b := by
  have e : (cmpP a b < 0) ↔ sptLt a b = true := by
    unfold cmpP orI sptLt
    by_cases h : cmpS a.st b.st = 0
    · rw [if_pos h]
      have h1 : befS a.st b.st = false := by rw [← cmpS_neg, h]; rfl
      have h2 := (cmpS_zero _ _).1 h
      simp [c3n_iff, h1, h2.1, h2.2]
    · rw [if_neg h]
      have h1 := cmpS_neg a.st b.st
      by_cases h3 : cmpS a.st b.st < 0
      · rw [decide_eq_true h3] at h1
        simp [h3, ← h1]
      · rw [decide_eq_false h3] at h1
        have h4 : ¬ (a.st.time = b.st.time ∧ a.st.cp = b.st.cp) := fun q => h ((cmpS_zero _ _).2 q)
        simp only [h3, ← h1, Bool.false_or, Bool.and_eq_true, beq_iff_eq, decide_eq_true_eq, false_iff]
        exact fun q => h4 q.1
  rw [Bool.eq_iff_iff]
  simp only [decide_eq_true_eq, Bool.not_eq_true', ← Bool.not_eq_true, ← e]
  omega

theorem outsideC_any (n a b : Int) (w : World) :
    Calls Tryz.prog 14 #[.int .i64 n, .int .i64 a, .int .i64 b] w fun e w' => e = .returned (.bool (outI n a b)) ∧ w' = w := by
  unfold outI
  by_cases h1 : n < a
  · rw [decide_eq_true (.inl h1)]
    go_enter Tryz.func14, Tryz.ntmps14
    go_wp2
    go_ret
    exact ⟨rfl, rfl⟩
  · by_cases h2 : b < n
    · rw [decide_eq_true (.inr h2)]
      go_enter Tryz.func14, Tryz.ntmps14
      go_wp2
      go_ret
      exact ⟨rfl, rfl⟩
    · rw [decide_eq_false (by omega)]
      go_enter Tryz.func14, Tryz.ntmps14
      go_wp2
      go_ret
      exact ⟨rfl, rfl⟩
theorem inRangeO_any (n a b : Int) (w : World) :
    Calls Tryz.prog 21 #[.int .i64 n, .int .i64 a, .int .i64 b] w fun e w' => e = .returned (.bool (!outI n a b)) ∧ w' = w := by
  refine (inRange_any n a b w).mono ?_
  rintro e w' ⟨rfl, rfl⟩
  refine ⟨?_, rfl⟩
  congr 2
  unfold outI
  rw [Bool.eq_iff_iff]
  simp

set_option maxHeartbeats 1000000 in
theorem compareStamps_any (a b : Stp) (w : World) : Calls Tryz.prog 11 #[stA a, stA b] w fun e w' => e = .returned (.int .i64 (cmpS a b)) ∧ Below w.heap.size w w' := by
  obtain ⟨n, t⟩ := a
  obtain ⟨n', t'⟩ := b
  dsimp only [stA, cmpS]
  go_enter Tryz.func11, Tryz.ntmps11
  go_upto_region 1 with fail
  go_region_held3 (fun w' => w'.cell? ⟨w.heap.size, 0, none⟩ = some (.int .i64 n) ∧ w'.cell? ⟨w.heap.size, 1, none⟩ = some (.int .i64 t) ∧ w'.cell? ⟨w.heap.size + 1, 0, none⟩ = some (.int .i64 n') ∧ w'.cell? ⟨w.heap.size + 1, 1, none⟩ = some (.int .i64 t'))
    (go_keep)
    (first
      | (go_at_call_of 37 (Value.int .i64 n); refine (cmpInt_any n n' _).mono ?_; rintro e w1 ⟨rfl, rfl⟩)
      | (go_at_call_of 37 (Value.int .i64 t); refine (cmpInt_any t t' _).mono ?_; rintro e w1 ⟨rfl, rfl⟩)
      | (go_at_call 36; refine (or_two (c3 n n') (c3 t t') _ _ _ ?_ ?_).mono ?_; (rw [World.cell?_drew, World.cell?_alloc_at _ _ _ _ (by simp)]; rfl); (rw [World.cell?_drew, World.cell?_alloc_at _ _ _ _ (by simp)]; rfl); rintro e w1 ⟨rfl, rfl⟩))
  all_goals go_wp2
  all_goals go_ret
  all_goals exact ⟨rfl, ((((Below.refl _ _).alloc (Nat.le_refl _) _).alloc (by simp) _).alloc (by simp <;> omega) _).drew⟩

set_option maxHeartbeats 1000000 in
theorem compareSpots_any (a b : Spt) (w : World) : Calls Tryz.prog 41 #[spA a, spA b] w fun e w' => e = .returned (.int .i64 (cmpP a b)) ∧ Below w.heap.size w w' := by
  obtain ⟨⟨n, t⟩, p⟩ := a
  obtain ⟨⟨n', t'⟩, p'⟩ := b
  have HCS := Lib.hid fun W => compareStamps_any ⟨n, t⟩ ⟨n', t'⟩ W
  dsimp only [spA, cmpP, stA] at HCS ⊢
  obtain ⟨q, hq⟩ : ∃ q, q = cmpS ⟨n, t⟩ ⟨n', t'⟩ := ⟨_, rfl⟩
  rw [← hq] at HCS ⊢
  clear hq
  go_enter Tryz.func41, Tryz.ntmps41
  go_upto_region 1 with fail
  obtain ⟨X, hX⟩ : ∃ X, X = ((w.alloc (.cells #[.int .i64 n, .int .i64 t, .int .i64 p] 27)).alloc (.cells #[.int .i64 n', .int .i64 t', .int .i64 p'] 27)) := ⟨_, rfl⟩
  have k0 : Blk X w.heap.size 27 #[.int .i64 n, .int .i64 t, .int .i64 p] := by rw [hX]; exact (Blk.new w _ _).alloc _
  have k1 : Blk X (w.heap.size + 1) 27 #[.int .i64 n', .int .i64 t', .int .i64 p'] := by
    rw [hX]
    have h := Blk.new (w.alloc (.cells #[.int .i64 n, .int .i64 t, .int .i64 p] 27)) 27 #[.int .i64 n', .int .i64 t', .int .i64 p']
    simpa only [World.size_alloc] using h
  have hbX : Below w.heap.size w X := by rw [hX]; exact ((Below.refl _ _).alloc (Nat.le_refl _) _).alloc (by simp <;> omega) _
  have hzX : w.heap.size + 1 < X.heap.size := k1.lt
  rw [← hX]
  clear hX
  have d0 : X.cell? ⟨w.heap.size, 0, none⟩ = some (.int .i64 n) := k0.cell 0
  have d1 : X.cell? ⟨w.heap.size, 1, none⟩ = some (.int .i64 t) := k0.cell 1
  have d2 : X.cell? ⟨w.heap.size, 2, none⟩ = some (.int .i64 p) := k0.cell 2
  have d3 : X.cell? ⟨w.heap.size + 1, 0, none⟩ = some (.int .i64 n') := k1.cell 0
  have d4 : X.cell? ⟨w.heap.size + 1, 1, none⟩ = some (.int .i64 t') := k1.cell 1
  have d5 : X.cell? ⟨w.heap.size + 1, 2, none⟩ = some (.int .i64 p') := k1.cell 2
  have e0 : X.drew.cell? ⟨w.heap.size, 0, none⟩ = some (.int .i64 n) := k0.cell 0
  have e1 : X.drew.cell? ⟨w.heap.size, 1, none⟩ = some (.int .i64 t) := k0.cell 1
  have e2 : X.drew.cell? ⟨w.heap.size, 2, none⟩ = some (.int .i64 p) := k0.cell 2
  have e3 : X.drew.cell? ⟨w.heap.size + 1, 0, none⟩ = some (.int .i64 n') := k1.cell 0
  have e4 : X.drew.cell? ⟨w.heap.size + 1, 1, none⟩ = some (.int .i64 t') := k1.cell 1
  have e5 : X.drew.cell? ⟨w.heap.size + 1, 2, none⟩ = some (.int .i64 p') := k1.cell 2
  go_region_held3 (fun w' => w'.cell? ⟨w.heap.size, 0, none⟩ = some (.int .i64 n) ∧ w'.cell? ⟨w.heap.size, 1, none⟩ = some (.int .i64 t) ∧ w'.cell? ⟨w.heap.size, 2, none⟩ = some (.int .i64 p) ∧ w'.cell? ⟨w.heap.size + 1, 0, none⟩ = some (.int .i64 n') ∧ w'.cell? ⟨w.heap.size + 1, 1, none⟩ = some (.int .i64 t') ∧ w'.cell? ⟨w.heap.size + 1, 2, none⟩ = some (.int .i64 p'))
    (first | with_reducible exact ⟨d0, d1, d2, d3, d4, d5⟩ | with_reducible exact ⟨e0, e1, e2, e3, e4, e5⟩ | with_reducible exact ⟨t0, t1, t2, t3, t4, t5⟩ | with_reducible exact ⟨z0 _, z1 _, z2 _, z3 _, z4 _, z5 _⟩)
    (first
      | (go_at_call 11; refine (HCS.out X.drew).mono ?_; rintro e w1 ⟨rfl, hb1⟩; have m0 := k0.drew.below hb1 (by show _ < X.heap.size; omega); have m1 := k1.drew.below hb1 (by show _ < X.heap.size; omega); have g1 := hbX.drew.trans (hb1.mono (B' := w.heap.size) (by show _ ≤ X.heap.size; omega)); have s0 := m0.lt; have s1 := m1.lt; have t0 : w1.cell? ⟨w.heap.size, 0, none⟩ = some (.int .i64 n) := m0.cell 0; have t1 : w1.cell? ⟨w.heap.size, 1, none⟩ = some (.int .i64 t) := m0.cell 1; have t2 : w1.cell? ⟨w.heap.size, 2, none⟩ = some (.int .i64 p) := m0.cell 2; have t3 : w1.cell? ⟨w.heap.size + 1, 0, none⟩ = some (.int .i64 n') := m1.cell 0; have t4 : w1.cell? ⟨w.heap.size + 1, 1, none⟩ = some (.int .i64 t') := m1.cell 1; have t5 : w1.cell? ⟨w.heap.size + 1, 2, none⟩ = some (.int .i64 p') := m1.cell 2; have z0 : ∀ o, (w1.alloc o).cell? ⟨w.heap.size, 0, none⟩ = some (.int .i64 n) := fun o => (World.cell?_alloc_lt _ _ _ s0).trans t0; have z1 : ∀ o, (w1.alloc o).cell? ⟨w.heap.size, 1, none⟩ = some (.int .i64 t) := fun o => (World.cell?_alloc_lt _ _ _ s0).trans t1; have z2 : ∀ o, (w1.alloc o).cell? ⟨w.heap.size, 2, none⟩ = some (.int .i64 p) := fun o => (World.cell?_alloc_lt _ _ _ s0).trans t2; have z3 : ∀ o, (w1.alloc o).cell? ⟨w.heap.size + 1, 0, none⟩ = some (.int .i64 n') := fun o => (World.cell?_alloc_lt _ _ _ s1).trans t3; have z4 : ∀ o, (w1.alloc o).cell? ⟨w.heap.size + 1, 1, none⟩ = some (.int .i64 t') := fun o => (World.cell?_alloc_lt _ _ _ s1).trans t4; have z5 : ∀ o, (w1.alloc o).cell? ⟨w.heap.size + 1, 2, none⟩ = some (.int .i64 p') := fun o => (World.cell?_alloc_lt _ _ _ s1).trans t5; clear hb1 s0 s1)
      | (go_at_call 37; refine (cmpInt_any p p' _).mono ?_; rintro e w9 ⟨rfl, rfl⟩)
      | (go_at_call 36; refine (or_two q (c3 p p') _ _ _ ?_ ?_).mono ?_; (first | (rw [World.cell?_alloc_at _ _ _ _ (by simp)]; rfl) | (rw [World.cell?_drew, World.cell?_alloc_at _ _ _ _ (by simp)]; rfl)); (first | (rw [World.cell?_alloc_at _ _ _ _ (by simp)]; rfl) | (rw [World.cell?_drew, World.cell?_alloc_at _ _ _ _ (by simp)]; rfl)); rintro e w8 ⟨rfl, rfl⟩))
  all_goals go_wp2
  all_goals go_ret
  all_goals exact ⟨rfl, g1.alloc g1.size _⟩

set_option maxHeartbeats 1000000 in
theorem before_any' (a b : Stp) (w : World) : Calls Tryz.prog 4 #[stA a, stA b] w fun e w' => e = .returned (.bool (befS a b)) ∧ Below w.heap.size w w' := by
  have HCS := Lib.hid fun W => compareStamps_any a b W
  have hres := cmpS_neg a b
  dsimp only [stA] at HCS ⊢
  obtain ⟨r, hr⟩ : ∃ r, r = befS a b := ⟨_, rfl⟩
  rw [← hr] at hres ⊢
  obtain ⟨q, hq⟩ : ∃ q, q = cmpS a b := ⟨_, rfl⟩
  rw [← hq] at HCS hres
  subst hres
  clear hq hr
  go_enter Tryz.func4, Tryz.ntmps4
  go_wp2_with fail
  refine (HCS.out _).mono ?_
  rintro e w1 ⟨rfl, hb⟩
  have HB : Hid (Below w.heap.size w w1) := by first | exact hb | exact (((Below.refl _ _).alloc (Nat.le_refl _) _).alloc (by simp) _).trans (hb.mono (by simp <;> omega))
  clear hb
  go_wp2_with fail
  go_ret
  exact ⟨rfl, HB.out⟩

def stE (s : Stp) : Int := match stOk s with | true => 0 | false => 2
theorem stE_yes {s : Stp} (h : stOk s = true) : stE s = 0 := by unfold stE; rw [h]
theorem stE_no {s : Stp} (h : stOk s = false) : stE s = 2 := by unfold stE; rw [h]
set_option maxHeartbeats 1000000 in
theorem checkStamp_any (s : Stp) (w : World) : Calls Tryz.prog 12 #[stA s] w fun e w' => e = .returned (.int .i64 (stE s)) ∧ Below w.heap.size w w' := by
  obtain ⟨n, t⟩ := s
  have H1 := Lib.hid fun W => outsideC_any n 1 1000000000 W
  have H2 := Lib.hid fun W => outsideC_any t 0 15 W
  have hE : ∀ p q, outI n 1 1000000000 = p → outI t 0 15 = q → stE ⟨n, t⟩ = match (!p && !q) with | true => 0 | false => 2 := by
    intro p q hp hq
    subst hp hq
    rfl
  obtain ⟨E, he⟩ : ∃ E, E = stE ⟨n, t⟩ := ⟨_, rfl⟩
  rw [← he] at hE
  rw [← he]
  dsimp only [stA]
  obtain ⟨p, hp⟩ : ∃ q, q = outI n 1 1000000000 := ⟨_, rfl⟩
  obtain ⟨q, hq⟩ : ∃ q, q = outI t 0 15 := ⟨_, rfl⟩
  have HE := Lib.hid (hE p q hp.symm hq.symm)
  rw [← hp] at H1
  rw [← hq] at H2
  clear hp hq hE he
  go_enter Tryz.func12, Tryz.ntmps12
  cases p
  · go_wp2_with fail
    refine (H1.out _).mono ?_
    rintro e w1 ⟨rfl, rfl⟩
    go_wp2_with fail
    refine (H2.out _).mono ?_
    rintro e w1 ⟨rfl, rfl⟩
    cases q
    all_goals
      go_wp2_with fail
      go_ret
      exact ⟨by rw [HE.out]; rfl, (Below.refl _ _).alloc (Nat.le_refl _) _⟩
  · go_wp2_with fail
    refine (H1.out _).mono ?_
    rintro e w1 ⟨rfl, rfl⟩
    go_wp2_with fail
    go_ret
    exact ⟨by rw [HE.out]; rfl, (Below.refl _ _).alloc (Nat.le_refl _) _⟩

set_option maxHeartbeats 1000000 in
theorem rightSpot_any (x : Spt) (s : Stp) (w : World) : Calls Tryz.prog 40 #[spA x, stA s] w fun e w' => e = .returned (.bool (sptOk x s)) ∧ Below w.heap.size w w' := by
  obtain ⟨⟨n, t⟩, p⟩ := x
  obtain ⟨n', t'⟩ := s
  have H1 := Lib.hid fun W => checkStamp_any ⟨n, t⟩ W
  have H2 := Lib.hid fun W => before_any' ⟨n, t⟩ ⟨n', t'⟩ W
  have H3 := Lib.hid fun W => outsideC_any p 0 2000 W
  dsimp only [stA, spA, sptOk] at H1 H2 ⊢
  obtain ⟨q1, h1⟩ : ∃ q, q = stOk ⟨n, t⟩ := ⟨_, rfl⟩
  obtain ⟨q2, h2⟩ : ∃ q, q = befS ⟨n, t⟩ ⟨n', t'⟩ := ⟨_, rfl⟩
  obtain ⟨q3, h3⟩ : ∃ q, q = outI p 0 2000 := ⟨_, rfl⟩
  rw [← h1, ← h2, ← h3]
  rw [← h2] at H2
  rw [← h3] at H3
  clear h2 h3
  go_enter Tryz.func40, Tryz.ntmps40
  go_upto_region 1 with fail
  have hb0 : Below w.heap.size w ((w.alloc (.cells #[.int .i64 n, .int .i64 t, .int .i64 p] 27)).alloc (.cells #[.int .i64 n', .int .i64 t'] 23)) := ((Below.refl _ _).alloc (Nat.le_refl _) _).alloc (by simp <;> omega) _
  have k0 := (Blk.new w 27 #[.int .i64 n, .int .i64 t, .int .i64 p]).alloc (.cells #[.int .i64 n', .int .i64 t'] 23)
  have k1 := Blk.new (w.alloc (.cells #[.int .i64 n, .int .i64 t, .int .i64 p] 27)) 23 #[.int .i64 n', .int .i64 t']
  rw [show (w.alloc (.cells #[.int .i64 n, .int .i64 t, .int .i64 p] 27)).heap.size = w.heap.size + 1 from Array.size_push _] at k1
  generalize ((w.alloc (.cells #[.int .i64 n, .int .i64 t, .int .i64 p] 27)).alloc (.cells #[.int .i64 n', .int .i64 t'] 23)) = X at hb0 k0 k1 ⊢
  have c0 := fun i => k0.cell i
  have c1 := fun i => k1.cell i
  have HK := Lib.hid (And.intro k0 (And.intro k1 hb0))
  clear k0 k1 hb0
  cases q1
  · rw [stE_no h1.symm] at H1
    clear h1
    go_wp2_with fail
    refine (H1.out _).mono ?_
    rintro e w1 ⟨rfl, hb1⟩
    have HB : Hid (Below w.heap.size w w1) := HK.out.2.2.trans (hb1.mono HK.out.2.2.size)
    clear hb1
    go_wp2_with fail
    go_ret
    exact ⟨rfl, HB.out⟩
  · rw [stE_yes h1.symm] at H1
    clear h1
    go_wp2_with fail
    refine (H1.out _).mono ?_
    rintro e w1 ⟨rfl, hb1⟩
    have HB : Hid (Below w.heap.size w w1) := HK.out.2.2.trans (hb1.mono HK.out.2.2.size)
    have m0 := HK.out.1.below hb1 HK.out.1.lt
    have m1 := HK.out.2.1.below hb1 HK.out.2.1.lt
    have d0 := fun i => m0.cell i
    have d1 := fun i => m1.cell i
    have HM := Lib.hid m0
    clear hb1 c0 c1 m0 m1
    go_wp2_with fail
    refine (H2.out _).mono ?_
    rintro e w2 ⟨rfl, hb2⟩
    have HB2 : Hid (Below w.heap.size w w2) := HB.out.trans (hb2.mono HB.out.size)
    have m0 := HM.out.below hb2 HM.out.lt
    have c0 := fun i => m0.cell i
    clear hb2 d0 d1 m0
    cases q2
    · go_wp2_with fail
      go_ret
      exact ⟨rfl, HB2.out⟩
    · go_wp2_with fail
      refine (H3.out _).mono ?_
      rintro e w3 ⟨rfl, rfl⟩
      go_wp2_with fail
      go_ret
      exact ⟨by simp, HB2.out⟩
end Go.Proofs.YtinllchioeldbaaGreatDoor
namespace Go.Proofs.YtinllchioeldbaaGreatDoor
open Go.RowKit

/-- the words lie in a row of the call's own, in the variable of block gw; what lay in X is as it was -/
structure WSr (gw : Nat) (X wr : World) (L : List ByteArray) : Prop where
  ex : ∃ v, Blk wr gw 62 #[v] ∧ wr.ownsRow X.heap.size 9 1 v L.length (L.map .string) ∧ v.ownBlock ≠ some gw
  ge : X.heap.size ≤ gw
  below : Below X.heap.size X wr
section
variable {gw : Nat} {X wr w2 : World} {L : List ByteArray}
theorem WSr.lt (h : WSr gw X wr L) : gw < wr.heap.size := by
  obtain ⟨v, hb, _⟩ := h.ex
  exact hb.lt
theorem WSr.step (h : WSr gw X wr L) (hb : Below wr.heap.size wr w2) : WSr gw X w2 L := by
  obtain ⟨v, h1, h2, h3⟩ := h.ex
  exact ⟨⟨v, h1.below hb h1.lt, own_below h2 hb, h3⟩, h.ge, h.below.trans (hb.mono h.below.size)⟩
theorem WSr.push {v v2 : Value} {w3 w6 : World} {T : ByteArray} (h : WSr gw X wr L) (hb : Blk wr gw 62 #[v]) (hv : v.ownBlock ≠ some gw) (hs : Below wr.heap.size wr w3)
    (hown : w6.ownsRow X.heap.size 9 1 v2 (L.length + 1) (L.map .string ++ [.string T])) (hg : w3.grownBy w6 v.ownBlock) (hv2 : v2.ownBlock = v.ownBlock ∨ v2.ownBlock = some w3.heap.size) (hvl : ∀ g, v.ownBlock = some g → X.heap.size ≤ g) :
    (w6.cell? ⟨gw, 0, none⟩ = some v ∧ w6.frozen? ⟨gw, 0, none⟩ = false) ∧ WSr gw X (w6.setCell ⟨gw, 0, none⟩ v2) (L ++ [T]) := by
  have hb3 := hb.below hs hb.lt
  have hb6 := hb3.grown hg (fun e => hv e.symm)
  have hlt : gw < w3.heap.size := Nat.lt_of_lt_of_le hb.lt hs.size
  have hn2 : v2.ownBlock ≠ some gw := by
    rcases hv2 with e | e
    · rw [e]; exact hv
    · rw [e]; intro q; injection q with q; omega
  refine ⟨⟨hb6.cell 0, hb6.frozen 0⟩, ⟨v2, ?_, ?_, hn2⟩, h.ge, ?_⟩
  · exact hb6.set_ 0 v2
  · rw [List.length_append, List.map_append]
    exact ownsRow_setCell_other (a := ⟨gw, 0, none⟩) hown hn2 v2
  · have h3 : Below X.heap.size X w3 := h.below.trans (hs.mono h.below.size)
    exact (h3.grown hg h3.size hvl).setCell (p := ⟨gw, 0, none⟩) h.ge v2
end

theorem row_one (W : World) (T : ByteArray) : Reads (W.alloc (.cells #[.string T] 9)) (W.heap.size + 1) 1 (some ⟨W.heap.size, 0, none⟩) 1 [.string T] := ⟨rfl, fun _ => ⟨_, rfl, Nat.lt_succ_self _, fun j u hu => by
  obtain rfl : j = 0 := by
    rcases Nat.lt_or_ge j 1 with h | h
    · omega
    · rw [List.getElem?_eq_none (by simpa using h)] at hu; cases hu
  simp at hu
  subst hu
  rw [Addr.add_lit]
  exact World.cell?_alloc_mark W #[.string T] 9 (0, 0) 0⟩⟩

set_option maxHeartbeats 4000000 in
set_option maxRecDepth 100000 in
/-- the closure that puts numbers as words -/
theorem put_any (gw gI c : Nat) (xs : List Int) (L : List ByteArray) (X w : World) (hW : WSr gw X w L) (hI : Blk w gI 3 (xs.map (.int .i64)).toArray) (_hIX : X.heap.size ≤ gI) (hP : Pow X) (hL : L.length ≤ 100000) (hx3 : xs.length ≤ 1000) (hx : ∀ x ∈ xs, I64 x) :
    Calls Tryz.prog 50 #[.slice (some ⟨gI, 0, none⟩) xs.length c, .pointer (some ⟨gw, 0, none⟩)] w fun e w' => e = .returned (.tuple #[]) ∧ WSr gw X w' (L ++ xs.map wd) := by
  obtain ⟨i0, hi, hi0, hi1, hi2⟩ := info_parts str_info
  have HW := Lib.hid hW
  have HI := Lib.hid hI
  have HX := Lib.hid hx
  obtain ⟨n, hn⟩ : ∃ n, n = xs.length := ⟨_, rfl⟩
  rw [← hn] at hx3 ⊢
  have HN := Lib.hid hn
  clear hW hI hx hn
  go_enter Tryz.func50, Tryz.ntmps50
  go_wp2_with fail
  go_loopg [7] n (fun gg s7 wr => ∃ k : Nat, ∃ L2 : List ByteArray, k + gg = n ∧ s7 = .int .i64 (k : Int) ∧ Hid (L2 = L ++ (xs.take k).map wd) ∧ Hid (WSr gw X wr L2) ∧ Hid (Blk wr gI 3 (xs.map (.int .i64)).toArray))
  case atStart => exact ⟨0, L, by omega, rfl, by show L = L ++ _; simp, HW, HI⟩
  case round =>
    obtain ⟨k, L2, hkg, rfl, hL2, hws, hbi⟩ := hrel
    by_cases hk : k < n
    · have hkl : k < xs.length := by have := HN.out; omega
      obtain ⟨x, hx⟩ : ∃ x, xs[k]? = some x := ⟨_, List.getElem?_eq_getElem hkl⟩
      have hxi := HX.out x (List.mem_of_getElem? hx)
      have g0 : wr.cell? ⟨gI, k, none⟩ = some (.int .i64 x) := by
        rw [hbi.out.cell k, List.getElem?_toArray, List.getElem?_map, hx]
        rfl
      have HL3 : Hid (L2 ++ [wd x] = L ++ (xs.take (k + 1)).map wd) := by
        show _ = _
        rw [hL2.out, List.take_add_one, hx]
        simp
      have hlen : L2.length ≤ 101000 := by
        rw [hL2.out, List.length_append, List.length_map, List.length_take]
        omega
      obtain ⟨v, hbv, hov, hvn⟩ := hws.out.ex
      have c0 : wr.cell? ⟨gw, 0, none⟩ = some v := hbv.cell 0
      have c0d : wr.drew.cell? ⟨gw, 0, none⟩ = some v := c0
      have hPW : Pow wr := hP.below hws.out.below
      have HIT := Lib.hid (itoaN_any x hxi.1 hxi.2 wr.drew (hPW.below (Below.refl _ _).drew))
      obtain ⟨T, hT⟩ : ∃ T, T = wd x := ⟨_, rfl⟩
      rw [← hT] at HIT HL3
      have j0 : (0 : Int) ≤ (k : Int) := by omega
      have j1 : (k : Int) < (n : Int) := by omega
      obtain ⟨A, cc, rfl⟩ : ∃ A cc, v = .slice A L2.length cc := by
        obtain ⟨A, cc, e, _⟩ := own_reads hov
        exact ⟨A, cc, e⟩
      have hvl := fun g hg => (own_block_lt hov g hg).1
      have HVL := Lib.hid hvl
      have HBV := Lib.hid hbv
      have HOV := Lib.hid hov
      have HVN := Lib.hid hvn
      have hzX := hws.out.below.size
      have hgl := hws.out.lt
      clear hT hx hxi hbv hov hvn hvl hPW
      go_wp2_with fail
      go_region_law (first
        | (refine step_append_any _ (by rfl) _ _ _ (by rfl) X.heap.size 9 i0 (.string .empty) 1 16 Tryz.underlying62 hi hi0 hi1 hi2 rfl (by decide) _ L2.length _ (by rfl) HOA.out (w5.heap.size + 1) (some ⟨w5.heap.size, 0, none⟩) 1 1 [.string T] (by rfl) HRD.out HONE.out (by unfold maxLen; omega) (by omega) (by simp; omega) ?_; intro v7 w7 hown7 hg7 hv7; have h77 := hws.out.push HBV.out HVN.out HS5.out hown7 hg7 hv7 HVL.out; have s1 := h77.1.1; have s2 := h77.1.2; have HW7 := Lib.hid h77.2; obtain ⟨A7, c7, rfl⟩ : ∃ A cc, v7 = .slice A (L2.length + 1) cc := (by obtain ⟨A, cc, e, _⟩ := own_reads hown7; exact ⟨A, cc, e⟩); have HB7 := Lib.hid ((((hbi.out.below HS5.out hbi.out.lt).grown hg7 (fun e => own_blk_ne HOA.out (hbi.out.below HS5.out hbi.out.lt) (by decide) e.symm)).far (p := ⟨gw, 0, none⟩) (hbi.out.ne_ HBV.out (by decide)) (.slice A7 (L2.length + 1) c7))); clear h77 hown7 hg7 hv7)
        | (go_simp; go_at_call 48; refine HIT.out.mono ?_; rintro e w5 ⟨rfl, hb5⟩; have HB5 : Hid (Below wr.heap.size wr w5) := (Below.refl _ _).drew.trans hb5; have hz5 : X.heap.size ≤ w5.heap.size := Nat.le_trans hzX HB5.out.size; have c5 : w5.cell? ⟨gw, 0, none⟩ = some (.slice A L2.length cc) := (HB5.out.cell (p := ⟨gw, 0, none⟩) hgl).trans c0; have hgl5 : gw < w5.heap.size := Nat.lt_of_lt_of_le hgl HB5.out.size; have c5a : ∀ o, (w5.alloc o).cell? ⟨gw, 0, none⟩ = some (.slice A L2.length cc) := (fun o => (World.cell?_alloc_lt _ _ _ hgl5).trans c5); have HS5 : Hid (Below wr.heap.size wr (w5.alloc (.cells #[.string T] 9))) := HB5.out.alloc HB5.out.size _; have HOA := Lib.hid (own_below HOV.out HS5.out); have HRD := Lib.hid (row_one w5 T); have HONE : Hid (∀ u ∈ [Value.string T], u.oneCell' = true) := str_one T; clear hb5))
      all_goals
        go_wp2_with fail
        go_roundg (n - (k + 1))
        case measure => omega
        case rel => exact ⟨k + 1, L2 ++ [T], by omega, by go_num, HL3, HW7, HB7⟩
    · obtain rfl : k = n := by omega
      have ht : xs.take k = xs := List.take_of_length_le (by rw [← HN.out]; exact Nat.le_refl _)
      rw [ht] at hL2
      have HF : Hid (WSr gw X wr (L ++ xs.map wd)) := by rw [← hL2.out]; exact hws
      go_wp2_with fail
      go_end0
      exact ⟨rfl, HF.out⟩
end Go.Proofs.YtinllchioeldbaaGreatDoor
namespace Go.Proofs.YtinllchioeldbaaGreatDoor
open Go.RowKit

theorem row_two (W : World) (T U : ByteArray) : Reads (W.alloc (.cells #[.string T, .string U] 9)) (W.heap.size + 1) 1 (some ⟨W.heap.size, 0, none⟩) 2 [.string T, .string U] := ⟨rfl, fun _ => ⟨_, rfl, Nat.lt_succ_self _, fun j u hu => by
  have hk := World.cell?_alloc_mark W #[.string T, .string U] 9 (0, 0)
  rcases j with _ | _ | j
  · simp at hu
    subst hu
    exact hk 0
  · simp at hu
    subst hu
    exact hk 1
  · simp at hu⟩⟩
theorem str_two (T U : ByteArray) : ∀ u ∈ [Value.string T, .string U], u.oneCell' = true := by
  intro u hu
  simp only [List.mem_cons, List.not_mem_nil, or_false] at hu
  rcases hu with rfl | rfl <;> rfl
theorem WSr.pushN {gw : Nat} {X wr : World} {L : List ByteArray} {v v2 : Value} {w3 w6 : World} (Ts : List ByteArray) (h : WSr gw X wr L) (hb : Blk wr gw 62 #[v]) (hv : v.ownBlock ≠ some gw) (hs : Below wr.heap.size wr w3)
    (hown : w6.ownsRow X.heap.size 9 1 v2 (L.length + Ts.length) (L.map .string ++ Ts.map .string)) (hg : w3.grownBy w6 v.ownBlock) (hv2 : v2.ownBlock = v.ownBlock ∨ v2.ownBlock = some w3.heap.size) (hvl : ∀ g, v.ownBlock = some g → X.heap.size ≤ g) :
    (w6.cell? ⟨gw, 0, none⟩ = some v ∧ w6.frozen? ⟨gw, 0, none⟩ = false) ∧ WSr gw X (w6.setCell ⟨gw, 0, none⟩ v2) (L ++ Ts) := by
  have hb3 := hb.below hs hb.lt
  have hb6 := hb3.grown hg (fun e => hv e.symm)
  have hlt : gw < w3.heap.size := Nat.lt_of_lt_of_le hb.lt hs.size
  have hn2 : v2.ownBlock ≠ some gw := by
    rcases hv2 with e | e
    · rw [e]; exact hv
    · rw [e]; intro q; injection q with q; omega
  refine ⟨⟨hb6.cell 0, hb6.frozen 0⟩, ⟨v2, ?_, ?_, hn2⟩, h.ge, ?_⟩
  · exact hb6.set_ 0 v2
  · rw [List.length_append, List.map_append]
    exact ownsRow_setCell_other (a := ⟨gw, 0, none⟩) hown hn2 v2
  · have h3 : Below X.heap.size X w3 := h.below.trans (hs.mono h.below.size)
    exact (h3.grown hg h3.size hvl).setCell (p := ⟨gw, 0, none⟩) h.ge v2
end Go.Proofs.YtinllchioeldbaaGreatDoor
