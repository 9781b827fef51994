/-
  DERIVED. The walks of the reference's small functions on stamps and spots. Conditions: sizes.
  The walk of the reference's StampedError: operations that put a block. Conditions: sizes.
  By an AI agent.
-/
import Derived.Test.YtinllchioeldbaaGreatDoorCa13
import Derived.Test.YtinllchioeldbaaGreatDoorCa08
namespace Go.Proofs.YtinllchioeldbaaGreatDoor
open Go.RowKit

set_option maxHeartbeats 1000000 in
theorem isBefore_any (a b : Stp) (w : World) : Calls Tryz.prog 5 #[stA a, stA b] w fun e w' => e = .returned (.bool (befS a b)) ∧ Below w.heap.size w w' := by
  obtain ⟨n, t⟩ := a
  obtain ⟨n', t'⟩ := b
  dsimp only [stA, befS]
  obtain ⟨q1, h1⟩ : ∃ q, decide (n < n') = q := ⟨_, rfl⟩
  obtain ⟨q2, h2⟩ : ∃ q, (n == n') = q := ⟨_, rfl⟩
  obtain ⟨q3, h3⟩ : ∃ q, decide (t < t') = q := ⟨_, rfl⟩
  rw [h1, h2, h3]
  go_enter Tryz.func5, Tryz.ntmps5
  cases q1 <;> cases q2
  all_goals
    go_wp2_with fail
    go_ret
    exact ⟨by simp, ((Below.refl _ _).alloc (Nat.le_refl _) _).alloc (by simp <;> omega) _⟩

set_option maxHeartbeats 1000000 in
theorem stampRange_any (s : Stp) (w : World) : Calls Tryz.prog 20 #[stA s] w fun e w' => e = .returned (.bool (stOk s)) ∧ Below w.heap.size w w' := by
  obtain ⟨n, t⟩ := s
  have H1 := Lib.hid fun W => inRangeO_any n 1 1000000000 W
  have H2 := Lib.hid fun W => inRangeO_any t 0 15 W
  dsimp only [stA, stOk]
  obtain ⟨p, hp⟩ : ∃ q, q = outI n 1 1000000000 := ⟨_, rfl⟩
  obtain ⟨q, hq⟩ : ∃ q, q = outI t 0 15 := ⟨_, rfl⟩
  rw [← hp, ← hq]
  rw [← hp] at H1
  rw [← hq] at H2
  clear hp hq
  go_enter Tryz.func20, Tryz.ntmps20
  cases p
  · go_wp2_with fail
    refine (H1.out _).mono ?_
    rintro e w1 ⟨rfl, rfl⟩
    go_wp2_with fail
    refine (H2.out _).mono ?_
    rintro e w1 ⟨rfl, rfl⟩
    go_wp2_with fail
    go_ret
    exact ⟨by simp, (Below.refl _ _).alloc (Nat.le_refl _) _⟩
  · go_wp2_with fail
    refine (H1.out _).mono ?_
    rintro e w1 ⟨rfl, rfl⟩
    go_wp2_with fail
    go_ret
    exact ⟨by simp, (Below.refl _ _).alloc (Nat.le_refl _) _⟩

set_option maxHeartbeats 1000000 in
theorem goodSpot_any (x : Spt) (s : Stp) (w : World) : Calls Tryz.prog 25 #[spA x, stA s] w fun e w' => e = .returned (.bool (sptOk x s)) ∧ Below w.heap.size w w' := by
  obtain ⟨⟨n, t⟩, p⟩ := x
  obtain ⟨n', t'⟩ := s
  have H1 := Lib.hid fun W => stampRange_any ⟨n, t⟩ W
  have H2 := Lib.hid fun W => isBefore_any ⟨n, t⟩ ⟨n', t'⟩ W
  have H3 := Lib.hid fun W => inRangeO_any p 0 2000 W
  dsimp only [stA, spA, sptOk] at H1 H2 ⊢
  obtain ⟨q1, h1⟩ : ∃ q, q = stOk ⟨n, t⟩ := ⟨_, rfl⟩
  obtain ⟨q2, h2⟩ : ∃ q, q = befS ⟨n, t⟩ ⟨n', t'⟩ := ⟨_, rfl⟩
  obtain ⟨q3, h3⟩ : ∃ q, q = outI p 0 2000 := ⟨_, rfl⟩
  rw [← h1, ← h2, ← h3]
  rw [← h1] at H1
  rw [← h2] at H2
  rw [← h3] at H3
  clear h1 h2 h3
  go_enter Tryz.func25, Tryz.ntmps25
  go_upto_region 1 with fail
  have hb0 : Below w.heap.size w ((w.alloc (.cells #[.int .i64 n, .int .i64 t, .int .i64 p] 27)).alloc (.cells #[.int .i64 n', .int .i64 t'] 23)) := ((Below.refl _ _).alloc (Nat.le_refl _) _).alloc (by simp <;> omega) _
  have k0 := (Blk.new w 27 #[.int .i64 n, .int .i64 t, .int .i64 p]).alloc (.cells #[.int .i64 n', .int .i64 t'] 23)
  have k1 := Blk.new (w.alloc (.cells #[.int .i64 n, .int .i64 t, .int .i64 p] 27)) 23 #[.int .i64 n', .int .i64 t']
  rw [show (w.alloc (.cells #[.int .i64 n, .int .i64 t, .int .i64 p] 27)).heap.size = w.heap.size + 1 from Array.size_push _] at k1
  generalize ((w.alloc (.cells #[.int .i64 n, .int .i64 t, .int .i64 p] 27)).alloc (.cells #[.int .i64 n', .int .i64 t'] 23)) = X at hb0 k0 k1 ⊢
  have c0 := fun i => k0.cell i
  have c1 := fun i => k1.cell i
  have HK := Lib.hid (And.intro k0 (And.intro k1 hb0))
  clear k0 k1 hb0
  cases q1
  · go_wp2_with fail
    refine (H1.out _).mono ?_
    rintro e w1 ⟨rfl, hb1⟩
    have HB : Hid (Below w.heap.size w w1) := HK.out.2.2.trans (hb1.mono HK.out.2.2.size)
    clear hb1
    go_wp2_with fail
    go_ret
    exact ⟨by simp, HB.out⟩
  · go_wp2_with fail
    refine (H1.out _).mono ?_
    rintro e w1 ⟨rfl, hb1⟩
    have HB : Hid (Below w.heap.size w w1) := HK.out.2.2.trans (hb1.mono HK.out.2.2.size)
    have m0 := HK.out.1.below hb1 HK.out.1.lt
    have m1 := HK.out.2.1.below hb1 HK.out.2.1.lt
    have d0 := fun i => m0.cell i
    have d1 := fun i => m1.cell i
    have HM := Lib.hid m0
    clear hb1 c0 c1 m0 m1
    go_wp2_with fail
    refine (H2.out _).mono ?_
    rintro e w2 ⟨rfl, hb2⟩
    have HB2 : Hid (Below w.heap.size w w2) := HB.out.trans (hb2.mono HB.out.size)
    have m0 := HM.out.below hb2 HM.out.lt
    have c0 := fun i => m0.cell i
    clear hb2 d0 d1 m0
    cases q2
    · go_wp2_with fail
      go_ret
      exact ⟨by simp, HB2.out⟩
    · go_wp2_with fail
      refine (H3.out _).mono ?_
      rintro e w3 ⟨rfl, rfl⟩
      go_wp2_with fail
      go_ret
      exact ⟨by simp, HB2.out⟩

set_option maxHeartbeats 1000000 in
theorem spotBefore_any (x y : Spt) (w : World) : Calls Tryz.prog 26 #[spA x, spA y] w fun e w' => e = .returned (.bool (sptLt x y)) ∧ Below w.heap.size w w' := by
  obtain ⟨⟨n, t⟩, p⟩ := x
  obtain ⟨⟨n', t'⟩, p'⟩ := y
  have H1 := Lib.hid fun W => isBefore_any ⟨n, t⟩ ⟨n', t'⟩ W
  have hbq : n = n' → t = t' → befS ⟨n, t⟩ ⟨n', t'⟩ = false := by
    rintro rfl rfl
    unfold befS
    simp
  have hlt : sptLt ⟨⟨n, t⟩, p⟩ ⟨⟨n', t'⟩, p'⟩ = (befS ⟨n, t⟩ ⟨n', t'⟩ || ((n == n') && (t == t') && decide (p < p'))) := rfl
  rw [hlt]
  dsimp only [stA, spA] at H1 ⊢
  obtain ⟨q1, h1⟩ : ∃ q, q = befS ⟨n, t⟩ ⟨n', t'⟩ := ⟨_, rfl⟩
  rw [← h1] at H1 hbq ⊢
  have HBQ := Lib.hid hbq
  clear h1 hlt hbq
  by_cases e0 : n = n'
  · by_cases e1 : t = t'
    · obtain rfl : q1 = false := HBQ.out e0 e1
      subst e0 e1
      obtain ⟨q3, h3⟩ : ∃ q, decide (p < p') = q := ⟨_, rfl⟩
      rw [h3]
      go_enter Tryz.func26, Tryz.ntmps26
      go_wp2_with fail
      go_ret
      exact ⟨by simp, ((Below.refl _ _).alloc (Nat.le_refl _) _).alloc (by simp <;> omega) _⟩
    · have g1 : (t == t') = false := by simpa using e1
      subst e0
      rw [g1]
      clear e1
      go_enter Tryz.func26, Tryz.ntmps26
      go_wp2_with fail
      refine (H1.out _).mono ?_
      rintro e w1 ⟨rfl, hb⟩
      have HB : Hid (Below w.heap.size w w1) := (((Below.refl _ _).alloc (Nat.le_refl _) _).alloc (by simp <;> omega) _).trans (hb.mono (by simp <;> omega))
      clear hb
      go_wp2_with fail
      go_ret
      exact ⟨by simp, HB.out⟩
  · have g0 : (n == n') = false := by simpa using e0
    rw [g0]
    clear e0
    go_enter Tryz.func26, Tryz.ntmps26
    go_wp2_with fail
    refine (H1.out _).mono ?_
    rintro e w1 ⟨rfl, hb⟩
    have HB : Hid (Below w.heap.size w w1) := (((Below.refl _ _).alloc (Nat.le_refl _) _).alloc (by simp <;> omega) _).trans (hb.mono (by simp <;> omega))
    clear hb
    go_wp2_with fail
    go_ret
    exact ⟨by simp, HB.out⟩

theorem noV_same (v : Vl) : noV v = sameV v (.mk 0 0 0 ⟨#[]⟩ []) := by
  rw [sameV_eq]
  show _ = ((v.kind == 0) && (v.int_ == 0) && (v.to_ == 0) && decide (v.text = ⟨#[]⟩) && sameL v.items [])
  have e1 : decide (v.text = ⟨#[]⟩) = v.text.toList.isEmpty := by
    rw [dec_toList, show (⟨#[]⟩ : ByteArray).toList = [] from ByteArray.toList_eq _]
    cases h : v.text.toList with
    | nil => rfl
    | cons a l => rfl
  have e2 : sameL v.items [] = ((v.items.length : Int) == 0) := by
    cases h : v.items with
    | nil => rw [sameL]; rfl
    | cons a l =>
      rw [sameL]
      · have : ((a :: l).length : Int) ≠ 0 := by rw [List.length_cons]; omega
        exact (beq_eq_false_iff_ne.2 this).symm
      · intro h; cases h
      · intro x y z h1 h2 h3; cases h3
  rw [e1, e2]
  rfl

set_option maxHeartbeats 400000 in
theorem zero_any (x : Vl) (A : Option Addr) (n c : Nat) (w : World) (B : Nat) (hB : B ≤ w.heap.size) (h : RV w B (.slice A n c) x.items) :
    Calls Tryz.prog 22 #[AV (x, .slice A n c)] w fun e w' => e = .returned (.bool (noV x)) ∧ Below w.heap.size w w' := by
  obtain ⟨d, hd⟩ := h
  have HX := Lib.hid fun W (hW : Below w.heap.size w W) => sameRef_any d (x, .slice A n c) (.mk 0 0 0 ⟨#[]⟩ [], .slice none 0 0) W B (Nat.le_trans hB hW.size) (hd.below (hW.mono hB)) (RVd.up (d := 0) ⟨rfl, none, 0, rfl⟩ (Nat.zero_le d))
  dsimp only at HX
  rw [← noV_same] at HX
  dsimp only [AV, Vl.kind, Vl.int_, Vl.to_, Vl.text] at HX ⊢
  clear hd
  obtain ⟨k, i, t, s, l⟩ := x
  dsimp only [AV, Vl.kind, Vl.int_, Vl.to_, Vl.text] at HX ⊢
  go_enter Tryz.func22, Tryz.ntmps22
  go_wp2_with fail
  refine (HX.out _ ((Below.refl _ _).alloc (Nat.le_refl _) _)).mono ?_
  rintro e w2 ⟨rfl, hb⟩
  go_wp2_with fail
  go_ret
  exact ⟨rfl, ((Below.refl _ _).alloc (Nat.le_refl _) _).trans (hb.mono (by simp))⟩
end Go.Proofs.YtinllchioeldbaaGreatDoor
namespace Go.Proofs.YtinllchioeldbaaGreatDoor
open Go.RowKit

set_option maxHeartbeats 4000000 in
set_option maxRecDepth 100000 in
theorem stamped_k1 (o : COp) (As Ai : Option Addr) (ns cs ni ci : Nat) (w : World) (B : Nat) (hB : B ≤ w.heap.size) (h : RC1 w B ⟨o, .slice As ns cs, .slice Ai ni ci⟩) (hk : o.kind = 1) :
    Calls Tryz.prog 7 #[CA ⟨o, .slice As ns cs, .slice Ai ni ci⟩] w fun e w' => e = .returned (.int .i64 (cE o)) ∧ Below w.heap.size w w' := by
  obtain ⟨hs, ⟨d, hv⟩, hci⟩ := h
  dsimp only at hs hv hci
  obtain ⟨hn, _, hn8⟩ := hs.len
  have H1 := Lib.hid fun W => stampRange_any o.st W
  have HR := Lib.hid fun a b c W => inRangeO_any a b c W
  have HZ : Hid (∀ W, Below w.heap.size w W → Calls Tryz.prog 22 #[AV (o.val, .slice Ai ni ci)] W fun e w' => e = .returned (.bool (noV o.val)) ∧ Below W.heap.size W w') := fun W hW => zero_any o.val Ai ni ci W B (Nat.le_trans hB hW.size) ⟨d, hv.below (hW.mono hB)⟩
  obtain ⟨E, hE⟩ : ∃ E, E = cE o := ⟨_, rfl⟩
  rw [← hE]
  unfold cE cFormB aftZ at hE
  rw [← hn, hk] at hE
  obtain ⟨s, hs1⟩ : ∃ q, q = stOk o.st := ⟨_, rfl⟩
  obtain ⟨p, hp1⟩ : ∃ q, q = outI o.id 1 1000000 := ⟨_, rfl⟩
  obtain ⟨nv, hnv⟩ : ∃ q, q = noV o.val := ⟨_, rfl⟩
  have HP : Hid (∀ W, Calls Tryz.prog 21 #[.int .i64 o.id, .int .i64 1, .int .i64 1000000] W fun e w' => e = .returned (.bool (!p)) ∧ w' = W) := fun W => by rw [hp1]; exact HR.out _ _ _ W
  rw [← hs1, ← hp1, ← hnv] at hE
  rw [← hs1] at H1
  rw [← hnv] at HZ
  clear hs1 hp1 hnv
  have HT := Lib.hid fun W => textError_any o.oct W
  have HTX : Hid (o.oct.toList.isEmpty = true → txErr o.oct = 0) := fun h => by
    have h0 : o.oct = ⟨#[]⟩ := ByteArray.ext (Array.toList_inj.1 (by rw [← ByteArray.toList_eq]; simpa using h))
    rw [h0]
    rfl
  unfold cPlE at hE
  rw [hk] at hE
  obtain ⟨tx, htx⟩ : ∃ q, q = txErr o.oct := ⟨_, rfl⟩
  rw [← htx] at HT HTX hE
  obtain ⟨p1, hp1⟩ : ∃ q, q = outI o.parent 0 1000000 := ⟨_, rfl⟩
  obtain ⟨p2, hp2⟩ : ∃ q, q = outI o.left 0 1000000 := ⟨_, rfl⟩
  have HP1 : Hid (∀ W, Calls Tryz.prog 21 #[.int .i64 o.parent, .int .i64 0, .int .i64 1000000] W fun e w' => e = .returned (.bool (!p1)) ∧ w' = W) := fun W => by rw [hp1]; exact HR.out _ _ _ W
  have HP2 : Hid (∀ W, Calls Tryz.prog 21 #[.int .i64 o.left, .int .i64 0, .int .i64 1000000] W fun e w' => e = .returned (.bool (!p2)) ∧ w' = W) := fun W => by rw [hp2]; exact HR.out _ _ _ W
  rw [← hp1, ← hp2] at hE
  clear htx hp1 hp2 hs hv hn
  obtain ⟨hi0, hi1⟩ := hci.2.2.1
  obtain ⟨⟨t0, t1⟩, k, id, pa, le, ⟨⟨a0, a1⟩, a2⟩, oc, sp, nm, ⟨vk, vi, vt, vs, vl⟩⟩ := o
  obtain rfl : k = 1 := hk
  dsimp only [CA, stA, AV, Vl.kind, Vl.int_, Vl.to_, Vl.text, Vl.items] at H1 HZ HP hE HT HTX HP1 HP2 hi0 hi1 ⊢
  obtain ⟨q1, g1⟩ : ∃ q, (pa != 0) = q := ⟨_, rfl⟩
  obtain ⟨q2, g2⟩ : ∃ q, (le != 0) = q := ⟨_, rfl⟩
  obtain ⟨z0, g30⟩ : ∃ q, (a0 == 0) = q := ⟨_, rfl⟩
  obtain ⟨z1, g31⟩ : ∃ q, (a1 == 0) = q := ⟨_, rfl⟩
  obtain ⟨z2, g32⟩ : ∃ q, (a2 == 0) = q := ⟨_, rfl⟩
  obtain ⟨q4, g4⟩ : ∃ q, oc.toList.isEmpty = q := ⟨_, rfl⟩
  obtain ⟨q5, g5⟩ : ∃ q, decide (0 < (ns : Int)) = q := ⟨_, rfl⟩
  obtain ⟨q6, g6⟩ : ∃ q, nm.toList.isEmpty = q := ⟨_, rfl⟩
  obtain ⟨m, hm⟩ : ∃ q, Int.tmod id 16 = q := ⟨_, rfl⟩
  obtain ⟨m1, hm1⟩ : ∃ q, (m != t1) = q := ⟨_, rfl⟩
  obtain ⟨e1, ge1⟩ : ∃ q, (pa == id) = q := ⟨_, rfl⟩
  obtain ⟨e2, ge2⟩ : ∃ q, (le == id) = q := ⟨_, rfl⟩
  have g5' : decide (0 < ns) = q5 := by rw [← g5]; simp
  rw [hm, hm1, ge1, ge2, g1, g2, g30, g31, g32, g4, g5, g6] at hE
  simp only [show ((1 : Int) == 1) = true from rfl, show ((1 : Int) == 2) = false from rfl, show ((1 : Int) == 4) = false from rfl, show ((1 : Int) == 5) = false from rfl, show ((1 : Int) == 6) = false from rfl, show ((1 : Int) != 1) = false from rfl, show ((1 : Int) != 4) = true from rfl, show ((1 : Int) != 5) = true from rfl, show ((1 : Int) != 6) = true from rfl, show outI 1 1 6 = false from rfl, Bool.false_or, Bool.or_false, Bool.not_true, Bool.false_and, Bool.true_and, Bool.and_true, Bool.false_eq_true, if_false, if_true] at hE
  have HE0 := Lib.hid hE
  clear hE
  have HR6 : Hid (∀ W, Calls Tryz.prog 21 #[.int .i64 1, .int .i64 1, .int .i64 6] W fun e w' => e = .returned (.bool true) ∧ w' = W) := fun W => HR.out 1 1 6 W
  go_enter Tryz.func7, Tryz.ntmps7
  go_upto_region 1 with fail
  have KX := Blk.new w 33 #[.int .i64 t0, .int .i64 t1, .int .i64 1, .int .i64 id, .int .i64 pa, .int .i64 le, .int .i64 a0, .int .i64 a1, .int .i64 a2, .string oc, .slice As ns cs, .string nm, .int .i64 vk, .int .i64 vi, .int .i64 vt, .string vs, .slice Ai ni ci]
  have hbX : Below w.heap.size w (w.alloc (.cells #[.int .i64 t0, .int .i64 t1, .int .i64 1, .int .i64 id, .int .i64 pa, .int .i64 le, .int .i64 a0, .int .i64 a1, .int .i64 a2, .string oc, .slice As ns cs, .string nm, .int .i64 vk, .int .i64 vi, .int .i64 vt, .string vs, .slice Ai ni ci] 33)) := (Below.refl _ _).alloc (Nat.le_refl _) _
  generalize (w.alloc (.cells #[.int .i64 t0, .int .i64 t1, .int .i64 1, .int .i64 id, .int .i64 pa, .int .i64 le, .int .i64 a0, .int .i64 a1, .int .i64 a2, .string oc, .slice As ns cs, .string nm, .int .i64 vk, .int .i64 vi, .int .i64 vt, .string vs, .slice Ai ni ci] 33)) = X at KX hbX ⊢
  have x0 : X.cell? ⟨w.heap.size, 0, none⟩ = some (.int .i64 t0) := KX.cell 0
  have x1 : X.cell? ⟨w.heap.size, 1, none⟩ = some (.int .i64 t1) := KX.cell 1
  have x2 : X.cell? ⟨w.heap.size, 2, none⟩ = some (.int .i64 1) := KX.cell 2
  have x3 : X.cell? ⟨w.heap.size, 3, none⟩ = some (.int .i64 id) := KX.cell 3
  have x4 : X.cell? ⟨w.heap.size, 4, none⟩ = some (.int .i64 pa) := KX.cell 4
  have x5 : X.cell? ⟨w.heap.size, 5, none⟩ = some (.int .i64 le) := KX.cell 5
  have x6 : X.cell? ⟨w.heap.size, 6, none⟩ = some (.int .i64 a0) := KX.cell 6
  have x7 : X.cell? ⟨w.heap.size, 7, none⟩ = some (.int .i64 a1) := KX.cell 7
  have x8 : X.cell? ⟨w.heap.size, 8, none⟩ = some (.int .i64 a2) := KX.cell 8
  have x9 : X.cell? ⟨w.heap.size, 9, none⟩ = some (.string oc) := KX.cell 9
  have x10 : X.cell? ⟨w.heap.size, 10, none⟩ = some (.slice As ns cs) := KX.cell 10
  have x11 : X.cell? ⟨w.heap.size, 11, none⟩ = some (.string nm) := KX.cell 11
  have x12 : X.cell? ⟨w.heap.size, 12, none⟩ = some (.int .i64 vk) := KX.cell 12
  have x13 : X.cell? ⟨w.heap.size, 13, none⟩ = some (.int .i64 vi) := KX.cell 13
  have x14 : X.cell? ⟨w.heap.size, 14, none⟩ = some (.int .i64 vt) := KX.cell 14
  have x15 : X.cell? ⟨w.heap.size, 15, none⟩ = some (.string vs) := KX.cell 15
  have x16 : X.cell? ⟨w.heap.size, 16, none⟩ = some (.slice Ai ni ci) := KX.cell 16
  have HKX := Lib.hid KX
  have HBX := Lib.hid hbX
  clear KX hbX HR
  go_wp2_with fail
  refine (H1.out _).mono ?_
  rintro e w1 ⟨rfl, hb1⟩
  have K1 := HKX.out.below hb1 HKX.out.lt
  have HB1 : Hid (Below w.heap.size w w1) := HBX.out.trans (hb1.mono HBX.out.size)
  clear x0 x1 x2 x3 x4 x5 x6 x7 x8 x9 x10 x11 x12 x13 x14 x15 x16 hb1
  cases s
  case false =>
    have HV := Lib.hid (HE0.out.trans (if_pos rfl))
    go_wp2_with fail
    go_ret
    exact ⟨by rw [HV.out]; rfl, HB1.out⟩
  have HE1 := Lib.hid (HE0.out.trans (if_neg (by decide)))
  clear HE0 HKX HBX
  have x0 : w1.cell? ⟨w.heap.size, 0, none⟩ = some (.int .i64 t0) := K1.cell 0
  have x1 : w1.cell? ⟨w.heap.size, 1, none⟩ = some (.int .i64 t1) := K1.cell 1
  have x2 : w1.cell? ⟨w.heap.size, 2, none⟩ = some (.int .i64 1) := K1.cell 2
  have x3 : w1.cell? ⟨w.heap.size, 3, none⟩ = some (.int .i64 id) := K1.cell 3
  have x4 : w1.cell? ⟨w.heap.size, 4, none⟩ = some (.int .i64 pa) := K1.cell 4
  have x5 : w1.cell? ⟨w.heap.size, 5, none⟩ = some (.int .i64 le) := K1.cell 5
  have x6 : w1.cell? ⟨w.heap.size, 6, none⟩ = some (.int .i64 a0) := K1.cell 6
  have x7 : w1.cell? ⟨w.heap.size, 7, none⟩ = some (.int .i64 a1) := K1.cell 7
  have x8 : w1.cell? ⟨w.heap.size, 8, none⟩ = some (.int .i64 a2) := K1.cell 8
  have x9 : w1.cell? ⟨w.heap.size, 9, none⟩ = some (.string oc) := K1.cell 9
  have x10 : w1.cell? ⟨w.heap.size, 10, none⟩ = some (.slice As ns cs) := K1.cell 10
  have x11 : w1.cell? ⟨w.heap.size, 11, none⟩ = some (.string nm) := K1.cell 11
  have x12 : w1.cell? ⟨w.heap.size, 12, none⟩ = some (.int .i64 vk) := K1.cell 12
  have x13 : w1.cell? ⟨w.heap.size, 13, none⟩ = some (.int .i64 vi) := K1.cell 13
  have x14 : w1.cell? ⟨w.heap.size, 14, none⟩ = some (.int .i64 vt) := K1.cell 14
  have x15 : w1.cell? ⟨w.heap.size, 15, none⟩ = some (.string vs) := K1.cell 15
  have x16 : w1.cell? ⟨w.heap.size, 16, none⟩ = some (.slice Ai ni ci) := K1.cell 16
  have HK1 := Lib.hid K1
  clear K1
  go_wp2_with fail
  refine (HR6.out _).mono ?_
  rintro e w2 ⟨rfl, hw2⟩
  obtain rfl : w1 = w2 := hw2.symm
  go_upto_region 7 with fail
  go_cut [90] (fun s90 wc => s90 = .bool (!(z0 && z1 && z2) || (q5 || (!q6 || !nv))) ∧ Hid (Below w.heap.size w wc) ∧ Hid (Blk wc w.heap.size 33 #[.int .i64 t0, .int .i64 t1, .int .i64 1, .int .i64 id, .int .i64 pa, .int .i64 le, .int .i64 a0, .int .i64 a1, .int .i64 a2, .string oc, .slice As ns cs, .string nm, .int .i64 vk, .int .i64 vi, .int .i64 vt, .string vs, .slice Ai ni ci]))
  case first =>
    go_wp2_with (go_at_call 22; refine (HZ.out _ HB1.out).mono ?_; rintro e w3 ⟨rfl, hb3⟩; have HB3 : Hid (Below w.heap.size w w3) := HB1.out.trans (hb3.mono HB1.out.size); have K3 := Lib.hid (HK1.out.below hb3 HK1.out.lt); clear hb3)
    all_goals
      go_meet
      exact ⟨by simp_all, by first | exact ⟨HB3, K3⟩ | exact ⟨HB1, HK1⟩⟩
  case rest =>
  clear x0 x1 x2 x3 x4 x5 x6 x7 x8 x9 x10 x11 x12 x13 x14 x15 x16
  obtain ⟨rfl, HB2, HK2⟩ := hcut
  obtain ⟨F, eF⟩ : ∃ q, (!(z0 && z1 && z2) || (q5 || (!q6 || !nv))) = q := ⟨_, rfl⟩
  rw [eF] at HE1
  rw [eF]
  have HF := Lib.hid eF
  clear eF HB1 HK1 HZ H1 HR6
  cases F
  case true =>
    have HV := Lib.hid (HE1.out.trans (if_pos rfl))
    go_wp2_with fail
    go_ret
    exact ⟨by rw [HV.out]; rfl, HB2.out⟩
  have HE2 := Lib.hid (HE1.out.trans (if_neg (by decide)))
  clear HE1
  have x0 : wc.cell? ⟨w.heap.size, 0, none⟩ = some (.int .i64 t0) := HK2.out.cell 0
  have x1 : wc.cell? ⟨w.heap.size, 1, none⟩ = some (.int .i64 t1) := HK2.out.cell 1
  have x2 : wc.cell? ⟨w.heap.size, 2, none⟩ = some (.int .i64 1) := HK2.out.cell 2
  have x3 : wc.cell? ⟨w.heap.size, 3, none⟩ = some (.int .i64 id) := HK2.out.cell 3
  have x4 : wc.cell? ⟨w.heap.size, 4, none⟩ = some (.int .i64 pa) := HK2.out.cell 4
  have x5 : wc.cell? ⟨w.heap.size, 5, none⟩ = some (.int .i64 le) := HK2.out.cell 5
  have x6 : wc.cell? ⟨w.heap.size, 6, none⟩ = some (.int .i64 a0) := HK2.out.cell 6
  have x7 : wc.cell? ⟨w.heap.size, 7, none⟩ = some (.int .i64 a1) := HK2.out.cell 7
  have x8 : wc.cell? ⟨w.heap.size, 8, none⟩ = some (.int .i64 a2) := HK2.out.cell 8
  have x9 : wc.cell? ⟨w.heap.size, 9, none⟩ = some (.string oc) := HK2.out.cell 9
  have x10 : wc.cell? ⟨w.heap.size, 10, none⟩ = some (.slice As ns cs) := HK2.out.cell 10
  have x11 : wc.cell? ⟨w.heap.size, 11, none⟩ = some (.string nm) := HK2.out.cell 11
  have x12 : wc.cell? ⟨w.heap.size, 12, none⟩ = some (.int .i64 vk) := HK2.out.cell 12
  have x13 : wc.cell? ⟨w.heap.size, 13, none⟩ = some (.int .i64 vi) := HK2.out.cell 13
  have x14 : wc.cell? ⟨w.heap.size, 14, none⟩ = some (.int .i64 vt) := HK2.out.cell 14
  have x15 : wc.cell? ⟨w.heap.size, 15, none⟩ = some (.string vs) := HK2.out.cell 15
  have x16 : wc.cell? ⟨w.heap.size, 16, none⟩ = some (.slice Ai ni ci) := HK2.out.cell 16
  go_wp2_with fail
  refine (HP.out _).mono ?_
  rintro e w3 ⟨rfl, hw3⟩
  obtain rfl : wc = w3 := hw3.symm
  cases p
  case true =>
    have HV := Lib.hid (HE2.out.trans (if_pos rfl))
    go_wp2_with fail
    go_ret
    exact ⟨by rw [HV.out]; rfl, HB2.out⟩
  have HE3 := Lib.hid (HE2.out.trans (if_neg (by decide)))
  clear HE2
  cases m1
  case true =>
    have HV := Lib.hid (HE3.out.trans (if_pos rfl))
    go_wp2_with fail
    go_ret
    exact ⟨by rw [HV.out]; rfl, HB2.out⟩
  have HE4 := Lib.hid (HE3.out.trans (if_neg (by decide)))
  clear HE3
  go_wp2_with fail
  refine (HP1.out _).mono ?_
  rintro e w4 ⟨rfl, hw4⟩
  obtain rfl : wc = w4 := hw4.symm
  cases p1
  case true =>
    have HV := Lib.hid (HE4.out.trans (if_pos rfl))
    go_wp2_with fail
    go_ret
    exact ⟨by rw [HV.out]; rfl, HB2.out⟩
  go_wp2_with fail
  refine (HP2.out _).mono ?_
  rintro e w4 ⟨rfl, hw4⟩
  obtain rfl : wc = w4 := hw4.symm
  cases p2
  case true =>
    have HV := Lib.hid (HE4.out.trans (if_pos rfl))
    go_wp2_with fail
    go_ret
    exact ⟨by rw [HV.out]; rfl, HB2.out⟩
  have HE5 := Lib.hid (HE4.out.trans (if_neg (by decide)))
  clear HE4
  cases e1
  case true =>
    have HV := Lib.hid (HE5.out.trans (if_pos rfl))
    go_wp2_with fail
    go_ret
    exact ⟨by rw [HV.out]; rfl, HB2.out⟩
  cases e2
  case true =>
    have HV := Lib.hid (HE5.out.trans (if_pos rfl))
    go_wp2_with fail
    go_ret
    exact ⟨by rw [HV.out]; rfl, HB2.out⟩
  have HV := Lib.hid (HE5.out.trans (if_neg (by decide)))
  go_wp2_with fail
  refine (HT.out _).mono ?_
  rintro e w4 ⟨rfl, hw4⟩
  obtain rfl : wc = w4 := hw4.symm
  go_wp2_with fail
  go_ret
  exact ⟨by rw [HV.out]; rfl, HB2.out⟩

set_option maxHeartbeats 4000000 in
set_option maxRecDepth 100000 in
theorem stamped_k2 (o : COp) (As Ai : Option Addr) (ns cs ni ci : Nat) (w : World) (B : Nat) (hB : B ≤ w.heap.size) (h : RC1 w B ⟨o, .slice As ns cs, .slice Ai ni ci⟩) (hk : o.kind = 2) :
    Calls Tryz.prog 7 #[CA ⟨o, .slice As ns cs, .slice Ai ni ci⟩] w fun e w' => e = .returned (.int .i64 (cE o)) ∧ Below w.heap.size w w' := by
  obtain ⟨hs, ⟨d, hv⟩, hci⟩ := h
  dsimp only at hs hv hci
  obtain ⟨hn, _, hn8⟩ := hs.len
  have H1 := Lib.hid fun W => stampRange_any o.st W
  have HR := Lib.hid fun a b c W => inRangeO_any a b c W
  have HZ : Hid (∀ W, Below w.heap.size w W → Calls Tryz.prog 22 #[AV (o.val, .slice Ai ni ci)] W fun e w' => e = .returned (.bool (noV o.val)) ∧ Below W.heap.size W w') := fun W hW => zero_any o.val Ai ni ci W B (Nat.le_trans hB hW.size) ⟨d, hv.below (hW.mono hB)⟩
  obtain ⟨E, hE⟩ : ∃ E, E = cE o := ⟨_, rfl⟩
  rw [← hE]
  unfold cE cFormB aftZ at hE
  rw [← hn, hk] at hE
  obtain ⟨s, hs1⟩ : ∃ q, q = stOk o.st := ⟨_, rfl⟩
  obtain ⟨p, hp1⟩ : ∃ q, q = outI o.id 1 1000000 := ⟨_, rfl⟩
  obtain ⟨nv, hnv⟩ : ∃ q, q = noV o.val := ⟨_, rfl⟩
  have HP : Hid (∀ W, Calls Tryz.prog 21 #[.int .i64 o.id, .int .i64 1, .int .i64 1000000] W fun e w' => e = .returned (.bool (!p)) ∧ w' = W) := fun W => by rw [hp1]; exact HR.out _ _ _ W
  rw [← hs1, ← hp1, ← hnv] at hE
  rw [← hs1] at H1
  rw [← hnv] at HZ
  clear hs1 hp1 hnv
  have HT := Lib.hid fun W => textError_any o.oct W
  have HTX : Hid (o.oct.toList.isEmpty = true → txErr o.oct = 0) := fun h => by
    have h0 : o.oct = ⟨#[]⟩ := ByteArray.ext (Array.toList_inj.1 (by rw [← ByteArray.toList_eq]; simpa using h))
    rw [h0]
    rfl
  unfold cPlE at hE
  rw [hk] at hE
  obtain ⟨tx, htx⟩ : ∃ q, q = txErr o.oct := ⟨_, rfl⟩
  rw [← htx] at HT HTX hE
  obtain ⟨p1, hp1⟩ : ∃ q, q = outI o.parent 0 1000000 := ⟨_, rfl⟩
  obtain ⟨p2, hp2⟩ : ∃ q, q = outI o.left 0 1000000 := ⟨_, rfl⟩
  have HP1 : Hid (∀ W, Calls Tryz.prog 21 #[.int .i64 o.parent, .int .i64 0, .int .i64 1000000] W fun e w' => e = .returned (.bool (!p1)) ∧ w' = W) := fun W => by rw [hp1]; exact HR.out _ _ _ W
  have HP2 : Hid (∀ W, Calls Tryz.prog 21 #[.int .i64 o.left, .int .i64 0, .int .i64 1000000] W fun e w' => e = .returned (.bool (!p2)) ∧ w' = W) := fun W => by rw [hp2]; exact HR.out _ _ _ W
  rw [← hp1, ← hp2] at hE
  clear htx hp1 hp2 hs hv hn
  obtain ⟨hi0, hi1⟩ := hci.2.2.1
  obtain ⟨⟨t0, t1⟩, k, id, pa, le, ⟨⟨a0, a1⟩, a2⟩, oc, sp, nm, ⟨vk, vi, vt, vs, vl⟩⟩ := o
  obtain rfl : k = 2 := hk
  dsimp only [CA, stA, AV, Vl.kind, Vl.int_, Vl.to_, Vl.text, Vl.items] at H1 HZ HP hE HT HTX HP1 HP2 hi0 hi1 ⊢
  obtain ⟨q1, g1⟩ : ∃ q, (pa != 0) = q := ⟨_, rfl⟩
  obtain ⟨q2, g2⟩ : ∃ q, (le != 0) = q := ⟨_, rfl⟩
  obtain ⟨z0, g30⟩ : ∃ q, (a0 == 0) = q := ⟨_, rfl⟩
  obtain ⟨z1, g31⟩ : ∃ q, (a1 == 0) = q := ⟨_, rfl⟩
  obtain ⟨z2, g32⟩ : ∃ q, (a2 == 0) = q := ⟨_, rfl⟩
  obtain ⟨q4, g4⟩ : ∃ q, oc.toList.isEmpty = q := ⟨_, rfl⟩
  obtain ⟨q5, g5⟩ : ∃ q, decide (0 < (ns : Int)) = q := ⟨_, rfl⟩
  obtain ⟨q6, g6⟩ : ∃ q, nm.toList.isEmpty = q := ⟨_, rfl⟩
  obtain ⟨e1, ge1⟩ : ∃ q, (pa == id) = q := ⟨_, rfl⟩
  obtain ⟨e2, ge2⟩ : ∃ q, (le == id) = q := ⟨_, rfl⟩
  have g5' : decide (0 < ns) = q5 := by rw [← g5]; simp
  rw [ge1, ge2, g1, g2, g30, g31, g32, g4, g5, g6] at hE
  simp only [show ((2 : Int) == 1) = false from rfl, show ((2 : Int) == 2) = true from rfl, show ((2 : Int) == 4) = false from rfl, show ((2 : Int) == 5) = false from rfl, show ((2 : Int) == 6) = false from rfl, show ((2 : Int) != 1) = true from rfl, show ((2 : Int) != 4) = true from rfl, show ((2 : Int) != 5) = true from rfl, show ((2 : Int) != 6) = true from rfl, show outI 2 1 6 = false from rfl, Bool.false_or, Bool.or_true, Bool.not_true, Bool.false_and, Bool.true_and, Bool.and_true, Bool.false_eq_true, if_false, if_true] at hE
  have HE0 := Lib.hid hE
  clear hE
  have HR6 : Hid (∀ W, Calls Tryz.prog 21 #[.int .i64 2, .int .i64 1, .int .i64 6] W fun e w' => e = .returned (.bool true) ∧ w' = W) := fun W => HR.out 2 1 6 W
  go_enter Tryz.func7, Tryz.ntmps7
  go_upto_region 1 with fail
  have KX := Blk.new w 33 #[.int .i64 t0, .int .i64 t1, .int .i64 2, .int .i64 id, .int .i64 pa, .int .i64 le, .int .i64 a0, .int .i64 a1, .int .i64 a2, .string oc, .slice As ns cs, .string nm, .int .i64 vk, .int .i64 vi, .int .i64 vt, .string vs, .slice Ai ni ci]
  have hbX : Below w.heap.size w (w.alloc (.cells #[.int .i64 t0, .int .i64 t1, .int .i64 2, .int .i64 id, .int .i64 pa, .int .i64 le, .int .i64 a0, .int .i64 a1, .int .i64 a2, .string oc, .slice As ns cs, .string nm, .int .i64 vk, .int .i64 vi, .int .i64 vt, .string vs, .slice Ai ni ci] 33)) := (Below.refl _ _).alloc (Nat.le_refl _) _
  generalize (w.alloc (.cells #[.int .i64 t0, .int .i64 t1, .int .i64 2, .int .i64 id, .int .i64 pa, .int .i64 le, .int .i64 a0, .int .i64 a1, .int .i64 a2, .string oc, .slice As ns cs, .string nm, .int .i64 vk, .int .i64 vi, .int .i64 vt, .string vs, .slice Ai ni ci] 33)) = X at KX hbX ⊢
  have x0 : X.cell? ⟨w.heap.size, 0, none⟩ = some (.int .i64 t0) := KX.cell 0
  have x1 : X.cell? ⟨w.heap.size, 1, none⟩ = some (.int .i64 t1) := KX.cell 1
  have x2 : X.cell? ⟨w.heap.size, 2, none⟩ = some (.int .i64 2) := KX.cell 2
  have x3 : X.cell? ⟨w.heap.size, 3, none⟩ = some (.int .i64 id) := KX.cell 3
  have x4 : X.cell? ⟨w.heap.size, 4, none⟩ = some (.int .i64 pa) := KX.cell 4
  have x5 : X.cell? ⟨w.heap.size, 5, none⟩ = some (.int .i64 le) := KX.cell 5
  have x6 : X.cell? ⟨w.heap.size, 6, none⟩ = some (.int .i64 a0) := KX.cell 6
  have x7 : X.cell? ⟨w.heap.size, 7, none⟩ = some (.int .i64 a1) := KX.cell 7
  have x8 : X.cell? ⟨w.heap.size, 8, none⟩ = some (.int .i64 a2) := KX.cell 8
  have x9 : X.cell? ⟨w.heap.size, 9, none⟩ = some (.string oc) := KX.cell 9
  have x10 : X.cell? ⟨w.heap.size, 10, none⟩ = some (.slice As ns cs) := KX.cell 10
  have x11 : X.cell? ⟨w.heap.size, 11, none⟩ = some (.string nm) := KX.cell 11
  have x12 : X.cell? ⟨w.heap.size, 12, none⟩ = some (.int .i64 vk) := KX.cell 12
  have x13 : X.cell? ⟨w.heap.size, 13, none⟩ = some (.int .i64 vi) := KX.cell 13
  have x14 : X.cell? ⟨w.heap.size, 14, none⟩ = some (.int .i64 vt) := KX.cell 14
  have x15 : X.cell? ⟨w.heap.size, 15, none⟩ = some (.string vs) := KX.cell 15
  have x16 : X.cell? ⟨w.heap.size, 16, none⟩ = some (.slice Ai ni ci) := KX.cell 16
  have HKX := Lib.hid KX
  have HBX := Lib.hid hbX
  clear KX hbX HR
  go_wp2_with fail
  refine (H1.out _).mono ?_
  rintro e w1 ⟨rfl, hb1⟩
  have K1 := HKX.out.below hb1 HKX.out.lt
  have HB1 : Hid (Below w.heap.size w w1) := HBX.out.trans (hb1.mono HBX.out.size)
  clear x0 x1 x2 x3 x4 x5 x6 x7 x8 x9 x10 x11 x12 x13 x14 x15 x16 hb1
  cases s
  case false =>
    have HV := Lib.hid (HE0.out.trans (if_pos rfl))
    go_wp2_with fail
    go_ret
    exact ⟨by rw [HV.out]; rfl, HB1.out⟩
  have HE1 := Lib.hid (HE0.out.trans (if_neg (by decide)))
  clear HE0 HKX HBX
  have x0 : w1.cell? ⟨w.heap.size, 0, none⟩ = some (.int .i64 t0) := K1.cell 0
  have x1 : w1.cell? ⟨w.heap.size, 1, none⟩ = some (.int .i64 t1) := K1.cell 1
  have x2 : w1.cell? ⟨w.heap.size, 2, none⟩ = some (.int .i64 2) := K1.cell 2
  have x3 : w1.cell? ⟨w.heap.size, 3, none⟩ = some (.int .i64 id) := K1.cell 3
  have x4 : w1.cell? ⟨w.heap.size, 4, none⟩ = some (.int .i64 pa) := K1.cell 4
  have x5 : w1.cell? ⟨w.heap.size, 5, none⟩ = some (.int .i64 le) := K1.cell 5
  have x6 : w1.cell? ⟨w.heap.size, 6, none⟩ = some (.int .i64 a0) := K1.cell 6
  have x7 : w1.cell? ⟨w.heap.size, 7, none⟩ = some (.int .i64 a1) := K1.cell 7
  have x8 : w1.cell? ⟨w.heap.size, 8, none⟩ = some (.int .i64 a2) := K1.cell 8
  have x9 : w1.cell? ⟨w.heap.size, 9, none⟩ = some (.string oc) := K1.cell 9
  have x10 : w1.cell? ⟨w.heap.size, 10, none⟩ = some (.slice As ns cs) := K1.cell 10
  have x11 : w1.cell? ⟨w.heap.size, 11, none⟩ = some (.string nm) := K1.cell 11
  have x12 : w1.cell? ⟨w.heap.size, 12, none⟩ = some (.int .i64 vk) := K1.cell 12
  have x13 : w1.cell? ⟨w.heap.size, 13, none⟩ = some (.int .i64 vi) := K1.cell 13
  have x14 : w1.cell? ⟨w.heap.size, 14, none⟩ = some (.int .i64 vt) := K1.cell 14
  have x15 : w1.cell? ⟨w.heap.size, 15, none⟩ = some (.string vs) := K1.cell 15
  have x16 : w1.cell? ⟨w.heap.size, 16, none⟩ = some (.slice Ai ni ci) := K1.cell 16
  have HK1 := Lib.hid K1
  clear K1
  go_wp2_with fail
  refine (HR6.out _).mono ?_
  rintro e w2 ⟨rfl, hw2⟩
  obtain rfl : w1 = w2 := hw2.symm
  go_upto_region 7 with fail
  go_cut [90] (fun s90 wc => s90 = .bool (!(z0 && z1 && z2) || (!q4 || (q5 || (!q6 || !nv)))) ∧ Hid (Below w.heap.size w wc) ∧ Hid (Blk wc w.heap.size 33 #[.int .i64 t0, .int .i64 t1, .int .i64 2, .int .i64 id, .int .i64 pa, .int .i64 le, .int .i64 a0, .int .i64 a1, .int .i64 a2, .string oc, .slice As ns cs, .string nm, .int .i64 vk, .int .i64 vi, .int .i64 vt, .string vs, .slice Ai ni ci]))
  case first =>
    go_wp2_with (go_at_call 22; refine (HZ.out _ HB1.out).mono ?_; rintro e w3 ⟨rfl, hb3⟩; have HB3 : Hid (Below w.heap.size w w3) := HB1.out.trans (hb3.mono HB1.out.size); have K3 := Lib.hid (HK1.out.below hb3 HK1.out.lt); clear hb3)
    all_goals
      go_meet
      exact ⟨by simp_all, by first | exact ⟨HB3, K3⟩ | exact ⟨HB1, HK1⟩⟩
  case rest =>
  clear x0 x1 x2 x3 x4 x5 x6 x7 x8 x9 x10 x11 x12 x13 x14 x15 x16
  obtain ⟨rfl, HB2, HK2⟩ := hcut
  obtain ⟨F, eF⟩ : ∃ q, (!(z0 && z1 && z2) || (!q4 || (q5 || (!q6 || !nv)))) = q := ⟨_, rfl⟩
  rw [eF] at HE1
  rw [eF]
  have HF := Lib.hid eF
  clear eF HB1 HK1 HZ H1 HR6
  cases F
  case true =>
    have HV := Lib.hid (HE1.out.trans (if_pos rfl))
    go_wp2_with fail
    go_ret
    exact ⟨by rw [HV.out]; rfl, HB2.out⟩
  have HE2 := Lib.hid (HE1.out.trans (if_neg (by decide)))
  clear HE1
  have x0 : wc.cell? ⟨w.heap.size, 0, none⟩ = some (.int .i64 t0) := HK2.out.cell 0
  have x1 : wc.cell? ⟨w.heap.size, 1, none⟩ = some (.int .i64 t1) := HK2.out.cell 1
  have x2 : wc.cell? ⟨w.heap.size, 2, none⟩ = some (.int .i64 2) := HK2.out.cell 2
  have x3 : wc.cell? ⟨w.heap.size, 3, none⟩ = some (.int .i64 id) := HK2.out.cell 3
  have x4 : wc.cell? ⟨w.heap.size, 4, none⟩ = some (.int .i64 pa) := HK2.out.cell 4
  have x5 : wc.cell? ⟨w.heap.size, 5, none⟩ = some (.int .i64 le) := HK2.out.cell 5
  have x6 : wc.cell? ⟨w.heap.size, 6, none⟩ = some (.int .i64 a0) := HK2.out.cell 6
  have x7 : wc.cell? ⟨w.heap.size, 7, none⟩ = some (.int .i64 a1) := HK2.out.cell 7
  have x8 : wc.cell? ⟨w.heap.size, 8, none⟩ = some (.int .i64 a2) := HK2.out.cell 8
  have x9 : wc.cell? ⟨w.heap.size, 9, none⟩ = some (.string oc) := HK2.out.cell 9
  have x10 : wc.cell? ⟨w.heap.size, 10, none⟩ = some (.slice As ns cs) := HK2.out.cell 10
  have x11 : wc.cell? ⟨w.heap.size, 11, none⟩ = some (.string nm) := HK2.out.cell 11
  have x12 : wc.cell? ⟨w.heap.size, 12, none⟩ = some (.int .i64 vk) := HK2.out.cell 12
  have x13 : wc.cell? ⟨w.heap.size, 13, none⟩ = some (.int .i64 vi) := HK2.out.cell 13
  have x14 : wc.cell? ⟨w.heap.size, 14, none⟩ = some (.int .i64 vt) := HK2.out.cell 14
  have x15 : wc.cell? ⟨w.heap.size, 15, none⟩ = some (.string vs) := HK2.out.cell 15
  have x16 : wc.cell? ⟨w.heap.size, 16, none⟩ = some (.slice Ai ni ci) := HK2.out.cell 16
  go_wp2_with fail
  refine (HP.out _).mono ?_
  rintro e w3 ⟨rfl, hw3⟩
  obtain rfl : wc = w3 := hw3.symm
  cases p
  case true =>
    have HV := Lib.hid (HE2.out.trans (if_pos rfl))
    go_wp2_with fail
    go_ret
    exact ⟨by rw [HV.out]; rfl, HB2.out⟩
  have HE3 := Lib.hid (HE2.out.trans (if_neg (by decide)))
  clear HE2
  go_wp2_with fail
  refine (HP1.out _).mono ?_
  rintro e w4 ⟨rfl, hw4⟩
  obtain rfl : wc = w4 := hw4.symm
  cases p1
  case true =>
    have HV := Lib.hid (HE3.out.trans (if_pos rfl))
    go_wp2_with fail
    go_ret
    exact ⟨by rw [HV.out]; rfl, HB2.out⟩
  go_wp2_with fail
  refine (HP2.out _).mono ?_
  rintro e w4 ⟨rfl, hw4⟩
  obtain rfl : wc = w4 := hw4.symm
  cases p2
  case true =>
    have HV := Lib.hid (HE3.out.trans (if_pos rfl))
    go_wp2_with fail
    go_ret
    exact ⟨by rw [HV.out]; rfl, HB2.out⟩
  have HE5 := Lib.hid (HE3.out.trans (if_neg (by decide)))
  clear HE3
  cases e1
  case true =>
    have HV := Lib.hid (HE5.out.trans (if_pos rfl))
    go_wp2_with fail
    go_ret
    exact ⟨by rw [HV.out]; rfl, HB2.out⟩
  cases e2
  case true =>
    have HV := Lib.hid (HE5.out.trans (if_pos rfl))
    go_wp2_with fail
    go_ret
    exact ⟨by rw [HV.out]; rfl, HB2.out⟩
  have HV := Lib.hid (HE5.out.trans (if_neg (by decide)))
  have hq4 : q4 = true := by
    have := HF.out
    revert this
    cases q4 <;> simp
  have HV := Lib.hid (HV.out.trans (HTX.out (g4.trans hq4)))
  clear hq4
  go_wp2_with fail
  go_ret
  exact ⟨by rw [HV.out]; rfl, HB2.out⟩
end Go.Proofs.YtinllchioeldbaaGreatDoor
