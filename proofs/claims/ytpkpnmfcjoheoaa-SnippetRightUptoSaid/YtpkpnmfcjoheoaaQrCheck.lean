/-
  DERIVED. The walk of find.checkPart. Conditions: sizes. By an AI agent.
-/
import Derived.Test.YtpkpnmfcjoheoaaQrPart
namespace Go.Proofs.Ytpkpnmfcjoheoaa
open Go.RowKit

/-- what checkPart says -/
noncomputable def ckP (p : Part) : Int := if p.kind < 0 ∨ 3 < p.kind then 10 else if p.words.length = 0 ∨ (p.kind ≠ 3 ∧ p.words.length ≠ 1) ∨ (p.words.any fun x => !isWb x) = true then 1 else 0

set_option maxHeartbeats 400000 in
theorem outside_any (n : Int) (w : World) :
    Calls Try.prog 11 #[.int .i64 n, .int .i64 0, .int .i64 3] w fun e w' => e = .returned (.bool (decide (n < 0 ∨ 3 < n))) ∧ w' = w := by
  by_cases h1 : n < 0
  · go_enter Try.func11, Try.ntmps11
    go_wp2
    go_ret
    exact ⟨by simp [h1], rfl⟩
  · by_cases h2 : 3 < n
    · go_enter Try.func11, Try.ntmps11
      go_wp2
      go_ret
      exact ⟨rfl, rfl⟩
    · have e1 : decide (n < 0) = false := decide_eq_false h1
      have e2 : decide (3 < n) = false := decide_eq_false h2
      go_enter Try.func11, Try.ntmps11
      go_wp2
      go_ret
      exact ⟨rfl, rfl⟩

set_option maxHeartbeats 1000000 in
theorem checkPart_any (p : Part) (v : Value) (w : World) (B : Nat) (hr : RW w B v p.words) (hB : B ≤ w.heap.size) (hbig : p.words.length ≤ 4294967280) (hs : ∀ x ∈ p.words, x.size ≤ 4294967280) :
    Calls Try.prog 31 #[.agg #[.int .i64 p.kind, v]] w fun e w' => e = .returned (.int .i64 (ckP p)) ∧ Below w.heap.size w w' := by
  obtain ⟨A, n, c, rfl, hn, hnc, hrd⟩ := hr
  obtain ⟨kind, hkd⟩ : ∃ k, k = p.kind := ⟨_, rfl⟩
  have HC : Hid (∀ w1, Below w.heap.size w w1 → Calls Try.prog 23 #[.slice A n c, .func (.func 37) #[] #[]] w1 fun e w' => e = .returned (.bool (p.words.any fun x => !isWb x)) ∧ Below w1.heap.size w1 w') := fun w1 hb =>
    contains_any p.words A n c w1 B (hrd.below (hb.mono hB)) (Nat.le_trans hB hb.size) hn (by omega) hs
  rw [← hkd]
  by_cases h1 : p.kind < 0 ∨ 3 < p.kind
  · have HV : Hid (ckP p = 10) := by show _ = _; unfold ckP; rw [if_pos h1]
    have hd : decide (kind < 0 ∨ 3 < kind) = true := by rw [hkd]; exact decide_eq_true h1
    clear hrd hn hs HC h1 hkd
    go_enter Try.func31, Try.ntmps31
    go_wp2_with fail
    refine (outside_any kind _).mono ?_
    rintro e w1 ⟨rfl, rfl⟩
    rw [hd]
    go_wp2_with fail
    go_ret
    exact ⟨by rw [HV.out]; rfl, (Below.refl _ _).alloc (Nat.le_refl _) _⟩
  · have hd : decide (kind < 0 ∨ 3 < kind) = false := by rw [hkd]; exact decide_eq_false h1
    have HKD := Lib.hid hkd
    have HN := Lib.hid hn
    by_cases h2 : n = 0
    · have HV : Hid (ckP p = 1) := by show _ = _; unfold ckP; rw [if_neg h1, if_pos (.inl (by omega))]
      subst h2
      clear hrd hn hs HC h1 hkd HN HKD
      go_enter Try.func31, Try.ntmps31
      go_wp2_with fail
      refine (outside_any kind _).mono ?_
      rintro e w1 ⟨rfl, rfl⟩
      rw [hd]
      go_wp2_with fail
      go_ret
      exact ⟨by rw [HV.out]; rfl, (Below.refl _ _).alloc (Nat.le_refl _) _⟩
    · have i2 : ((n : Int) == 0) = false := beq_eq_false_iff_ne.2 (by omega)
      by_cases h3 : p.kind ≠ 3 ∧ n ≠ 1
      · have HV : Hid (ckP p = 1) := by show _ = _; unfold ckP; rw [if_neg h1, if_pos (.inr (.inl ⟨h3.1, by omega⟩))]
        have i3 : ¬ kind = 3 := by rw [hkd]; exact h3.1
        have i3b : (kind != 3) = true := bne_iff_ne.2 i3
        have i4 : ((n : Int) != 1) = true := bne_iff_ne.2 (by omega)
        clear hrd hn hs HC h1 hkd HN HKD h3
        go_enter Try.func31, Try.ntmps31
        go_wp2_with fail
        refine (outside_any kind _).mono ?_
        rintro e w1 ⟨rfl, rfl⟩
        rw [hd]
        go_wp2_with fail
        go_ret
        exact ⟨by rw [HV.out]; rfl, (Below.refl _ _).alloc (Nat.le_refl _) _⟩
      · have hway : ((kind != 3) = false) ∨ ((kind != 3) = true ∧ ((n : Int) != 1) = false) := by
          by_cases h : kind = 3
          · exact .inl (by rw [h]; rfl)
          · refine .inr ⟨bne_iff_ne.2 h, ?_⟩
            have h1n : n = 1 := by
              rcases Nat.decEq n 1 with h' | h'
              · exact absurd ⟨by rw [← hkd]; exact h, h'⟩ h3
              · exact h'
            rw [h1n]; rfl
        have hv : ∀ b, (p.words.any fun x => !isWb x) = b → ckP p = if b = true then 1 else 0 := by
          intro b hb
          unfold ckP
          rw [if_neg h1, hb]
          cases b with
          | true => rw [if_pos (.inr (.inr rfl))]; rfl
          | false =>
            rw [if_neg (by rintro (h | ⟨h, h'⟩ | h); exact absurd h (by omega); exact h3 ⟨h, by omega⟩; cases h)]; rfl
        have HV := Lib.hid hv
        clear hrd hn hs h1 hkd HN HKD h3 hv
        rcases hway with i3 | ⟨i3, i4⟩
        all_goals
          go_enter Try.func31, Try.ntmps31
          go_wp2_with fail
          refine (outside_any kind _).mono ?_
          rintro e w1 ⟨rfl, rfl⟩
          rw [hd]
          go_wp2_with fail
          refine (HC.out _ ((Below.refl _ _).alloc (Nat.le_refl _) _)).mono ?_
          rintro e w2 ⟨rfl, hb2⟩
          have HB2 : Hid (Below w.heap.size w w2) := ((Below.refl w.heap.size w).alloc (Nat.le_refl _) _).trans (hb2.mono (by simp))
          clear hb2
          obtain ⟨b, hb⟩ : ∃ b, (p.words.any fun x => !isWb x) = b := ⟨_, rfl⟩
          rw [hb]
          have HVB := Lib.hid (HV.out b hb)
          clear hb
          cases b
          · go_wp2_with fail
            go_ret
            exact ⟨by rw [HVB.out]; rfl, HB2.out⟩
          · go_wp2_with fail
            go_ret
            exact ⟨by rw [HVB.out]; rfl, HB2.out⟩
end Go.Proofs.Ytpkpnmfcjoheoaa
