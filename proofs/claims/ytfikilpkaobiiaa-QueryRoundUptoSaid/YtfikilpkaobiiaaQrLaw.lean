/-
  DERIVED. The walk of the law QueryRound. Conditions: sizes. By an AI agent.
-/
import Derived.Test.YtfikilpkaobiiaaQrReadQ
namespace Go.Proofs.Ytfikilpkaobiiaa
open Go.RowKit

theorem isW_a : isW ⟨#[97]⟩ := by
  refine ⟨by decide, by decide, fun i hi => ?_, by simp [low, lowB]⟩
  have : i < 1 := hi
  obtain rfl : i = 0 := by omega
  decide
set_option maxHeartbeats 1000000 in
theorem awake_any (w : World) : Calls Try.prog 4 #[] w fun e w' => e = .returned (.bool true) ∧ Below w.heap.size w w' := by
  have hw := words_one isW_a
  have HW : Hid (∀ W, Calls Try.prog 7 #[.string ⟨#[97]⟩] W fun e w' => ∃ A, e = .returned (.slice A 1 1) ∧ Below W.heap.size W w') := fun W => (words_any ⟨#[97]⟩ W (by decide)).mono (fun _ _ h => by
    obtain ⟨A, h1, _, h3⟩ := h
    rw [hw] at h1
    exact ⟨A, h1, h3⟩)
  clear hw
  go_enter Try.func4, Try.ntmps4
  go_wp2_with fail
  refine (HW.out _).mono ?_
  rintro e w1 ⟨A, rfl, hb⟩
  go_wp2_with fail
  go_ret
  exact ⟨rfl, hb⟩

theorem RC.len {W : World} {B : Nat} {v : Value} {cs : List Clause} (h : RC W B v cs) : ∃ A c, v = .slice A cs.length c := by
  obtain ⟨A, n, c, M, h1, rfl, h2, _⟩ := h
  exact ⟨A, c, by rw [h2, ← h1, List.length_map]⟩
theorem RC.more {W : World} {B B' : Nat} {v : Value} {cs : List Clause} (h : RC W B v cs) (hB : B ≤ B') : RC W B' v cs := by
  obtain ⟨A, n, c, M, h1, h2, h3, h4, h5⟩ := h
  refine ⟨A, n, c, M, h1, h2, h3, h4.more hB, fun x hx => ?_⟩
  obtain ⟨A, n, c, M, h1, h2, h3, h4, h5⟩ := h5 x hx
  refine ⟨A, n, c, M, h1, h2, h3, h4.more hB, fun y hy => ?_⟩
  obtain ⟨A, n, c, h1, h2, h3, h4⟩ := h5 y hy
  exact ⟨A, n, c, h1, h2, h3, h4.more hB⟩

set_option maxRecDepth 100000 in
set_option maxHeartbeats 4000000 in
theorem queryRound_any (cs : List Clause) (v : Value) (w : World) (B : Nat) (hr : RC w B v cs) (hB : B ≤ w.heap.size) (hnp : np cs ≤ 4294967280) (hlen : cs.length ≤ 4294967280) (hq : (qtext cs).size ≤ 4294967280)
    (hw : ∀ c ∈ cs, ∀ p ∈ c.parts, p.words.length ≤ 4294967280 ∧ ∀ x ∈ p.words, x.size ≤ 4294967280) :
    Calls Try.prog 3 #[.agg #[v]] w fun e w' => e = .returned (.bool true) ∧ Below w.heap.size w w' := by
  have HQT : Hid (∀ v W, RC W W.heap.size v cs → Calls Try.prog 5 #[.agg #[v]] W (QtP cs W)) := fun v W h => queryText_any cs v W _ h (Nat.le_refl _) hnp hlen hq hw
  have HRQ : Hid (okQ cs → ∀ W, Calls Try.prog 6 #[.string (qtext cs)] W fun e w' => ∃ v, e = .returned (.tuple #[.agg #[v], .int .i64 0, .int .i64 0]) ∧ RC w' w'.heap.size v cs ∧ Below W.heap.size W w') := fun h W => readQuery_any cs _ W rfl h hlen
  have HR := Lib.hid hr
  obtain ⟨A, c, rfl⟩ := hr.len
  clear hr hnp hq hw
  obtain ⟨n, hn⟩ : ∃ n, n = cs.length := ⟨_, rfl⟩
  rw [← hn] at HR hlen ⊢
  have HN := Lib.hid hn
  clear hn
  go_enter Try.func3, Try.ntmps3
  go_wp2_with fail
  refine (awake_any _).mono ?_
  rintro e w1 ⟨rfl, hb1⟩
  have HB1 : Hid (Below w.heap.size w w1) := ((Below.refl _ _).alloc (Nat.le_refl _) _).trans (hb1.mono (by simp))
  have BQ1 : Hid (Blk w1 w.heap.size 24 #[.slice A n c]) := (Blk.new w _ _).below hb1 (by simp)
  have hz1 : w.heap.size < w1.heap.size := BQ1.out.lt
  have HR1 : Hid (RC w1 w1.heap.size (.slice A n c) cs) := (HR.out.below (HB1.out.mono hB)).more (by omega)
  clear hb1
  have c0 := BQ1.out.cell 0
  go_wp2_with fail
  refine (HQT.out _ _ HR1.out).mono ?_
  rintro e w2 ⟨o, er, rfl, hway, hb2⟩
  have HB2 : Hid (Below w.heap.size w w2) := HB1.out.trans (hb2.mono (by omega))
  have BQ2 : Hid (Blk w2 w.heap.size 24 #[.slice A n c]) := BQ1.out.below hb2 hz1
  clear hb2 c0
  rcases hway with ⟨rfl, ho, hok⟩ | ⟨her, rfl, hno⟩
  · have HO := Lib.hid ho
    have HOK := Lib.hid hok
    have HRR : Hid (∀ W, Calls Try.prog 6 #[.string o] W fun e w' => ∃ v, e = .returned (.tuple #[.agg #[v], .int .i64 0, .int .i64 0]) ∧ RC w' w'.heap.size v cs ∧ Below W.heap.size W w') := by
      show ∀ _, _
      rw [ho]
      exact HRQ.out hok
    clear ho hok
    go_wp2_with fail
    refine (HRR.out _).mono ?_
    rintro e w3 ⟨v3, rfl, hr3, hb3⟩
    obtain ⟨A3, c3, rfl⟩ := hr3.len
    rw [← HN.out] at hr3 ⊢
    have HB3 : Hid (Below w.heap.size w w3) := HB2.out.trans (hb3.mono (Nat.le_of_lt BQ2.out.lt))
    have BQ3 : Hid (Blk w3 w.heap.size 24 #[.slice A n c]) := BQ2.out.below hb3 BQ2.out.lt
    have HR3 := Lib.hid hr3
    clear hr3 hb3
    go_wp2_with fail
    refine (HQT.out _ _ ((HR3.out.below ((Below.refl _ _).alloc (Nat.le_refl _) _)).more (by simp))).mono ?_
    rintro e w4 ⟨o4, er4, rfl, hway4, hb4⟩
    have B34 : Hid (Below w3.heap.size w3 w4) := ((Below.refl _ _).alloc (Nat.le_refl _) _).trans (hb4.mono (by simp))
    have HB4 : Hid (Below w.heap.size w w4) := HB3.out.trans (B34.out.mono (Nat.le_of_lt BQ3.out.lt))
    have BQ4 : Hid (Blk w4 w.heap.size 24 #[.slice A n c]) := BQ3.out.below B34.out BQ3.out.lt
    have BR4 : Hid (Blk w4 w3.heap.size 24 #[.slice A3 n c3]) := (Blk.new w3 _ _).below hb4 (by simp)
    clear hb4
    rcases hway4 with ⟨rfl, ho4, _⟩ | ⟨_, _, hno4⟩
    · obtain rfl : o = o4 := HO.out.trans ho4.symm
      clear ho4
      have c0 := BQ4.out.cell 0
      have c1 := BR4.out.cell 0
      go_wp2_with fail
      go_ret
      exact ⟨rfl, HB4.out⟩
    · exact absurd HOK.out hno4
  · have e1 : (er != 0) = true := bne_iff_ne.2 her
    clear hno her
    go_wp2_with fail
    go_ret
    exact ⟨rfl, HB2.out⟩
end Go.Proofs.Ytfikilpkaobiiaa
