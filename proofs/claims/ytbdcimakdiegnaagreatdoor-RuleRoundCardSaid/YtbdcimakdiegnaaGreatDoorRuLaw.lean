/-
  DERIVED. The walk of the law RuleRound. Conditions: tables are laid. By an AI agent.
-/
import Derived.Test.YtbdcimakdiegnaaGreatDoorRuText
import Derived.Test.YtbdcimakdiegnaaGreatDoorRuReadR
namespace Go.Proofs.YtbdcimakdiegnaaGreatDoor
open Go.RowKit

theorem ruleText_any (r : Rl) (Aw Ad As : Option Addr) (nw cw nd cd ns cs : Nat) (w : World) (B : Nat) (hB : B ≤ w.heap.size) (hw : RIn w B (.slice Aw nw cw) r.wk) (hd : RIn w B (.slice Ad nd cd) r.ds) (hs : RIn w B (.slice As ns cs) r.skip) (hP : Pow w) :
    Calls Tryz.prog 13 #[RuV r (.slice Aw nw cw) (.slice Ad nd cd) (.slice As ns cs)] w fun e w' => e = .returned (.tuple #[.string (ruS r).1, .int .i64 (ruS r).2]) ∧ Below w.heap.size w w' := by
  by_cases hE : ruErr r = 0
  · exact ruleText_ok r Aw Ad As nw cw nd cd ns cs w B hB hw hd hs hE hP
  · have : ruS r = (⟨#[]⟩, ruErr r) := by unfold ruS; rw [if_pos hE]
    rw [this]
    exact ruleText_bad r Aw Ad As nw cw nd cd ns cs w B hB hw hd hs hE
theorem rin_nil (w : World) (B : Nat) : RIn w B (.slice none 0 0) [] := ⟨none, 0, 0, rfl, rfl, ⟨Nat.le_refl _, by omega⟩, ⟨rfl, fun h => absurd h (Nat.lt_irrefl 0)⟩, fun x hx => by cases hx⟩
set_option maxHeartbeats 1000000 in
theorem awakeDay_any (w : World) :
    Calls Tryz.prog 12 #[] w fun e w' => e = .returned (.bool true) ∧ Below w.heap.size w w' := by
  have hz : ruErr ⟨0, 0, 0, 0, 0, [], [], 0, []⟩ = 10 := by decide
  have HT := ruleText_bad ⟨0, 0, 0, 0, 0, [], [], 0, []⟩ none none none 0 0 0 0 0 0 w w.heap.size (Nat.le_refl _) (rin_nil _ _) (rin_nil _ _) (rin_nil _ _) (by rw [hz]; decide)
  rw [hz] at HT
  unfold RuV at HT
  dsimp only at HT
  have HT := Lib.hid HT
  clear hz
  go_enter Tryz.func12, Tryz.ntmps12
  go_wp2_with fail
  refine HT.out.mono ?_
  rintro e w1 ⟨rfl, hb⟩
  have HB := Lib.hid hb
  clear hb
  go_wp2_with fail
  go_ret
  exact ⟨rfl, HB.out⟩
theorem ruS_ways (r : Rl) : (ruErr r = 0 ∧ (ruT r).size ≤ 2000 ∧ ruS r = (ruT r, 0)) ∨ ∃ E, E ≠ 0 ∧ ruS r = (⟨#[]⟩, E) := by
  unfold ruS
  by_cases h : ruErr r ≠ 0
  · rw [if_pos h]; exact .inr ⟨_, h, rfl⟩
  · rw [if_neg h]
    by_cases hz : 2000 < (ruT r).size
    · rw [if_pos hz]; exact .inr ⟨4, by decide, rfl⟩
    · rw [if_neg hz]; exact .inl ⟨Decidable.of_not_not h, by omega, rfl⟩

set_option maxHeartbeats 4000000 in
set_option maxRecDepth 100000 in
theorem ruleLaw (r : Rl) (Aw Ad As : Option Addr) (nw cw nd cd ns cs : Nat) (m : Int) (w : World) (B : Nat) (hB : B ≤ w.heap.size) (hw : RIn w B (.slice Aw nw cw) r.wk) (hd : RIn w B (.slice Ad nd cd) r.ds) (hs : RIn w B (.slice As ns cs) r.skip) (hE : En m w) :
    Calls Tryz.prog 5 #[RuV r (.slice Aw nw cw) (.slice Ad nd cd) (.slice As ns cs)] w fun e w' => e = .returned (.bool true) ∧ Below w.heap.size w w' := by
  obtain ⟨X, hX⟩ : ∃ X, X = w.alloc (.cells (RuC r (.slice Aw nw cw) (.slice Ad nd cd) (.slice As ns cs)) 40) := ⟨_, rfl⟩
  have hBX : Below w.heap.size w X := by rw [hX]; exact (Below.refl _ _).alloc (Nat.le_refl _) _
  have HKX : Hid (Blk X w.heap.size 40 (RuC r (.slice Aw nw cw) (.slice Ad nd cd) (.slice As ns cs))) := by rw [hX]; exact Blk.new _ _ _
  have HAW := Lib.hid (awakeDay_any X)
  have hzX : w.heap.size < X.heap.size := HKX.out.lt
  have HTX : Hid (∀ W, Below X.heap.size X W → Calls Tryz.prog 13 #[RuV r (.slice Aw nw cw) (.slice Ad nd cd) (.slice As ns cs)] W fun e w' => e = .returned (.tuple #[.string (ruS r).1, .int .i64 (ruS r).2]) ∧ Below W.heap.size W w') := fun W hW =>
    ruleText_any r Aw Ad As nw cw nd cd ns cs W B (Nat.le_trans (Nat.le_trans hB hBX.size) hW.size) ((hw.below (hBX.mono hB)).below (hW.mono (Nat.le_trans hB hBX.size))) ((hd.below (hBX.mono hB)).below (hW.mono (Nat.le_trans hB hBX.size))) ((hs.below (hBX.mono hB)).below (hW.mono (Nat.le_trans hB hBX.size))) ((hE.below hBX).below hW).pow
  have HEX := Lib.hid (hE.below hBX)
  have HX := Lib.hid hX
  have HBX := Lib.hid hBX
  rcases ruS_ways r with ⟨h0, hz, hS⟩ | ⟨E, hE0, hS⟩
  · rw [hS] at HTX
    have HRD : Hid (∀ W, En m W → Calls Tryz.prog 14 #[.string (ruT r)] W (RdrP r W)) := fun W hW => readRule_any r m W h0 hz hW
    have HT2 : Hid (∀ A1 n1 c1 A2 n2 c2 A3 n3 c3 W, RIn W W.heap.size (.slice A1 n1 c1) r.wk → RIn W W.heap.size (.slice A2 n2 c2) r.ds → RIn W W.heap.size (.slice A3 n3 c3) r.skip → Pow W → Calls Tryz.prog 13 #[RuV r (.slice A1 n1 c1) (.slice A2 n2 c2) (.slice A3 n3 c3)] W fun e w' => e = .returned (.tuple #[.string (ruT r), .int .i64 0]) ∧ Below W.heap.size W w') := fun A1 n1 c1 A2 n2 c2 A3 n3 c3 W q1 q2 q3 hP => by
      have := ruleText_any r A1 A2 A3 n1 c1 n2 c2 n3 c3 W W.heap.size (Nat.le_refl _) q1 q2 q3 hP
      rw [hS] at this
      exact this
    have HS := Lib.hid hS
    clear h0 hz hS hX hBX hw hd hs hE hB
    obtain ⟨u, ev, fr, un, ct, wk, ds, nth, sk⟩ := r
    generalize ruT ⟨u, ev, fr, un, ct, wk, ds, nth, sk⟩ = T at HTX HRD HT2
    unfold RuC at HKX HX
    unfold RuV at HTX HT2 ⊢
    dsimp only at HKX HX HTX HT2 ⊢
    have b0 : X.cell? ⟨w.heap.size, 0, none⟩ = some (.int .i64 u) := HKX.out.cell 0
    go_enter Tryz.func5, Tryz.ntmps5
    go_upto_region 1 with fail
    rw [← HX.out]
    go_wp2_with fail
    refine HAW.out.mono ?_
    rintro e w1 ⟨rfl, hb1⟩
    have HK1 := Lib.hid (HKX.out.below hb1 hzX)
    have HT1 := Lib.hid (HTX.out w1 hb1)
    have HE1 := Lib.hid (HEX.out.below hb1)
    have HB1 := Lib.hid (HBX.out.trans (hb1.mono HBX.out.size))
    have k0 : w1.cell? ⟨w.heap.size, 0, none⟩ = some (.int .i64 u) := HK1.out.cell 0
    have k1 : w1.cell? ⟨w.heap.size, 1, none⟩ = some (.int .i64 ev) := HK1.out.cell 1
    have k2 : w1.cell? ⟨w.heap.size, 2, none⟩ = some (.int .i64 fr) := HK1.out.cell 2
    have k3 : w1.cell? ⟨w.heap.size, 3, none⟩ = some (.int .i64 un) := HK1.out.cell 3
    have k4 : w1.cell? ⟨w.heap.size, 4, none⟩ = some (.int .i64 ct) := HK1.out.cell 4
    have k5 : w1.cell? ⟨w.heap.size, 5, none⟩ = some (.slice Aw nw cw) := HK1.out.cell 5
    have k6 : w1.cell? ⟨w.heap.size, 6, none⟩ = some (.slice Ad nd cd) := HK1.out.cell 6
    have k7 : w1.cell? ⟨w.heap.size, 7, none⟩ = some (.int .i64 nth) := HK1.out.cell 7
    have k8 : w1.cell? ⟨w.heap.size, 8, none⟩ = some (.slice As ns cs) := HK1.out.cell 8
    clear hb1 HTX HAW HKX b0
    go_wp2_with fail
    refine HT1.out.mono ?_
    rintro e w2 ⟨rfl, hb2⟩
    have HE2 := Lib.hid (HE1.out.below hb2)
    have HB2 := Lib.hid (HB1.out.trans (hb2.mono HB1.out.size))
    clear hb2 HT1 k0 k1 k2 k3 k4 k5 k6 k7 k8 HK1
    go_wp2_with fail
    refine (HRD.out _ HE2.out).mono ?_
    rintro e w3 ⟨A1, n1, c1, A2, n2, c2, A3, n3, c3, rfl, q1, q2, q3, hb3⟩
    unfold RuV
    dsimp only at q1 q2 q3 ⊢
    obtain ⟨gv, hgv⟩ : ∃ gv, gv = w3.heap.size := ⟨_, rfl⟩
    obtain ⟨W4, hW4⟩ : ∃ W4, W4 = w3.alloc (.cells #[.int .i64 u, .int .i64 ev, .int .i64 fr, .int .i64 un, .int .i64 ct, .slice A1 n1 c1, .slice A2 n2 c2, .int .i64 nth, .slice A3 n3 c3] 40) := ⟨_, rfl⟩
    have hb4 : Below w3.heap.size w3 W4 := by rw [hW4]; exact (Below.refl _ _).alloc (Nat.le_refl _) _
    have hz4 := hb4.size
    have HV4 : Hid (Blk W4 gv 40 #[.int .i64 u, .int .i64 ev, .int .i64 fr, .int .i64 un, .int .i64 ct, .slice A1 n1 c1, .slice A2 n2 c2, .int .i64 nth, .slice A3 n3 c3]) := by rw [hW4, hgv]; exact Blk.new _ _ _
    have HT4 := Lib.hid (HT2.out A1 n1 c1 A2 n2 c2 A3 n3 c3 W4 ((q1.below hb4).more hz4) ((q2.below hb4).more hz4) ((q3.below hb4).more hz4) ((HE2.out.below hb3).below hb4).pow)
    have HB4 := Lib.hid ((HB2.out.trans (hb3.mono HB2.out.size)).trans (hb4.mono (HB2.out.trans (hb3.mono HB2.out.size)).size))
    have HW4 := Lib.hid hW4
    have HGV := Lib.hid hgv
    have k0 : W4.cell? ⟨gv, 0, none⟩ = some (.int .i64 u) := HV4.out.cell 0
    have k1 : W4.cell? ⟨gv, 1, none⟩ = some (.int .i64 ev) := HV4.out.cell 1
    have k2 : W4.cell? ⟨gv, 2, none⟩ = some (.int .i64 fr) := HV4.out.cell 2
    have k3 : W4.cell? ⟨gv, 3, none⟩ = some (.int .i64 un) := HV4.out.cell 3
    have k4 : W4.cell? ⟨gv, 4, none⟩ = some (.int .i64 ct) := HV4.out.cell 4
    have k5 : W4.cell? ⟨gv, 5, none⟩ = some (.slice A1 n1 c1) := HV4.out.cell 5
    have k6 : W4.cell? ⟨gv, 6, none⟩ = some (.slice A2 n2 c2) := HV4.out.cell 6
    have k7 : W4.cell? ⟨gv, 7, none⟩ = some (.int .i64 nth) := HV4.out.cell 7
    have k8 : W4.cell? ⟨gv, 8, none⟩ = some (.slice A3 n3 c3) := HV4.out.cell 8
    clear hb3 hb4 hW4 hgv q1 q2 q3 HT2 HRD HV4 hz4
    go_upto_region 7 with fail
    rw [← HW4.out, ← HGV.out]
    go_wp2_with fail
    refine HT4.out.mono ?_
    rintro e w5 ⟨rfl, hb5⟩
    have HB5 := Lib.hid (HB4.out.trans (hb5.mono HB4.out.size))
    clear hb5 HT4 k0 k1 k2 k3 k4 k5 k6 k7 k8
    go_wp2_with fail
    go_ret
    exact ⟨rfl, HB5.out⟩
  · rw [hS] at HTX
    have j1 : (E != 0) = true := bne_iff_ne.2 hE0
    clear hS hE0 hX hBX hw hd hs hE hB
    obtain ⟨u, ev, fr, un, ct, wk, ds, nth, sk⟩ := r
    unfold RuC at HKX HX
    unfold RuV at HTX ⊢
    dsimp only at HKX HX HTX ⊢
    go_enter Tryz.func5, Tryz.ntmps5
    go_upto_region 1 with fail
    rw [← HX.out]
    go_wp2_with fail
    refine HAW.out.mono ?_
    rintro e w1 ⟨rfl, hb1⟩
    have HK1 := Lib.hid (HKX.out.below hb1 hzX)
    have HT1 := Lib.hid (HTX.out w1 hb1)
    have HB1 := Lib.hid (HBX.out.trans (hb1.mono HBX.out.size))
    have k0 : w1.cell? ⟨w.heap.size, 0, none⟩ = some (.int .i64 u) := HK1.out.cell 0
    have k1 : w1.cell? ⟨w.heap.size, 1, none⟩ = some (.int .i64 ev) := HK1.out.cell 1
    have k2 : w1.cell? ⟨w.heap.size, 2, none⟩ = some (.int .i64 fr) := HK1.out.cell 2
    have k3 : w1.cell? ⟨w.heap.size, 3, none⟩ = some (.int .i64 un) := HK1.out.cell 3
    have k4 : w1.cell? ⟨w.heap.size, 4, none⟩ = some (.int .i64 ct) := HK1.out.cell 4
    have k5 : w1.cell? ⟨w.heap.size, 5, none⟩ = some (.slice Aw nw cw) := HK1.out.cell 5
    have k6 : w1.cell? ⟨w.heap.size, 6, none⟩ = some (.slice Ad nd cd) := HK1.out.cell 6
    have k7 : w1.cell? ⟨w.heap.size, 7, none⟩ = some (.int .i64 nth) := HK1.out.cell 7
    have k8 : w1.cell? ⟨w.heap.size, 8, none⟩ = some (.slice As ns cs) := HK1.out.cell 8
    clear hb1 HTX HAW HKX
    go_wp2_with fail
    refine HT1.out.mono ?_
    rintro e w2 ⟨rfl, hb2⟩
    have HB2 := Lib.hid (HB1.out.trans (hb2.mono HB1.out.size))
    clear hb2 HT1 k0 k1 k2 k3 k4 k5 k6 k7 k8 HK1
    go_wp2_with fail
    go_ret
    exact ⟨rfl, HB2.out⟩
end Go.Proofs.YtbdcimakdiegnaaGreatDoor
