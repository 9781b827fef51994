/-
  DERIVED. The walk of florkeep1.TextBack. Conditions: lengths in reach. By an AI agent.
-/
import Derived.Test.YtcbmddgafkoooaaDoorAwakeText
import Derived.Test.YtcbmddgafkoooaaDoorBackMath
import Derived.Test.YtcbmddgafkoooaaDoorCheckText
import Derived.Test.YtcbmddgafkoooaaDoorCompose
import Derived.Test.YtcbmddgafkoooaaDoorMarksShift
import Derived.WalkSpells
namespace Go.Proofs.YtcbmddgafkoooaaDoor
open Go.RowKit

set_option pp.deepTerms true in
set_option pp.maxSteps 200000 in
set_option maxHeartbeats 2000000 in
set_option maxRecDepth 100000 in
theorem textBack_bad (s x b : ByteArray) (f t : Int) (w : World) (hs : s.size ≤ 140737488351232) (hx : x.size ≤ 140737488351232) (hb : b.size ≤ 140737488351232) (hE : edErr s x f t ≠ 0) :
    Calls Tryd.prog 4 #[.string s, .agg #[.int .i64 f, .int .i64 t, .string x], .string b] w fun e w' => e = .returned (.bool true) ∧ Below w.heap.size w w' := by
  have HE := Lib.hid hE
  have hEb : (edErr s x f t == 0) = false := by simpa using hE
  have hc := cp_le s b
  have hl := sf_le s b
  have hmk := diff_makes s b
  have hdv : Hid (diffV s b = .agg #[.int .i64 (cp s b : Nat), .int .i64 ((s.size - sf s b : Nat) : Int), .string (b.extract (cp s b) (b.size - sf s b))]) := rfl
  obtain ⟨p, hp⟩ : ∃ p, p = cp s b := ⟨_, rfl⟩
  obtain ⟨q, hq⟩ : ∃ q, q = s.size - sf s b := ⟨_, rfl⟩
  obtain ⟨W, hW⟩ : ∃ W, W = b.extract (cp s b) (b.size - sf s b) := ⟨_, rfl⟩
  have hWs : W.size ≤ 140737488351232 := by rw [hW, ByteArray.size_extract]; omega
  rw [← hW, ← hq, ← hp] at hdv hmk
  have hpq : (p : Int) ≤ (q : Int) := by omega
  have hqs : (q : Int) ≤ (s.size : Int) := by omega
  have hp0 : (0 : Int) ≤ (p : Int) := by omega
  have hq0 : (0 : Int) ≤ (q : Int) := by omega
  have g0 : decide ((p : Int) < 0) = false := by simp
  have g1 : decide ((q : Int) < (p : Int)) = false := by simp; omega
  have g2 : decide ((s.size : Int) < (q : Int)) = false := by simp; omega
  have g1n : decide (q < p) = false := by simp; omega
  have g2n : decide (s.size < q) = false := by simp; omega
  have hps : (p : Int) ≤ (s.size : Int) := by omega
  have hpsn : p ≤ s.size := by omega
  have hqsn : q ≤ s.size := by omega
  have hne : ((s.extract 0 p ++ W ++ s.extract q s.size).toList == b.toList) = true := by rw [hmk]; simp
  clear hc hl hp hq hW hmk hE
  go_enter Tryd.func4, Tryd.ntmps4
  go_wp2_with fail
  refine (awakeText_any _).mono ?_
  rintro e w1 ⟨rfl, hb1⟩
  simp only [World.size_alloc] at hb1
  have K : Blk w1 w.heap.size 32 #[.int .i64 f, .int .i64 t, .string x] := (Blk.new _ _ _).below hb1 (by omega)
  have q0 := K.cell 0
  have q1 := K.cell 1
  have q2 := K.cell 2
  have hz1 := hb1.size
  simp only [World.size_alloc] at hz1
  have hbel : Below w.heap.size w w1 := ((Below.refl _ _).alloc (Nat.le_refl _) _).trans (hb1.mono (by omega))
  clear hb1
  go_wp2_with fail
  refine (apply_bad s x f t _ hs hx HE.out).mono ?_
  rintro e w2 ⟨rfl, hb2⟩
  have hbel2 : Hid (Below w.heap.size w w2) := hbel.trans (hb2.mono (by omega))
  clear q0 q1 q2 K hbel hb2
  go_wp2_with fail
  refine (diff_any s b _ hs hb).mono ?_
  rintro e w3 ⟨rfl, hb3⟩
  rw [hdv.out]
  have hbel3 : Hid (Below w.heap.size w w3) := hbel2.out.trans (hb3.mono (by have := hbel2.out.size; omega))
  clear hb3 hdv
  go_upto_region 19 with (fail)
  go_quiet (fail)
  go_wp2
  go_ret
  exact ⟨rfl, bdrew (hbel3.out.alloc (by have := hbel3.out.size; omega) _) _⟩
end Go.Proofs.YtcbmddgafkoooaaDoor
