/-
  DERIVED. The walk of day.CheckRule. Conditions: none. By an AI agent.
-/
import Derived.Test.YtbdcimakdiegnaaGreatDoorRuChk2
namespace Go.Proofs.YtbdcimakdiegnaaGreatDoor
open Go.RowKit

set_option maxHeartbeats 4000000 in
set_option maxRecDepth 100000 in
theorem checkRule_any (r : Rl) (Aw Ad As : Option Addr) (nw cw nd cd ns cs : Nat) (w : World) (B : Nat) (hB : B ≤ w.heap.size) (hw : RIn w B (.slice Aw nw cw) r.wk) (hd : RIn w B (.slice Ad nd cd) r.ds) (hs : RIn w B (.slice As ns cs) r.skip) :
    Calls Tryz.prog 31 #[RuV r (.slice Aw nw cw) (.slice Ad nd cd) (.slice As ns cs)] w fun e w' => e = .returned (.int .i64 (ruErr r)) ∧ Below w.heap.size w w' := by
  have HP := Lib.hid fun W => checkParts_any r Aw Ad As nw cw nd cd ns cs W hw.len.1 hd.len.1
  obtain ⟨X, hX⟩ : ∃ X, X = w.alloc (.cells (RuC r (.slice Aw nw cw) (.slice Ad nd cd) (.slice As ns cs)) 40) := ⟨_, rfl⟩
  have hBX : Below w.heap.size w X := by rw [hX]; exact (Below.refl _ _).alloc (Nat.le_refl _) _
  have HKX : Hid (Blk X w.heap.size 40 (RuC r (.slice Aw nw cw) (.slice Ad nd cd) (.slice As ns cs))) := by rw [hX]; exact Blk.new _ _ _
  have HR1 : Hid (∀ W, Below X.heap.size X W → Calls Tryz.prog 63 #[.slice Aw nw cw, .int .i64 0, .int .i64 6, .bool true] W fun e w' => e = .returned (.int .i64 (riErr 0 6 true none r.wk)) ∧ w' = W) := fun W hW => checkRising_any r.wk Aw nw cw 0 6 true W B ((hw.below (hBX.mono hB)).below (hW.mono (Nat.le_trans hB hBX.size)))
  have HR2 : Hid (∀ W, Below X.heap.size X W → Calls Tryz.prog 63 #[.slice Ad nd cd, .int .i64 (-31), .int .i64 31, .bool false] W fun e w' => e = .returned (.int .i64 (riErr (-31) 31 false none r.ds)) ∧ w' = W) := fun W hW => checkRising_any r.ds Ad nd cd (-31) 31 false W B ((hd.below (hBX.mono hB)).below (hW.mono (Nat.le_trans hB hBX.size)))
  have HR3 : Hid (∀ W, Below X.heap.size X W → Calls Tryz.prog 63 #[.slice As ns cs, .int .i64 0, .int .i64 100000, .bool true] W fun e w' => e = .returned (.int .i64 (riErr 0 100000 true none r.skip)) ∧ w' = W) := fun W hW => checkRising_any r.skip As ns cs 0 100000 true W B ((hs.below (hBX.mono hB)).below (hW.mono (Nat.le_trans hB hBX.size)))
  have hns := hs.len.1
  obtain ⟨u, ev, fr, un, ct, wk, ds, nth, sk⟩ := r
  obtain ⟨E, hE⟩ : ∃ E, E = ruErr ⟨u, ev, fr, un, ct, wk, ds, nth, sk⟩ := ⟨_, rfl⟩
  rw [← hE]
  unfold ruErr at hE
  dsimp only at hE HR1 HR2 HR3 hns
  rw [← hns] at hE
  have HO0 := Lib.hid fun W => outsideD_any u 1 4 W
  have HO1 := Lib.hid fun W => outsideD_any ev 1 1000 W
  have HO2 := Lib.hid fun W => checkDay_any fr W
  have HO3 := Lib.hid fun W => outsideD_any un (-1) 100000 W
  have HO4 := Lib.hid fun W => outsideD_any ct 0 5000 W
  have HO5 := Lib.hid fun W => outsideD_any nth (-5) 5 W
  generalize outI u 1 4 = o0 at hE HO0
  generalize outI ev 1 1000 = o1 at hE HO1
  generalize outI fr 0 100000 = o2 at hE HO2
  generalize outI un (-1) 100000 = o3 at hE HO3
  generalize outI ct 0 5000 = o4 at hE HO4
  generalize outI nth (-5) 5 = o5 at hE HO5
  generalize paErr ⟨u, ev, fr, un, ct, wk, ds, nth, sk⟩ = P at hE HP
  generalize riErr 0 6 true none wk = R1 at hE HR1
  generalize riErr (-31) 31 false none ds = R2 at hE HR2
  generalize riErr 0 100000 true none sk = R3 at hE HR3
  have HE := Lib.hid hE
  have HX := Lib.hid hX
  have HBX := Lib.hid hBX
  have hzX : w.heap.size < X.heap.size := HKX.out.lt
  unfold RuV RuC at *
  dsimp only at HP HX HKX ⊢
  have b0 := fun i => HKX.out.cell i
  clear hE hX hBX hw hd hs hns
  go_enter Tryz.func31, Tryz.ntmps31
  go_upto_region 1 with fail
  rw [← HX.out]
  go_wp2_with fail
  refine (HO0.out _).mono ?_
  rintro e w1 ⟨rfl, rfl⟩
  cases o0
  case true =>
    have he : E = 10 := HE.out
    subst he
    go_wp2_with fail
    go_ret
    exact ⟨rfl, HBX.out⟩
  have HE : Hid (E = if (o1 || o2 || o3 || o4) = true then 2 else if P ≠ 0 then P else if R1 ≠ 0 then R1 else if R2 ≠ 0 then R2 else if o5 = true then 2 else if 100 < ns then 4 else R3) := HE.out
  go_upto_region 3 with fail
  go_cut [27] (fun s27 wc => s27 = .bool (o1 || o2 || o3 || o4) ∧ wc = w1)
  case first =>
    clear HE HR1 HR2 HR3 HP
    cases o1 <;> cases o2 <;> cases o3 <;> cases o4
    all_goals
      go_wp2_with (first | ((with_reducible refine Calls.mono (HO1.out _) ?_); rintro e w1 ⟨rfl, rfl⟩) | ((with_reducible refine Calls.mono (HO2.out _) ?_); rintro e w1 ⟨rfl, rfl⟩) | ((with_reducible refine Calls.mono (HO3.out _) ?_); rintro e w1 ⟨rfl, rfl⟩) | ((with_reducible refine Calls.mono (HO4.out _) ?_); rintro e w1 ⟨rfl, rfl⟩))
      go_meet
      exact ⟨rfl, rfl⟩
  case rest =>
  obtain ⟨rfl, rfl⟩ := hcut
  generalize (o1 || o2 || o3 || o4) = O at HE ⊢
  clear HO0 HO1 HO2 HO3 HO4
  cases O
  case true =>
    have he : E = 2 := HE.out
    subst he
    go_wp2_with fail
    go_ret
    exact ⟨rfl, HBX.out⟩
  have HE : Hid (E = if P ≠ 0 then P else if R1 ≠ 0 then R1 else if R2 ≠ 0 then R2 else if o5 = true then 2 else if 100 < ns then 4 else R3) := HE.out
  go_wp2_with fail
  refine (HP.out _).mono ?_
  rintro e w2 ⟨rfl, hb2⟩
  have HB2 := Lib.hid hb2
  have HG2 : Hid (Below w.heap.size w w2) := HBX.out.trans (hb2.mono HBX.out.size)
  have c0 := fun i => (HKX.out.below hb2 hzX).cell i
  clear b0 hb2 HP
  by_cases hP : P = 0
  case neg =>
    have he : E = P := by rw [HE.out, if_pos hP]
    clear HE
    subst he
    go_wp2_with fail
    go_ret
    exact ⟨rfl, HG2.out⟩
  subst hP
  have HE : Hid (E = if R1 ≠ 0 then R1 else if R2 ≠ 0 then R2 else if o5 = true then 2 else if 100 < ns then 4 else R3) := HE.out
  go_wp2_with fail
  refine (HR1.out _ HB2.out).mono ?_
  rintro e w3 ⟨rfl, rfl⟩
  by_cases hP : R1 = 0
  case neg =>
    have he : E = R1 := by rw [HE.out, if_pos hP]
    clear HE
    subst he
    go_wp2_with fail
    go_ret
    exact ⟨rfl, HG2.out⟩
  subst hP
  have HE : Hid (E = if R2 ≠ 0 then R2 else if o5 = true then 2 else if 100 < ns then 4 else R3) := HE.out
  go_wp2_with fail
  refine (HR2.out _ HB2.out).mono ?_
  rintro e w4 ⟨rfl, rfl⟩
  by_cases hP : R2 = 0
  case neg =>
    have he : E = R2 := by rw [HE.out, if_pos hP]
    clear HE
    subst he
    go_wp2_with fail
    go_ret
    exact ⟨rfl, HG2.out⟩
  subst hP
  have HE : Hid (E = if o5 = true then 2 else if 100 < ns then 4 else R3) := HE.out
  go_wp2_with fail
  refine (HO5.out _).mono ?_
  rintro e w5 ⟨rfl, rfl⟩
  cases o5
  case true =>
    have he : E = 2 := HE.out
    subst he
    go_wp2_with fail
    go_ret
    exact ⟨rfl, HG2.out⟩
  by_cases hl : 100 < ns
  · have he : E = 4 := by rw [HE.out, if_neg (by decide), if_pos hl]
    have j1 : (100 : Int) < (ns : Int) := by omega
    clear HE
    subst he
    go_wp2_with fail
    go_ret
    exact ⟨rfl, HG2.out⟩
  · have he : E = R3 := by rw [HE.out, if_neg (by decide), if_neg hl]
    have j1 : ¬ (100 : Int) < (ns : Int) := by omega
    clear HE
    subst he
    go_wp2_with fail
    refine (HR3.out _ HB2.out).mono ?_
    rintro e w6 ⟨rfl, rfl⟩
    go_wp2_with fail
    go_ret
    exact ⟨rfl, HG2.out⟩
end Go.Proofs.YtbdcimakdiegnaaGreatDoor
