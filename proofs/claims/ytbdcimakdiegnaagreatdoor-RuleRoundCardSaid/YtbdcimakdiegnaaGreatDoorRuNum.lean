/-
  DERIVED. The walk of day.plainNumber; where numbers are read back. Conditions: sizes; the table of powers of ten is laid. By an AI agent.
-/
import Derived.Test.YtbdcimakdiegnaaGreatDoorRvNumW
import Derived.Test.YtbdcimakdiegnaaGreatDoorRuMath
namespace Go.Proofs.YtbdcimakdiegnaaGreatDoor
open Go.RowKit

/-- a number of at most nine digits -/
def plM (x : List UInt8) : Option Int :=
  if ((Lib.trimPrefix x [45]).isEmpty || decide (9 < (Lib.trimPrefix x [45]).length) || !(Lib.trimPrefix x [45]).all isDg) = true then none
  else if Lib.itoa ((Lib.atoi x).getD 0) = x then some ((Lib.atoi x).getD 0) else none
theorem plM_itoa {n : Int} (h : n.natAbs < 10 ^ 7) : plM (Lib.itoa n) = some n := by
  unfold plM
  rw [itoa_digits, atoi_itoa]
  have h1 := dd_ne n.natAbs
  have h2 := dd_len 6 n.natAbs h
  have h3 := dd_dg n.natAbs
  rw [if_neg, Option.getD_some, if_pos rfl]
  simp only [Bool.or_eq_true, List.isEmpty_iff, decide_eq_true_eq, Bool.not_eq_true', not_or]
  refine ⟨⟨h1, by omega⟩, ?_⟩
  rw [h3]
  decide
theorem plM_wd {n : Int} (h : n.natAbs < 10 ^ 7) : plM (wd n).data.toList = some n := plM_itoa h
theorem plM_skip : plM wSkip.data.toList = none := by decide

set_option maxHeartbeats 2000000 in
theorem plainNumberD_any (x : ByteArray) (w : World) (_hs : x.size ≤ 400000) (hP : Pow w) :
    Calls Tryz.prog 73 #[.string x] w fun e w' => ∃ n', e = .returned (.tuple #[.int .i64 n', .bool (plM x.data.toList).isSome]) ∧ (∀ n, plM x.data.toList = some n → n' = n) ∧ Below w.heap.size w w' := by
  have PX := Lib.hid fun W => Tryz.strings_TrimPrefix x ⟨#[45]⟩ W
  obtain ⟨D, hD⟩ : ∃ D : ByteArray, D = ⟨(Lib.trimPrefix x.data.toList [45]).toArray⟩ := ⟨_, rfl⟩
  have hDl : D.data.toList = Lib.trimPrefix x.data.toList [45] := by rw [hD]
  have PX : Hid (∀ W, Calls Tryz.prog 104 #[.string x, .string ⟨#[45]⟩] W fun e w' => e = .returned (.string D) ∧ w' = W) := fun W => by
    have := PX.out W
    rw [show (⟨#[45]⟩ : ByteArray).data.toList = [45] from rfl, ← hD] at this
    exact this
  have hDz : D.size ≤ x.size := by
    rw [Lib.size_eq, Lib.size_eq, hDl]
    unfold Lib.trimPrefix
    split
    · rw [List.length_drop]; omega
    · exact Nat.le_refl _
  unfold plM
  rw [← hDl]
  cases hem : D.data.toList.isEmpty
  case true =>
    have e1 : D.toList.isEmpty = true := by rw [Lib.toList_data]; exact hem
    rw [if_pos (by simp)]
    clear hem hD hDl hP
    go_enter Tryz.func73, Tryz.ntmps73
    go_wp2_with fail
    refine (PX.out _).mono ?_
    rintro e w1 ⟨rfl, rfl⟩
    go_wp2_with fail
    go_ret2
    exact ⟨_, rfl, (fun n h => by cases h), Below.refl _ _⟩
  have e1 : D.toList.isEmpty = false := by rw [Lib.toList_data]; exact hem
  by_cases hl : 9 < D.data.toList.length
  · have i1 : (9 : Int) < (D.size : Int) := by rw [Lib.size_eq]; omega
    rw [decide_eq_true hl, if_pos (by simp)]
    clear hem hD hDl hP hl
    go_enter Tryz.func73, Tryz.ntmps73
    go_wp2_with fail
    refine (PX.out _).mono ?_
    rintro e w1 ⟨rfl, rfl⟩
    go_wp2_with fail
    go_ret2
    exact ⟨_, rfl, (fun n h => by cases h), Below.refl _ _⟩
  have i1 : ¬ (9 : Int) < (D.size : Int) := by rw [Lib.size_eq]; omega
  rw [decide_eq_false hl]
  have TD := fun W => trimDg_any D W (by omega)
  have hte := trimDg_nil D.data.toList
  obtain ⟨T, hT⟩ : ∃ T : ByteArray, T = ⟨(Lib.trimS D.data.toList dgs).toArray⟩ := ⟨_, rfl⟩
  rw [← hT] at TD hte
  have TD := Lib.hid TD
  cases hal : D.data.toList.all isDg
  case false =>
    rw [hal] at hte
    rw [if_pos (by simp)]
    clear hem hD hDl hP hl hT hal
    go_enter Tryz.func73, Tryz.ntmps73
    go_wp2_with fail
    refine (PX.out _).mono ?_
    rintro e w1 ⟨rfl, rfl⟩
    go_wp2_with fail
    refine (TD.out _).mono ?_
    rintro e w2 ⟨rfl, hb2⟩
    have HB2 := Lib.hid hb2
    clear hb2
    go_wp2_with fail
    go_ret2
    exact ⟨_, rfl, (fun n h => by cases h), HB2.out⟩
  rw [hal] at hte
  have hdl := hDl
  rw [hDl] at hal hem hl
  obtain ⟨n, ha, hn, hx⟩ := atoi_pl hal (by simpa using hem) (by omega)
  have hxz : x.size ≤ 18 := by rw [Lib.size_eq]; omega
  have AT := Lib.hid fun W => Tryz.strconv_Atoi x n hxz ha W
  have IT := Lib.hid fun W hP => itoaN_any n (by omega) (by omega) W hP
  have hcm := ba_eq (x := wd n) (y := x)
  have hcm2 : decide ((wd n).data.toList = x.data.toList) = decide (Lib.itoa n = x.data.toList) := rfl
  rw [hcm2] at hcm
  rw [ha, if_neg (by simp)]
  simp only [Option.getD_some]
  have HPW := Lib.hid hP
  have HW : Hid (wd n = wd n) := rfl
  obtain ⟨S, hS⟩ : ∃ S, S = wd n := ⟨_, rfl⟩
  rw [← hS] at hcm IT
  obtain ⟨q, hq⟩ : ∃ q, q = decide (Lib.itoa n = x.data.toList) := ⟨_, rfl⟩
  have hgo : (∃ m, (if Lib.itoa n = x.data.toList then some n else none) = m ∧ m.isSome = q ∧ ∀ k, m = some k → n = k) := by
    by_cases e : Lib.itoa n = x.data.toList
    · rw [hq, decide_eq_true e, if_pos e]
      exact ⟨_, rfl, rfl, fun k h => by injection h⟩
    · rw [hq, decide_eq_false e, if_neg e]
      exact ⟨_, rfl, rfl, fun k h => by cases h⟩
  rw [← hq] at hcm
  obtain ⟨m, hm, hmq, hmk⟩ := hgo
  rw [hm, hmq]
  have HMK := Lib.hid hmk
  clear hem hD hDl hP hl hT hal hdl ha hx hcm2 hS hq hm hmq hmk HW
  go_enter Tryz.func73, Tryz.ntmps73
  go_wp2_with fail
  refine (PX.out _).mono ?_
  rintro e w1 ⟨rfl, rfl⟩
  go_wp2_with fail
  refine (TD.out _).mono ?_
  rintro e w2 ⟨rfl, hb2⟩
  have HB2 := Lib.hid hb2
  clear hb2
  go_wp2_with fail
  refine (AT.out _).mono ?_
  rintro e w3 ⟨rfl, t, hw3⟩
  have HB3 : Hid (Below w1.heap.size w1 w3) := HB2.out.trans (by rw [hw3]; exact Joins.below_bytesWorld _ _ _ _ HB2.out.size)
  have HP3 := Lib.hid (HPW.out.below HB3.out)
  clear hw3
  go_wp2_with fail
  refine (IT.out _ HP3.out).mono ?_
  rintro e w4 ⟨rfl, hb4⟩
  have HB4 := Lib.hid (HB3.out.trans (hb4.mono HB3.out.size))
  clear hb4
  go_wp2_with fail
  go_ret2
  exact ⟨n, rfl, HMK.out, HB4.out⟩
end Go.Proofs.YtbdcimakdiegnaaGreatDoor
