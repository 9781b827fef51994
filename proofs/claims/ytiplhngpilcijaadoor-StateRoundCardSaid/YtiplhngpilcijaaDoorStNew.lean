/-
  DERIVED. The walks of card.fresh and New at no block, of florkeep2.awakeCard, strconv.Itoa, card.plainNumber. Conditions: a number in reach; the table of powers lies. By an AI agent.
-/
import Derived.Test.YtiplhngpilcijaaDoorStTools
import Derived.Test.YtiplhngpilcijaaDoorStMath
import Derived.Test.YtiplhngpilcijaaDoorStShelf
import Derived.Stop.LaidErr
import Derived.Lib.SmallJoins
import Derived.Lib.AppendIntMem
import Derived.MakeChecks
import Derived.WalkSpells
namespace Go.Proofs.YtiplhngpilcijaaDoor
open Go.RowKit

set_option maxHeartbeats 1000000 in
set_option maxRecDepth 100000 in
theorem fresh_any (w : World) :
    Calls Tryd.prog 13 #[.int .i64 0, .int .i64 0] w fun e w' => e = .returned (stV 0 0 0 250 (-1) (-1) 0 0 (-1)) ∧ Below w.heap.size w w' := by
  go_enter Tryd.func13, Tryd.ntmps13
  go_wp2
  exact bodyPost_ret (v := stV 0 0 0 250 (-1) (-1) 0 0 (-1)) (by simp [results, Tryd.results13, go_sem, stV]) rfl ⟨rfl, (Below.refl _ _).alloc (Nat.le_refl _) _⟩

theorem cs_none : csE 0 0 0 250 (-1) (-1) 0 0 (-1) = 2 := by decide

set_option maxHeartbeats 1000000 in
set_option maxRecDepth 100000 in
theorem new_any (w : World) :
    Calls Tryd.prog 7 #[.int .i64 0, .int .i64 0] w fun e w' => e = .returned (.tuple #[stV 0 0 0 0 0 0 0 0 0, .int .i64 2]) ∧ Below w.heap.size w w' := by
  have CS := Lib.hid (fun w => checkState_any 0 0 0 250 (-1) (-1) 0 0 (-1) w)
  go_enter Tryd.func7, Tryd.ntmps7
  go_wp2_with fail
  refine (fresh_any _).mono ?_
  rintro e w1 ⟨rfl, hb1⟩
  have hz1 := hb1.size
  simp only [World.size_alloc] at hz1
  have HB1 := Lib.hid hb1
  rw [show stV 0 0 0 250 (-1) (-1) 0 0 (-1) = .agg #[.int .i64 0, .int .i64 0, .int .i64 0, .int .i64 250, .int .i64 (-1), .int .i64 (-1), .int .i64 0, .int .i64 0, .int .i64 (-1)] from rfl]
  clear hb1
  go_wp2_with fail
  refine (CS.out _).mono ?_
  rintro e w2 ⟨rfl, hb2⟩
  rw [cs_none]
  have hb3 : Below (w.heap.size + 1) (w.alloc (.cells #[.int .i64 0, .int .i64 0, .int .i64 0, .int .i64 0, .int .i64 0, .int .i64 0, .int .i64 0, .int .i64 0, .int .i64 0] 23)) w2 := (HB1.out.mono (by simp)).trans (((Below.refl _ _).alloc (by omega) _).trans (hb2.mono (by simp; omega)))
  have d0 := hb3.cell (p := ⟨w.heap.size, 0, none⟩) (by simp <;> omega)
  have f0 := hb3.frozen (p := ⟨w.heap.size, 0, none⟩) (by simp <;> omega)
  have d1 := hb3.cell (p := ⟨w.heap.size, 1, none⟩) (by simp <;> omega)
  have f1 := hb3.frozen (p := ⟨w.heap.size, 1, none⟩) (by simp <;> omega)
  have d2 := hb3.cell (p := ⟨w.heap.size, 2, none⟩) (by simp <;> omega)
  have f2 := hb3.frozen (p := ⟨w.heap.size, 2, none⟩) (by simp <;> omega)
  have d3 := hb3.cell (p := ⟨w.heap.size, 3, none⟩) (by simp <;> omega)
  have f3 := hb3.frozen (p := ⟨w.heap.size, 3, none⟩) (by simp <;> omega)
  have d4 := hb3.cell (p := ⟨w.heap.size, 4, none⟩) (by simp <;> omega)
  have f4 := hb3.frozen (p := ⟨w.heap.size, 4, none⟩) (by simp <;> omega)
  have d5 := hb3.cell (p := ⟨w.heap.size, 5, none⟩) (by simp <;> omega)
  have f5 := hb3.frozen (p := ⟨w.heap.size, 5, none⟩) (by simp <;> omega)
  have d6 := hb3.cell (p := ⟨w.heap.size, 6, none⟩) (by simp <;> omega)
  have f6 := hb3.frozen (p := ⟨w.heap.size, 6, none⟩) (by simp <;> omega)
  have d7 := hb3.cell (p := ⟨w.heap.size, 7, none⟩) (by simp <;> omega)
  have f7 := hb3.frozen (p := ⟨w.heap.size, 7, none⟩) (by simp <;> omega)
  have d8 := hb3.cell (p := ⟨w.heap.size, 8, none⟩) (by simp <;> omega)
  have f8 := hb3.frozen (p := ⟨w.heap.size, 8, none⟩) (by simp <;> omega)
  have R : Hid (Below w.heap.size w w2) := ((Below.refl _ _).alloc (Nat.le_refl _) _).trans (hb3.mono (by omega))
  clear hb2 hb3
  go_wp2_with fail
  refine bodyPost_ret (v := .tuple #[stV 0 0 0 0 0 0 0 0 0, .int .i64 2]) (by simp [results, Tryd.results7, go_sem, stV, d0, d1, d2, d3, d4, d5, d6, d7, d8]) rfl ⟨rfl, ?_⟩
  exact ((((((((R.out.setCell (by simp) _).setCell (by simp) _).setCell (by simp) _).setCell (by simp) _).setCell (by simp) _).setCell (by simp) _).setCell (by simp) _).setCell (by simp) _).setCell (by simp) _

set_option maxHeartbeats 1000000 in
set_option maxRecDepth 100000 in
theorem awakeCard_any (w : World) : Calls Tryd.prog 4 #[] w fun e w' => e = .returned (.bool true) ∧ Below w.heap.size w w' := by
  go_enter Tryd.func4, Tryd.ntmps4
  go_wp2_with fail
  refine (new_any _).mono ?_
  rintro e w1 ⟨rfl, hb1⟩
  rw [show stV 0 0 0 0 0 0 0 0 0 = .agg #[.int .i64 0, .int .i64 0, .int .i64 0, .int .i64 0, .int .i64 0, .int .i64 0, .int .i64 0, .int .i64 0, .int .i64 0] from rfl]
  have R := Lib.hid (hb1.alloc hb1.size (.cells #[.int .i64 0, .int .i64 0, .int .i64 0, .int .i64 0, .int .i64 0, .int .i64 0, .int .i64 0, .int .i64 0, .int .i64 0] 23))
  clear hb1
  go_wp2
  go_ret
  exact ⟨rfl, R.out⟩

/-- the table of powers of ten lies in its variable -/
def Pow (w : World) : Prop := Lib.TabIs Tryd.prog w "internal/strconv.uint64pow10" .u64 Lib.pow10Tab
theorem Pow.below {w w' : World} (h : Pow w) (hb : Below w.heap.size w w') : Pow w' :=
  Go.Joins.tab_stays (g := 0) (by kernel_rfl) h hb (Nat.le_refl _)
/-- a number's word -/
def wd (n : Int) : ByteArray := ⟨(Lib.itoa n).toArray⟩
theorem wd_size {n : Int} (h : n.natAbs < 10 ^ 7) : (wd n).size ≤ 8 := by
  show (Lib.itoa n).toArray.size ≤ 8
  simpa using itoa_len h
theorem itoa_any (n : Int) (h0 : -1 ≤ n) (h1 : n ≤ 1000000) (w : World) (hP : Pow w) :
    Calls Tryd.prog 9 #[.int .i64 n] w fun e w' => e = .returned (.string (wd n)) ∧ Below w.heap.size w w' := by
  refine (Tryd.strconv_Itoa n (by omega) (by omega) w hP).mono ?_
  rintro e w' ⟨rfl, k, os, rfl⟩
  exact ⟨rfl, Lib.below_grow _ _ (Nat.le_refl _) _ _⟩
theorem atoi_any (n : Int) (h0 : -1 ≤ n) (h1 : n ≤ 1000000) (w : World) :
    Calls Tryd.prog 22 #[.string (wd n)] w fun e w' => e = .returned (.tuple #[.int .i64 n, .nilIface]) ∧ Below w.heap.size w w' := by
  have hz := wd_size (n := n) (by omega)
  refine (Tryd.strconv_Atoi (wd n) n (by omega) (atoi_itoa n) w).mono ?_
  rintro e w' ⟨rfl, t, rfl⟩
  exact ⟨rfl, Joins.below_bytesWorld _ _ _ _ (Nat.le_refl _)⟩
theorem trimDigits_any (s : ByteArray) (w : World) (hs : s.size ≤ 9223372036854775807) :
    Calls Tryd.prog 21 #[.string s, .string ⟨#[48, 49, 50, 51, 52, 53, 54, 55, 56, 57]⟩] w fun e w' => e = .returned (.string ⟨(Lib.trimS s.data.toList [48, 49, 50, 51, 52, 53, 54, 55, 56, 57]).toArray⟩) ∧ Below w.heap.size w w' :=
  Any.strings_Trim_laid Tryd.lays160 (by kernel_rfl) s ⟨#[48, 49, 50, 51, 52, 53, 54, 55, 56, 57]⟩ w hs (by decide) (ascii_of_all (by decide))

set_option maxHeartbeats 2000000 in
set_option maxRecDepth 100000 in
theorem plainNumber_any (n : Int) (h0 : -1 ≤ n) (h1 : n ≤ 1000000) (w : World) (hP : Pow w) :
    Calls Tryd.prog 12 #[.string (wd n)] w fun e w' => e = .returned (.tuple #[.int .i64 n, .bool true]) ∧ Below w.heap.size w w' := by
  have PX := Tryd.strings_TrimPrefix (wd n) ⟨#[45]⟩
  obtain ⟨D, hD⟩ : ∃ D : ByteArray, D = ⟨(Lib.decDigits n.natAbs).toArray⟩ := ⟨_, rfl⟩
  have hpx : (⟨(Lib.trimPrefix (wd n).data.toList [45]).toArray⟩ : ByteArray) = D := by
    rw [show (wd n).data.toList = Lib.itoa n from rfl, itoa_digits, hD]
  have hDl : D.data.toList = Lib.decDigits n.natAbs := by rw [hD]
  have hDz : D.size ≤ 7 := by
    rw [Lib.size_eq, hDl]
    exact dd_len 6 _ (by omega)
  have hD0 : 0 < D.size := by
    rw [Lib.size_eq, hDl]
    exact List.length_pos_iff.2 (dd_ne _)
  have hem : D.toList.isEmpty = false := by
    cases he : D.toList.isEmpty
    · rfl
    · rw [Lib.toList_data, List.isEmpty_iff] at he
      rw [Lib.size_eq, he] at hD0
      exact absurd hD0 (by simp)
  have htr : (⟨(Lib.trimS D.data.toList [48, 49, 50, 51, 52, 53, 54, 55, 56, 57]).toArray⟩ : ByteArray) = ⟨#[]⟩ := by
    rw [hDl, digits_trim (dd_all _)]
  have TD := trimDigits_any D
  rw [htr] at TD
  have PX := Lib.hid PX
  have TD := Lib.hid TD
  have HPX := Lib.hid hpx
  have HPW := Lib.hid hP
  have i1 : ¬ (9 : Int) < (D.size : Int) := by omega
  obtain ⟨S, hS⟩ : ∃ S, S = wd n := ⟨_, rfl⟩
  have AT := Lib.hid (fun w => atoi_any n h0 h1 w)
  have IT := Lib.hid (fun w hP => itoa_any n h0 h1 w hP)
  rw [← hS] at PX AT IT HPX ⊢
  clear hD hpx hDl htr hD0 hP hS
  go_enter Tryd.func12, Tryd.ntmps12
  go_wp2_with fail
  refine (PX.out _).mono ?_
  rintro e w1 ⟨rfl, hw1⟩
  rw [HPX.out, hw1]
  clear hw1
  go_wp2_with fail
  refine (TD.out _ (by omega)).mono ?_
  rintro e w2 ⟨rfl, hb2⟩
  have HB2 := Lib.hid hb2
  clear hb2
  go_wp2_with fail
  refine (AT.out _).mono ?_
  rintro e w3 ⟨rfl, hb3⟩
  have HB3 := Lib.hid (HB2.out.trans (hb3.mono HB2.out.size))
  have HP3 := Lib.hid (HPW.out.below HB3.out)
  clear hb3
  go_wp2_with fail
  refine (IT.out _ HP3.out).mono ?_
  rintro e w4 ⟨rfl, hb4⟩
  have HB4 := Lib.hid (HB3.out.trans (hb4.mono HB3.out.size))
  clear hb4
  go_wp2_with fail
  go_ret2
  exact ⟨rfl, HB4.out⟩
end Go.Proofs.YtiplhngpilcijaaDoor
