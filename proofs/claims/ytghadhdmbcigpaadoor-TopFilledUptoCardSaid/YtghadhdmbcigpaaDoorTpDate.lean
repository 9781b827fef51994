/-
  DERIVED. The walks of prop.padded and prop.DateText: they return some short string. Conditions: the table of powers of ten is laid. By an AI agent.
-/
import Derived.Test.YtghadhdmbcigpaaDoorDateAt
import Derived.Test.YtghadhdmbcigpaaDoorStMath
import Derived.Test.YtghadhdmbcigpaaDoorTpShelf
import Derived.Test.YtghadhdmbcigpaaDoorTpShelf2
import Derived.Stop.LaidErr
import Derived.Lib.SmallJoins
import Derived.Lib.AppendIntMem
namespace Go.Proofs.YtghadhdmbcigpaaDoor
open Go.RowKit cal

set_option maxHeartbeats 1000000 in
theorem dateOf_any (d : Int) (w : World) (h0 : 0 ≤ d) (h1 : d ≤ 100000) :
    Calls Tryd.prog 41 #[.int .i64 d] w fun e w' => ∃ y m k, e = .returned (.tuple #[.int .i64 y, .int .i64 m, .int .i64 k, .int .i64 0]) ∧ IsDate d y m k ∧ Below w.heap.size w w' := by
  go_enter Tryd.func41, Tryd.ntmps41
  go_wp2_with fail
  refine (outside_no d 0 100000 _ h0 h1).mono ?_
  rintro e w1 ⟨rfl, rfl⟩
  go_wp2_with fail
  refine (dateAt_any d _ h0 (by omega)).mono ?_
  rintro e w1 ⟨y, m, k, rfl, hd, hb⟩
  go_wp2
  exact bodyPost_ret (v := .tuple #[.int .i64 y, .int .i64 m, .int .i64 k, .int .i64 0]) (by simp [results, Tryd.results41, go_sem]) rfl ⟨y, m, k, rfl, hd, hb⟩
set_option maxHeartbeats 1000000 in
theorem dateOf_out (d : Int) (w : World) (h : d < 0 ∨ 100000 < d) :
    Calls Tryd.prog 41 #[.int .i64 d] w fun e w' => e = .returned (.tuple #[.int .i64 0, .int .i64 0, .int .i64 0, .int .i64 2]) ∧ Below w.heap.size w w' := by
  go_enter Tryd.func41, Tryd.ntmps41
  go_wp2_with fail
  refine (outside_yes d 0 100000 _ h).mono ?_
  rintro e w1 ⟨rfl, rfl⟩
  go_wp2_with fail
  exact bodyPost_ret (v := .tuple #[.int .i64 0, .int .i64 0, .int .i64 0, .int .i64 2]) (by simp [results, Tryd.results41, go_sem]) rfl ⟨rfl, Below.refl _ _⟩

/-- the table of powers of ten lies in its variable -/
def Pow (w : World) : Prop := Lib.TabIs Tryd.prog w "internal/strconv.uint64pow10" .u64 Lib.pow10Tab
theorem Pow.below {w w' : World} (h : Pow w) (hb : Below w.heap.size w w') : Pow w' :=
  Go.Joins.tab_stays (g := 1) (by kernel_rfl) h hb (Nat.le_refl _)
/-- a number's word -/
def wd (n : Int) : ByteArray := ⟨(Lib.itoa n).toArray⟩
theorem wd_size {n : Int} (h : n.natAbs < 10 ^ 7) : (wd n).size ≤ 8 := by
  show (Lib.itoa n).toArray.size ≤ 8
  simpa using itoa_len h
theorem itoa_any (n : Int) (h0 : -1 ≤ n) (h1 : n ≤ 1000000) (w : World) (hP : Pow w) :
    Calls Tryd.prog 25 #[.int .i64 n] w fun e w' => e = .returned (.string (wd n)) ∧ Below w.heap.size w w' := by
  refine (Tryd.strconv_Itoa n (by omega) (by omega) w hP).mono ?_
  rintro e w' ⟨rfl, k, os, rfl⟩
  exact ⟨rfl, Lib.below_grow _ _ (Nat.le_refl _) _ _⟩

theorem rep_size (c : Nat) : (⟨(Lib.repeatL [48] c).toArray⟩ : ByteArray).size = c := by
  show (Lib.repeatL [48] c).toArray.size = c
  induction c with
  | zero => rfl
  | succ c ih => simp [Lib.repeatL] at ih ⊢; exact ih

set_option maxHeartbeats 1000000 in
theorem padded_any (n g : Int) (h0 : 0 ≤ n) (h1 : n ≤ 100000) (hg : g = 2 ∨ g = 4) (w : World) (hP : Pow w) :
    Calls Tryd.prog 42 #[.int .i64 n, .int .i64 g] w fun e w' => ∃ s, e = .returned (.string s) ∧ s.size ≤ 20 ∧ Below w.heap.size w w' := by
  have hz := wd_size (n := n) (by omega)
  have HI := Lib.hid (itoa_any n (by omega) (by omega) w hP)
  obtain ⟨s, hs⟩ : ∃ s, s = wd n := ⟨_, rfl⟩
  rw [← hs] at hz HI
  clear hs hP
  go_enter Tryd.func42, Tryd.ntmps42
  go_wp2_with fail
  refine HI.out.mono ?_
  rintro e w1 ⟨rfl, hb1⟩
  have HB := Lib.hid hb1
  clear hb1 HI
  go_wp2_with fail
  obtain ⟨q, hq, hq4⟩ : ∃ q : Nat, max 0 (g - (s.size : Int)) = (q : Int) ∧ q ≤ 4 := ⟨(max 0 (g - (s.size : Int))).toNat, by omega, by omega⟩
  rw [hq]
  have hrz : (⟨(Lib.repeatL [48] q).toArray⟩ : ByteArray).size = q := rep_size q
  refine (Tryd.strings_Repeat ⟨#[48]⟩ q w1 (by omega) (by show 1 * q ≤ _; omega)).mono ?_
  rintro e w2 ⟨rfl, hb2⟩
  rw [show (⟨#[48]⟩ : ByteArray).data.toList = [48] from rfl]
  have HB2 : Hid (Below w.heap.size w w2) := HB.out.trans (hb2.mono HB.out.size)
  obtain ⟨t, ht⟩ : ∃ t, t = (⟨(Lib.repeatL [48] q).toArray⟩ : ByteArray) := ⟨_, rfl⟩
  rw [← ht] at hrz ⊢
  clear hb2 hq ht
  go_wp2_with fail
  go_ret
  exact ⟨_, rfl, by rw [ByteArray.size_append]; omega, HB2.out⟩

theorem isDate_small {d y m k : Int} (h : IsDate d y m k) (h0 : 0 ≤ d) (h1 : d ≤ 100000) : 2001 ≤ y ∧ y ≤ 2600 ∧ 1 ≤ m ∧ m ≤ 12 ∧ 1 ≤ k ∧ k ≤ 31 := by
  obtain ⟨a0, a1, a2, a3, a4, a5, a6, a7⟩ := h
  have := bef_hi a1 (by omega)
  have := ml_hi y m
  omega

set_option maxHeartbeats 1000000 in
theorem dateText_any (d : Int) (w : World) (hP : Pow w) :
    Calls Tryd.prog 24 #[.int .i64 d] w fun e w' => ((∃ s, e = .returned (.tuple #[.string s, .int .i64 0]) ∧ s.size ≤ 100) ∨ e = .returned (.tuple #[.string ⟨#[]⟩, .int .i64 2])) ∧ Below w.heap.size w w' := by
  by_cases hd : 0 ≤ d ∧ d ≤ 100000
  · have HD := Lib.hid (dateOf_any d w hd.1 hd.2)
    have HPW := Lib.hid hP
    obtain ⟨q0, q1⟩ := hd
    clear hP
    go_enter Tryd.func24, Tryd.ntmps24
    go_wp2_with fail
    refine HD.out.mono ?_
    rintro e w1 ⟨y, m, k, rfl, hdt, hb1⟩
    obtain ⟨b0, b1, b2, b3, b4, b5⟩ := isDate_small hdt q0 q1
    have HB1 := Lib.hid hb1
    have HP1 := Lib.hid (HPW.out.below hb1)
    clear hb1 hdt HD HPW
    go_wp2_with fail
    refine (padded_any y 4 (by omega) (by omega) (.inr rfl) w1 HP1.out).mono ?_
    rintro e w2 ⟨s1, rfl, hs1, hb2⟩
    have HB2 := Lib.hid (HB1.out.trans (hb2.mono HB1.out.size))
    have HP2 := Lib.hid (HP1.out.below hb2)
    clear hb2 HP1 HB1
    go_wp2_with fail
    refine (padded_any m 2 (by omega) (by omega) (.inl rfl) w2 HP2.out).mono ?_
    rintro e w3 ⟨s2, rfl, hs2, hb3⟩
    have HB3 := Lib.hid (HB2.out.trans (hb3.mono HB2.out.size))
    have HP3 := Lib.hid (HP2.out.below hb3)
    clear hb3 HP2 HB2
    go_wp2_with fail
    refine (padded_any k 2 (by omega) (by omega) (.inl rfl) w3 HP3.out).mono ?_
    rintro e w4 ⟨s3, rfl, hs3, hb4⟩
    have HB4 := Lib.hid (HB3.out.trans (hb4.mono HB3.out.size))
    clear hb4 HP3 HB3
    go_wp2_with fail
    go_ret2
    refine ⟨.inl ⟨_, rfl, ?_⟩, HB4.out⟩
    simp only [ByteArray.size_append]
    show _ + 1 + _ + 1 + _ ≤ 100
    omega
  · have HD := Lib.hid (dateOf_out d w (by omega))
    clear hd hP
    go_enter Tryd.func24, Tryd.ntmps24
    go_wp2_with fail
    refine HD.out.mono ?_
    rintro e w1 ⟨rfl, hb1⟩
    go_wp2_with fail
    go_ret2
    exact ⟨.inr rfl, hb1⟩
end Go.Proofs.YtghadhdmbcigpaaDoor
