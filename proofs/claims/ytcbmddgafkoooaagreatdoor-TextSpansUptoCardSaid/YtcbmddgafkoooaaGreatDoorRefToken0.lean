/-
  DERIVED. The walk of florref1.token: escapes, code, bold marks, and what is no token. Conditions: a place in the text. By an AI agent.
-/
import Derived.Test.YtcbmddgafkoooaaGreatDoorCutBar
import Derived.Test.YtcbmddgafkoooaaGreatDoorCodeAt
import Derived.Test.YtcbmddgafkoooaaGreatDoorLinkAt
namespace Go.Proofs.YtcbmddgafkoooaaGreatDoor
open Go.RowKit

/-- T is the text from place a on -/
structure Tl (s : ByteArray) (a : Nat) (T : ByteArray) : Prop where
  hT : T = s.extract a s.size
  ha : a < s.size
theorem Tl.size {s T : ByteArray} {a : Nat} (h : Tl s a T) : T.size = s.size - a := by rw [h.hT]; exact tail_size
theorem Tl.bt {s T : ByteArray} {a : Nat} (h : Tl s a T) (i : Nat) : Go.Proofs.YtcbmddgafkoooaaGreatDoor.bt T i = Go.Proofs.YtcbmddgafkoooaaGreatDoor.bt s (a + i) := by rw [h.hT]; exact tail_bt (Nat.le_of_lt h.ha) i
theorem Tl.same {s T : ByteArray} {a : Nat} (h : Tl s a T) : Same T s 0 a := by rw [h.hT]; exact same_tail (Nat.le_of_lt h.ha)
theorem Tl.z {s T : ByteArray} {a : Nat} (h : Tl s a T) : 0 < T.size := by have := h.size; have := h.ha; omega
theorem Tl.mid {s T : ByteArray} {a : Nat} (h : Tl s a T) (i : Nat) : T.extract i T.size = s.extract (a + i) s.size := by
  have hz := h.size
  have ha := h.ha
  by_cases hi : i ≤ T.size
  · rw [h.hT, tail_ext (by omega) (by rw [← h.hT]; exact hi)]
    congr 1; rw [← h.hT]; omega
  · apply ba_ext
    rw [ext_list2, ext_list2, List.drop_eq_nil_of_le (by show T.size ≤ i; omega), List.drop_eq_nil_of_le (by show s.size ≤ a + i; omega)]
    simp
theorem notBeq {x y : Int} (h : x ≠ y) : (x == y) = false := beq_eq_false_iff_ne.2 h
theorem pre_two {T : ByteArray} {c : UInt8} {x : Int} (hx : (c.toNat : Int) = x) {b : Bool} (h : decide (bt T 0 = x ∧ bt T 1 = x) = b) : Lib.hasPrefix T.data.toList [c, c] = b := by
  have := prefix_two T 0 c hx (b := b) (by rw [Nat.zero_add]; exact h)
  rwa [show T.extract 0 T.size = T by apply ba_ext; rw [ext_list]; simp] at this

set_option maxHeartbeats 2000000 in
set_option maxRecDepth 100000 in
theorem rtok_esc (s T : ByteArray) (a : Nat) (w : World) (hs : s.size ≤ 4294967280) (L : Tl s a T) (h0 : bt T 0 = 92) (z1 : 1 < T.size) (h1 : punB (bt T 1) = true) :
    Calls Tryz.prog 32 #[.string s, .int .i64 a] w fun e w' => e = .returned (rtV s a) ∧ Below w.heap.size w w' := by
  have ha := L.ha
  have hz := L.z
  have hsz := L.size
  have ia : (a : Int) < (s.size : Int) := by omega
  have ia0 : (0 : Int) ≤ (a : Int) := by omega
  have b0 := bt_at hz
  have HT := Lib.hid L.hT
  have b1 := bt_at z1
  have HV : Hid (rtV s a = .agg #[.int .i64 2, .int .i64 a, .int .i64 (a + 2), .string (T.extract 1 2), .string ⟨#[]⟩, .int .i64 0, .bool false]) := by
    show _ = _
    have e0 := L.bt 0
    have e1 := L.bt 1
    rw [Nat.add_zero] at e0
    rw [rtV_of (k := 0) (x := ⟨2, a, a + 2, s.extract (a + 1) (a + 2), noB, 0, false⟩) (by omega) (by show tokE s a = _; unfold tokE; rw [if_pos ⟨by rw [← e0]; exact h0, by rw [← e1]; exact h1⟩]) (by show (2 : Int) ≠ 1; decide), L.hT, tail_ext (by omega) (by omega)]
    rfl
  rw [b0] at h0
  rw [b1] at h1
  have g0 : ((T[0].toNat : Int) == 92) = true := by simpa using h0
  have c0 : (0 : Int) ≤ (T[1].toNat : Int) := by omega
  have c1 : (T[1].toNat : Int) ≤ 255 := by have := (T[1]).toNat_lt; omega
  have zi : (1 : Int) < (T.size : Int) := by omega
  have zi2 : (2 : Int) ≤ (T.size : Int) := by omega
  clear L b0 hsz b1 h0
  go_enter Tryz.func32, Tryz.ntmps32
  go_upto_region 3 with (fail)
  rw [← HT.out]
  go_wp2_with fail
  refine (rPunct_any _ _ c0 c1).mono ?_
  rintro e w1 ⟨rfl, hw⟩
  rw [h1, ← hw]
  clear hw
  go_wp2_with fail
  exact bodyPost_ret (v := .agg #[.int .i64 2, .int .i64 a, .int .i64 (a + 2), .string (T.extract 1 2), .string ⟨#[]⟩, .int .i64 0, .bool false]) (by simp [results, Tryz.results32, go_sem]) rfl ⟨by rw [HV.out], ((Below.refl _ _).alloc (Nat.le_refl _) _).alloc (by simp) _⟩
set_option maxHeartbeats 2000000 in
set_option maxRecDepth 100000 in
theorem rtok_code (s T : ByteArray) (a : Nat) (w : World) (hs : s.size ≤ 4294967280) (L : Tl s a T) (h0 : bt T 0 = 96) (h1 : upto (isC 96) T 1 < T.size) (h2 : 1 < upto (isC 96) T 1) :
    Calls Tryz.prog 32 #[.string s, .int .i64 a] w fun e w' => e = .returned (rtV s a) ∧ Below w.heap.size w w' := by
  have ha := L.ha
  have hz := L.z
  have hsz := L.size
  have ia : (a : Int) < (s.size : Int) := by omega
  have ia0 : (0 : Int) ≤ (a : Int) := by omega
  have b0 := bt_at hz
  have HT := Lib.hid L.hT
  have hz2 : (1 : Int) ≤ (T.size : Int) := by omega
  have hx := indexByte_ext T 1 96
  rw [show isC (96 : UInt8).toNat = isC 96 from rfl] at hx
  obtain ⟨m, hm⟩ : ∃ m : Nat, upto (isC 96) T 1 = m + 1 := ⟨upto (isC 96) T 1 - 1, by omega⟩
  have HV : Hid (rtV s a = .agg #[.int .i64 3, .int .i64 a, .int .i64 (a + m + 2), .string (T.extract 1 (m + 1)), .string ⟨#[]⟩, .int .i64 0, .bool false]) := by
    show _ = _
    have ht : tokC s a = some ⟨3, a, a + m + 2, T.extract 1 (m + 1), noB, 0, false⟩ := by
      have := tokC_same L.same
      rw [this]
      unfold tokC
      dsimp only
      rw [if_pos ⟨h0, h1, by omega⟩, hm]
      simp [mv, shF]
      omega
    rw [rtV_of (k := 1) (by omega) ht (by show (3 : Int) ≠ 1; decide)]
    rfl
  have HX : Hid (Lib.indexByte (T.extract 1 T.size).data.toList 96 = (m : Int)) := by show _ = _; rw [hx, if_pos h1, hm]; omega
  have m1 : (0 : Int) < (m : Int) := by omega
  have m2 : (m : Int) + 1 < (T.size : Int) := by omega
  have m3 : (T.size : Int) ≤ 4294967280 := by omega
  rw [b0] at h0
  have g0 : ((T[0].toNat : Int) == 92) = false := notBeq (by omega)
  have g1 : ((T[0].toNat : Int) == 96) = true := by simpa using h0
  clear L b0 hsz h0 h1 h2 hx hm
  go_enter Tryz.func32, Tryz.ntmps32
  go_upto_region 3 with (fail)
  rw [← HT.out]
  go_wp2_with fail
  refine (Tryz.strings_IndexByte _ _ _).mono ?_
  rintro e _ ⟨rfl, rfl⟩
  rw [show ((96 : Int).toNat.toUInt8) = 96 from rfl, HX.out]
  go_wp2_with fail
  exact bodyPost_ret (v := .agg #[.int .i64 3, .int .i64 a, .int .i64 (a + m + 2), .string (T.extract 1 (m + 1)), .string ⟨#[]⟩, .int .i64 0, .bool false]) (by simp [results, Tryz.results32, go_sem]) rfl ⟨by rw [HV.out], ((Below.refl _ _).alloc (Nat.le_refl _) _).alloc (by simp) _⟩
set_option maxHeartbeats 2000000 in
set_option maxRecDepth 100000 in
theorem rtok_nocode (s T : ByteArray) (a : Nat) (w : World) (hs : s.size ≤ 4294967280) (L : Tl s a T) (h0 : bt T 0 = 96) (h1 : ¬ (upto (isC 96) T 1 < T.size ∧ 1 < upto (isC 96) T 1)) :
    Calls Tryz.prog 32 #[.string s, .int .i64 a] w fun e w' => e = .returned (rtV s a) ∧ Below w.heap.size w w' := by
  have ha := L.ha
  have hz := L.z
  have hsz := L.size
  have ia : (a : Int) < (s.size : Int) := by omega
  have ia0 : (0 : Int) ≤ (a : Int) := by omega
  have b0 := bt_at hz
  have HT := Lib.hid L.hT
  have hz2 : (1 : Int) ≤ (T.size : Int) := by omega
  have hx := indexByte_ext T 1 96
  rw [show isC (96 : UInt8).toNat = isC 96 from rfl] at hx
  have HV : Hid (rtV s a = .agg #[.int .i64 1, .int .i64 a, .int .i64 (a + 1), .string (s.extract a (a + 1)), .string ⟨#[]⟩, .int .i64 0, .bool false]) := by
    show _ = _
    have e0 := L.bt 0
    rw [Nat.add_zero] at e0
    exact rtV_plain (tokA_no (k := 1) (by omega) (by rw [← e0]; exact h0) (by show tokC s a = none; rw [tokC_same L.same]; unfold tokC; dsimp only; rw [if_neg (fun c => h1 ⟨c.2.1, c.2.2⟩)]; rfl))
  obtain ⟨x, hxx, hx0⟩ : ∃ x : Int, Lib.indexByte (T.extract 1 T.size).data.toList 96 = x ∧ x ≤ 0 := by
    have := upto_ge (isC 96) T 1
    refine ⟨_, rfl, ?_⟩
    rw [hx]
    split <;> omega
  have HX := Lib.hid hxx
  rw [b0] at h0
  have g0 : ((T[0].toNat : Int) == 92) = false := notBeq (by omega)
  have g1 : ((T[0].toNat : Int) == 96) = true := by simpa using h0
  clear L b0 hsz h0 h1 hx hxx
  go_enter Tryz.func32, Tryz.ntmps32
  go_upto_region 3 with (fail)
  rw [← HT.out]
  go_wp2_with fail
  refine (Tryz.strings_IndexByte _ _ _).mono ?_
  rintro e _ ⟨rfl, rfl⟩
  rw [show ((96 : Int).toNat.toUInt8) = 96 from rfl, HX.out]
  go_wp2_with fail
  exact bodyPost_ret (v := .agg #[.int .i64 1, .int .i64 a, .int .i64 (a + 1), .string (s.extract a (a + 1)), .string ⟨#[]⟩, .int .i64 0, .bool false]) (by simp [results, Tryz.results32, go_sem]) rfl ⟨by rw [HV.out], ((Below.refl _ _).alloc (Nat.le_refl _) _).alloc (by simp) _⟩
set_option maxHeartbeats 2000000 in
set_option maxRecDepth 100000 in
theorem rtok_bold (s T : ByteArray) (a : Nat) (w : World) (hs : s.size ≤ 4294967280) (L : Tl s a T) (h0 : bt T 0 = 42) (h1 : bt T 1 = 42) :
    Calls Tryz.prog 32 #[.string s, .int .i64 a] w fun e w' => e = .returned (rtV s a) ∧ Below w.heap.size w w' := by
  have ha := L.ha
  have hz := L.z
  have hsz := L.size
  have ia : (a : Int) < (s.size : Int) := by omega
  have ia0 : (0 : Int) ≤ (a : Int) := by omega
  have b0 := bt_at hz
  have HT := Lib.hid L.hT
  have HV : Hid (rtV s a = .agg #[.int .i64 7, .int .i64 a, .int .i64 (a + 2), .string ⟨#[42, 42]⟩, .string ⟨#[]⟩, .int .i64 0, .bool false]) := by
    show _ = _
    have e0 := L.bt 0
    have e1 := L.bt 1
    rw [Nat.add_zero] at e0
    rw [rtV_of (k := 5) (x := ⟨7, a, a + 2, ⟨#[42, 42]⟩, noB, 0, false⟩) (by omega) (by show tokB s a = _; unfold tokB; rw [if_pos ⟨by rw [← e0]; exact h0, by rw [← e1]; exact h1⟩]) (by show (7 : Int) ≠ 1; decide)]
    rfl
  have HP1 : Hid (Lib.hasPrefix T.data.toList [91, 91] = false) := pre_two (x := 91) rfl (by rw [decide_eq_false_iff_not]; intro c; omega)
  have HP2 : Hid (Lib.hasPrefix T.data.toList [40, 40] = false) := pre_two (x := 40) rfl (by rw [decide_eq_false_iff_not]; intro c; omega)
  have HP3 : Hid (Lib.hasPrefix T.data.toList [42, 42] = true) := pre_two (x := 42) rfl (by rw [decide_eq_true_iff]; exact ⟨h0, h1⟩)
  have z1 := bt_in (s := T) (i := 1) (by omega)
  have zi2 : (a : Int) + 2 ≤ (s.size : Int) := by omega
  rw [b0] at h0
  have g0 : ((T[0].toNat : Int) == 92) = false := notBeq (by omega)
  have g1 : ((T[0].toNat : Int) == 96) = false := notBeq (by omega)
  have g2 : ((T[0].toNat : Int) == 35) = false := notBeq (by omega)
  clear L b0 hsz h0 h1
  go_enter Tryz.func32, Tryz.ntmps32
  go_upto_region 3 with (fail)
  rw [← HT.out]
  go_wp2_with fail
  refine (Tryz.strings_HasPrefix _ _ _).mono ?_
  rintro e _ ⟨rfl, rfl⟩
  rw [show (⟨#[91, 91]⟩ : ByteArray).data.toList = [91, 91] from rfl, HP1.out]
  go_wp2_with fail
  refine (Tryz.strings_HasPrefix _ _ _).mono ?_
  rintro e _ ⟨rfl, rfl⟩
  rw [show (⟨#[40, 40]⟩ : ByteArray).data.toList = [40, 40] from rfl, HP2.out]
  go_wp2_with fail
  refine (Tryz.strings_HasPrefix _ _ _).mono ?_
  rintro e _ ⟨rfl, rfl⟩
  rw [show (⟨#[42, 42]⟩ : ByteArray).data.toList = [42, 42] from rfl, HP3.out]
  go_wp2_with fail
  exact bodyPost_ret (v := .agg #[.int .i64 7, .int .i64 a, .int .i64 (a + 2), .string ⟨#[42, 42]⟩, .string ⟨#[]⟩, .int .i64 0, .bool false]) (by simp [results, Tryz.results32, go_sem]) rfl ⟨by rw [HV.out], ((Below.refl _ _).alloc (Nat.le_refl _) _).alloc (by simp) _⟩
set_option maxHeartbeats 2000000 in
set_option maxRecDepth 100000 in
theorem rtok_rest (s T : ByteArray) (a : Nat) (w : World) (hs : s.size ≤ 4294967280) (L : Tl s a T) (h0 : (bt T 0 == 92) = false) (h1 : bt T 0 ≠ 96) (h2 : ¬ (bt T 0 = 91 ∧ bt T 1 = 91)) (h3 : ¬ (bt T 0 = 40 ∧ bt T 1 = 40)) (h4 : bt T 0 ≠ 35) (h5 : ¬ (bt T 0 = 42 ∧ bt T 1 = 42)) (hp : tokA s a = plainAt a) :
    Calls Tryz.prog 32 #[.string s, .int .i64 a] w fun e w' => e = .returned (rtV s a) ∧ Below w.heap.size w w' := by
  have ha := L.ha
  have hz := L.z
  have hsz := L.size
  have ia : (a : Int) < (s.size : Int) := by omega
  have ia0 : (0 : Int) ≤ (a : Int) := by omega
  have b0 := bt_at hz
  have HT := Lib.hid L.hT
  have HV : Hid (rtV s a = .agg #[.int .i64 1, .int .i64 a, .int .i64 (a + 1), .string (s.extract a (a + 1)), .string ⟨#[]⟩, .int .i64 0, .bool false]) := rtV_plain hp
  have HP1 : Hid (Lib.hasPrefix T.data.toList [91, 91] = false) := pre_two (x := 91) rfl (decide_eq_false h2)
  have HP2 : Hid (Lib.hasPrefix T.data.toList [40, 40] = false) := pre_two (x := 40) rfl (decide_eq_false h3)
  have HP3 : Hid (Lib.hasPrefix T.data.toList [42, 42] = false) := pre_two (x := 42) rfl (decide_eq_false h5)
  rw [b0] at h0 h1 h4
  have g1 : ((T[0].toNat : Int) == 96) = false := notBeq h1
  have g2 : ((T[0].toNat : Int) == 35) = false := notBeq h4
  clear L b0 hsz h1 h2 h3 h4 h5 hp
  go_enter Tryz.func32, Tryz.ntmps32
  go_upto_region 3 with (fail)
  rw [← HT.out]
  go_wp2_with fail
  refine (Tryz.strings_HasPrefix _ _ _).mono ?_
  rintro e _ ⟨rfl, rfl⟩
  rw [show (⟨#[91, 91]⟩ : ByteArray).data.toList = [91, 91] from rfl, HP1.out]
  go_wp2_with fail
  refine (Tryz.strings_HasPrefix _ _ _).mono ?_
  rintro e _ ⟨rfl, rfl⟩
  rw [show (⟨#[40, 40]⟩ : ByteArray).data.toList = [40, 40] from rfl, HP2.out]
  go_wp2_with fail
  refine (Tryz.strings_HasPrefix _ _ _).mono ?_
  rintro e _ ⟨rfl, rfl⟩
  rw [show (⟨#[42, 42]⟩ : ByteArray).data.toList = [42, 42] from rfl, HP3.out]
  go_wp2_with fail
  exact bodyPost_ret (v := .agg #[.int .i64 1, .int .i64 a, .int .i64 (a + 1), .string (s.extract a (a + 1)), .string ⟨#[]⟩, .int .i64 0, .bool false]) (by simp [results, Tryz.results32, go_sem]) rfl ⟨by rw [HV.out], ((Below.refl _ _).alloc (Nat.le_refl _) _).alloc (by simp) _⟩
set_option maxHeartbeats 2000000 in
set_option maxRecDepth 100000 in
theorem rtok_noesc (s T : ByteArray) (a : Nat) (w : World) (hs : s.size ≤ 4294967280) (L : Tl s a T) (h0 : (bt T 0 == 92) = true) (h6 : T.size ≤ 1 ∨ ∃ h : 1 < T.size, punB (T[1].toNat : Int) = false) (h1 : bt T 0 ≠ 96) (h2 : ¬ (bt T 0 = 91 ∧ bt T 1 = 91)) (h3 : ¬ (bt T 0 = 40 ∧ bt T 1 = 40)) (h4 : bt T 0 ≠ 35) (h5 : ¬ (bt T 0 = 42 ∧ bt T 1 = 42)) (hp : tokA s a = plainAt a) :
    Calls Tryz.prog 32 #[.string s, .int .i64 a] w fun e w' => e = .returned (rtV s a) ∧ Below w.heap.size w w' := by
  have ha := L.ha
  have hz := L.z
  have hsz := L.size
  have ia : (a : Int) < (s.size : Int) := by omega
  have ia0 : (0 : Int) ≤ (a : Int) := by omega
  have b0 := bt_at hz
  have HT := Lib.hid L.hT
  have HV : Hid (rtV s a = .agg #[.int .i64 1, .int .i64 a, .int .i64 (a + 1), .string (s.extract a (a + 1)), .string ⟨#[]⟩, .int .i64 0, .bool false]) := rtV_plain hp
  have HP1 : Hid (Lib.hasPrefix T.data.toList [91, 91] = false) := pre_two (x := 91) rfl (decide_eq_false h2)
  have HP2 : Hid (Lib.hasPrefix T.data.toList [40, 40] = false) := pre_two (x := 40) rfl (decide_eq_false h3)
  have HP3 : Hid (Lib.hasPrefix T.data.toList [42, 42] = false) := pre_two (x := 42) rfl (decide_eq_false h5)
  rw [b0] at h0 h1 h4
  have g1 : ((T[0].toNat : Int) == 96) = false := notBeq h1
  have g2 : ((T[0].toNat : Int) == 35) = false := notBeq h4
  rcases h6 with h6 | ⟨h6, h7⟩
  · have zi : (T.size : Int) ≤ 1 := by omega
    clear L b0 hsz h1 h2 h3 h4 h5 hp h6
    go_enter Tryz.func32, Tryz.ntmps32
    go_upto_region 3 with (fail)
    rw [← HT.out]
    go_wp2_with fail
    refine (Tryz.strings_HasPrefix _ _ _).mono ?_
    rintro e _ ⟨rfl, rfl⟩
    rw [show (⟨#[91, 91]⟩ : ByteArray).data.toList = [91, 91] from rfl, HP1.out]
    go_wp2_with fail
    refine (Tryz.strings_HasPrefix _ _ _).mono ?_
    rintro e _ ⟨rfl, rfl⟩
    rw [show (⟨#[40, 40]⟩ : ByteArray).data.toList = [40, 40] from rfl, HP2.out]
    go_wp2_with fail
    refine (Tryz.strings_HasPrefix _ _ _).mono ?_
    rintro e _ ⟨rfl, rfl⟩
    rw [show (⟨#[42, 42]⟩ : ByteArray).data.toList = [42, 42] from rfl, HP3.out]
    go_wp2_with fail
    exact bodyPost_ret (v := .agg #[.int .i64 1, .int .i64 a, .int .i64 (a + 1), .string (s.extract a (a + 1)), .string ⟨#[]⟩, .int .i64 0, .bool false]) (by simp [results, Tryz.results32, go_sem]) rfl ⟨by rw [HV.out], ((Below.refl _ _).alloc (Nat.le_refl _) _).alloc (by simp) _⟩
  · have zi : (1 : Int) < (T.size : Int) := by omega
    have c0 : (0 : Int) ≤ (T[1].toNat : Int) := by omega
    have c1 : (T[1].toNat : Int) ≤ 255 := by have := (T[1]).toNat_lt; omega
    clear L b0 hsz h1 h2 h3 h4 h5 hp
    go_enter Tryz.func32, Tryz.ntmps32
    go_upto_region 3 with (fail)
    rw [← HT.out]
    go_wp2_with fail
    refine (rPunct_any _ _ c0 c1).mono ?_
    rintro e w1 ⟨rfl, hw⟩
    rw [h7, ← hw]
    clear hw
    go_wp2_with fail
    refine (Tryz.strings_HasPrefix _ _ _).mono ?_
    rintro e _ ⟨rfl, rfl⟩
    rw [show (⟨#[91, 91]⟩ : ByteArray).data.toList = [91, 91] from rfl, HP1.out]
    go_wp2_with fail
    refine (Tryz.strings_HasPrefix _ _ _).mono ?_
    rintro e _ ⟨rfl, rfl⟩
    rw [show (⟨#[40, 40]⟩ : ByteArray).data.toList = [40, 40] from rfl, HP2.out]
    go_wp2_with fail
    refine (Tryz.strings_HasPrefix _ _ _).mono ?_
    rintro e _ ⟨rfl, rfl⟩
    rw [show (⟨#[42, 42]⟩ : ByteArray).data.toList = [42, 42] from rfl, HP3.out]
    go_wp2_with fail
    exact bodyPost_ret (v := .agg #[.int .i64 1, .int .i64 a, .int .i64 (a + 1), .string (s.extract a (a + 1)), .string ⟨#[]⟩, .int .i64 0, .bool false]) (by simp [results, Tryz.results32, go_sem]) rfl ⟨by rw [HV.out], ((Below.refl _ _).alloc (Nat.le_refl _) _).alloc (by simp) _⟩
end Go.Proofs.YtcbmddgafkoooaaGreatDoor
