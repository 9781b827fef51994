/-
  DERIVED. The walk of florref1.token: links. Conditions: a place in the text.
  By an AI agent.
-/
import Derived.Test.YtemngidkfgcigaaGreatDoorKa30
import Derived.Test.YtemngidkfgcigaaGreatDoorKa24
namespace Go.Proofs.YtemngidkfgcigaaGreatDoor
open Go.RowKit

/-- the two boxes behind a call that makes memory -/
theorem rt_mem {w w1 : World} {Z X : Array Value} {t : TypeId} (hb : Below ((w.alloc (.cells Z t)).alloc (.cells X t)).heap.size ((w.alloc (.cells Z t)).alloc (.cells X t)) w1) : Blk w1 w.heap.size t Z ∧ Blk w1 (w.heap.size + 1) t X ∧ Below w.heap.size w w1 ∧ w.heap.size + 2 ≤ w1.heap.size := by
  have hz := hb.size
  have k1 := (Blk.new (w.alloc (.cells Z t)) t X).below hb (by simp)
  simp only [World.size_alloc] at k1 hz
  exact ⟨((Blk.new w t Z).alloc _).below hb (by simp; omega), k1, (((Below.refl _ _).alloc (Nat.le_refl _) _).alloc (by simp) _).trans (hb.mono (by simp; omega)), hz⟩
theorem below7 {B b : Nat} {w w1 : World} (h : Below B w w1) (hb : B ≤ b) (v0 v1 v2 v3 v4 v5 v6 : Value) :
    Below B w (((((((w1.setCell ⟨b, 0, none⟩ v0).setCell ⟨b, 1, none⟩ v1).setCell ⟨b, 2, none⟩ v2).setCell ⟨b, 3, none⟩ v3).setCell ⟨b, 4, none⟩ v4).setCell ⟨b, 5, none⟩ v5).setCell ⟨b, 6, none⟩ v6) :=
  ((((((h.setCell (p := ⟨b, 0, none⟩) hb _).setCell (p := ⟨b, 1, none⟩) hb _).setCell (p := ⟨b, 2, none⟩) hb _).setCell (p := ⟨b, 3, none⟩) hb _).setCell (p := ⟨b, 4, none⟩) hb _).setCell (p := ⟨b, 5, none⟩) hb _).setCell (p := ⟨b, 6, none⟩) hb _
theorem indexAny_br_ext (T : ByteArray) : Lib.indexAny (T.extract 2 T.size).data.toList [91, 93] = if upto brB T 2 < T.size then (upto brB T 2 : Int) - 2 else -1 := by
  have := indexAny_ext T 2 [91, 93]
  exact this

set_option maxHeartbeats 2000000 in
set_option maxRecDepth 100000 in
theorem rtok_l_none (s T : ByteArray) (a : Nat) (w : World) (hs : s.size ≤ 4294967280) (L : Tl s a T) (h0 : bt T 0 = 91) (h1 : bt T 1 = 91) (hJ : T.size ≤ upto brB T 2) :
    Calls Tryz.prog 58 #[.string s, .int .i64 a] w fun e w' => e = .returned (rtV s a) ∧ Below w.heap.size w w' := by
  have ha := L.ha
  have hz := L.z
  have hsz := L.size
  have ia : (a : Int) < (s.size : Int) := by omega
  have ia0 : (0 : Int) ≤ (a : Int) := by omega
  have b0 := bt_at hz
  have HT := Lib.hid L.hT
  have HP1 : Hid (Lib.hasPrefix T.data.toList [91, 91] = true) := pre_two (x := 91) rfl (by rw [decide_eq_true_iff]; exact ⟨h0, h1⟩)
  have hT2 := bt_in (s := T) (i := 1) (by omega)
  have zi2 : (2 : Int) ≤ (T.size : Int) := by omega
  have zi3 : (T.size : Int) ≤ 4294967280 := by omega
  have hxx := indexAny_br_ext T
  have HX : Hid (Lib.indexAny (T.extract 2 T.size).data.toList [91, 93] = -1) := by show _ = _; rw [hxx, if_neg (by omega)]
  have HV : Hid (rtV s a = .agg #[.int .i64 1, .int .i64 a, .int .i64 (a + 1), .string (s.extract a (a + 1)), .string ⟨#[]⟩, .int .i64 0, .bool false]) := by
    show _ = _
    have e0 := L.bt 0
    rw [Nat.add_zero] at e0
    exact rtV_plain (tokA_no (k := 2) (by omega) (by rw [← e0]; exact h0) (by show tokL s a = none; rw [tokL_same L.same, link_none hJ]; rfl))
  rw [b0] at h0
  have g0 : ((T[0].toNat : Int) == 92) = false := notBeq (by omega)
  have g1 : ((T[0].toNat : Int) == 96) = false := notBeq (by omega)
  clear L b0 hsz h0 h1 hJ hxx
  go_enter Tryz.func58, Tryz.ntmps58
  go_upto_region 3 with (fail)
  rw [← HT.out]
  go_wp2_with fail
  refine (Tryz.strings_HasPrefix _ _ _).mono ?_
  rintro e _ ⟨rfl, rfl⟩
  rw [show (⟨#[91, 91]⟩ : ByteArray).data.toList = [91, 91] from rfl, HP1.out]
  go_wp2_with fail
  refine (indexAny_br _ _ (by rw [ByteArray.size_extract]; omega)).mono ?_
  rintro e w1 ⟨rfl, hb⟩
  rw [HX.out]
  obtain ⟨k0, k1, hbw, hzw⟩ := rt_mem hb
  clear hb
  have c0 := k0.cell 0
  have c1 := k0.cell 1
  have c2 := k0.cell 2
  have c3 := k0.cell 3
  have c4 := k0.cell 4
  have c5 := k0.cell 5
  have c6 := k0.cell 6
  have f0 := k0.frozen 0
  have f1 := k0.frozen 1
  have f2 := k0.frozen 2
  have f3 := k0.frozen 3
  have f4 := k0.frozen 4
  have f5 := k0.frozen 5
  have f6 := k0.frozen 6
  have d0 := k1.cell 0
  have d1 := k1.cell 1
  have d2 := k1.cell 2
  have d3 := k1.cell 3
  have d4 := k1.cell 4
  have d5 := k1.cell 5
  have d6 := k1.cell 6
  have HB := Lib.hid hbw
  clear k0 k1 hbw
  go_wp2_with fail
  exact bodyPost_ret (v := .agg #[.int .i64 1, .int .i64 a, .int .i64 (a + 1), .string (s.extract a (a + 1)), .string ⟨#[]⟩, .int .i64 0, .bool false]) (by simp [results, Tryz.results58, go_sem, c0, c1, c2, c3, c4, c5, c6]) rfl ⟨by rw [HV.out], below7 HB.out (Nat.le_refl _) _ _ _ _ _ _ _⟩
set_option maxHeartbeats 2000000 in
set_option maxRecDepth 100000 in
theorem rtok_l_noend (s T : ByteArray) (a : Nat) (w : World) (hs : s.size ≤ 4294967280) (L : Tl s a T) (J u : Nat) (C : LkCut T J u) (h0 : bt T 0 = 91) (h1 : bt T 1 = 91) (h2 : ¬ (bt T J = 93 ∧ bt T (J + 1) = 93)) :
    Calls Tryz.prog 58 #[.string s, .int .i64 a] w fun e w' => e = .returned (rtV s a) ∧ Below w.heap.size w w' := by
  have ha := L.ha
  have hz := L.z
  have hsz := L.size
  have ia : (a : Int) < (s.size : Int) := by omega
  have ia0 : (0 : Int) ≤ (a : Int) := by omega
  have b0 := bt_at hz
  have HT := Lib.hid L.hT
  have HP1 : Hid (Lib.hasPrefix T.data.toList [91, 91] = true) := pre_two (x := 91) rfl (by rw [decide_eq_true_iff]; exact ⟨h0, h1⟩)
  have hT2 := bt_in (s := T) (i := 1) (by omega)
  have zi2 : (2 : Int) ≤ (T.size : Int) := by omega
  have zi3 : (T.size : Int) ≤ 4294967280 := by omega
  have hxx := indexAny_br_ext T
  have hJ2 := C.J2
  have hJT := C.JT
  obtain ⟨m, hm⟩ : ∃ m : Nat, J = 2 + m := ⟨J - 2, by omega⟩
  subst hm
  have HX : Hid (Lib.indexAny (T.extract 2 T.size).data.toList [91, 93] = (m : Int)) := by show _ = _; rw [hxx, C.hJ, if_pos hJT]; omega
  have m0 : (0 : Int) ≤ (m : Int) := by omega
  have m1 : (2 : Int) + (m : Int) < (T.size : Int) := by omega
  have m2 : (m : Int) + 4 ≤ 4294967290 := by omega
  have gm : ¬ ((m : Int) < 0) := by omega
  have gm2 : decide ((m : Int) < 0) = false := by simp
  have HP2 : Hid (Lib.hasPrefix (T.extract (2 + m) T.size).data.toList [93, 93] = false) := prefix_two T (2 + m) 93 (x := 93) rfl (decide_eq_false h2)
  have HV : Hid (rtV s a = .agg #[.int .i64 1, .int .i64 a, .int .i64 (a + 1), .string (s.extract a (a + 1)), .string ⟨#[]⟩, .int .i64 0, .bool false]) := by
    show _ = _
    have e0 := L.bt 0
    rw [Nat.add_zero] at e0
    exact rtV_plain (tokA_no (k := 2) (by omega) (by rw [← e0]; exact h0) (by show tokL s a = none; rw [tokL_same L.same, C.noEnd h2]; rfl))
  rw [b0] at h0
  have g0 : ((T[0].toNat : Int) == 92) = false := notBeq (by omega)
  have g1 : ((T[0].toNat : Int) == 96) = false := notBeq (by omega)
  clear L b0 hsz h0 h1 h2 hxx C
  go_enter Tryz.func58, Tryz.ntmps58
  go_upto_region 3 with (fail)
  rw [← HT.out]
  go_wp2_with fail
  refine (Tryz.strings_HasPrefix _ _ _).mono ?_
  rintro e _ ⟨rfl, rfl⟩
  rw [show (⟨#[91, 91]⟩ : ByteArray).data.toList = [91, 91] from rfl, HP1.out]
  go_wp2_with fail
  refine (indexAny_br _ _ (by rw [ByteArray.size_extract]; omega)).mono ?_
  rintro e w1 ⟨rfl, hb⟩
  rw [HX.out]
  obtain ⟨k0, k1, hbw, hzw⟩ := rt_mem hb
  clear hb
  have c0 := k0.cell 0
  have c1 := k0.cell 1
  have c2 := k0.cell 2
  have c3 := k0.cell 3
  have c4 := k0.cell 4
  have c5 := k0.cell 5
  have c6 := k0.cell 6
  have f0 := k0.frozen 0
  have f1 := k0.frozen 1
  have f2 := k0.frozen 2
  have f3 := k0.frozen 3
  have f4 := k0.frozen 4
  have f5 := k0.frozen 5
  have f6 := k0.frozen 6
  have d0 := k1.cell 0
  have d1 := k1.cell 1
  have d2 := k1.cell 2
  have d3 := k1.cell 3
  have d4 := k1.cell 4
  have d5 := k1.cell 5
  have d6 := k1.cell 6
  have HB := Lib.hid hbw
  clear k0 k1 hbw
  go_wp2_with fail
  refine (Tryz.strings_HasPrefix _ _ _).mono ?_
  rintro e _ ⟨rfl, rfl⟩
  rw [show (⟨#[93, 93]⟩ : ByteArray).data.toList = [93, 93] from rfl, HP2.out]
  go_wp2_with fail
  exact bodyPost_ret (v := .agg #[.int .i64 1, .int .i64 a, .int .i64 (a + 1), .string (s.extract a (a + 1)), .string ⟨#[]⟩, .int .i64 0, .bool false]) (by simp [results, Tryz.results58, go_sem, c0, c1, c2, c3, c4, c5, c6]) rfl ⟨by rw [HV.out], below7 HB.out (Nat.le_refl _) _ _ _ _ _ _ _⟩
set_option maxHeartbeats 2000000 in
set_option maxRecDepth 100000 in
theorem rtok_l_bad (s T : ByteArray) (a : Nat) (w : World) (hs : s.size ≤ 4294967280) (L : Tl s a T) (J u : Nat) (C : LkCut T J u) (h0 : bt T 0 = 91) (h1 : bt T 1 = 91) (h2 : bt T J = 93 ∧ bt T (J + 1) = 93) (hu : u < J - 2) (ht : isTgt (T.extract 2 (2 + u)) = false) :
    Calls Tryz.prog 58 #[.string s, .int .i64 a] w fun e w' => e = .returned (rtV s a) ∧ Below w.heap.size w w' := by
  have ha := L.ha
  have hz := L.z
  have hsz := L.size
  have ia : (a : Int) < (s.size : Int) := by omega
  have ia0 : (0 : Int) ≤ (a : Int) := by omega
  have b0 := bt_at hz
  have HT := Lib.hid L.hT
  have HP1 : Hid (Lib.hasPrefix T.data.toList [91, 91] = true) := pre_two (x := 91) rfl (by rw [decide_eq_true_iff]; exact ⟨h0, h1⟩)
  have hT2 := bt_in (s := T) (i := 1) (by omega)
  have zi2 : (2 : Int) ≤ (T.size : Int) := by omega
  have zi3 : (T.size : Int) ≤ 4294967280 := by omega
  have hxx := indexAny_br_ext T
  have hJ2 := C.J2
  have hJT := C.JT
  obtain ⟨m, hm⟩ : ∃ m : Nat, J = 2 + m := ⟨J - 2, by omega⟩
  subst hm
  have HX : Hid (Lib.indexAny (T.extract 2 T.size).data.toList [91, 93] = (m : Int)) := by show _ = _; rw [hxx, C.hJ, if_pos hJT]; omega
  have m0 : (0 : Int) ≤ (m : Int) := by omega
  have m1 : (2 : Int) + (m : Int) < (T.size : Int) := by omega
  have m2 : (m : Int) + 4 ≤ 4294967290 := by omega
  have gm : ¬ ((m : Int) < 0) := by omega
  have gm2 : decide ((m : Int) < 0) = false := by simp
  have HP2 : Hid (Lib.hasPrefix (T.extract (2 + m) T.size).data.toList [93, 93] = true) := prefix_two T (2 + m) 93 (x := 93) rfl (by rw [decide_eq_true_iff]; exact h2)
  have hule := C.ule
  have hqs := C.qs
  have hm2 : 2 + m - 2 = m := by omega
  rw [hm2] at hule hqs
  have HC : Hid (cutV (T.extract 2 (2 + m)) = .tuple #[.string (T.extract 2 (2 + u)), .string (T.extract (2 + u + 1) (2 + m)), .bool true]) := by
    show _ = _
    unfold cutV
    rw [if_pos (by rw [C.hu, hqs]; omega), C.hu, C.target, hqs, ext_ext T 2 (2 + m) (u + 1) m (by omega)]
    rfl
  have HQ : Hid ((T.extract 2 (2 + m)).size ≤ 4294967280 ∧ (T.extract 2 (2 + u)).size ≤ 4294967280) := by constructor <;> (rw [ByteArray.size_extract]; omega)
  have HV : Hid (rtV s a = .agg #[.int .i64 1, .int .i64 a, .int .i64 (a + 1), .string (s.extract a (a + 1)), .string ⟨#[]⟩, .int .i64 0, .bool false]) := by
    show _ = _
    have e0 := L.bt 0
    rw [Nat.add_zero] at e0
    exact rtV_plain (tokA_no (k := 2) (by omega) (by rw [← e0]; exact h0) (by show tokL s a = none; rw [tokL_same L.same, C.bad ht]; rfl))
  have HTg := Lib.hid ht
  obtain ⟨sh, hsh⟩ : ∃ sh, sh = T.extract (2 + u + 1) (2 + m) := ⟨_, rfl⟩
  rw [← hsh] at HC
  rw [b0] at h0
  have g0 : ((T[0].toNat : Int) == 92) = false := notBeq (by omega)
  have g1 : ((T[0].toNat : Int) == 96) = false := notBeq (by omega)
  clear L b0 hsz h0 h1 h2 hxx C hu hule hqs ht hm2 hsh
  go_enter Tryz.func58, Tryz.ntmps58
  go_upto_region 3 with (fail)
  rw [← HT.out]
  go_wp2_with fail
  refine (Tryz.strings_HasPrefix _ _ _).mono ?_
  rintro e _ ⟨rfl, rfl⟩
  rw [show (⟨#[91, 91]⟩ : ByteArray).data.toList = [91, 91] from rfl, HP1.out]
  go_wp2_with fail
  refine (indexAny_br _ _ (by rw [ByteArray.size_extract]; omega)).mono ?_
  rintro e w1 ⟨rfl, hb⟩
  rw [HX.out]
  obtain ⟨k0, k1, hbw, hzw⟩ := rt_mem hb
  clear hb
  go_wp2_with fail
  refine (Tryz.strings_HasPrefix _ _ _).mono ?_
  rintro e _ ⟨rfl, rfl⟩
  rw [show (⟨#[93, 93]⟩ : ByteArray).data.toList = [93, 93] from rfl, HP2.out]
  go_wp2_with fail
  refine (cutBar_any _ _ HQ.out.1).mono ?_
  rintro e w2 ⟨rfl, hb2⟩
  rw [HC.out]
  have k0 := k0.below hb2 (by omega)
  have k1 := k1.below hb2 (by omega)
  have hbw2 := hbw.trans (hb2.mono (by omega))
  have hz2 := hb2.size
  clear hb2 hbw
  go_wp2_with fail
  refine (rIsTarget_any _ _ HQ.out.2).mono ?_
  rintro e w3 ⟨rfl, hb3⟩
  rw [HTg.out]
  have k0 := k0.below hb3 (by omega)
  have k1 := k1.below hb3 (by omega)
  have hbw := hbw2.trans (hb3.mono (by omega))
  clear hb3 hbw2
  have c0 := k0.cell 0
  have c1 := k0.cell 1
  have c2 := k0.cell 2
  have c3 := k0.cell 3
  have c4 := k0.cell 4
  have c5 := k0.cell 5
  have c6 := k0.cell 6
  have f0 := k0.frozen 0
  have f1 := k0.frozen 1
  have f2 := k0.frozen 2
  have f3 := k0.frozen 3
  have f4 := k0.frozen 4
  have f5 := k0.frozen 5
  have f6 := k0.frozen 6
  have d0 := k1.cell 0
  have d1 := k1.cell 1
  have d2 := k1.cell 2
  have d3 := k1.cell 3
  have d4 := k1.cell 4
  have d5 := k1.cell 5
  have d6 := k1.cell 6
  have HB := Lib.hid hbw
  clear k0 k1 hbw
  go_wp2_with fail
  exact bodyPost_ret (v := .agg #[.int .i64 1, .int .i64 a, .int .i64 (a + 1), .string (s.extract a (a + 1)), .string ⟨#[]⟩, .int .i64 0, .bool false]) (by simp [results, Tryz.results58, go_sem, c0, c1, c2, c3, c4, c5, c6]) rfl ⟨by rw [HV.out], below7 HB.out (Nat.le_refl _) _ _ _ _ _ _ _⟩
set_option maxHeartbeats 2000000 in
set_option maxRecDepth 100000 in
theorem rtok_l_bad1 (s T : ByteArray) (a : Nat) (w : World) (hs : s.size ≤ 4294967280) (L : Tl s a T) (J u : Nat) (C : LkCut T J u) (h0 : bt T 0 = 91) (h1 : bt T 1 = 91) (h2 : bt T J = 93 ∧ bt T (J + 1) = 93) (hu : u = J - 2) (ht : isTgt (T.extract 2 (2 + u)) = false) :
    Calls Tryz.prog 58 #[.string s, .int .i64 a] w fun e w' => e = .returned (rtV s a) ∧ Below w.heap.size w w' := by
  have ha := L.ha
  have hz := L.z
  have hsz := L.size
  have ia : (a : Int) < (s.size : Int) := by omega
  have ia0 : (0 : Int) ≤ (a : Int) := by omega
  have b0 := bt_at hz
  have HT := Lib.hid L.hT
  have HP1 : Hid (Lib.hasPrefix T.data.toList [91, 91] = true) := pre_two (x := 91) rfl (by rw [decide_eq_true_iff]; exact ⟨h0, h1⟩)
  have hT2 := bt_in (s := T) (i := 1) (by omega)
  have zi2 : (2 : Int) ≤ (T.size : Int) := by omega
  have zi3 : (T.size : Int) ≤ 4294967280 := by omega
  have hxx := indexAny_br_ext T
  have hJ2 := C.J2
  have hJT := C.JT
  obtain ⟨m, hm⟩ : ∃ m : Nat, J = 2 + m := ⟨J - 2, by omega⟩
  subst hm
  have HX : Hid (Lib.indexAny (T.extract 2 T.size).data.toList [91, 93] = (m : Int)) := by show _ = _; rw [hxx, C.hJ, if_pos hJT]; omega
  have m0 : (0 : Int) ≤ (m : Int) := by omega
  have m1 : (2 : Int) + (m : Int) < (T.size : Int) := by omega
  have m2 : (m : Int) + 4 ≤ 4294967290 := by omega
  have gm : ¬ ((m : Int) < 0) := by omega
  have gm2 : decide ((m : Int) < 0) = false := by simp
  have HP2 : Hid (Lib.hasPrefix (T.extract (2 + m) T.size).data.toList [93, 93] = true) := prefix_two T (2 + m) 93 (x := 93) rfl (by rw [decide_eq_true_iff]; exact h2)
  have hule := C.ule
  have hqs := C.qs
  have hm2 : 2 + m - 2 = m := by omega
  rw [hm2] at hule hqs
  have HC : Hid (cutV (T.extract 2 (2 + m)) = .tuple #[.string (T.extract 2 (2 + u)), .string ⟨#[]⟩, .bool false]) := by
    show _ = _
    unfold cutV
    rw [if_neg (by rw [C.hu, hqs]; omega), show u = m by omega]
  have HQ : Hid ((T.extract 2 (2 + m)).size ≤ 4294967280 ∧ (T.extract 2 (2 + u)).size ≤ 4294967280) := by constructor <;> (rw [ByteArray.size_extract]; omega)
  have HV : Hid (rtV s a = .agg #[.int .i64 1, .int .i64 a, .int .i64 (a + 1), .string (s.extract a (a + 1)), .string ⟨#[]⟩, .int .i64 0, .bool false]) := by
    show _ = _
    have e0 := L.bt 0
    rw [Nat.add_zero] at e0
    exact rtV_plain (tokA_no (k := 2) (by omega) (by rw [← e0]; exact h0) (by show tokL s a = none; rw [tokL_same L.same, C.bad ht]; rfl))
  have HTg := Lib.hid ht
  rw [b0] at h0
  have g0 : ((T[0].toNat : Int) == 92) = false := notBeq (by omega)
  have g1 : ((T[0].toNat : Int) == 96) = false := notBeq (by omega)
  clear L b0 hsz h0 h1 h2 hxx C hu hule hqs ht hm2
  go_enter Tryz.func58, Tryz.ntmps58
  go_upto_region 3 with (fail)
  rw [← HT.out]
  go_wp2_with fail
  refine (Tryz.strings_HasPrefix _ _ _).mono ?_
  rintro e _ ⟨rfl, rfl⟩
  rw [show (⟨#[91, 91]⟩ : ByteArray).data.toList = [91, 91] from rfl, HP1.out]
  go_wp2_with fail
  refine (indexAny_br _ _ (by rw [ByteArray.size_extract]; omega)).mono ?_
  rintro e w1 ⟨rfl, hb⟩
  rw [HX.out]
  obtain ⟨k0, k1, hbw, hzw⟩ := rt_mem hb
  clear hb
  go_wp2_with fail
  refine (Tryz.strings_HasPrefix _ _ _).mono ?_
  rintro e _ ⟨rfl, rfl⟩
  rw [show (⟨#[93, 93]⟩ : ByteArray).data.toList = [93, 93] from rfl, HP2.out]
  go_wp2_with fail
  refine (cutBar_any _ _ HQ.out.1).mono ?_
  rintro e w2 ⟨rfl, hb2⟩
  rw [HC.out]
  have k0 := k0.below hb2 (by omega)
  have k1 := k1.below hb2 (by omega)
  have hbw2 := hbw.trans (hb2.mono (by omega))
  have hz2 := hb2.size
  clear hb2 hbw
  go_wp2_with fail
  refine (rIsTarget_any _ _ HQ.out.2).mono ?_
  rintro e w3 ⟨rfl, hb3⟩
  rw [HTg.out]
  have k0 := k0.below hb3 (by omega)
  have k1 := k1.below hb3 (by omega)
  have hbw := hbw2.trans (hb3.mono (by omega))
  clear hb3 hbw2
  have c0 := k0.cell 0
  have c1 := k0.cell 1
  have c2 := k0.cell 2
  have c3 := k0.cell 3
  have c4 := k0.cell 4
  have c5 := k0.cell 5
  have c6 := k0.cell 6
  have f0 := k0.frozen 0
  have f1 := k0.frozen 1
  have f2 := k0.frozen 2
  have f3 := k0.frozen 3
  have f4 := k0.frozen 4
  have f5 := k0.frozen 5
  have f6 := k0.frozen 6
  have d0 := k1.cell 0
  have d1 := k1.cell 1
  have d2 := k1.cell 2
  have d3 := k1.cell 3
  have d4 := k1.cell 4
  have d5 := k1.cell 5
  have d6 := k1.cell 6
  have HB := Lib.hid hbw
  clear k0 k1 hbw
  go_wp2_with fail
  exact bodyPost_ret (v := .agg #[.int .i64 1, .int .i64 a, .int .i64 (a + 1), .string (s.extract a (a + 1)), .string ⟨#[]⟩, .int .i64 0, .bool false]) (by simp [results, Tryz.results58, go_sem, c0, c1, c2, c3, c4, c5, c6]) rfl ⟨by rw [HV.out], below7 HB.out (Nat.le_refl _) _ _ _ _ _ _ _⟩
set_option maxHeartbeats 2000000 in
set_option maxRecDepth 100000 in
theorem rtok_l_short (s T : ByteArray) (a : Nat) (w : World) (hs : s.size ≤ 4294967280) (L : Tl s a T) (J u : Nat) (C : LkCut T J u) (h0 : bt T 0 = 91) (h1 : bt T 1 = 91) (h2 : bt T J = 93 ∧ bt T (J + 1) = 93) (hu : u = J - 2) (ht : isTgt (T.extract 2 (2 + u)) = true) :
    Calls Tryz.prog 58 #[.string s, .int .i64 a] w fun e w' => e = .returned (rtV s a) ∧ Below w.heap.size w w' := by
  have ha := L.ha
  have hz := L.z
  have hsz := L.size
  have ia : (a : Int) < (s.size : Int) := by omega
  have ia0 : (0 : Int) ≤ (a : Int) := by omega
  have b0 := bt_at hz
  have HT := Lib.hid L.hT
  have HP1 : Hid (Lib.hasPrefix T.data.toList [91, 91] = true) := pre_two (x := 91) rfl (by rw [decide_eq_true_iff]; exact ⟨h0, h1⟩)
  have hT2 := bt_in (s := T) (i := 1) (by omega)
  have zi2 : (2 : Int) ≤ (T.size : Int) := by omega
  have zi3 : (T.size : Int) ≤ 4294967280 := by omega
  have hxx := indexAny_br_ext T
  have hJ2 := C.J2
  have hJT := C.JT
  obtain ⟨m, hm⟩ : ∃ m : Nat, J = 2 + m := ⟨J - 2, by omega⟩
  subst hm
  have HX : Hid (Lib.indexAny (T.extract 2 T.size).data.toList [91, 93] = (m : Int)) := by show _ = _; rw [hxx, C.hJ, if_pos hJT]; omega
  have m0 : (0 : Int) ≤ (m : Int) := by omega
  have m1 : (2 : Int) + (m : Int) < (T.size : Int) := by omega
  have m2 : (m : Int) + 4 ≤ 4294967290 := by omega
  have gm : ¬ ((m : Int) < 0) := by omega
  have gm2 : decide ((m : Int) < 0) = false := by simp
  have HP2 : Hid (Lib.hasPrefix (T.extract (2 + m) T.size).data.toList [93, 93] = true) := prefix_two T (2 + m) 93 (x := 93) rfl (by rw [decide_eq_true_iff]; exact h2)
  have hule := C.ule
  have hqs := C.qs
  have hm2 : 2 + m - 2 = m := by omega
  rw [hm2] at hule hqs
  have HC : Hid (cutV (T.extract 2 (2 + m)) = .tuple #[.string (T.extract 2 (2 + u)), .string ⟨#[]⟩, .bool false]) := by
    show _ = _
    unfold cutV
    rw [if_neg (by rw [C.hu, hqs]; omega), show u = m by omega]
  have HQ : Hid ((T.extract 2 (2 + m)).size ≤ 4294967280 ∧ (T.extract 2 (2 + u)).size ≤ 4294967280) := by constructor <;> (rw [ByteArray.size_extract]; omega)
  have HV : Hid (rtV s a = .agg #[.int .i64 4, .int .i64 a, .int .i64 (a + m + 4), .string (T.extract 2 (2 + u)), .string ⟨#[]⟩, .int .i64 0, .bool false]) := by
    show _ = _
    have ht : tokL s a = some (⟨4, a, a + m + 4, T.extract 2 (2 + u), noB, 0, false⟩) := by
      rw [tokL_same L.same, C.short h0 h1 ht h2 hu, show u = m by omega]
      simp [mv, shF]
      omega
    rw [rtV_of (k := 2) (by omega) ht (by show (4 : Int) ≠ 1; decide)]
    rfl
  have HTg := Lib.hid ht
  rw [b0] at h0
  have g0 : ((T[0].toNat : Int) == 92) = false := notBeq (by omega)
  have g1 : ((T[0].toNat : Int) == 96) = false := notBeq (by omega)
  clear L b0 hsz h0 h1 h2 hxx C hu hule hqs ht hm2
  go_enter Tryz.func58, Tryz.ntmps58
  go_upto_region 3 with (fail)
  rw [← HT.out]
  go_wp2_with fail
  refine (Tryz.strings_HasPrefix _ _ _).mono ?_
  rintro e _ ⟨rfl, rfl⟩
  rw [show (⟨#[91, 91]⟩ : ByteArray).data.toList = [91, 91] from rfl, HP1.out]
  go_wp2_with fail
  refine (indexAny_br _ _ (by rw [ByteArray.size_extract]; omega)).mono ?_
  rintro e w1 ⟨rfl, hb⟩
  rw [HX.out]
  obtain ⟨k0, k1, hbw, hzw⟩ := rt_mem hb
  clear hb
  go_wp2_with fail
  refine (Tryz.strings_HasPrefix _ _ _).mono ?_
  rintro e _ ⟨rfl, rfl⟩
  rw [show (⟨#[93, 93]⟩ : ByteArray).data.toList = [93, 93] from rfl, HP2.out]
  go_wp2_with fail
  refine (cutBar_any _ _ HQ.out.1).mono ?_
  rintro e w2 ⟨rfl, hb2⟩
  rw [HC.out]
  have k0 := k0.below hb2 (by omega)
  have k1 := k1.below hb2 (by omega)
  have hbw2 := hbw.trans (hb2.mono (by omega))
  have hz2 := hb2.size
  clear hb2 hbw
  go_wp2_with fail
  refine (rIsTarget_any _ _ HQ.out.2).mono ?_
  rintro e w3 ⟨rfl, hb3⟩
  rw [HTg.out]
  have k0 := k0.below hb3 (by omega)
  have k1 := k1.below hb3 (by omega)
  have hbw := hbw2.trans (hb3.mono (by omega))
  clear hb3 hbw2
  have c0 := k0.cell 0
  have c1 := k0.cell 1
  have c2 := k0.cell 2
  have c3 := k0.cell 3
  have c4 := k0.cell 4
  have c5 := k0.cell 5
  have c6 := k0.cell 6
  have f0 := k0.frozen 0
  have f1 := k0.frozen 1
  have f2 := k0.frozen 2
  have f3 := k0.frozen 3
  have f4 := k0.frozen 4
  have f5 := k0.frozen 5
  have f6 := k0.frozen 6
  have HB := Lib.hid hbw
  clear k0 k1 hbw
  go_wp2_with fail
  exact bodyPost_ret (v := .agg #[.int .i64 4, .int .i64 a, .int .i64 (a + m + 4), .string (T.extract 2 (2 + u)), .string ⟨#[]⟩, .int .i64 0, .bool false]) (by simp [results, Tryz.results58, go_sem, c0, c1, c2, c3, c4, c5, c6]) rfl ⟨by rw [HV.out], below7 HB.out (Nat.le_refl _) _ _ _ _ _ _ _⟩
set_option maxHeartbeats 2000000 in
set_option maxRecDepth 100000 in
theorem rtok_l_long (s T : ByteArray) (a : Nat) (w : World) (hs : s.size ≤ 4294967280) (L : Tl s a T) (J u : Nat) (C : LkCut T J u) (h0 : bt T 0 = 91) (h1 : bt T 1 = 91) (h2 : bt T J = 93 ∧ bt T (J + 1) = 93) (hu : u + 1 < J - 2) (ht : isTgt (T.extract 2 (2 + u)) = true) :
    Calls Tryz.prog 58 #[.string s, .int .i64 a] w fun e w' => e = .returned (rtV s a) ∧ Below w.heap.size w w' := by
  have ha := L.ha
  have hz := L.z
  have hsz := L.size
  have ia : (a : Int) < (s.size : Int) := by omega
  have ia0 : (0 : Int) ≤ (a : Int) := by omega
  have b0 := bt_at hz
  have HT := Lib.hid L.hT
  have HP1 : Hid (Lib.hasPrefix T.data.toList [91, 91] = true) := pre_two (x := 91) rfl (by rw [decide_eq_true_iff]; exact ⟨h0, h1⟩)
  have hT2 := bt_in (s := T) (i := 1) (by omega)
  have zi2 : (2 : Int) ≤ (T.size : Int) := by omega
  have zi3 : (T.size : Int) ≤ 4294967280 := by omega
  have hxx := indexAny_br_ext T
  have hJ2 := C.J2
  have hJT := C.JT
  obtain ⟨m, hm⟩ : ∃ m : Nat, J = 2 + m := ⟨J - 2, by omega⟩
  subst hm
  have HX : Hid (Lib.indexAny (T.extract 2 T.size).data.toList [91, 93] = (m : Int)) := by show _ = _; rw [hxx, C.hJ, if_pos hJT]; omega
  have m0 : (0 : Int) ≤ (m : Int) := by omega
  have m1 : (2 : Int) + (m : Int) < (T.size : Int) := by omega
  have m2 : (m : Int) + 4 ≤ 4294967290 := by omega
  have gm : ¬ ((m : Int) < 0) := by omega
  have gm2 : decide ((m : Int) < 0) = false := by simp
  have HP2 : Hid (Lib.hasPrefix (T.extract (2 + m) T.size).data.toList [93, 93] = true) := prefix_two T (2 + m) 93 (x := 93) rfl (by rw [decide_eq_true_iff]; exact h2)
  have hule := C.ule
  have hqs := C.qs
  have hm2 : 2 + m - 2 = m := by omega
  rw [hm2] at hule hqs
  have HC : Hid (cutV (T.extract 2 (2 + m)) = .tuple #[.string (T.extract 2 (2 + u)), .string (T.extract (2 + u + 1) (2 + m)), .bool true]) := by
    show _ = _
    unfold cutV
    rw [if_pos (by rw [C.hu, hqs]; omega), C.hu, C.target, hqs, ext_ext T 2 (2 + m) (u + 1) m (by omega)]
    rfl
  have HQ : Hid ((T.extract 2 (2 + m)).size ≤ 4294967280 ∧ (T.extract 2 (2 + u)).size ≤ 4294967280) := by constructor <;> (rw [ByteArray.size_extract]; omega)
  have HV : Hid (rtV s a = .agg #[.int .i64 4, .int .i64 a, .int .i64 (a + m + 4), .string (T.extract 2 (2 + u)), .string (T.extract (2 + u + 1) (2 + m)), .int .i64 0, .bool false]) := by
    show _ = _
    have ht : tokL s a = some (⟨4, a, a + m + 4, T.extract 2 (2 + u), T.extract (2 + u + 1) (2 + m), 0, false⟩) := by
      rw [tokL_same L.same, C.long h0 h1 ht h2 (by omega), if_pos (by omega)]
      simp [mv, shF]
      omega
    rw [rtV_of (k := 2) (by omega) ht (by show (4 : Int) ≠ 1; decide)]
    rfl
  have gs : (T.extract (2 + u + 1) (2 + m)).toList.isEmpty = false := by exact notEmpty_of (by rw [ByteArray.size_extract]; omega)
  have HTg := Lib.hid ht
  obtain ⟨sh, hsh⟩ : ∃ sh, sh = T.extract (2 + u + 1) (2 + m) := ⟨_, rfl⟩
  rw [← hsh] at HC gs HV
  rw [b0] at h0
  have g0 : ((T[0].toNat : Int) == 92) = false := notBeq (by omega)
  have g1 : ((T[0].toNat : Int) == 96) = false := notBeq (by omega)
  clear L b0 hsz h0 h1 h2 hxx C hu hule hqs ht hm2 hsh
  go_enter Tryz.func58, Tryz.ntmps58
  go_upto_region 3 with (fail)
  rw [← HT.out]
  go_wp2_with fail
  refine (Tryz.strings_HasPrefix _ _ _).mono ?_
  rintro e _ ⟨rfl, rfl⟩
  rw [show (⟨#[91, 91]⟩ : ByteArray).data.toList = [91, 91] from rfl, HP1.out]
  go_wp2_with fail
  refine (indexAny_br _ _ (by rw [ByteArray.size_extract]; omega)).mono ?_
  rintro e w1 ⟨rfl, hb⟩
  rw [HX.out]
  obtain ⟨k0, k1, hbw, hzw⟩ := rt_mem hb
  clear hb
  go_wp2_with fail
  refine (Tryz.strings_HasPrefix _ _ _).mono ?_
  rintro e _ ⟨rfl, rfl⟩
  rw [show (⟨#[93, 93]⟩ : ByteArray).data.toList = [93, 93] from rfl, HP2.out]
  go_wp2_with fail
  refine (cutBar_any _ _ HQ.out.1).mono ?_
  rintro e w2 ⟨rfl, hb2⟩
  rw [HC.out]
  have k0 := k0.below hb2 (by omega)
  have k1 := k1.below hb2 (by omega)
  have hbw2 := hbw.trans (hb2.mono (by omega))
  have hz2 := hb2.size
  clear hb2 hbw
  go_wp2_with fail
  refine (rIsTarget_any _ _ HQ.out.2).mono ?_
  rintro e w3 ⟨rfl, hb3⟩
  rw [HTg.out]
  have k0 := k0.below hb3 (by omega)
  have k1 := k1.below hb3 (by omega)
  have hbw := hbw2.trans (hb3.mono (by omega))
  clear hb3 hbw2
  have c0 := k0.cell 0
  have c1 := k0.cell 1
  have c2 := k0.cell 2
  have c3 := k0.cell 3
  have c4 := k0.cell 4
  have c5 := k0.cell 5
  have c6 := k0.cell 6
  have f0 := k0.frozen 0
  have f1 := k0.frozen 1
  have f2 := k0.frozen 2
  have f3 := k0.frozen 3
  have f4 := k0.frozen 4
  have f5 := k0.frozen 5
  have f6 := k0.frozen 6
  have HB := Lib.hid hbw
  clear k0 k1 hbw
  go_wp2_with fail
  exact bodyPost_ret (v := .agg #[.int .i64 4, .int .i64 a, .int .i64 (a + m + 4), .string (T.extract 2 (2 + u)), .string sh, .int .i64 0, .bool false]) (by simp [results, Tryz.results58, go_sem, c0, c1, c2, c3, c4, c5, c6]) rfl ⟨by rw [HV.out], below7 HB.out (Nat.le_refl _) _ _ _ _ _ _ _⟩
set_option maxHeartbeats 2000000 in
set_option maxRecDepth 100000 in
theorem rtok_l_hollow (s T : ByteArray) (a : Nat) (w : World) (hs : s.size ≤ 4294967280) (L : Tl s a T) (J u : Nat) (C : LkCut T J u) (h0 : bt T 0 = 91) (h1 : bt T 1 = 91) (h2 : bt T J = 93 ∧ bt T (J + 1) = 93) (hu : u + 1 = J - 2) (ht : isTgt (T.extract 2 (2 + u)) = true) :
    Calls Tryz.prog 58 #[.string s, .int .i64 a] w fun e w' => e = .returned (rtV s a) ∧ Below w.heap.size w w' := by
  have ha := L.ha
  have hz := L.z
  have hsz := L.size
  have ia : (a : Int) < (s.size : Int) := by omega
  have ia0 : (0 : Int) ≤ (a : Int) := by omega
  have b0 := bt_at hz
  have HT := Lib.hid L.hT
  have HP1 : Hid (Lib.hasPrefix T.data.toList [91, 91] = true) := pre_two (x := 91) rfl (by rw [decide_eq_true_iff]; exact ⟨h0, h1⟩)
  have hT2 := bt_in (s := T) (i := 1) (by omega)
  have zi2 : (2 : Int) ≤ (T.size : Int) := by omega
  have zi3 : (T.size : Int) ≤ 4294967280 := by omega
  have hxx := indexAny_br_ext T
  have hJ2 := C.J2
  have hJT := C.JT
  obtain ⟨m, hm⟩ : ∃ m : Nat, J = 2 + m := ⟨J - 2, by omega⟩
  subst hm
  have HX : Hid (Lib.indexAny (T.extract 2 T.size).data.toList [91, 93] = (m : Int)) := by show _ = _; rw [hxx, C.hJ, if_pos hJT]; omega
  have m0 : (0 : Int) ≤ (m : Int) := by omega
  have m1 : (2 : Int) + (m : Int) < (T.size : Int) := by omega
  have m2 : (m : Int) + 4 ≤ 4294967290 := by omega
  have gm : ¬ ((m : Int) < 0) := by omega
  have gm2 : decide ((m : Int) < 0) = false := by simp
  have HP2 : Hid (Lib.hasPrefix (T.extract (2 + m) T.size).data.toList [93, 93] = true) := prefix_two T (2 + m) 93 (x := 93) rfl (by rw [decide_eq_true_iff]; exact h2)
  have hule := C.ule
  have hqs := C.qs
  have hm2 : 2 + m - 2 = m := by omega
  rw [hm2] at hule hqs
  have HC : Hid (cutV (T.extract 2 (2 + m)) = .tuple #[.string (T.extract 2 (2 + u)), .string (T.extract (2 + u + 1) (2 + m)), .bool true]) := by
    show _ = _
    unfold cutV
    rw [if_pos (by rw [C.hu, hqs]; omega), C.hu, C.target, hqs, ext_ext T 2 (2 + m) (u + 1) m (by omega)]
    rfl
  have HQ : Hid ((T.extract 2 (2 + m)).size ≤ 4294967280 ∧ (T.extract 2 (2 + u)).size ≤ 4294967280) := by constructor <;> (rw [ByteArray.size_extract]; omega)
  have HV : Hid (rtV s a = .agg #[.int .i64 1, .int .i64 a, .int .i64 (a + 1), .string (s.extract a (a + 1)), .string ⟨#[]⟩, .int .i64 0, .bool false]) := by
    show _ = _
    have e0 := L.bt 0
    rw [Nat.add_zero] at e0
    exact rtV_plain (tokA_no (k := 2) (by omega) (by rw [← e0]; exact h0) (by show tokL s a = none; rw [tokL_same L.same, C.long h0 h1 ht h2 (by omega), if_neg (by omega)]; rfl))
  have gs : (T.extract (2 + u + 1) (2 + m)).toList.isEmpty = true := by rw [Lib.toList_data, empty_of (show (T.extract (2 + u + 1) (2 + m)).size = 0 by rw [ByteArray.size_extract]; omega)]; rfl
  have HTg := Lib.hid ht
  obtain ⟨sh, hsh⟩ : ∃ sh, sh = T.extract (2 + u + 1) (2 + m) := ⟨_, rfl⟩
  rw [← hsh] at HC gs
  rw [b0] at h0
  have g0 : ((T[0].toNat : Int) == 92) = false := notBeq (by omega)
  have g1 : ((T[0].toNat : Int) == 96) = false := notBeq (by omega)
  clear L b0 hsz h0 h1 h2 hxx C hu hule hqs ht hm2 hsh
  go_enter Tryz.func58, Tryz.ntmps58
  go_upto_region 3 with (fail)
  rw [← HT.out]
  go_wp2_with fail
  refine (Tryz.strings_HasPrefix _ _ _).mono ?_
  rintro e _ ⟨rfl, rfl⟩
  rw [show (⟨#[91, 91]⟩ : ByteArray).data.toList = [91, 91] from rfl, HP1.out]
  go_wp2_with fail
  refine (indexAny_br _ _ (by rw [ByteArray.size_extract]; omega)).mono ?_
  rintro e w1 ⟨rfl, hb⟩
  rw [HX.out]
  obtain ⟨k0, k1, hbw, hzw⟩ := rt_mem hb
  clear hb
  go_wp2_with fail
  refine (Tryz.strings_HasPrefix _ _ _).mono ?_
  rintro e _ ⟨rfl, rfl⟩
  rw [show (⟨#[93, 93]⟩ : ByteArray).data.toList = [93, 93] from rfl, HP2.out]
  go_wp2_with fail
  refine (cutBar_any _ _ HQ.out.1).mono ?_
  rintro e w2 ⟨rfl, hb2⟩
  rw [HC.out]
  have k0 := k0.below hb2 (by omega)
  have k1 := k1.below hb2 (by omega)
  have hbw2 := hbw.trans (hb2.mono (by omega))
  have hz2 := hb2.size
  clear hb2 hbw
  go_wp2_with fail
  refine (rIsTarget_any _ _ HQ.out.2).mono ?_
  rintro e w3 ⟨rfl, hb3⟩
  rw [HTg.out]
  have k0 := k0.below hb3 (by omega)
  have k1 := k1.below hb3 (by omega)
  have hbw := hbw2.trans (hb3.mono (by omega))
  clear hb3 hbw2
  have c0 := k0.cell 0
  have c1 := k0.cell 1
  have c2 := k0.cell 2
  have c3 := k0.cell 3
  have c4 := k0.cell 4
  have c5 := k0.cell 5
  have c6 := k0.cell 6
  have f0 := k0.frozen 0
  have f1 := k0.frozen 1
  have f2 := k0.frozen 2
  have f3 := k0.frozen 3
  have f4 := k0.frozen 4
  have f5 := k0.frozen 5
  have f6 := k0.frozen 6
  have d0 := k1.cell 0
  have d1 := k1.cell 1
  have d2 := k1.cell 2
  have d3 := k1.cell 3
  have d4 := k1.cell 4
  have d5 := k1.cell 5
  have d6 := k1.cell 6
  have HB := Lib.hid hbw
  clear k0 k1 hbw
  go_wp2_with fail
  exact bodyPost_ret (v := .agg #[.int .i64 1, .int .i64 a, .int .i64 (a + 1), .string (s.extract a (a + 1)), .string ⟨#[]⟩, .int .i64 0, .bool false]) (by simp [results, Tryz.results58, go_sem, c0, c1, c2, c3, c4, c5, c6]) rfl ⟨by rw [HV.out], below7 HB.out (Nat.le_refl _) _ _ _ _ _ _ _⟩
theorem rtok_link (s T : ByteArray) (a : Nat) (w : World) (hs : s.size ≤ 4294967280) (L : Tl s a T) (h0 : bt T 0 = 91) (h1 : bt T 1 = 91) :
    Calls Tryz.prog 58 #[.string s, .int .i64 a] w fun e w' => e = .returned (rtV s a) ∧ Below w.heap.size w w' := by
  by_cases hJ : upto brB T 2 < T.size
  · have C : LkCut T (upto brB T 2) (upto (isC 124) (T.extract 2 (upto brB T 2)) 0) := ⟨rfl, hJ, rfl⟩
    generalize upto (isC 124) (T.extract 2 (upto brB T 2)) 0 = u at C
    generalize upto brB T 2 = J at C
    by_cases h2 : bt T J = 93 ∧ bt T (J + 1) = 93
    · have hule := C.ule
      cases ht : isTgt (T.extract 2 (2 + u))
      · by_cases hu : u < J - 2
        · exact rtok_l_bad s T a w hs L J u C h0 h1 h2 hu ht
        · exact rtok_l_bad1 s T a w hs L J u C h0 h1 h2 (by omega) ht
      · by_cases hu : u + 1 < J - 2
        · exact rtok_l_long s T a w hs L J u C h0 h1 h2 hu ht
        · by_cases hu2 : u + 1 = J - 2
          · exact rtok_l_hollow s T a w hs L J u C h0 h1 h2 hu2 ht
          · exact rtok_l_short s T a w hs L J u C h0 h1 h2 (by omega) ht
    · exact rtok_l_noend s T a w hs L J u C h0 h1 h2
  · exact rtok_l_none s T a w hs L h0 h1 (by omega)
end Go.Proofs.YtemngidkfgcigaaGreatDoor
