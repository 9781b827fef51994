/-
  DERIVED. The walks of prop.reader's has and take, of isDateForm, digitsAt, ReadDate, plainNumber. Conditions: sizes; the table of powers of ten is laid. By an AI agent.
-/
import Derived.Test.YtbdcimakdiegnaaGreatDoorVa15
import Derived.Test.YtbdcimakdiegnaaGreatDoorVa19
import Derived.Test.YtbdcimakdiegnaaGreatDoorVa16
import Derived.Test.YtbdcimakdiegnaaGreatDoorVa11
import Derived.Test.YtbdcimakdiegnaaGreatDoorVa09
import Derived.Lib.SmallJoins
import Derived.MakeChecks
import Derived.Shelf.Strings.SlTrimAscii
import Derived.Deep.RegionHeld3
import Derived.BigQuiet
namespace Go.Proofs.YtbdcimakdiegnaaGreatDoor
open Go.RowKit

theorem gr_drewN (w : World) (n : Nat) (r : Option Nat) : w.grownBy (w.drewN n) r := ⟨rfl, rfl, rfl, Nat.le_refl _, fun _ _ _ => rfl⟩
theorem bl_drewN (w : World) (n B : Nat) : Below B w (w.drewN n) := ⟨rfl, rfl, rfl, Nat.le_refl _, fun _ _ => rfl⟩
set_option maxHeartbeats 1000000 in
theorem has_any (rb : Nat) (s p : ByteArray) (a : Nat) (bad far : Bool) (w : World) (h : RdM w rb s a bad far) (ha : a ≤ s.size) (_hs : s.size ≤ 400000) (q : Bool) (hq : pre p.data.toList (rs s a) = q) :
    Calls Tryz.prog 90 #[.pointer (some ⟨rb, 0, none⟩), .string p] w fun e w' => e = .returned (.bool q) ∧ ∃ n, w' = w.drewN n := by
  obtain ⟨⟨c0, c1, _, _⟩, _⟩ := h.at_
  have HP : Hid (∀ W, Calls Tryz.prog 29 #[.string (s.extract a s.size), .string p] W fun e w' => e = .returned (.bool q) ∧ w' = W) := fun W => by
    have := Tryz.strings_HasPrefix (s.extract a s.size) p W
    rw [rs_ext s a ha, show Lib.hasPrefix (rs s a) p.data.toList = q from hq] at this
    exact this
  have i1 : (a : Int) ≤ (s.size : Int) := by omega
  clear h hq
  go_enter Tryz.func90, Tryz.ntmps90
  go_wp2_with fail
  go_quiet (refine (HP.out _).mono (fun _ _ h => ⟨h.1, _, h.2⟩))
  go_wp2_with fail
  go_ret
  exact ⟨rfl, _, rfl⟩
set_option maxHeartbeats 1000000 in
theorem take_no (rb : Nat) (s p : ByteArray) (a : Nat) (bad far : Bool) (w : World) (h : RdM w rb s a bad far) (ha : a ≤ s.size) (hs : s.size ≤ 400000) (hq : pre p.data.toList (rs s a) = false) :
    Calls Tryz.prog 88 #[.pointer (some ⟨rb, 0, none⟩), .string p] w fun e w' => e = .returned (.bool false) ∧ ∃ n, w' = w.drewN n := by
  have HP := Lib.hid (has_any rb s p a bad far w h ha hs _ hq)
  clear h hq
  go_enter Tryz.func88, Tryz.ntmps88
  go_wp2_with fail
  refine HP.out.mono ?_
  rintro e w1 ⟨rfl, n, rfl⟩
  go_wp2_with fail
  go_ret
  exact ⟨rfl, _, rfl⟩
set_option maxHeartbeats 1000000 in
theorem take_yes (rb : Nat) (s p : ByteArray) (a : Nat) (bad far : Bool) (w : World) (h : RdM w rb s a bad far) (ha : a ≤ s.size) (hs : s.size ≤ 400000) (hq : pre p.data.toList (rs s a) = true) :
    Calls Tryz.prog 88 #[.pointer (some ⟨rb, 0, none⟩), .string p] w fun e w' => e = .returned (.bool true) ∧ RdM w' rb s (a + p.size) bad far ∧ w.grownBy w' (some rb) := by
  have HP := Lib.hid (has_any rb s p a bad far w h ha hs _ hq)
  have hz : a + p.size ≤ s.size := by
    have := rs_pre hq ha
    rwa [← Lib.size_eq] at this
  have H := Lib.hid h
  clear h hq
  go_enter Tryz.func88, Tryz.ntmps88
  go_wp2_with fail
  refine HP.out.mono ?_
  rintro e w1 ⟨rfl, n, rfl⟩
  have H1 : Hid (RdM (w.drewN n) rb s a bad far) := Blk.drewN H.out n
  have HG := Lib.hid (gr_drewN w n (some rb))
  obtain ⟨⟨c0, c1, _, _⟩, f1, _⟩ := H1.out.at_
  generalize w.drewN n = w1 at H1 HG c0 c1 f1 ⊢
  go_wp2_with fail
  go_ret
  refine ⟨rfl, ?_, gr_set HG.out 1 _⟩
  have := H1.out.go (a + p.size)
  push_cast at this
  exact this
theorem trimDg_any (s : ByteArray) (w : World) (hs : s.size ≤ 9223372036854775807) :
    Calls Tryz.prog 105 #[.string s, .string ⟨#[48, 49, 50, 51, 52, 53, 54, 55, 56, 57]⟩] w fun e w' => e = .returned (.string ⟨(Lib.trimS s.data.toList dgs).toArray⟩) ∧ Below w.heap.size w w' :=
  Any.strings_Trim_laid Tryz.lays160 (by kernel_rfl) s ⟨#[48, 49, 50, 51, 52, 53, 54, 55, 56, 57]⟩ w hs (by decide) (ascii_of_all (by decide))
theorem trimDg_nil (l : List UInt8) : (⟨(Lib.trimS l dgs).toArray⟩ : ByteArray).toList.isEmpty = l.all isDg := by
  rw [Lib.toList_data]
  show (Lib.trimS l dgs).isEmpty = _
  cases h : l.all isDg
  · rw [List.isEmpty_eq_false_iff]
    intro e
    rw [trim_all.1 e] at h
    cases h
  · rw [trim_all.2 h]
    rfl

set_option maxHeartbeats 2000000 in
theorem digitsAt_any (x : ByteArray) (w : World) (h0 : 0 < x.size) (h1 : x.size ≤ 10) (hd : x.data.toList.all isDg = true) :
    Calls Tryz.prog 109 #[.string x] w fun e w' => e = .returned (.tuple #[.int .i64 (dNum x.data.toList), .bool true]) ∧ Below w.heap.size w w' := by
  have hne : x.data.toList ≠ [] := by
    intro e
    rw [Lib.size_eq, e] at h0
    exact absurd h0 (by simp)
  have hem : x.toList.isEmpty = false := by
    rw [Lib.toList_data, List.isEmpty_eq_false_iff]
    exact hne
  have TD := trimDg_any x w (by omega)
  rw [trim_all.2 hd] at TD
  have TD := Lib.hid TD
  obtain ⟨ha, hb, hc⟩ := atoi_dg hd hne
  have AT := Lib.hid fun W => Tryz.strconv_Atoi x _ (by omega) ha W
  obtain ⟨n, hn⟩ : ∃ n, n = dNum x.data.toList := ⟨_, rfl⟩
  rw [← hn] at AT ⊢
  clear hd hne ha hb hc hn
  go_enter Tryz.func109, Tryz.ntmps109
  go_wp2_with fail
  refine TD.out.mono ?_
  rintro e w2 ⟨rfl, hb2⟩
  have HB2 := Lib.hid hb2
  clear hb2
  go_wp2_with fail
  refine (AT.out _).mono ?_
  rintro e w3 ⟨rfl, t, hw3⟩
  have HB3 : Hid (Below w.heap.size w w3) := HB2.out.trans (by rw [hw3]; exact Joins.below_bytesWorld _ _ _ _ HB2.out.size)
  clear hw3
  go_wp2_with fail
  go_quiet (fail)
  go_wp2_with fail
  go_ret2
  exact ⟨rfl, HB3.out.trans (bl_drewN _ _ _)⟩
theorem dForm_parts {x : List UInt8} (h : dForm x = true) : x.length = 10 ∧ (x.take 4).all isDg = true ∧ ((x.drop 5).take 2).all isDg = true ∧ (x.drop 8).all isDg = true := by
  unfold dForm at h
  simp only [Bool.and_eq_true, List.all_append] at h
  exact ⟨by simpa using h.1.1.1, h.2.1.1, h.2.1.2, h.2.2⟩
theorem form_four {x : List UInt8} (h4 : (x.getD 4 0 == 45) = false) : dForm x = false := by
  unfold dForm
  rw [h4]
  simp
theorem form_seven {x : List UInt8} (h7 : (x.getD 7 0 == 45) = false) : dForm x = false := by
  unfold dForm
  rw [h7]
  simp
theorem form_yes {x : List UInt8} (hz : x.length = 10) (h4 : (x.getD 4 0 == 45) = true) (h7 : (x.getD 7 0 == 45) = true) : dForm x = ((x.take 4 ++ (x.drop 5).take 2) ++ x.drop 8).all isDg := by
  unfold dForm
  rw [h4, h7, hz]
  rfl
theorem getD_at {x : ByteArray} {i : Nat} (h : i < x.size) : x.data.toList.getD i 0 = x[i] := by
  rw [List.getD_eq_getElem?_getD, List.getElem?_eq_getElem (by rw [← Lib.size_eq]; exact h)]
  rfl
theorem eq45 (c : UInt8) : ((c.toNat : Int) == 45) = (c == 45) := by
  rw [Bool.eq_iff_iff, beq_iff_eq, beq_iff_eq, ← UInt8.toNat_inj]
  constructor
  · intro h
    show c.toNat = 45
    omega
  · intro h
    have h : c.toNat = 45 := h
    omega
theorem ne45 (c : UInt8) : ((c.toNat : Int) != 45) = !(c == 45) := by rw [bne, eq45]
theorem ext_size (x : ByteArray) (a b : Nat) (h : a ≤ b) (hb : b ≤ x.size) : (x.extract a b).size = b - a := by
  rw [ByteArray.size_extract]
  omega
theorem ext_toL (x : ByteArray) (a b : Nat) : (x.extract a b).data.toList = (x.data.toList.drop a).take (b - a) := by
  rw [← Lib.toList_data, Lib.extract_toList]

set_option maxHeartbeats 2000000 in
theorem isForm_any (x : ByteArray) (w : World) (hz : x.size = 10) :
    Calls Tryz.prog 108 #[.string x] w fun e w' => e = .returned (.bool (dForm x.data.toList)) ∧ Below w.heap.size w w' := by
  have hl : x.data.toList.length = 10 := by rw [← Lib.size_eq]; exact hz
  cases h4 : x.data.toList.getD 4 0 == 45
  · rw [form_four h4]
    rw [getD_at (by omega)] at h4
    have k4 := ne45 (x[4]'(by omega))
    rw [h4] at k4
    clear hl h4
    go_enter Tryz.func108, Tryz.ntmps108
    go_wp2_with fail
    go_ret
    exact ⟨rfl, Below.refl _ _⟩
  cases h7 : x.data.toList.getD 7 0 == 45
  · rw [form_seven h7]
    rw [getD_at (by omega)] at h4 h7
    have k4 := ne45 (x[4]'(by omega))
    have k7 := ne45 (x[7]'(by omega))
    rw [h4] at k4
    rw [h7] at k7
    clear hl h4 h7
    go_enter Tryz.func108, Tryz.ntmps108
    go_wp2_with fail
    go_ret
    exact ⟨rfl, Below.refl _ _⟩
  have hf := form_yes hl h4 h7
  rw [hf]
  rw [getD_at (by omega)] at h4 h7
  have k4 := ne45 (x[4]'(by omega))
  have k7 := ne45 (x[7]'(by omega))
  rw [h4] at k4
  rw [h7] at k7
  obtain ⟨P, hP⟩ : ∃ P : ByteArray, P = x.extract 0 4 ++ x.extract 5 7 ++ x.extract 8 10 := ⟨_, rfl⟩
  have hPl : P.data.toList = (x.data.toList.take 4 ++ (x.data.toList.drop 5).take 2) ++ x.data.toList.drop 8 := by
    rw [hP, ByteArray.data_append, ByteArray.data_append, Array.toList_append, Array.toList_append, ext_toL, ext_toL, ext_toL, List.drop_zero]
    rw [List.take_of_length_le (l := x.data.toList.drop 8) (by rw [List.length_drop, hl]; decide)]
  have e0 : (x.extract 0 4).size = 4 := ext_size x 0 4 (by omega) (by omega)
  have e1 : (x.extract 5 7).size = 2 := ext_size x 5 7 (by omega) (by omega)
  have e2 : (x.extract 8 10).size = 2 := ext_size x 8 10 (by omega) (by omega)
  have ha1 : ∀ W, (Op.stringOp .add (x.extract 0 4) (x.extract 5 7)).run Tryz.prog W = .ok (.string (x.extract 0 4 ++ x.extract 5 7)) W := fun W => run_string_add_sum W _ _ (by omega)
  have ha2 : ∀ W, (Op.stringOp .add (x.extract 0 4 ++ x.extract 5 7) (x.extract 8 10)).run Tryz.prog W = .ok (.string P) W := fun W => by
    rw [hP]
    exact run_string_add_sum W _ _ (by rw [ByteArray.size_append]; omega)
  have hPz : P.size ≤ 100 := by
    rw [hP, ByteArray.size_append, ByteArray.size_append]
    omega
  have TD := fun W => trimDg_any P W (by omega)
  rw [← hPl]
  have hte := trimDg_nil P.data.toList
  obtain ⟨T, hT⟩ : ∃ T : ByteArray, T = ⟨(Lib.trimS P.data.toList dgs).toArray⟩ := ⟨_, rfl⟩
  rw [← hT] at TD hte
  rw [← hte]
  have TD := Lib.hid TD
  clear hP hPl hf hl h4 h7 hT hte e0 e1 e2
  go_enter Tryz.func108, Tryz.ntmps108
  go_wp2_with fail
  go_region_held3 (fun _ => True)
    (first | trivial)
    (first | (go_at_call 105; refine (TD.out _).mono ?_; rintro e w1 ⟨rfl, hb1⟩; have HB1 := Lib.hid hb1; clear hb1))
  all_goals
    go_wp2_with fail
    go_ret
    exact ⟨rfl, (Below.refl w.heap.size w).drew.trans HB1.out⟩

set_option maxHeartbeats 2000000 in
theorem readDate_any (x : ByteArray) (w : World) (hf : dForm x.data.toList = true) :
    Calls Tryz.prog 80 #[.string x] w fun e w' => e = .returned (.tuple #[.int .i64 (rdDate x.data.toList).1, .int .i64 (rdDate x.data.toList).2]) ∧ Below w.heap.size w w' := by
  obtain ⟨hl, p1, p2, p3⟩ := dForm_parts hf
  have hz : x.size = 10 := by rw [Lib.size_eq]; exact hl
  have e0 : (x.extract 0 4).size = 4 := ext_size x 0 4 (by omega) (by omega)
  have e1 : (x.extract 5 7).size = 2 := ext_size x 5 7 (by omega) (by omega)
  have e2 : (x.extract 8 10).size = 2 := ext_size x 8 10 (by omega) (by omega)
  have l0 : (x.extract 0 4).data.toList = x.data.toList.take 4 := by rw [ext_toL, List.drop_zero]
  have l1 : (x.extract 5 7).data.toList = (x.data.toList.drop 5).take 2 := ext_toL x 5 7
  have l2 : (x.extract 8 10).data.toList = x.data.toList.drop 8 := by
    rw [ext_toL, List.take_of_length_le (by rw [List.length_drop, hl]; decide)]
  have D0 := fun W => digitsAt_any (x.extract 0 4) W (by omega) (by omega) (by rw [l0]; exact p1)
  have D1 := fun W => digitsAt_any (x.extract 5 7) W (by omega) (by omega) (by rw [l1]; exact p2)
  have D2 := fun W => digitsAt_any (x.extract 8 10) W (by omega) (by omega) (by rw [l2]; exact p3)
  have IF := fun W => isForm_any x W hz
  rw [l0] at D0
  rw [l1] at D1
  rw [l2] at D2
  rw [hf] at IF
  unfold rdDate
  obtain ⟨y, hy⟩ : ∃ y, y = dNum (x.data.toList.take 4) := ⟨_, rfl⟩
  obtain ⟨m, hm⟩ : ∃ m, m = dNum ((x.data.toList.drop 5).take 2) := ⟨_, rfl⟩
  obtain ⟨k, hk⟩ : ∃ k, k = dNum (x.data.toList.drop 8) := ⟨_, rfl⟩
  rw [← hy] at D0 ⊢
  rw [← hm] at D1 ⊢
  rw [← hk] at D2 ⊢
  have DO := fun W => dayOf_all y m k W
  obtain ⟨d, hd⟩ : ∃ d, d = doD y m k := ⟨_, rfl⟩
  rw [← hd] at DO ⊢
  have D0 := Lib.hid D0
  have D1 := Lib.hid D1
  have D2 := Lib.hid D2
  have IF := Lib.hid IF
  have DO := Lib.hid DO
  clear hf hl p1 p2 p3 e0 e1 e2 l0 l1 l2 hy hm hk hd
  go_enter Tryz.func80, Tryz.ntmps80
  go_wp2_with fail
  refine (IF.out _).mono ?_
  rintro e w1 ⟨rfl, hb1⟩
  have HB1 := Lib.hid hb1
  clear hb1
  go_wp2_with fail
  refine (D0.out _).mono ?_
  rintro e w2 ⟨rfl, hb2⟩
  have HB2 := Lib.hid (HB1.out.trans (hb2.mono HB1.out.size))
  clear hb2
  go_wp2_with fail
  refine (D1.out _).mono ?_
  rintro e w3 ⟨rfl, hb3⟩
  have HB3 := Lib.hid (HB2.out.trans (hb3.mono HB2.out.size))
  clear hb3
  go_wp2_with fail
  refine (D2.out _).mono ?_
  rintro e w4 ⟨rfl, hb4⟩
  have HB4 := Lib.hid (HB3.out.trans (hb4.mono HB3.out.size))
  clear hb4
  go_wp2_with fail
  refine (DO.out _).mono ?_
  rintro e w5 ⟨rfl, hb5⟩
  have HB5 := Lib.hid (HB4.out.trans (hb5.mono HB4.out.size))
  clear hb5
  go_wp2_with fail
  go_ret2
  exact ⟨rfl, HB5.out⟩
end Go.Proofs.YtbdcimakdiegnaaGreatDoor
