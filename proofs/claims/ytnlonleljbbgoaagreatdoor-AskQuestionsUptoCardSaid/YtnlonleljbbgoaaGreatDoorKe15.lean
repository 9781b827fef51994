/-
  DERIVED. Plain law: digits, and what Atoi makes of them. Conditions: none.
  The walk of text.refAt. Conditions: a place in the text.
  By an AI agent.
-/
import Derived.Test.YtnlonleljbbgoaaGreatDoorKe08
import Derived.Lib.Atoi
import Derived.Test.YtnlonleljbbgoaaGreatDoorKe13
import Derived.Lib.SmallJoins
import Derived.Deep.DeepCutAuto
namespace Go.Proofs.YtnlonleljbbgoaaGreatDoor
open Go.RowKit

def digU (b : UInt8) : Bool := digB (b.toNat : Int)
theorem digitVal_of {b : UInt8} (h : digU b = true) : Lib.digitVal b = some (b.toNat - 48) := by
  unfold digU digB at h
  simp at h
  unfold Lib.digitVal
  rw [if_pos (by omega)]
theorem decFrom_all : ∀ (l : List UInt8) (n : Nat), l.all digU = true → Lib.decFrom n l = some (l.foldl (fun n c => 10 * n + (c.toNat - 48)) n)
  | [], n, _ => rfl
  | b :: l, n, h => by
    simp only [List.all_cons, Bool.and_eq_true] at h
    simp only [Lib.decFrom, digitVal_of h.1, List.foldl_cons]
    rw [decFrom_all l _ h.2]
    rw [Nat.mul_comm n 10]
theorem atoi_digits {l : List UInt8} (h : l.all digU = true) (hne : l ≠ []) : Lib.atoi l = some (digVal l : Int) := by
  cases l with
  | nil => exact absurd rfl hne
  | cons b l =>
    have hb : digU b = true := by simp only [List.all_cons, Bool.and_eq_true] at h; exact h.1
    have h45 : (b == 45) = false := by
      simp; intro e; subst e; simp [digU, digB] at hb
    have h43 : (b == 43) = false := by
      simp; intro e; subst e; simp [digU, digB] at hb
    have := decFrom_all (b :: l) 0 h
    simp only [Lib.atoi, Lib.decNat, h45, h43, Bool.false_eq_true, if_false, List.isEmpty_cons, this, digVal, Option.map_some]

/-- the bytes of a cut -/
theorem ext_get (s : ByteArray) (a e j : Nat) (_he : e ≤ s.size) (h : j < e - a) : (s.extract a e).data.toList[j]? = s.data.toList[a + j]? := by
  rw [ByteArray.data_extract, Array.toList_extract]
  simp only [List.extract]
  rw [List.getElem?_take_of_lt (by omega), List.getElem?_drop]
theorem bt_ext (s : ByteArray) (a e j : Nat) (he : e ≤ s.size) (h : j < e - a) : bt (s.extract a e) j = bt s (a + j) := by
  have h1 : j < (s.extract a e).size := by rw [ByteArray.size_extract]; omega
  have h2 : a + j < s.size := by omega
  rw [bt_at h1, bt_at h2]
  have := ext_get s a e j he h
  rw [List.getElem?_eq_getElem (by rw [Array.length_toList]; exact h1), List.getElem?_eq_getElem (by rw [Array.length_toList]; exact h2)] at this
  have e1 : (s.extract a e)[j] = s[a + j] := Option.some.inj this
  rw [e1]
theorem all_ext {s : ByteArray} {a e : Nat} (he : e ≤ s.size) (p : Int → Bool) (h : ∀ j, a ≤ j → j < e → p (bt s j) = true) : (s.extract a e).data.toList.all (fun b => p (b.toNat : Int)) = true := by
  rw [List.all_eq_true]
  intro b hb
  obtain ⟨j, hj, rfl⟩ := List.mem_iff_getElem.1 hb
  have hj' : j < (s.extract a e).size := by rw [Array.length_toList] at hj; exact hj
  have hj2 : j < e - a := by rw [ByteArray.size_extract] at hj'; omega
  have := bt_ext s a e j he hj2
  rw [bt_at hj'] at this
  have h2 := h (a + j) (by omega) (by omega)
  rw [← this] at h2
  exact h2
end Go.Proofs.YtnlonleljbbgoaaGreatDoor
namespace Go.Proofs.YtnlonleljbbgoaaGreatDoor
open Go.RowKit

structure RefEnd (s : ByteArray) (a e : Nat) : Prop where
  ae : a + 2 ≤ e
  es : e ≤ s.size
  up : upto (notB digB) s (a + 2) = e
  b0 : bt s a = 40
  b1 : bt s (a + 1) = 40

/-- what the digits must be besides -/
def refOk (s : ByteArray) (a e : Nat) : Prop := a + 2 < e ∧ e ≤ a + 9 ∧ bt s (a + 2) ≠ 48 ∧ bt s e = 41 ∧ bt s (e + 1) = 41 ∧ digVal (s.extract (a + 2) e).data.toList ≤ 1000000
theorem tokR_head {s : ByteArray} {a : Nat} (h : ¬ (bt s a = 40 ∧ bt s (a + 1) = 40)) : tokR s a = none := by
  unfold tokR; rw [if_neg (fun g => h ⟨g.1, g.2.1⟩)]
theorem tokR_no {s : ByteArray} {a e : Nat} (L : RefEnd s a e) (h : ¬ refOk s a e) : tokR s a = none := by
  unfold tokR; rw [L.up, if_neg (fun g => h g.2.2)]
theorem tokR_yes {s : ByteArray} {a e : Nat} (L : RefEnd s a e) (h : refOk s a e) : tokR s a = some ⟨5, a, e + 2, s.extract (a + 2) e, noB, digVal (s.extract (a + 2) e).data.toList, false⟩ := by
  unfold tokR; rw [L.up, if_pos ⟨L.b0, L.b1, h⟩]
theorem RefEnd.atoi {s : ByteArray} {a e : Nat} (L : RefEnd s a e) (h : a + 2 < e) : Lib.atoi (s.extract (a + 2) e).data.toList = some (digVal (s.extract (a + 2) e).data.toList : Int) := by
  refine atoi_digits (all_ext L.es digB (fun j h1 h2 => ?_)) ?_
  · have := upto_mid (stop := notB digB) (s := s) (i := a + 2) h1 (by rw [L.up]; exact h2)
    simpa [notB] using this
  · intro e0
    have h1 : (s.extract (a + 2) e).data.toList.length = 0 := by rw [e0]; rfl
    rw [Array.length_toList] at h1
    have h2 : (s.extract (a + 2) e).size = 0 := h1
    rw [ByteArray.size_extract] at h2
    have := L.es
    omega

set_option maxHeartbeats 4000000 in
set_option maxRecDepth 100000 in
theorem refAt_any (s : ByteArray) (a : Nat) (w : World) (hs : s.size ≤ 4294967280) (ha : a < s.size) :
    Calls Tryz.prog 297 #[.string s, .int .i64 a] w fun e w' => e = .returned (tokV (tokR s a)) ∧ Below w.heap.size w w' := by
  have hi0 : (0 : Int) ≤ (a : Int) := by omega
  have hi1 : (a : Int) ≤ (s.size : Int) := by omega
  cases hP : decide (bt s a = 40 ∧ bt s (a + 1) = 40)
  · have HP := Lib.hid (prefix_two s a 40 rfl hP)
    have HV : Hid (Ending.returned (.tuple #[spZ, .bool false]) = .returned (tokV (tokR s a))) := by show _ = _; rw [tokR_head (by simpa using hP)]; rfl
    clear hP
    go_enter Tryz.func297, Tryz.ntmps297
    go_wp2_with fail
    refine (Tryz.strings_HasPrefix _ _ _).mono ?_
    rintro e w1 ⟨rfl, rfl⟩
    rw [show (⟨#[40, 40]⟩ : ByteArray).data.toList = [40, 40] from rfl, HP.out]
    go_wp2
    refine bodyPost_ret (v := .tuple #[spZ, .bool false]) (by simp [results, Tryz.results297, go_sem, spZ]) rfl ⟨HV.out, (Below.refl _ _).alloc (Nat.le_refl _) _⟩
  · have HP := Lib.hid (prefix_two s a 40 rfl hP)
    have hb : bt s a = 40 ∧ bt s (a + 1) = 40 := by simpa using hP
    have ha2 : a + 2 ≤ s.size := by have := bt_in (s := s) (i := a + 1) (by omega); omega
    have HB := Lib.hid hb
    clear hP hb
    go_enter Tryz.func297, Tryz.ntmps297
    go_wp2_with fail
    refine (Tryz.strings_HasPrefix _ _ _).mono ?_
    rintro e w1 ⟨rfl, rfl⟩
    rw [show (⟨#[40, 40]⟩ : ByteArray).data.toList = [40, 40] from rfl, HP.out]
    go_wp2
    go_loop [6] (fun i => ∃ k : Nat, a + 2 ≤ k ∧ k ≤ s.size ∧ i = .int .i64 k ∧ Hid (upto (notB digB) s k = upto (notB digB) s (a + 2))) (fun i => s.size - (intOf i).toNat)
    case atStart => exact ⟨a + 2, Nat.le_refl _, ha2, rfl, rfl⟩
    case round =>
      obtain ⟨k, hk0, hk, rfl, hu⟩ := hrel
      have ik0 : (0 : Int) ≤ (k : Int) := by omega
      have ways : (∃ h : k < s.size, digB (s[k].toNat : Int) = true) ∨ (∃ h : k < s.size, digB (s[k].toNat : Int) = false) ∨ s.size ≤ k := by
        by_cases h : k < s.size
        · cases hq : digB (s[k].toNat : Int)
          · exact .inr (.inl ⟨h, hq⟩)
          · exact .inl ⟨h, hq⟩
        · exact .inr (.inr (by omega))
      rcases ways with ⟨hlt, hq⟩ | ways
      · have hc0 : (0 : Int) ≤ (s[k].toNat : Int) := by omega
        have hc1 : (s[k].toNat : Int) ≤ 255 := by have := (s[k]).toNat_lt; omega
        have ik1 : (k : Int) < (s.size : Int) := by omega
        have HU : Hid (upto (notB digB) s (k + 1) = upto (notB digB) s (a + 2)) := (upto_go hlt (by rw [bt_at hlt]; unfold notB; rw [hq]; rfl)).symm.trans hu.out
        go_wp2_with fail
        refine (isDigit_any _ _ hc0 hc1).mono ?_
        rintro e w1 ⟨rfl, hw⟩
        rw [hq, ← hw]
        clear hw
        go_wp2
        go_round
        case rel => exact ⟨k + 1, by omega, by omega, by go_num, HU⟩
        case measure => simp [intOf]; omega
      · have L : Hid (RefEnd s a k) := by
          refine ⟨hk0, hk, ?_, HB.out.1, HB.out.2⟩
          rw [← hu.out]
          rcases ways with ⟨h, hq⟩ | h
          · exact upto_stop (by rw [bt_at h]; unfold notB; rw [hq]; rfl)
          · exact upto_out h
        have lt0 : (a : Int) + 2 ≤ (k : Int) := by omega
        have lt1 : (k : Int) ≤ (s.size : Int) := by omega
        clear HB HP hu
        rcases ways with ⟨hlt, hq⟩ | hge
        · have hc0 : (0 : Int) ≤ (s[k].toNat : Int) := by omega
          have hc1 : (s[k].toNat : Int) ≤ 255 := by have := (s[k]).toNat_lt; omega
          have ik1 : (k : Int) < (s.size : Int) := by omega
          go_wp2_with fail
          refine (isDigit_any _ _ hc0 hc1).mono ?_
          rintro e w1 ⟨rfl, hw⟩
          rw [hq, ← hw]
          clear hw
          go_upto_region 7 with (fail)
          obtain ⟨T, hT⟩ : ∃ T, T = s.extract (a + 2) k := ⟨_, rfl⟩
          rw [← hT]
          have hsz : T.size = k - (a + 2) := by rw [hT, ByteArray.size_extract]; omega
          have HT := Lib.hid hT
          have HSZ := Lib.hid hsz
          by_cases e1 : k = a + 2
          · have HV : Hid (Ending.returned (.tuple #[spZ, .bool false]) = .returned (tokV (tokR s a))) := by show _ = _; rw [tokR_no L.out (fun g => by have := g.1; omega)]; rfl
            obtain rfl : T = ⟨#[]⟩ := empty_of (by omega)
            clear hT hsz HT HSZ
            go_wp2_with fail
            refine bodyPost_ret (v := .tuple #[spZ, .bool false]) (by simp [results, Tryz.results297, go_sem, spZ]) rfl ⟨HV.out, (Below.refl _ _).alloc (Nat.le_refl _) _⟩
          have e1' : a + 2 < k := by omega
          have hp : 0 < T.size := by omega
          have hne : T.toList.isEmpty = false := notEmpty_of hp
          have HA : Hid (Lib.atoi T.data.toList = some (digVal T.data.toList : Int)) := by show _ = _; rw [hT]; exact L.out.atoi e1'
          have hb0 : bt s (a + 2) = (T[0].toNat : Int) := by have := bt_ext s (a + 2) k 0 L.out.es (by omega); rw [← bt_at hp, hT, this]
          have hle : T.size ≤ 4294967280 := by omega
          by_cases e2 : k ≤ a + 9
          case neg =>
            have HV : Hid (Ending.returned (.tuple #[spZ, .bool false]) = .returned (tokV (tokR s a))) := by show _ = _; rw [tokR_no L.out (fun g => e2 g.2.1)]; rfl
            have e2' : (7 : Int) < (T.size : Int) := by omega
            clear e1 e2 hT hsz hb0
            go_wp2_with fail
            refine bodyPost_ret (v := .tuple #[spZ, .bool false]) (by simp [results, Tryz.results297, go_sem, spZ]) rfl ⟨HV.out, (Below.refl _ _).alloc (Nat.le_refl _) _⟩
          have e2' : (T.size : Int) ≤ 7 := by omega
          clear e1 hT hsz
          cases e3 : ((T[0].toNat : Int) == 48)
          case true =>
            have HV : Hid (Ending.returned (.tuple #[spZ, .bool false]) = .returned (tokV (tokR s a))) := by show _ = _; rw [tokR_no L.out (fun g => g.2.2.1 (by rw [hb0]; simpa using e3))]; rfl
            clear hb0 e2
            go_wp2_with fail
            refine bodyPost_ret (v := .tuple #[spZ, .bool false]) (by simp [results, Tryz.results297, go_sem, spZ]) rfl ⟨HV.out, (Below.refl _ _).alloc (Nat.le_refl _) _⟩
          have N3 : Hid (bt s (a + 2) ≠ 48) := by show _ ≠ _; rw [hb0]; simpa using e3
          clear hb0
          cases h4 : decide (bt s k = 41 ∧ bt s (k + 1) = 41)
          case false =>
            have H4 := Lib.hid (prefix_two s k 41 rfl h4)
            have HV : Hid (Ending.returned (.tuple #[spZ, .bool false]) = .returned (tokV (tokR s a))) := by show _ = _; rw [tokR_no L.out (fun g => by simp only [decide_eq_false_iff_not] at h4; exact h4 ⟨g.2.2.2.1, g.2.2.2.2.1⟩)]; rfl
            clear h4
            go_wp2_with fail
            refine (Tryz.strings_HasPrefix _ _ _).mono ?_
            rintro e w1 ⟨rfl, rfl⟩
            rw [show (⟨#[41, 41]⟩ : ByteArray).data.toList = [41, 41] from rfl, H4.out]
            go_wp2_with fail
            refine bodyPost_ret (v := .tuple #[spZ, .bool false]) (by simp [results, Tryz.results297, go_sem, spZ]) rfl ⟨HV.out, (Below.refl _ _).alloc (Nat.le_refl _) _⟩
          have H4 := Lib.hid (prefix_two s k 41 rfl h4)
          have N4 : Hid (bt s k = 41 ∧ bt s (k + 1) = 41) := by show _ ∧ _; simpa using h4
          clear h4
          have hks : k + 2 ≤ s.size := by have := bt_in (s := s) (i := k + 1) (by have := N4.out.2; omega); omega
          obtain ⟨v, hv⟩ : ∃ v, v = digVal T.data.toList := ⟨_, rfl⟩
          rw [← hv] at HA
          have HVV := Lib.hid hv
          clear hv
          have h18 : T.size ≤ 18 := by omega
          by_cases e5 : v ≤ 1000000
          · have HV : Hid (Ending.returned (.tuple #[.agg #[.int .i64 5, .int .i64 a, .int .i64 (k + 2), .string T, .string ⟨#[]⟩, .int .i64 v, .bool false], .bool true]) = .returned (tokV (tokR s a))) := by show _ = _; rw [tokR_yes L.out ⟨e1', e2, N3.out, N4.out.1, N4.out.2, by rw [← HT.out, ← HVV.out]; exact e5⟩, ← HT.out, ← HVV.out]; rfl
            go_wp2_with fail
            refine (Tryz.strings_HasPrefix _ _ _).mono ?_
            rintro e w1 ⟨rfl, rfl⟩
            rw [show (⟨#[41, 41]⟩ : ByteArray).data.toList = [41, 41] from rfl, H4.out]
            go_wp2_with fail
            refine (Tryz.strconv_Atoi _ _ h18 HA.out _).mono ?_
            rintro e w1 ⟨rfl, t, hw⟩
            have hbw : Below (w.heap.size + 1) (w.alloc (.cells #[.int .i64 0, .int .i64 0, .int .i64 0, .string ⟨#[]⟩, .string ⟨#[]⟩, .int .i64 0, .bool false] 132)) w1 := by rw [hw]; exact Joins.below_bytesWorld _ _ _ _ (by simp)
            have hbel : Below w.heap.size w w1 := ((Below.refl _ _).alloc (Nat.le_refl _) _).trans (hbw.mono (by omega))
            have K : Blk w1 w.heap.size 132 #[.int .i64 0, .int .i64 0, .int .i64 0, .string ⟨#[]⟩, .string ⟨#[]⟩, .int .i64 0, .bool false] := (Blk.new _ _ _).below hbw (by omega)
            have q0 := K.cell 0
            have f0 := K.frozen 0
            have q1 := K.cell 1
            have f1 := K.frozen 1
            have q2 := K.cell 2
            have f2 := K.frozen 2
            have q3 := K.cell 3
            have f3 := K.frozen 3
            have q4 := K.cell 4
            have f4 := K.frozen 4
            have q5 := K.cell 5
            have f5 := K.frozen 5
            have q6 := K.cell 6
            have f6 := K.frozen 6
            clear K hbw hw
            go_wp2_with fail
            refine bodyPost_ret (v := (.tuple #[.agg #[.int .i64 5, .int .i64 a, .int .i64 (k + 2), .string T, .string ⟨#[]⟩, .int .i64 v, .bool false], .bool true])) (by simp [results, Tryz.results297, go_sem, q0, q1, q2, q3, q4, q5, q6]) rfl ⟨HV.out, ((((((hbel.setCell (Nat.le_refl _) _).setCell (Nat.le_refl _) _).setCell (Nat.le_refl _) _).setCell (Nat.le_refl _) _).setCell (Nat.le_refl _) _).setCell (Nat.le_refl _) _).setCell (Nat.le_refl _) _⟩
          · have HV : Hid (Ending.returned (.tuple #[spZ, .bool false]) = .returned (tokV (tokR s a))) := by show _ = _; rw [tokR_no L.out (fun g => e5 (by rw [HVV.out, HT.out]; exact g.2.2.2.2.2))]; rfl
            have e5' : (1000000 : Int) < (v : Int) := by omega
            clear e5
            go_wp2_with fail
            refine (Tryz.strings_HasPrefix _ _ _).mono ?_
            rintro e w1 ⟨rfl, rfl⟩
            rw [show (⟨#[41, 41]⟩ : ByteArray).data.toList = [41, 41] from rfl, H4.out]
            go_wp2_with fail
            refine (Tryz.strconv_Atoi _ _ h18 HA.out _).mono ?_
            rintro e w1 ⟨rfl, t, hw⟩
            have hbw : Below (w.heap.size + 1) (w.alloc (.cells #[.int .i64 0, .int .i64 0, .int .i64 0, .string ⟨#[]⟩, .string ⟨#[]⟩, .int .i64 0, .bool false] 132)) w1 := by rw [hw]; exact Joins.below_bytesWorld _ _ _ _ (by simp)
            have hbel : Below w.heap.size w w1 := ((Below.refl _ _).alloc (Nat.le_refl _) _).trans (hbw.mono (by omega))
            have K : Blk w1 w.heap.size 132 #[.int .i64 0, .int .i64 0, .int .i64 0, .string ⟨#[]⟩, .string ⟨#[]⟩, .int .i64 0, .bool false] := (Blk.new _ _ _).below hbw (by omega)
            have q0 := K.cell 0
            have f0 := K.frozen 0
            have q1 := K.cell 1
            have f1 := K.frozen 1
            have q2 := K.cell 2
            have f2 := K.frozen 2
            have q3 := K.cell 3
            have f3 := K.frozen 3
            have q4 := K.cell 4
            have f4 := K.frozen 4
            have q5 := K.cell 5
            have f5 := K.frozen 5
            have q6 := K.cell 6
            have f6 := K.frozen 6
            clear K hbw hw
            go_wp2_with fail
            refine bodyPost_ret (v := .tuple #[spZ, .bool false]) (by simp [results, Tryz.results297, go_sem, spZ, q0, q1, q2, q3, q4, q5, q6]) rfl ⟨HV.out, ((((((hbel.setCell (Nat.le_refl _) _).setCell (Nat.le_refl _) _).setCell (Nat.le_refl _) _).setCell (Nat.le_refl _) _).setCell (Nat.le_refl _) _).setCell (Nat.le_refl _) _).setCell (Nat.le_refl _) _⟩
        · go_upto_region 7 with (fail)
          obtain ⟨T, hT⟩ : ∃ T, T = s.extract (a + 2) k := ⟨_, rfl⟩
          rw [← hT]
          have hsz : T.size = k - (a + 2) := by rw [hT, ByteArray.size_extract]; omega
          have HT := Lib.hid hT
          have HSZ := Lib.hid hsz
          by_cases e1 : k = a + 2
          · have HV : Hid (Ending.returned (.tuple #[spZ, .bool false]) = .returned (tokV (tokR s a))) := by show _ = _; rw [tokR_no L.out (fun g => by have := g.1; omega)]; rfl
            obtain rfl : T = ⟨#[]⟩ := empty_of (by omega)
            clear hT hsz HT HSZ
            go_wp2_with fail
            refine bodyPost_ret (v := .tuple #[spZ, .bool false]) (by simp [results, Tryz.results297, go_sem, spZ]) rfl ⟨HV.out, (Below.refl _ _).alloc (Nat.le_refl _) _⟩
          have e1' : a + 2 < k := by omega
          have hp : 0 < T.size := by omega
          have hne : T.toList.isEmpty = false := notEmpty_of hp
          have HA : Hid (Lib.atoi T.data.toList = some (digVal T.data.toList : Int)) := by show _ = _; rw [hT]; exact L.out.atoi e1'
          have hb0 : bt s (a + 2) = (T[0].toNat : Int) := by have := bt_ext s (a + 2) k 0 L.out.es (by omega); rw [← bt_at hp, hT, this]
          have hle : T.size ≤ 4294967280 := by omega
          by_cases e2 : k ≤ a + 9
          case neg =>
            have HV : Hid (Ending.returned (.tuple #[spZ, .bool false]) = .returned (tokV (tokR s a))) := by show _ = _; rw [tokR_no L.out (fun g => e2 g.2.1)]; rfl
            have e2' : (7 : Int) < (T.size : Int) := by omega
            clear e1 e2 hT hsz hb0
            go_wp2_with fail
            refine bodyPost_ret (v := .tuple #[spZ, .bool false]) (by simp [results, Tryz.results297, go_sem, spZ]) rfl ⟨HV.out, (Below.refl _ _).alloc (Nat.le_refl _) _⟩
          have e2' : (T.size : Int) ≤ 7 := by omega
          clear e1 hT hsz
          cases e3 : ((T[0].toNat : Int) == 48)
          case true =>
            have HV : Hid (Ending.returned (.tuple #[spZ, .bool false]) = .returned (tokV (tokR s a))) := by show _ = _; rw [tokR_no L.out (fun g => g.2.2.1 (by rw [hb0]; simpa using e3))]; rfl
            clear hb0 e2
            go_wp2_with fail
            refine bodyPost_ret (v := .tuple #[spZ, .bool false]) (by simp [results, Tryz.results297, go_sem, spZ]) rfl ⟨HV.out, (Below.refl _ _).alloc (Nat.le_refl _) _⟩
          have N3 : Hid (bt s (a + 2) ≠ 48) := by show _ ≠ _; rw [hb0]; simpa using e3
          clear hb0
          cases h4 : decide (bt s k = 41 ∧ bt s (k + 1) = 41)
          case false =>
            have H4 := Lib.hid (prefix_two s k 41 rfl h4)
            have HV : Hid (Ending.returned (.tuple #[spZ, .bool false]) = .returned (tokV (tokR s a))) := by show _ = _; rw [tokR_no L.out (fun g => by simp only [decide_eq_false_iff_not] at h4; exact h4 ⟨g.2.2.2.1, g.2.2.2.2.1⟩)]; rfl
            clear h4
            go_wp2_with fail
            refine (Tryz.strings_HasPrefix _ _ _).mono ?_
            rintro e w1 ⟨rfl, rfl⟩
            rw [show (⟨#[41, 41]⟩ : ByteArray).data.toList = [41, 41] from rfl, H4.out]
            go_wp2_with fail
            refine bodyPost_ret (v := .tuple #[spZ, .bool false]) (by simp [results, Tryz.results297, go_sem, spZ]) rfl ⟨HV.out, (Below.refl _ _).alloc (Nat.le_refl _) _⟩
          have H4 := Lib.hid (prefix_two s k 41 rfl h4)
          have N4 : Hid (bt s k = 41 ∧ bt s (k + 1) = 41) := by show _ ∧ _; simpa using h4
          clear h4
          have hks : k + 2 ≤ s.size := by have := bt_in (s := s) (i := k + 1) (by have := N4.out.2; omega); omega
          omega
end Go.Proofs.YtnlonleljbbgoaaGreatDoor
