/-
  DERIVED. The walk of florref1.token: references. Conditions: a place in the text.
  By an AI agent.
-/
import Derived.Test.YtemngidkfgcigaaGreatDoorKa30
namespace Go.Proofs.YtemngidkfgcigaaGreatDoor
open Go.RowKit

theorem digVal_snoc (l : List UInt8) (c : UInt8) : digVal (l ++ [c]) = 10 * digVal l + (c.toNat - 48) := by unfold digVal; rw [List.foldl_append]; rfl
theorem ext_snoc {T : ByteArray} {i k : Nat} (hik : i ≤ k) (hk : k < T.size) : (T.extract i (k + 1)).data.toList = (T.extract i k).data.toList ++ [T[k]] := by
  rw [ext_list2, ext_list2, show k + 1 - i = (k - i) + 1 by omega, List.take_add_one, List.getElem?_drop, show i + (k - i) = k by omega, List.getElem?_eq_getElem (show k < T.data.toList.length from hk)]
  rfl
/-- the reference, as the reference's walk has it at its end -/
theorem ref_yes {T : ByteArray} {k : Nat} (h0 : bt T 0 = 40) (h1 : bt T 1 = 40) (he : upto (notB digB) T 2 = k) (h2 : 2 < k) (h3 : k ≤ 9) (h4 : bt T 2 ≠ 48) (h5 : bt T k = 41 ∧ bt T (k + 1) = 41) (h6 : digVal (T.extract 2 k).data.toList ≤ 1000000) :
    tokR T 0 = some ⟨5, 0, k + 2, T.extract 2 k, noB, digVal (T.extract 2 k).data.toList, false⟩ := by
  unfold tokR
  dsimp only
  rw [Nat.zero_add, Nat.zero_add, he, if_pos ⟨h0, h1, by omega, by omega, h4, h5.1, h5.2, h6⟩]
theorem ref_no {T : ByteArray} {k : Nat} (he : upto (notB digB) T 2 = k) (h : ¬ (2 < k ∧ k ≤ 9 ∧ bt T 2 ≠ 48 ∧ digVal (T.extract 2 k).data.toList ≤ 1000000 ∧ bt T k = 41 ∧ bt T (k + 1) = 41)) : tokR T 0 = none := by
  unfold tokR
  dsimp only
  rw [Nat.zero_add, Nat.zero_add, he, if_neg (fun c => h ⟨by omega, by omega, c.2.2.2.2.1, c.2.2.2.2.2.2.2, c.2.2.2.2.2.1, c.2.2.2.2.2.2.1⟩)]
theorem ref_long {T : ByteArray} (h : 10 ≤ upto (notB digB) T 2) : tokR T 0 = none := ref_no rfl (fun c => by omega)
/-- digits from 2 up to k -/
structure Dig (T : ByteArray) (k n : Nat) : Prop where
  dg : ∀ i, 2 ≤ i → i < k → digB (bt T i) = true
  vl : n = digVal (T.extract 2 k).data.toList
  lt : n < 10 ^ (k - 2)
theorem Dig.start (T : ByteArray) : Dig T 2 0 := ⟨fun i h1 h2 => by omega, by rw [ext_list2]; simp [digVal], by decide⟩
theorem Dig.step {T : ByteArray} {k n : Nat} (h : Dig T k n) (h2 : 2 ≤ k) (hk : k < T.size) (hd : digB (T[k].toNat : Int) = true) : Dig T (k + 1) (10 * n + (T[k].toNat - 48)) := by
  have hd2 : 48 ≤ T[k].toNat ∧ T[k].toNat ≤ 57 := by unfold digB at hd; simp at hd; omega
  refine ⟨fun i h1 h3 => ?_, ?_, ?_⟩
  · rcases Nat.lt_or_ge i k with g | g
    · exact h.dg i h1 g
    · rw [show i = k by omega, bt_at hk]; exact hd
  · rw [ext_snoc h2 hk, digVal_snoc, ← h.vl]
  · have := h.lt
    rw [show k + 1 - 2 = (k - 2) + 1 by omega, Nat.pow_succ]; omega
theorem Dig.le {T : ByteArray} {k n : Nat} (h : Dig T k n) (hk : k ≤ 10) : n ≤ 99999999 := by
  have h1 := h.lt
  have h2 : 10 ^ (k - 2) ≤ 10 ^ 8 := Nat.pow_le_pow_right (by decide) (by omega)
  omega
theorem Dig.upto {T : ByteArray} {k n : Nat} (h : Dig T k n) (h2 : 2 ≤ k) (hk : k ≤ T.size) (he : k = T.size ∨ digB (bt T k) = false) : Go.Proofs.YtemngidkfgcigaaGreatDoor.upto (notB digB) T 2 = k :=
  upto_eq h2 hk (fun j hj hj' => by unfold notB; rw [h.dg j hj hj']; rfl) (by
    rcases he with e | e
    · exact .inl e
    · exact .inr (by unfold notB; rw [e]; rfl))
theorem Dig.long {T : ByteArray} {n : Nat} (h : Dig T 10 n) (hk : 10 ≤ T.size) : 10 ≤ Go.Proofs.YtemngidkfgcigaaGreatDoor.upto (notB digB) T 2 := by
  rcases Nat.lt_or_ge (Go.Proofs.YtemngidkfgcigaaGreatDoor.upto (notB digB) T 2) 10 with g | g
  · have h1 : (!digB (bt T (Go.Proofs.YtemngidkfgcigaaGreatDoor.upto (notB digB) T 2))) = true := upto_at (stop := notB digB) (s := T) (i := 2) (by omega)
    rw [h.dg _ (upto_ge _ _ _) g] at h1
    cases h1
  · exact g

set_option maxHeartbeats 2000000 in
set_option maxRecDepth 100000 in
theorem rtok_ref (s T : ByteArray) (a : Nat) (w : World) (hs : s.size ≤ 4294967280) (L : Tl s a T) (h0 : bt T 0 = 40) (h1 : bt T 1 = 40) :
    Calls Tryz.prog 58 #[.string s, .int .i64 a] w fun e w' => e = .returned (rtV s a) ∧ Below w.heap.size w w' := by
  have ha := L.ha
  have hz := L.z
  have hsz := L.size
  have ia : (a : Int) < (s.size : Int) := by omega
  have ia0 : (0 : Int) ≤ (a : Int) := by omega
  have b0 := bt_at hz
  have HT := Lib.hid L.hT
  have HP1 : Hid (Lib.hasPrefix T.data.toList [91, 91] = false) := pre_two (x := 91) rfl (by rw [decide_eq_false_iff_not]; intro c; omega)
  have HP2 : Hid (Lib.hasPrefix T.data.toList [40, 40] = true) := pre_two (x := 40) rfl (by rw [decide_eq_true_iff]; exact ⟨h0, h1⟩)
  have hT2 := bt_in (s := T) (i := 1) (by omega)
  have zi3 : (T.size : Int) ≤ 4294967280 := by omega
  have HPL : Hid (tokR T 0 = none → rtV s a = .agg #[.int .i64 1, .int .i64 a, .int .i64 (a + 1), .string (s.extract a (a + 1)), .string ⟨#[]⟩, .int .i64 0, .bool false]) := fun hn => by
    have e0 := L.bt 0
    rw [Nat.add_zero] at e0
    exact rtV_plain (tokA_no (k := 3) (by omega) (by rw [← e0]; exact h0) (by show tokR s a = none; rw [tokR_same L.same, hn]; rfl))
  have HYS : Hid (∀ k n, tokR T 0 = some ⟨5, 0, k + 2, T.extract 2 k, noB, ((n : Nat) : Int), false⟩ → rtV s a = .agg #[.int .i64 5, .int .i64 a, .int .i64 (a + (k : Nat) + 2), .string (T.extract 2 k), .string ⟨#[]⟩, .int .i64 n, .bool false]) := fun k n hn => by
    have ht : tokR s a = some ⟨5, a, a + k + 2, T.extract 2 k, noB, ((n : Nat) : Int), false⟩ := by
      rw [tokR_same L.same, hn]
      simp [mv, shF]
      omega
    rw [rtV_of (k := 3) (by omega) ht (by show (5 : Int) ≠ 1; decide)]
    rfl
  have H01 := Lib.hid (And.intro h0 h1)
  rw [b0] at h0
  have g0 : ((T[0].toNat : Int) == 92) = false := notBeq (by omega)
  have g1 : ((T[0].toNat : Int) == 96) = false := notBeq (by omega)
  clear L b0 hsz h0 h1
  go_enter Tryz.func58, Tryz.ntmps58
  go_upto_region 3 with (fail)
  rw [← HT.out]
  go_wp2_with fail
  refine (Tryz.strings_HasPrefix _ _ _).mono ?_
  rintro e _ ⟨rfl, rfl⟩
  rw [show (⟨#[91, 91]⟩ : ByteArray).data.toList = [91, 91] from rfl, HP1.out]
  go_wp2_with fail
  refine (Tryz.strings_HasPrefix _ _ _).mono ?_
  rintro e _ ⟨rfl, rfl⟩
  rw [show (⟨#[40, 40]⟩ : ByteArray).data.toList = [40, 40] from rfl, HP2.out]
  go_wp2_with fail
  go_loop [12, 13] (fun i v => ∃ k n : Nat, 2 ≤ k ∧ k ≤ 10 ∧ k ≤ T.size ∧ i = .int .i64 k ∧ v = .int .i64 n ∧ Hid (Dig T k n)) (fun i _ => 10 - (intOf i).toNat)
  case atStart => exact ⟨2, 0, by omega, by omega, by omega, rfl, rfl, Dig.start T⟩
  case round =>
    obtain ⟨k, n, hk2, hk10, hkT, rfl, rfl, HD⟩ := hrel
    have hn := HD.out.le hk10
    have i0 : (0 : Int) ≤ (k : Int) := by omega
    have i2 : (2 : Int) ≤ (k : Int) := by omega
    have i10 : (k : Int) ≤ 10 := by omega
    have n0 : (0 : Int) ≤ (n : Int) := by omega
    have n1 : (n : Int) ≤ 99999999 := by omega
    have iT : (k : Int) ≤ (T.size : Int) := by omega
    by_cases hlt : k < T.size
    · have i1 : (k : Int) < (T.size : Int) := by omega
      have c0 : (0 : Int) ≤ (T[k].toNat : Int) := by omega
      have c1 : (T[k].toNat : Int) ≤ 255 := by have := (T[k]).toNat_lt; omega
      have gk : decide (k < T.size) = true := by simp; omega
      cases hd : digB (T[k].toNat : Int)
      · have HE : Hid (upto (notB digB) T 2 = k) := HD.out.upto hk2 hkT (.inr (by rw [bt_at hlt]; exact hd))
        by_cases w1 : 2 < k
        · have x1 : (2 : Int) < (k : Int) := by omega
          have zT2 : 2 < T.size := by omega
          have zT2i : (2 : Int) < (T.size : Int) := by omega
          have b2 := bt_at zT2
          by_cases w2 : k ≤ 9
          · have x2 : (k : Int) ≤ 9 := by omega
            cases w3 : ((T[2].toNat : Int) != 48)
            · have HV : Hid (rtV s a = .agg #[.int .i64 1, .int .i64 a, .int .i64 (a + 1), .string (s.extract a (a + 1)), .string ⟨#[]⟩, .int .i64 0, .bool false]) := HPL.out (ref_no HE.out (fun c => by have := c.2.2.1; rw [b2] at this; simp at w3; omega))
              clear b2
              go_wp2_with fail
              refine (rDigit_any _ _ c0 c1).mono ?_
              rintro e w1 ⟨rfl, hw⟩
              rw [hd, ← hw]
              clear hw
              go_wp2_with fail
              exact bodyPost_ret (v := .agg #[.int .i64 1, .int .i64 a, .int .i64 (a + 1), .string (s.extract a (a + 1)), .string ⟨#[]⟩, .int .i64 0, .bool false]) (by simp [results, Tryz.results58, go_sem]) rfl ⟨by rw [HV.out], ((Below.refl _ _).alloc (Nat.le_refl _) _).alloc (by simp) _⟩
            · by_cases w4 : n ≤ 1000000
              · have x4 : (n : Int) ≤ 1000000 := by omega
                cases w5 : decide (bt T k = 41 ∧ bt T (k + 1) = 41)
                · have HV : Hid (rtV s a = .agg #[.int .i64 1, .int .i64 a, .int .i64 (a + 1), .string (s.extract a (a + 1)), .string ⟨#[]⟩, .int .i64 0, .bool false]) := HPL.out (ref_no HE.out (fun c => of_decide_eq_false w5 c.2.2.2.2))
                  have HP5 : Hid (Lib.hasPrefix (T.extract k T.size).data.toList [41, 41] = false) := prefix_two T k 41 (x := 41) rfl w5
                  clear b2 w5
                  go_wp2_with fail
                  refine (rDigit_any _ _ c0 c1).mono ?_
                  rintro e w1 ⟨rfl, hw⟩
                  rw [hd, ← hw]
                  clear hw
                  go_wp2_with fail
                  refine (Tryz.strings_HasPrefix _ _ _).mono ?_
                  rintro e _ ⟨rfl, rfl⟩
                  rw [show (⟨#[41, 41]⟩ : ByteArray).data.toList = [41, 41] from rfl, HP5.out]
                  go_wp2_with fail
                  exact bodyPost_ret (v := .agg #[.int .i64 1, .int .i64 a, .int .i64 (a + 1), .string (s.extract a (a + 1)), .string ⟨#[]⟩, .int .i64 0, .bool false]) (by simp [results, Tryz.results58, go_sem]) rfl ⟨by rw [HV.out], ((Below.refl _ _).alloc (Nat.le_refl _) _).alloc (by simp) _⟩
                · have HV : Hid (rtV s a = .agg #[.int .i64 5, .int .i64 a, .int .i64 (a + (k : Nat) + 2), .string (T.extract 2 k), .string ⟨#[]⟩, .int .i64 n, .bool false]) := HYS.out k n (by rw [HD.out.vl]; exact ref_yes H01.out.1 H01.out.2 HE.out w1 w2 (by rw [b2]; simpa using w3) (of_decide_eq_true w5) (by rw [← HD.out.vl]; exact w4))
                  have HP5 : Hid (Lib.hasPrefix (T.extract k T.size).data.toList [41, 41] = true) := prefix_two T k 41 (x := 41) rfl w5
                  clear b2 w5
                  go_wp2_with fail
                  refine (rDigit_any _ _ c0 c1).mono ?_
                  rintro e w1 ⟨rfl, hw⟩
                  rw [hd, ← hw]
                  clear hw
                  go_wp2_with fail
                  refine (Tryz.strings_HasPrefix _ _ _).mono ?_
                  rintro e _ ⟨rfl, rfl⟩
                  rw [show (⟨#[41, 41]⟩ : ByteArray).data.toList = [41, 41] from rfl, HP5.out]
                  go_wp2_with fail
                  exact bodyPost_ret (v := .agg #[.int .i64 5, .int .i64 a, .int .i64 (a + (k : Nat) + 2), .string (T.extract 2 k), .string ⟨#[]⟩, .int .i64 n, .bool false]) (by simp [results, Tryz.results58, go_sem]) rfl ⟨by rw [HV.out], ((Below.refl _ _).alloc (Nat.le_refl _) _).alloc (by simp) _⟩
              · have x4 : (1000000 : Int) < (n : Int) := by omega
                have HV : Hid (rtV s a = .agg #[.int .i64 1, .int .i64 a, .int .i64 (a + 1), .string (s.extract a (a + 1)), .string ⟨#[]⟩, .int .i64 0, .bool false]) := HPL.out (ref_no HE.out (fun c => by have := c.2.2.2.1; rw [← HD.out.vl] at this; omega))
                clear b2
                go_wp2_with fail
                refine (rDigit_any _ _ c0 c1).mono ?_
                rintro e w1 ⟨rfl, hw⟩
                rw [hd, ← hw]
                clear hw
                go_wp2_with fail
                exact bodyPost_ret (v := .agg #[.int .i64 1, .int .i64 a, .int .i64 (a + 1), .string (s.extract a (a + 1)), .string ⟨#[]⟩, .int .i64 0, .bool false]) (by simp [results, Tryz.results58, go_sem]) rfl ⟨by rw [HV.out], ((Below.refl _ _).alloc (Nat.le_refl _) _).alloc (by simp) _⟩
          · have x2 : (9 : Int) < (k : Int) := by omega
            have HV : Hid (rtV s a = .agg #[.int .i64 1, .int .i64 a, .int .i64 (a + 1), .string (s.extract a (a + 1)), .string ⟨#[]⟩, .int .i64 0, .bool false]) := HPL.out (ref_no HE.out (fun c => by omega))
            clear b2
            go_wp2_with fail
            refine (rDigit_any _ _ c0 c1).mono ?_
            rintro e w1 ⟨rfl, hw⟩
            rw [hd, ← hw]
            clear hw
            go_wp2_with fail
            exact bodyPost_ret (v := .agg #[.int .i64 1, .int .i64 a, .int .i64 (a + 1), .string (s.extract a (a + 1)), .string ⟨#[]⟩, .int .i64 0, .bool false]) (by simp [results, Tryz.results58, go_sem]) rfl ⟨by rw [HV.out], ((Below.refl _ _).alloc (Nat.le_refl _) _).alloc (by simp) _⟩
        · have x1 : (k : Int) ≤ 2 := by omega
          have HV : Hid (rtV s a = .agg #[.int .i64 1, .int .i64 a, .int .i64 (a + 1), .string (s.extract a (a + 1)), .string ⟨#[]⟩, .int .i64 0, .bool false]) := HPL.out (ref_no HE.out (fun c => by omega))
          go_wp2_with fail
          refine (rDigit_any _ _ c0 c1).mono ?_
          rintro e w1 ⟨rfl, hw⟩
          rw [hd, ← hw]
          clear hw
          go_wp2_with fail
          exact bodyPost_ret (v := .agg #[.int .i64 1, .int .i64 a, .int .i64 (a + 1), .string (s.extract a (a + 1)), .string ⟨#[]⟩, .int .i64 0, .bool false]) (by simp [results, Tryz.results58, go_sem]) rfl ⟨by rw [HV.out], ((Below.refl _ _).alloc (Nat.le_refl _) _).alloc (by simp) _⟩
      · have hd2 : 48 ≤ T[k].toNat ∧ T[k].toNat ≤ 57 := by unfold digB at hd; simp at hd; omega
        have q0 : (48 : Int) ≤ (T[k].toNat : Int) := by omega
        have q1 : (T[k].toNat : Int) ≤ 57 := by omega
        by_cases w1 : k < 10
        · have x1 : (k : Int) < 10 := by omega
          have HD2 := Lib.hid (HD.out.step hk2 hlt hd)
          have hnn : (((10 * n + (T[k].toNat - 48) : Nat)) : Int) = 10 * (n : Int) + ((T[k].toNat : Int) - 48) := by omega
          have HN := Lib.hid hnn
          clear hnn hd2
          go_wp2_with fail
          refine (rDigit_any _ _ c0 c1).mono ?_
          rintro e w1 ⟨rfl, hw⟩
          rw [hd, ← hw]
          clear hw
          go_wp2_with fail
          go_round
          case rel => exact ⟨k + 1, 10 * n + (T[k].toNat - 48), by omega, by omega, by omega, by go_num, by rw [HN.out], HD2⟩
          case measure => simp [intOf]; omega
        · obtain rfl : k = 10 := by omega
          have HV : Hid (rtV s a = .agg #[.int .i64 1, .int .i64 a, .int .i64 (a + 1), .string (s.extract a (a + 1)), .string ⟨#[]⟩, .int .i64 0, .bool false]) := HPL.out (ref_long (HD.out.long hkT))
          clear hd2
          go_wp2_with fail
          refine (rDigit_any _ _ c0 c1).mono ?_
          rintro e w1 ⟨rfl, hw⟩
          rw [hd, ← hw]
          clear hw
          go_wp2_with fail
          exact bodyPost_ret (v := .agg #[.int .i64 1, .int .i64 a, .int .i64 (a + 1), .string (s.extract a (a + 1)), .string ⟨#[]⟩, .int .i64 0, .bool false]) (by simp [results, Tryz.results58, go_sem]) rfl ⟨by rw [HV.out], ((Below.refl _ _).alloc (Nat.le_refl _) _).alloc (by simp) _⟩
    · obtain rfl : k = T.size := by omega
      have HE : Hid (upto (notB digB) T 2 = T.size) := HD.out.upto hk2 hkT (.inl rfl)
      by_cases w1 : 2 < T.size
      · have x1 : (2 : Int) < (T.size : Int) := by omega
        have zT2 : 2 < T.size := by omega
        have zT2i : (2 : Int) < (T.size : Int) := by omega
        have b2 := bt_at zT2
        by_cases w2 : T.size ≤ 9
        · have x2 : (T.size : Int) ≤ 9 := by omega
          cases w3 : ((T[2].toNat : Int) != 48)
          · have HV : Hid (rtV s a = .agg #[.int .i64 1, .int .i64 a, .int .i64 (a + 1), .string (s.extract a (a + 1)), .string ⟨#[]⟩, .int .i64 0, .bool false]) := HPL.out (ref_no HE.out (fun c => by have := c.2.2.1; rw [b2] at this; simp at w3; omega))
            clear b2
            go_wp2_with fail
            exact bodyPost_ret (v := .agg #[.int .i64 1, .int .i64 a, .int .i64 (a + 1), .string (s.extract a (a + 1)), .string ⟨#[]⟩, .int .i64 0, .bool false]) (by simp [results, Tryz.results58, go_sem]) rfl ⟨by rw [HV.out], ((Below.refl _ _).alloc (Nat.le_refl _) _).alloc (by simp) _⟩
          · by_cases w4 : n ≤ 1000000
            · have x4 : (n : Int) ≤ 1000000 := by omega
              have w5 : decide (bt T T.size = 41 ∧ bt T (T.size + 1) = 41) = false := by rw [decide_eq_false_iff_not]; intro c; have := bt_out (s := T) (i := T.size) (by omega); omega
              have HV : Hid (rtV s a = .agg #[.int .i64 1, .int .i64 a, .int .i64 (a + 1), .string (s.extract a (a + 1)), .string ⟨#[]⟩, .int .i64 0, .bool false]) := HPL.out (ref_no HE.out (fun c => of_decide_eq_false w5 c.2.2.2.2))
              have HP5 : Hid (Lib.hasPrefix ByteArray.empty.data.toList [41, 41] = false) := rfl
              clear b2 w5
              go_wp2_with fail
              refine (Tryz.strings_HasPrefix _ _ _).mono ?_
              rintro e _ ⟨rfl, rfl⟩
              rw [show (⟨#[41, 41]⟩ : ByteArray).data.toList = [41, 41] from rfl, HP5.out]
              go_wp2_with fail
              exact bodyPost_ret (v := .agg #[.int .i64 1, .int .i64 a, .int .i64 (a + 1), .string (s.extract a (a + 1)), .string ⟨#[]⟩, .int .i64 0, .bool false]) (by simp [results, Tryz.results58, go_sem]) rfl ⟨by rw [HV.out], ((Below.refl _ _).alloc (Nat.le_refl _) _).alloc (by simp) _⟩
            · have x4 : (1000000 : Int) < (n : Int) := by omega
              have HV : Hid (rtV s a = .agg #[.int .i64 1, .int .i64 a, .int .i64 (a + 1), .string (s.extract a (a + 1)), .string ⟨#[]⟩, .int .i64 0, .bool false]) := HPL.out (ref_no HE.out (fun c => by have := c.2.2.2.1; rw [← HD.out.vl] at this; omega))
              clear b2
              go_wp2_with fail
              exact bodyPost_ret (v := .agg #[.int .i64 1, .int .i64 a, .int .i64 (a + 1), .string (s.extract a (a + 1)), .string ⟨#[]⟩, .int .i64 0, .bool false]) (by simp [results, Tryz.results58, go_sem]) rfl ⟨by rw [HV.out], ((Below.refl _ _).alloc (Nat.le_refl _) _).alloc (by simp) _⟩
        · have x2 : (9 : Int) < (T.size : Int) := by omega
          have HV : Hid (rtV s a = .agg #[.int .i64 1, .int .i64 a, .int .i64 (a + 1), .string (s.extract a (a + 1)), .string ⟨#[]⟩, .int .i64 0, .bool false]) := HPL.out (ref_no HE.out (fun c => by omega))
          clear b2
          go_wp2_with fail
          exact bodyPost_ret (v := .agg #[.int .i64 1, .int .i64 a, .int .i64 (a + 1), .string (s.extract a (a + 1)), .string ⟨#[]⟩, .int .i64 0, .bool false]) (by simp [results, Tryz.results58, go_sem]) rfl ⟨by rw [HV.out], ((Below.refl _ _).alloc (Nat.le_refl _) _).alloc (by simp) _⟩
      · have x1 : (T.size : Int) ≤ 2 := by omega
        have HV : Hid (rtV s a = .agg #[.int .i64 1, .int .i64 a, .int .i64 (a + 1), .string (s.extract a (a + 1)), .string ⟨#[]⟩, .int .i64 0, .bool false]) := HPL.out (ref_no HE.out (fun c => by omega))
        go_wp2_with fail
        exact bodyPost_ret (v := .agg #[.int .i64 1, .int .i64 a, .int .i64 (a + 1), .string (s.extract a (a + 1)), .string ⟨#[]⟩, .int .i64 0, .bool false]) (by simp [results, Tryz.results58, go_sem]) rfl ⟨by rw [HV.out], ((Below.refl _ _).alloc (Nat.le_refl _) _).alloc (by simp) _⟩
end Go.Proofs.YtemngidkfgcigaaGreatDoor
