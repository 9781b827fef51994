/-
  DERIVED. The walk of florref1.token: tags. Conditions: a place in the text.
  By an AI agent.
-/
import Derived.Test.YtemngidkfgcigaaGreatDoorKa30
namespace Go.Proofs.YtemngidkfgcigaaGreatDoor
open Go.RowKit

theorem upto_lt_iff {stop : Int → Bool} {s : ByteArray} {i m : Nat} (hm : m ≤ s.size) : upto stop s i < m ↔ ∃ j, i ≤ j ∧ j < m ∧ stop (bt s j) = true := by
  constructor
  · intro h; exact ⟨_, upto_ge _ _ _, h, upto_at (by omega)⟩
  · rintro ⟨j, h1, h2, h3⟩
    rcases Nat.lt_or_ge j (upto stop s i) with g | g
    · have := upto_mid h1 g; rw [h3] at this; cases this
    · omega
theorem tag_is {s T : ByteArray} {a k : Nat} (L : Tl s a T) (h0 : bt T 0 = 35) (hp : a = 0 ∨ preT (bt s (a - 1)) = true) (he : upto (notB tagB) T 1 = k) (hk : k ≤ T.size) :
    tokT s a = if 1 < k ∧ isTagB (T.extract 1 k) = true then some ⟨6, a, a + k, T.extract 1 k, noB, 0, false⟩ else none := by
  have ha := L.ha
  have hz := L.size
  have hs := L.same
  have e0 := L.bt 0
  have e1 := L.bt 1
  rw [Nat.add_zero] at e0
  have hup := hs.upto (notB tagB) (i := 1) (j := a + 1) (by omega) (by omega)
  rw [he] at hup
  have hes : upto (notB tagB) s (a + 1) = a + k := by omega
  have hge := upto_ge letB s (a + 1)
  have hk1 : 1 ≤ k := by rw [← he]; exact upto_ge _ _ _
  unfold tokT
  dsimp only
  rw [hes]
  by_cases h1 : 1 < k
  · have hus : (T.extract 1 k).size = k - 1 := by rw [ByteArray.size_extract]; omega
    have hb : ∀ i, i < k - 1 → bt (T.extract 1 k) i = bt s (a + 1 + i) := fun i hi => by rw [bt_ext T 1 k i hk hi, L.bt]; congr 1; omega
    have hl : letTo (T.extract 1 k) (T.extract 1 k).size = decide (upto letB s (a + 1) < a + k) := by
      unfold letTo
      rw [decide_eq_decide, upto_lt_iff (Nat.le_refl _), upto_lt_iff (by omega), hus]
      constructor
      · rintro ⟨j, _, j2, j3⟩; exact ⟨a + 1 + j, by omega, by omega, by rw [← hb j j2]; exact j3⟩
      · rintro ⟨j, j1, j2, j3⟩; exact ⟨j - (a + 1), Nat.zero_le _, by omega, by rw [hb _ (by omega), show a + 1 + (j - (a + 1)) = j by omega]; exact j3⟩
    have hq : isTagB (T.extract 1 k) = (decide (upto letB s (a + 1) < a + k) && decide (k ≤ 101) && !(bt s (a + 1) == 47) && !(bt s (a + k - 1) == 47)) := by
      unfold isTagB
      rw [hl, hus, hb 0 (by omega), hb (k - 1 - 1) (by omega), Nat.add_zero, show a + 1 + (k - 1 - 1) = a + k - 1 by omega]
      congr 3
      rw [decide_eq_decide]; omega
    by_cases c : isTagB (T.extract 1 k) = true
    · have c' := c
      rw [hq] at c'
      simp only [Bool.and_eq_true, decide_eq_true_eq, Bool.not_eq_true', beq_eq_false_iff_ne] at c'
      have hex : T.extract 1 k = s.extract (a + 1) (a + k) := by rw [L.hT, tail_ext (by omega) (by omega)]
      rw [if_pos ⟨by rw [← e0]; exact h0, hp, c'.1.1.1, by omega, c'.1.2, c'.2⟩, if_pos ⟨h1, c⟩, hex]
    · have cn : ¬ (1 < k ∧ isTagB (T.extract 1 k) = true) := fun h => c h.2
      rw [if_neg cn, if_neg]
      rintro ⟨_, _, c3, c4, c5, c6⟩
      apply c
      rw [hq]
      simp only [Bool.and_eq_true, decide_eq_true_eq, Bool.not_eq_true', beq_eq_false_iff_ne]
      exact ⟨⟨⟨c3, by omega⟩, c5⟩, c6⟩
  · have cn : ¬ (1 < k ∧ isTagB (T.extract 1 k) = true) := fun h => h1 h.1
    rw [if_neg cn, if_neg (fun c => by omega)]
theorem tag_bar {s : ByteArray} {a : Nat} (h0 : a ≠ 0) (hp : preT (bt s (a - 1)) = false) : tokT s a = none := by
  unfold tokT
  dsimp only
  rw [if_neg]
  rintro ⟨_, c, _⟩
  rcases c with c | c
  · exact h0 c
  · rw [hp] at c; cases c
theorem tagEnd {T : ByteArray} {k : Nat} (h1 : 1 ≤ k) (hk : k ≤ T.size) (hd : ∀ i, 1 ≤ i → i < k → tagB (bt T i) = true) (he : k = T.size ∨ tagB (bt T k) = false) : upto (notB tagB) T 1 = k :=
  upto_eq h1 hk (fun j hj hj' => by unfold notB; rw [hd j hj hj']; rfl) (by
    rcases he with e | e
    · exact .inl e
    · exact .inr (by unfold notB; rw [e]; rfl))
theorem tag_all {T : ByteArray} {k : Nat} (hk : k ≤ T.size) (hd : ∀ i, 1 ≤ i → i < k → tagB (bt T i) = true) : ∀ i, i < (T.extract 1 k).size → tagB (bt (T.extract 1 k) i) = true := by
  intro i hi
  have hus : (T.extract 1 k).size = k - 1 := by rw [ByteArray.size_extract]; omega
  rw [bt_ext T 1 k i hk (by omega)]
  exact hd _ (by omega) (by omega)

set_option maxHeartbeats 2000000 in
set_option maxRecDepth 100000 in
theorem rtok_t_bar (s T : ByteArray) (a : Nat) (w : World) (hs : s.size ≤ 4294967280) (L : Tl s a T) (h0 : bt T 0 = 35) (hq : a ≠ 0) (hp : preT (bt s (a - 1)) = false) :
    Calls Tryz.prog 58 #[.string s, .int .i64 a] w fun e w' => e = .returned (rtV s a) ∧ Below w.heap.size w w' := by
  have ha := L.ha
  have hz := L.z
  have hsz := L.size
  have ia : (a : Int) < (s.size : Int) := by omega
  have ia0 : (0 : Int) ≤ (a : Int) := by omega
  have b0 := bt_at hz
  have HT := Lib.hid L.hT
  have HP1 : Hid (Lib.hasPrefix T.data.toList [91, 91] = false) := pre_two (x := 91) rfl (by rw [decide_eq_false_iff_not]; intro c; omega)
  have HP2 : Hid (Lib.hasPrefix T.data.toList [40, 40] = false) := pre_two (x := 40) rfl (by rw [decide_eq_false_iff_not]; intro c; omega)
  have zi3 : (T.size : Int) ≤ 4294967280 := by omega
  have HPL : Hid (tokT s a = none → rtV s a = .agg #[.int .i64 1, .int .i64 a, .int .i64 (a + 1), .string (s.extract a (a + 1)), .string ⟨#[]⟩, .int .i64 0, .bool false]) := fun hn => by
    have e0 := L.bt 0
    rw [Nat.add_zero] at e0
    exact rtV_plain (tokA_no (k := 4) (by omega) (by rw [← e0]; exact h0) hn)
  have HV : Hid (rtV s a = .agg #[.int .i64 1, .int .i64 a, .int .i64 (a + 1), .string (s.extract a (a + 1)), .string ⟨#[]⟩, .int .i64 0, .bool false]) := HPL.out (tag_bar hq hp)
  have hq1 : a - 1 < s.size := by omega
  have bp := bt_at hq1
  rw [bp] at hp
  obtain ⟨q, rfl⟩ : ∃ q, a = q + 1 := ⟨a - 1, by omega⟩
  simp only [Nat.add_sub_cancel] at hp
  have iq : ((q + 1 : Nat) : Int) = (q : Int) + 1 := by omega
  have hp2 : q < s.size := by omega
  have i4 : (0 : Int) ≤ (q : Int) := by omega
  have i5 : (q : Int) < (s.size : Int) := by omega
  have c0 : (0 : Int) ≤ (s[q].toNat : Int) := by omega
  have c1 : (s[q].toNat : Int) ≤ 255 := by have := (s[q]).toNat_lt; omega
  have HPQ := Lib.hid hp
  rw [b0] at h0
  have g0 : ((T[0].toNat : Int) == 92) = false := notBeq (by omega)
  have g1 : ((T[0].toNat : Int) == 96) = false := notBeq (by omega)
  have g2 : ((T[0].toNat : Int) == 35) = true := by simpa using h0
  have HIQ := Lib.hid iq
  clear L b0 hsz h0 hq bp hp iq
  go_enter Tryz.func58, Tryz.ntmps58
  go_upto_region 3 with (fail)
  rw [← HT.out]
  go_wp2_with fail
  refine (Tryz.strings_HasPrefix _ _ _).mono ?_
  rintro e _ ⟨rfl, rfl⟩
  rw [show (⟨#[91, 91]⟩ : ByteArray).data.toList = [91, 91] from rfl, HP1.out]
  go_wp2_with fail
  refine (Tryz.strings_HasPrefix _ _ _).mono ?_
  rintro e _ ⟨rfl, rfl⟩
  rw [show (⟨#[40, 40]⟩ : ByteArray).data.toList = [40, 40] from rfl, HP2.out]
  cases hl : letB (s[q].toNat : Int)
  · cases hd : digB (s[q].toNat : Int)
    · cases h35 : ((s[q].toNat : Int) == 35)
      · cases h38 : ((s[q].toNat : Int) == 38)
        · exact absurd HPQ.out (by unfold preT; rw [hl, hd, h35, h38]; decide)
        · skip
          go_wp2_with fail
          refine (rLetter_any _ _ c0 c1).mono ?_
          rintro e w1 ⟨rfl, hw⟩
          rw [hl, ← hw]
          clear hw
          go_wp2_with fail
          refine (rDigit_any _ _ c0 c1).mono ?_
          rintro e w1 ⟨rfl, hw⟩
          rw [hd, ← hw]
          clear hw
          go_wp2_with fail
          exact bodyPost_ret (v := .agg #[.int .i64 1, .int .i64 ((q + 1 : Nat) : Int), .int .i64 (((q + 1 : Nat) : Int) + 1), .string (s.extract (q + 1) (q + 1 + 1)), .string ⟨#[]⟩, .int .i64 0, .bool false]) (by simp [results, Tryz.results58, go_sem]) rfl ⟨by rw [HV.out], ((Below.refl _ _).alloc (Nat.le_refl _) _).alloc (by simp) _⟩
      · skip
        go_wp2_with fail
        refine (rLetter_any _ _ c0 c1).mono ?_
        rintro e w1 ⟨rfl, hw⟩
        rw [hl, ← hw]
        clear hw
        go_wp2_with fail
        refine (rDigit_any _ _ c0 c1).mono ?_
        rintro e w1 ⟨rfl, hw⟩
        rw [hd, ← hw]
        clear hw
        go_wp2_with fail
        exact bodyPost_ret (v := .agg #[.int .i64 1, .int .i64 ((q + 1 : Nat) : Int), .int .i64 (((q + 1 : Nat) : Int) + 1), .string (s.extract (q + 1) (q + 1 + 1)), .string ⟨#[]⟩, .int .i64 0, .bool false]) (by simp [results, Tryz.results58, go_sem]) rfl ⟨by rw [HV.out], ((Below.refl _ _).alloc (Nat.le_refl _) _).alloc (by simp) _⟩
    · skip
      go_wp2_with fail
      refine (rLetter_any _ _ c0 c1).mono ?_
      rintro e w1 ⟨rfl, hw⟩
      rw [hl, ← hw]
      clear hw
      go_wp2_with fail
      refine (rDigit_any _ _ c0 c1).mono ?_
      rintro e w1 ⟨rfl, hw⟩
      rw [hd, ← hw]
      clear hw
      go_wp2_with fail
      exact bodyPost_ret (v := .agg #[.int .i64 1, .int .i64 ((q + 1 : Nat) : Int), .int .i64 (((q + 1 : Nat) : Int) + 1), .string (s.extract (q + 1) (q + 1 + 1)), .string ⟨#[]⟩, .int .i64 0, .bool false]) (by simp [results, Tryz.results58, go_sem]) rfl ⟨by rw [HV.out], ((Below.refl _ _).alloc (Nat.le_refl _) _).alloc (by simp) _⟩
  · skip
    go_wp2_with fail
    refine (rLetter_any _ _ c0 c1).mono ?_
    rintro e w1 ⟨rfl, hw⟩
    rw [hl, ← hw]
    clear hw
    go_wp2_with fail
    exact bodyPost_ret (v := .agg #[.int .i64 1, .int .i64 ((q + 1 : Nat) : Int), .int .i64 (((q + 1 : Nat) : Int) + 1), .string (s.extract (q + 1) (q + 1 + 1)), .string ⟨#[]⟩, .int .i64 0, .bool false]) (by simp [results, Tryz.results58, go_sem]) rfl ⟨by rw [HV.out], ((Below.refl _ _).alloc (Nat.le_refl _) _).alloc (by simp) _⟩
set_option maxHeartbeats 2000000 in
set_option maxRecDepth 100000 in
theorem rtok_t_first (s T : ByteArray) (a : Nat) (w : World) (hs : s.size ≤ 4294967280) (L : Tl s a T) (h0 : bt T 0 = 35) (hq : a = 0) :
    Calls Tryz.prog 58 #[.string s, .int .i64 a] w fun e w' => e = .returned (rtV s a) ∧ Below w.heap.size w w' := by
  have ha := L.ha
  have hz := L.z
  have hsz := L.size
  have ia : (a : Int) < (s.size : Int) := by omega
  have ia0 : (0 : Int) ≤ (a : Int) := by omega
  have b0 := bt_at hz
  have HT := Lib.hid L.hT
  have HP1 : Hid (Lib.hasPrefix T.data.toList [91, 91] = false) := pre_two (x := 91) rfl (by rw [decide_eq_false_iff_not]; intro c; omega)
  have HP2 : Hid (Lib.hasPrefix T.data.toList [40, 40] = false) := pre_two (x := 40) rfl (by rw [decide_eq_false_iff_not]; intro c; omega)
  have zi3 : (T.size : Int) ≤ 4294967280 := by omega
  have HPL : Hid (tokT s a = none → rtV s a = .agg #[.int .i64 1, .int .i64 a, .int .i64 (a + 1), .string (s.extract a (a + 1)), .string ⟨#[]⟩, .int .i64 0, .bool false]) := fun hn => by
    have e0 := L.bt 0
    rw [Nat.add_zero] at e0
    exact rtV_plain (tokA_no (k := 4) (by omega) (by rw [← e0]; exact h0) hn)
  have HTG : Hid (∀ k, upto (notB tagB) T 1 = k → k ≤ T.size → tokT s a = if 1 < k ∧ isTagB (T.extract 1 k) = true then some ⟨6, a, a + k, T.extract 1 k, noB, 0, false⟩ else none) := fun k he hk => tag_is L h0 (.inl hq) he hk
  have gi : decide ((0 : Int) < (a : Int)) = false := by simp; omega
  have gi2 : decide (0 < a) = false := by simp; omega
  rw [b0] at h0
  have g0 : ((T[0].toNat : Int) == 92) = false := notBeq (by omega)
  have g1 : ((T[0].toNat : Int) == 96) = false := notBeq (by omega)
  have g2 : ((T[0].toNat : Int) == 35) = true := by simpa using h0
  clear L b0 hsz h0 hq
  go_enter Tryz.func58, Tryz.ntmps58
  go_upto_region 3 with (fail)
  rw [← HT.out]
  go_wp2_with fail
  refine (Tryz.strings_HasPrefix _ _ _).mono ?_
  rintro e _ ⟨rfl, rfl⟩
  rw [show (⟨#[91, 91]⟩ : ByteArray).data.toList = [91, 91] from rfl, HP1.out]
  go_wp2_with fail
  refine (Tryz.strings_HasPrefix _ _ _).mono ?_
  rintro e _ ⟨rfl, rfl⟩
  rw [show (⟨#[40, 40]⟩ : ByteArray).data.toList = [40, 40] from rfl, HP2.out]
  go_wp2_with fail
  go_loop [14] (fun i => ∃ k : Nat, 1 ≤ k ∧ k ≤ T.size ∧ i = .int .i64 k ∧ Hid (∀ i, 1 ≤ i → i < k → tagB (bt T i) = true)) (fun i => T.size - (intOf i).toNat)
  case atStart => exact ⟨1, by omega, by omega, rfl, fun i h1 h2 => by omega⟩
  case round =>
    obtain ⟨k, hk1, hkT, rfl, HA⟩ := hrel
    have i0 : (0 : Int) ≤ (k : Int) := by omega
    have i1 : (1 : Int) ≤ (k : Int) := by omega
    have iT : (k : Int) ≤ (T.size : Int) := by omega
    by_cases hlt : k < T.size
    · have iL : (k : Int) < (T.size : Int) := by omega
      have t0 : (0 : Int) ≤ (T[k].toNat : Int) := by omega
      have t1 : (T[k].toNat : Int) ≤ 255 := by have := (T[k]).toNat_lt; omega
      have hsp := tagB_split (T[k].toNat : Int)
      have HS : Hid (tagB (T[k].toNat : Int) = true → ∀ i, 1 ≤ i → i < k + 1 → tagB (bt T i) = true) := fun ht i h1 h2 => by
        rcases Nat.lt_or_ge i k with g | g
        · exact HA.out i h1 g
        · rw [show i = k by omega, bt_at hlt]; exact ht
      cases hl : letB (T[k].toNat : Int)
      · cases hd : digB (T[k].toNat : Int)
        · rw [hl, hd] at hsp
          cases q95 : ((T[k].toNat : Int) == 95)
          · cases q45 : ((T[k].toNat : Int) == 45)
            · cases q47 : ((T[k].toNat : Int) == 47)
              · rw [q95, q45, q47] at hsp
                have HE : Hid (upto (notB tagB) T 1 = k) := tagEnd hk1 hkT HA.out (.inr (by rw [bt_at hlt]; exact hsp))
                clear hsp
                by_cases w1 : 1 < k
                · have x1 : (1 : Int) < (k : Int) := by omega
                  have HALL := Lib.hid (tag_all hkT HA.out)
                  have hus : (T.extract 1 k).size = k - 1 := by rw [ByteArray.size_extract]; omega
                  have HUS := Lib.hid hus
                  have HTS := Lib.hid (HTG.out k HE.out hkT)
                  clear hus
                  cases ht : isTagB (T.extract 1 k)
                  · have HV : Hid (rtV s a = .agg #[.int .i64 1, .int .i64 a, .int .i64 (a + 1), .string (s.extract a (a + 1)), .string ⟨#[]⟩, .int .i64 0, .bool false]) := HPL.out (by rw [HTS.out, if_neg (fun c => by rw [ht] at c; cases c.2)])
                    have HT2 := Lib.hid ht
                    clear ht
                    go_wp2_with fail
                    refine (rLetter_any _ _ t0 t1).mono ?_
                    rintro e w1 ⟨rfl, hw⟩
                    rw [hl, ← hw]
                    clear hw
                    go_wp2_with fail
                    refine (rDigit_any _ _ t0 t1).mono ?_
                    rintro e w1 ⟨rfl, hw⟩
                    rw [hd, ← hw]
                    clear hw
                    go_wp2_with fail
                    refine (rIsTag_any _ _ (by have := HUS.out; omega) (by have := HUS.out; omega) HALL.out).mono ?_
                    rintro e w1 ⟨rfl, hw⟩
                    rw [HT2.out, ← hw]
                    clear hw
                    go_wp2_with fail
                    exact bodyPost_ret (v := .agg #[.int .i64 1, .int .i64 a, .int .i64 (a + 1), .string (s.extract a (a + 1)), .string ⟨#[]⟩, .int .i64 0, .bool false]) (by simp [results, Tryz.results58, go_sem]) rfl ⟨by rw [HV.out], ((Below.refl _ _).alloc (Nat.le_refl _) _).alloc (by simp) _⟩
                  · have HV : Hid (rtV s a = .agg #[.int .i64 6, .int .i64 a, .int .i64 (a + (k : Nat)), .string (T.extract 1 k), .string ⟨#[]⟩, .int .i64 0, .bool false]) := by
                      show _ = _
                      rw [rtV_of (k := 4) (by omega) (show tokK 4 s a = some ⟨6, a, a + k, T.extract 1 k, noB, 0, false⟩ by show tokT s a = _; rw [HTS.out, if_pos ⟨w1, ht⟩]) (by show (6 : Int) ≠ 1; decide)]
                      rfl
                    have HT2 := Lib.hid ht
                    clear ht
                    go_wp2_with fail
                    refine (rLetter_any _ _ t0 t1).mono ?_
                    rintro e w1 ⟨rfl, hw⟩
                    rw [hl, ← hw]
                    clear hw
                    go_wp2_with fail
                    refine (rDigit_any _ _ t0 t1).mono ?_
                    rintro e w1 ⟨rfl, hw⟩
                    rw [hd, ← hw]
                    clear hw
                    go_wp2_with fail
                    refine (rIsTag_any _ _ (by have := HUS.out; omega) (by have := HUS.out; omega) HALL.out).mono ?_
                    rintro e w1 ⟨rfl, hw⟩
                    rw [HT2.out, ← hw]
                    clear hw
                    go_wp2_with fail
                    exact bodyPost_ret (v := .agg #[.int .i64 6, .int .i64 a, .int .i64 (a + (k : Nat)), .string (T.extract 1 k), .string ⟨#[]⟩, .int .i64 0, .bool false]) (by simp [results, Tryz.results58, go_sem]) rfl ⟨by rw [HV.out], ((Below.refl _ _).alloc (Nat.le_refl _) _).alloc (by simp) _⟩
                · have x1 : (k : Int) ≤ 1 := by omega
                  have HV : Hid (rtV s a = .agg #[.int .i64 1, .int .i64 a, .int .i64 (a + 1), .string (s.extract a (a + 1)), .string ⟨#[]⟩, .int .i64 0, .bool false]) := HPL.out (by rw [HTG.out k HE.out hkT, if_neg (fun c => w1 c.1)])
                  go_wp2_with fail
                  refine (rLetter_any _ _ t0 t1).mono ?_
                  rintro e w1 ⟨rfl, hw⟩
                  rw [hl, ← hw]
                  clear hw
                  go_wp2_with fail
                  refine (rDigit_any _ _ t0 t1).mono ?_
                  rintro e w1 ⟨rfl, hw⟩
                  rw [hd, ← hw]
                  clear hw
                  go_wp2_with fail
                  exact bodyPost_ret (v := .agg #[.int .i64 1, .int .i64 a, .int .i64 (a + 1), .string (s.extract a (a + 1)), .string ⟨#[]⟩, .int .i64 0, .bool false]) (by simp [results, Tryz.results58, go_sem]) rfl ⟨by rw [HV.out], ((Below.refl _ _).alloc (Nat.le_refl _) _).alloc (by simp) _⟩
              · skip
                have HH := Lib.hid (HS.out (by rw [hsp, q95, q45, q47]; rfl))
                clear hsp
                go_wp2_with fail
                refine (rLetter_any _ _ t0 t1).mono ?_
                rintro e w1 ⟨rfl, hw⟩
                rw [hl, ← hw]
                clear hw
                go_wp2_with fail
                refine (rDigit_any _ _ t0 t1).mono ?_
                rintro e w1 ⟨rfl, hw⟩
                rw [hd, ← hw]
                clear hw
                go_wp2_with fail
                go_round
                case rel => exact ⟨k + 1, by omega, by omega, by go_num, HH.out⟩
                case measure => simp [intOf]; omega
            · skip
              have HH := Lib.hid (HS.out (by rw [hsp, q95, q45]; rfl))
              clear hsp
              go_wp2_with fail
              refine (rLetter_any _ _ t0 t1).mono ?_
              rintro e w1 ⟨rfl, hw⟩
              rw [hl, ← hw]
              clear hw
              go_wp2_with fail
              refine (rDigit_any _ _ t0 t1).mono ?_
              rintro e w1 ⟨rfl, hw⟩
              rw [hd, ← hw]
              clear hw
              go_wp2_with fail
              go_round
              case rel => exact ⟨k + 1, by omega, by omega, by go_num, HH.out⟩
              case measure => simp [intOf]; omega
          · skip
            have HH := Lib.hid (HS.out (by rw [hsp, q95]; rfl))
            clear hsp
            go_wp2_with fail
            refine (rLetter_any _ _ t0 t1).mono ?_
            rintro e w1 ⟨rfl, hw⟩
            rw [hl, ← hw]
            clear hw
            go_wp2_with fail
            refine (rDigit_any _ _ t0 t1).mono ?_
            rintro e w1 ⟨rfl, hw⟩
            rw [hd, ← hw]
            clear hw
            go_wp2_with fail
            go_round
            case rel => exact ⟨k + 1, by omega, by omega, by go_num, HH.out⟩
            case measure => simp [intOf]; omega
        · skip
          have HH := Lib.hid (HS.out (by rw [hsp, hl, hd]; rfl))
          clear hsp
          go_wp2_with fail
          refine (rLetter_any _ _ t0 t1).mono ?_
          rintro e w1 ⟨rfl, hw⟩
          rw [hl, ← hw]
          clear hw
          go_wp2_with fail
          refine (rDigit_any _ _ t0 t1).mono ?_
          rintro e w1 ⟨rfl, hw⟩
          rw [hd, ← hw]
          clear hw
          go_wp2_with fail
          go_round
          case rel => exact ⟨k + 1, by omega, by omega, by go_num, HH.out⟩
          case measure => simp [intOf]; omega
      · skip
        have HH := Lib.hid (HS.out (by rw [hsp, hl]; rfl))
        clear hsp
        go_wp2_with fail
        refine (rLetter_any _ _ t0 t1).mono ?_
        rintro e w1 ⟨rfl, hw⟩
        rw [hl, ← hw]
        clear hw
        go_wp2_with fail
        go_round
        case rel => exact ⟨k + 1, by omega, by omega, by go_num, HH.out⟩
        case measure => simp [intOf]; omega
    · obtain rfl : k = T.size := by omega
      have HE : Hid (upto (notB tagB) T 1 = T.size) := tagEnd hk1 hkT HA.out (.inl rfl)
      by_cases w1 : 1 < T.size
      · have x1 : (1 : Int) < (T.size : Int) := by omega
        have HALL := Lib.hid (tag_all hkT HA.out)
        have hus : (T.extract 1 T.size).size = T.size - 1 := by rw [ByteArray.size_extract]; omega
        have HUS := Lib.hid hus
        have HTS := Lib.hid (HTG.out T.size HE.out hkT)
        clear hus
        cases ht : isTagB (T.extract 1 T.size)
        · have HV : Hid (rtV s a = .agg #[.int .i64 1, .int .i64 a, .int .i64 (a + 1), .string (s.extract a (a + 1)), .string ⟨#[]⟩, .int .i64 0, .bool false]) := HPL.out (by rw [HTS.out, if_neg (fun c => by rw [ht] at c; cases c.2)])
          have HT2 := Lib.hid ht
          clear ht
          go_wp2_with fail
          refine (rIsTag_any _ _ (by have := HUS.out; omega) (by have := HUS.out; omega) HALL.out).mono ?_
          rintro e w1 ⟨rfl, hw⟩
          rw [HT2.out, ← hw]
          clear hw
          go_wp2_with fail
          exact bodyPost_ret (v := .agg #[.int .i64 1, .int .i64 a, .int .i64 (a + 1), .string (s.extract a (a + 1)), .string ⟨#[]⟩, .int .i64 0, .bool false]) (by simp [results, Tryz.results58, go_sem]) rfl ⟨by rw [HV.out], ((Below.refl _ _).alloc (Nat.le_refl _) _).alloc (by simp) _⟩
        · have HV : Hid (rtV s a = .agg #[.int .i64 6, .int .i64 a, .int .i64 (a + (T.size : Nat)), .string (T.extract 1 T.size), .string ⟨#[]⟩, .int .i64 0, .bool false]) := by
            show _ = _
            rw [rtV_of (k := 4) (by omega) (show tokK 4 s a = some ⟨6, a, a + T.size, T.extract 1 T.size, noB, 0, false⟩ by show tokT s a = _; rw [HTS.out, if_pos ⟨w1, ht⟩]) (by show (6 : Int) ≠ 1; decide)]
            rfl
          have HT2 := Lib.hid ht
          clear ht
          go_wp2_with fail
          refine (rIsTag_any _ _ (by have := HUS.out; omega) (by have := HUS.out; omega) HALL.out).mono ?_
          rintro e w1 ⟨rfl, hw⟩
          rw [HT2.out, ← hw]
          clear hw
          go_wp2_with fail
          exact bodyPost_ret (v := .agg #[.int .i64 6, .int .i64 a, .int .i64 (a + (T.size : Nat)), .string (T.extract 1 T.size), .string ⟨#[]⟩, .int .i64 0, .bool false]) (by simp [results, Tryz.results58, go_sem]) rfl ⟨by rw [HV.out], ((Below.refl _ _).alloc (Nat.le_refl _) _).alloc (by simp) _⟩
      · have x1 : (T.size : Int) ≤ 1 := by omega
        have HV : Hid (rtV s a = .agg #[.int .i64 1, .int .i64 a, .int .i64 (a + 1), .string (s.extract a (a + 1)), .string ⟨#[]⟩, .int .i64 0, .bool false]) := HPL.out (by rw [HTG.out T.size HE.out hkT, if_neg (fun c => w1 c.1)])
        go_wp2_with fail
        exact bodyPost_ret (v := .agg #[.int .i64 1, .int .i64 a, .int .i64 (a + 1), .string (s.extract a (a + 1)), .string ⟨#[]⟩, .int .i64 0, .bool false]) (by simp [results, Tryz.results58, go_sem]) rfl ⟨by rw [HV.out], ((Below.refl _ _).alloc (Nat.le_refl _) _).alloc (by simp) _⟩
set_option maxHeartbeats 2000000 in
set_option maxRecDepth 100000 in
theorem rtok_t_behind (s T : ByteArray) (a : Nat) (w : World) (hs : s.size ≤ 4294967280) (L : Tl s a T) (h0 : bt T 0 = 35) (hq : a ≠ 0) (hp : preT (bt s (a - 1)) = true) :
    Calls Tryz.prog 58 #[.string s, .int .i64 a] w fun e w' => e = .returned (rtV s a) ∧ Below w.heap.size w w' := by
  have ha := L.ha
  have hz := L.z
  have hsz := L.size
  have ia : (a : Int) < (s.size : Int) := by omega
  have ia0 : (0 : Int) ≤ (a : Int) := by omega
  have b0 := bt_at hz
  have HT := Lib.hid L.hT
  have HP1 : Hid (Lib.hasPrefix T.data.toList [91, 91] = false) := pre_two (x := 91) rfl (by rw [decide_eq_false_iff_not]; intro c; omega)
  have HP2 : Hid (Lib.hasPrefix T.data.toList [40, 40] = false) := pre_two (x := 40) rfl (by rw [decide_eq_false_iff_not]; intro c; omega)
  have zi3 : (T.size : Int) ≤ 4294967280 := by omega
  have HPL : Hid (tokT s a = none → rtV s a = .agg #[.int .i64 1, .int .i64 a, .int .i64 (a + 1), .string (s.extract a (a + 1)), .string ⟨#[]⟩, .int .i64 0, .bool false]) := fun hn => by
    have e0 := L.bt 0
    rw [Nat.add_zero] at e0
    exact rtV_plain (tokA_no (k := 4) (by omega) (by rw [← e0]; exact h0) hn)
  have HTG : Hid (∀ k, upto (notB tagB) T 1 = k → k ≤ T.size → tokT s a = if 1 < k ∧ isTagB (T.extract 1 k) = true then some ⟨6, a, a + k, T.extract 1 k, noB, 0, false⟩ else none) := fun k he hk => tag_is L h0 (.inr hp) he hk
  have hq1 : a - 1 < s.size := by omega
  have bp := bt_at hq1
  rw [bp] at hp
  have i4 : (0 : Int) ≤ (a : Int) - 1 := by omega
  have i5 : (a : Int) - 1 < (s.size : Int) := by omega
  have i6 : (0 : Int) < (a : Int) := by omega
  have c0 : (0 : Int) ≤ (s[a - 1].toNat : Int) := by omega
  have c1 : (s[a - 1].toNat : Int) ≤ 255 := by have := (s[a - 1]).toNat_lt; omega
  have hpp := hp
  unfold preT at hpp
  simp only [Bool.not_eq_true', Bool.or_eq_false_iff] at hpp
  obtain ⟨⟨⟨p1, p2⟩, p3⟩, p4⟩ := hpp
  have gi : decide ((0 : Int) < (a : Int)) = true := by simp; omega
  have gi2 : decide (0 < a) = true := by simp; omega
  rw [b0] at h0
  have g0 : ((T[0].toNat : Int) == 92) = false := notBeq (by omega)
  have g1 : ((T[0].toNat : Int) == 96) = false := notBeq (by omega)
  have g2 : ((T[0].toNat : Int) == 35) = true := by simpa using h0
  clear L b0 hsz h0 hq bp hp
  go_enter Tryz.func58, Tryz.ntmps58
  go_upto_region 3 with (fail)
  rw [← HT.out]
  go_wp2_with fail
  refine (Tryz.strings_HasPrefix _ _ _).mono ?_
  rintro e _ ⟨rfl, rfl⟩
  rw [show (⟨#[91, 91]⟩ : ByteArray).data.toList = [91, 91] from rfl, HP1.out]
  go_wp2_with fail
  refine (Tryz.strings_HasPrefix _ _ _).mono ?_
  rintro e _ ⟨rfl, rfl⟩
  rw [show (⟨#[40, 40]⟩ : ByteArray).data.toList = [40, 40] from rfl, HP2.out]
  go_wp2_with fail
  refine (rLetter_any _ _ c0 c1).mono ?_
  rintro e w1 ⟨rfl, hw⟩
  rw [p1, ← hw]
  clear hw
  go_wp2_with fail
  refine (rDigit_any _ _ c0 c1).mono ?_
  rintro e w1 ⟨rfl, hw⟩
  rw [p2, ← hw]
  clear hw
  go_wp2_with fail
  go_loop [14] (fun i => ∃ k : Nat, 1 ≤ k ∧ k ≤ T.size ∧ i = .int .i64 k ∧ Hid (∀ i, 1 ≤ i → i < k → tagB (bt T i) = true)) (fun i => T.size - (intOf i).toNat)
  case atStart => exact ⟨1, by omega, by omega, rfl, fun i h1 h2 => by omega⟩
  case round =>
    obtain ⟨k, hk1, hkT, rfl, HA⟩ := hrel
    have i0 : (0 : Int) ≤ (k : Int) := by omega
    have i1 : (1 : Int) ≤ (k : Int) := by omega
    have iT : (k : Int) ≤ (T.size : Int) := by omega
    by_cases hlt : k < T.size
    · have iL : (k : Int) < (T.size : Int) := by omega
      have t0 : (0 : Int) ≤ (T[k].toNat : Int) := by omega
      have t1 : (T[k].toNat : Int) ≤ 255 := by have := (T[k]).toNat_lt; omega
      have hsp := tagB_split (T[k].toNat : Int)
      have HS : Hid (tagB (T[k].toNat : Int) = true → ∀ i, 1 ≤ i → i < k + 1 → tagB (bt T i) = true) := fun ht i h1 h2 => by
        rcases Nat.lt_or_ge i k with g | g
        · exact HA.out i h1 g
        · rw [show i = k by omega, bt_at hlt]; exact ht
      cases hl : letB (T[k].toNat : Int)
      · cases hd : digB (T[k].toNat : Int)
        · rw [hl, hd] at hsp
          cases q95 : ((T[k].toNat : Int) == 95)
          · cases q45 : ((T[k].toNat : Int) == 45)
            · cases q47 : ((T[k].toNat : Int) == 47)
              · rw [q95, q45, q47] at hsp
                have HE : Hid (upto (notB tagB) T 1 = k) := tagEnd hk1 hkT HA.out (.inr (by rw [bt_at hlt]; exact hsp))
                clear hsp
                by_cases w1 : 1 < k
                · have x1 : (1 : Int) < (k : Int) := by omega
                  have HALL := Lib.hid (tag_all hkT HA.out)
                  have hus : (T.extract 1 k).size = k - 1 := by rw [ByteArray.size_extract]; omega
                  have HUS := Lib.hid hus
                  have HTS := Lib.hid (HTG.out k HE.out hkT)
                  clear hus
                  cases ht : isTagB (T.extract 1 k)
                  · have HV : Hid (rtV s a = .agg #[.int .i64 1, .int .i64 a, .int .i64 (a + 1), .string (s.extract a (a + 1)), .string ⟨#[]⟩, .int .i64 0, .bool false]) := HPL.out (by rw [HTS.out, if_neg (fun c => by rw [ht] at c; cases c.2)])
                    have HT2 := Lib.hid ht
                    clear ht
                    go_wp2_with fail
                    refine (rLetter_any _ _ t0 t1).mono ?_
                    rintro e w1 ⟨rfl, hw⟩
                    rw [hl, ← hw]
                    clear hw
                    go_wp2_with fail
                    refine (rDigit_any _ _ t0 t1).mono ?_
                    rintro e w1 ⟨rfl, hw⟩
                    rw [hd, ← hw]
                    clear hw
                    go_wp2_with fail
                    refine (rIsTag_any _ _ (by have := HUS.out; omega) (by have := HUS.out; omega) HALL.out).mono ?_
                    rintro e w1 ⟨rfl, hw⟩
                    rw [HT2.out, ← hw]
                    clear hw
                    go_wp2_with fail
                    exact bodyPost_ret (v := .agg #[.int .i64 1, .int .i64 a, .int .i64 (a + 1), .string (s.extract a (a + 1)), .string ⟨#[]⟩, .int .i64 0, .bool false]) (by simp [results, Tryz.results58, go_sem]) rfl ⟨by rw [HV.out], ((Below.refl _ _).alloc (Nat.le_refl _) _).alloc (by simp) _⟩
                  · have HV : Hid (rtV s a = .agg #[.int .i64 6, .int .i64 a, .int .i64 (a + (k : Nat)), .string (T.extract 1 k), .string ⟨#[]⟩, .int .i64 0, .bool false]) := by
                      show _ = _
                      rw [rtV_of (k := 4) (by omega) (show tokK 4 s a = some ⟨6, a, a + k, T.extract 1 k, noB, 0, false⟩ by show tokT s a = _; rw [HTS.out, if_pos ⟨w1, ht⟩]) (by show (6 : Int) ≠ 1; decide)]
                      rfl
                    have HT2 := Lib.hid ht
                    clear ht
                    go_wp2_with fail
                    refine (rLetter_any _ _ t0 t1).mono ?_
                    rintro e w1 ⟨rfl, hw⟩
                    rw [hl, ← hw]
                    clear hw
                    go_wp2_with fail
                    refine (rDigit_any _ _ t0 t1).mono ?_
                    rintro e w1 ⟨rfl, hw⟩
                    rw [hd, ← hw]
                    clear hw
                    go_wp2_with fail
                    refine (rIsTag_any _ _ (by have := HUS.out; omega) (by have := HUS.out; omega) HALL.out).mono ?_
                    rintro e w1 ⟨rfl, hw⟩
                    rw [HT2.out, ← hw]
                    clear hw
                    go_wp2_with fail
                    exact bodyPost_ret (v := .agg #[.int .i64 6, .int .i64 a, .int .i64 (a + (k : Nat)), .string (T.extract 1 k), .string ⟨#[]⟩, .int .i64 0, .bool false]) (by simp [results, Tryz.results58, go_sem]) rfl ⟨by rw [HV.out], ((Below.refl _ _).alloc (Nat.le_refl _) _).alloc (by simp) _⟩
                · have x1 : (k : Int) ≤ 1 := by omega
                  have HV : Hid (rtV s a = .agg #[.int .i64 1, .int .i64 a, .int .i64 (a + 1), .string (s.extract a (a + 1)), .string ⟨#[]⟩, .int .i64 0, .bool false]) := HPL.out (by rw [HTG.out k HE.out hkT, if_neg (fun c => w1 c.1)])
                  go_wp2_with fail
                  refine (rLetter_any _ _ t0 t1).mono ?_
                  rintro e w1 ⟨rfl, hw⟩
                  rw [hl, ← hw]
                  clear hw
                  go_wp2_with fail
                  refine (rDigit_any _ _ t0 t1).mono ?_
                  rintro e w1 ⟨rfl, hw⟩
                  rw [hd, ← hw]
                  clear hw
                  go_wp2_with fail
                  exact bodyPost_ret (v := .agg #[.int .i64 1, .int .i64 a, .int .i64 (a + 1), .string (s.extract a (a + 1)), .string ⟨#[]⟩, .int .i64 0, .bool false]) (by simp [results, Tryz.results58, go_sem]) rfl ⟨by rw [HV.out], ((Below.refl _ _).alloc (Nat.le_refl _) _).alloc (by simp) _⟩
              · skip
                have HH := Lib.hid (HS.out (by rw [hsp, q95, q45, q47]; rfl))
                clear hsp
                go_wp2_with fail
                refine (rLetter_any _ _ t0 t1).mono ?_
                rintro e w1 ⟨rfl, hw⟩
                rw [hl, ← hw]
                clear hw
                go_wp2_with fail
                refine (rDigit_any _ _ t0 t1).mono ?_
                rintro e w1 ⟨rfl, hw⟩
                rw [hd, ← hw]
                clear hw
                go_wp2_with fail
                go_round
                case rel => exact ⟨k + 1, by omega, by omega, by go_num, HH.out⟩
                case measure => simp [intOf]; omega
            · skip
              have HH := Lib.hid (HS.out (by rw [hsp, q95, q45]; rfl))
              clear hsp
              go_wp2_with fail
              refine (rLetter_any _ _ t0 t1).mono ?_
              rintro e w1 ⟨rfl, hw⟩
              rw [hl, ← hw]
              clear hw
              go_wp2_with fail
              refine (rDigit_any _ _ t0 t1).mono ?_
              rintro e w1 ⟨rfl, hw⟩
              rw [hd, ← hw]
              clear hw
              go_wp2_with fail
              go_round
              case rel => exact ⟨k + 1, by omega, by omega, by go_num, HH.out⟩
              case measure => simp [intOf]; omega
          · skip
            have HH := Lib.hid (HS.out (by rw [hsp, q95]; rfl))
            clear hsp
            go_wp2_with fail
            refine (rLetter_any _ _ t0 t1).mono ?_
            rintro e w1 ⟨rfl, hw⟩
            rw [hl, ← hw]
            clear hw
            go_wp2_with fail
            refine (rDigit_any _ _ t0 t1).mono ?_
            rintro e w1 ⟨rfl, hw⟩
            rw [hd, ← hw]
            clear hw
            go_wp2_with fail
            go_round
            case rel => exact ⟨k + 1, by omega, by omega, by go_num, HH.out⟩
            case measure => simp [intOf]; omega
        · skip
          have HH := Lib.hid (HS.out (by rw [hsp, hl, hd]; rfl))
          clear hsp
          go_wp2_with fail
          refine (rLetter_any _ _ t0 t1).mono ?_
          rintro e w1 ⟨rfl, hw⟩
          rw [hl, ← hw]
          clear hw
          go_wp2_with fail
          refine (rDigit_any _ _ t0 t1).mono ?_
          rintro e w1 ⟨rfl, hw⟩
          rw [hd, ← hw]
          clear hw
          go_wp2_with fail
          go_round
          case rel => exact ⟨k + 1, by omega, by omega, by go_num, HH.out⟩
          case measure => simp [intOf]; omega
      · skip
        have HH := Lib.hid (HS.out (by rw [hsp, hl]; rfl))
        clear hsp
        go_wp2_with fail
        refine (rLetter_any _ _ t0 t1).mono ?_
        rintro e w1 ⟨rfl, hw⟩
        rw [hl, ← hw]
        clear hw
        go_wp2_with fail
        go_round
        case rel => exact ⟨k + 1, by omega, by omega, by go_num, HH.out⟩
        case measure => simp [intOf]; omega
    · obtain rfl : k = T.size := by omega
      have HE : Hid (upto (notB tagB) T 1 = T.size) := tagEnd hk1 hkT HA.out (.inl rfl)
      by_cases w1 : 1 < T.size
      · have x1 : (1 : Int) < (T.size : Int) := by omega
        have HALL := Lib.hid (tag_all hkT HA.out)
        have hus : (T.extract 1 T.size).size = T.size - 1 := by rw [ByteArray.size_extract]; omega
        have HUS := Lib.hid hus
        have HTS := Lib.hid (HTG.out T.size HE.out hkT)
        clear hus
        cases ht : isTagB (T.extract 1 T.size)
        · have HV : Hid (rtV s a = .agg #[.int .i64 1, .int .i64 a, .int .i64 (a + 1), .string (s.extract a (a + 1)), .string ⟨#[]⟩, .int .i64 0, .bool false]) := HPL.out (by rw [HTS.out, if_neg (fun c => by rw [ht] at c; cases c.2)])
          have HT2 := Lib.hid ht
          clear ht
          go_wp2_with fail
          refine (rIsTag_any _ _ (by have := HUS.out; omega) (by have := HUS.out; omega) HALL.out).mono ?_
          rintro e w1 ⟨rfl, hw⟩
          rw [HT2.out, ← hw]
          clear hw
          go_wp2_with fail
          exact bodyPost_ret (v := .agg #[.int .i64 1, .int .i64 a, .int .i64 (a + 1), .string (s.extract a (a + 1)), .string ⟨#[]⟩, .int .i64 0, .bool false]) (by simp [results, Tryz.results58, go_sem]) rfl ⟨by rw [HV.out], ((Below.refl _ _).alloc (Nat.le_refl _) _).alloc (by simp) _⟩
        · have HV : Hid (rtV s a = .agg #[.int .i64 6, .int .i64 a, .int .i64 (a + (T.size : Nat)), .string (T.extract 1 T.size), .string ⟨#[]⟩, .int .i64 0, .bool false]) := by
            show _ = _
            rw [rtV_of (k := 4) (by omega) (show tokK 4 s a = some ⟨6, a, a + T.size, T.extract 1 T.size, noB, 0, false⟩ by show tokT s a = _; rw [HTS.out, if_pos ⟨w1, ht⟩]) (by show (6 : Int) ≠ 1; decide)]
            rfl
          have HT2 := Lib.hid ht
          clear ht
          go_wp2_with fail
          refine (rIsTag_any _ _ (by have := HUS.out; omega) (by have := HUS.out; omega) HALL.out).mono ?_
          rintro e w1 ⟨rfl, hw⟩
          rw [HT2.out, ← hw]
          clear hw
          go_wp2_with fail
          exact bodyPost_ret (v := .agg #[.int .i64 6, .int .i64 a, .int .i64 (a + (T.size : Nat)), .string (T.extract 1 T.size), .string ⟨#[]⟩, .int .i64 0, .bool false]) (by simp [results, Tryz.results58, go_sem]) rfl ⟨by rw [HV.out], ((Below.refl _ _).alloc (Nat.le_refl _) _).alloc (by simp) _⟩
      · have x1 : (T.size : Int) ≤ 1 := by omega
        have HV : Hid (rtV s a = .agg #[.int .i64 1, .int .i64 a, .int .i64 (a + 1), .string (s.extract a (a + 1)), .string ⟨#[]⟩, .int .i64 0, .bool false]) := HPL.out (by rw [HTG.out T.size HE.out hkT, if_neg (fun c => w1 c.1)])
        go_wp2_with fail
        exact bodyPost_ret (v := .agg #[.int .i64 1, .int .i64 a, .int .i64 (a + 1), .string (s.extract a (a + 1)), .string ⟨#[]⟩, .int .i64 0, .bool false]) (by simp [results, Tryz.results58, go_sem]) rfl ⟨by rw [HV.out], ((Below.refl _ _).alloc (Nat.le_refl _) _).alloc (by simp) _⟩
theorem rtok_tag (s T : ByteArray) (a : Nat) (w : World) (hs : s.size ≤ 4294967280) (L : Tl s a T) (h0 : bt T 0 = 35) :
    Calls Tryz.prog 58 #[.string s, .int .i64 a] w fun e w' => e = .returned (rtV s a) ∧ Below w.heap.size w w' := by
  by_cases hq : a = 0
  · exact rtok_t_first s T a w hs L h0 hq
  · cases hp : preT (bt s (a - 1))
    · exact rtok_t_bar s T a w hs L h0 hq hp
    · exact rtok_t_behind s T a w hs L h0 hq hp
end Go.Proofs.YtemngidkfgcigaaGreatDoor
