/-
  DERIVED. The walk of text.tagAt. Conditions: a place in the text.
  By an AI agent.
-/
import Derived.Test.YtnlonleljbbgoaaGreatDoorKe15
namespace Go.Proofs.YtnlonleljbbgoaaGreatDoor
open Go.RowKit

/-- a byte of a tag, as the code tells it -/
theorem tagB_split (n : Int) : tagB n = (letB n || digB n || n == 95 || n == 45 || n == 47) := by
  rw [Bool.eq_iff_iff]; simp [tagB, letB, digB]; omega
set_option maxHeartbeats 1000000 in
theorem inTag_any (n : Int) (w : World) (h0 : 0 ≤ n) (h1 : n ≤ 255) : Calls Tryz.prog 305 #[.int .u8 n] w fun e w' => e = .returned (.bool (tagB n)) ∧ w = w' := by
  have HV := Lib.hid (tagB_split n)
  cases c1 : letB n
  · cases c2 : digB n
    · have HV2 : Hid ((n == 95 || (n == 45 || n == 47)) = tagB n) := by show _ = _; rw [HV.out, c1, c2]; simp [Bool.or_assoc]
      go_enter Tryz.func305, Tryz.ntmps305
      go_wp2_with fail
      refine (isLetter_any n _ h0 h1).mono ?_
      rintro e w1 ⟨rfl, hw⟩
      rw [c1, ← hw]
      clear hw
      go_wp2_with fail
      refine (isDigit_any n _ h0 h1).mono ?_
      rintro e w1 ⟨rfl, hw⟩
      rw [c2, ← hw]
      clear hw
      go_wp2_with fail
      all_goals go_ret
      all_goals exact ⟨ret_boolS (by rw [← HV2.out, Bool.eq_iff_iff]; simp <;> omega), rfl⟩
    · have HV2 : Hid (true = tagB n) := by show _ = _; rw [HV.out, c1, c2]; rfl
      go_enter Tryz.func305, Tryz.ntmps305
      go_wp2_with fail
      refine (isLetter_any n _ h0 h1).mono ?_
      rintro e w1 ⟨rfl, hw⟩
      rw [c1, ← hw]
      clear hw
      go_wp2_with fail
      refine (isDigit_any n _ h0 h1).mono ?_
      rintro e w1 ⟨rfl, hw⟩
      rw [c2, ← hw]
      clear hw
      go_wp2_with fail
      go_ret
      exact ⟨ret_boolS HV2.out, rfl⟩
  · have HV2 : Hid (true = tagB n) := by show _ = _; rw [HV.out, c1]; rfl
    go_enter Tryz.func305, Tryz.ntmps305
    go_wp2_with fail
    refine (isLetter_any n _ h0 h1).mono ?_
    rintro e w1 ⟨rfl, hw⟩
    rw [c1, ← hw]
    clear hw
    go_wp2_with fail
    go_ret
    exact ⟨ret_boolS HV2.out, rfl⟩

structure TagEnd (s : ByteArray) (a e : Nat) : Prop where
  ae : a + 1 ≤ e
  es : e ≤ s.size
  up : upto (notB tagB) s (a + 1) = e
  b0 : bt s a = 35
  pre : a = 0 ∨ preT (bt s (a - 1)) = true

def tagOk (s : ByteArray) (a e : Nat) : Prop := upto letB s (a + 1) < e ∧ e ≤ a + 101 ∧ bt s (a + 1) ≠ 47 ∧ bt s (e - 1) ≠ 47
theorem tokT_head {s : ByteArray} {a : Nat} (h : bt s a ≠ 35) : tokT s a = none := by
  unfold tokT; rw [if_neg (fun g => h g.1)]
theorem tokT_pre {s : ByteArray} {a : Nat} (h0 : a ≠ 0) (h : preT (bt s (a - 1)) = false) : tokT s a = none := by
  unfold tokT; rw [if_neg (fun g => by rcases g.2.1 with h1 | h1; exact h0 h1; rw [h] at h1; cases h1)]
theorem tokT_no {s : ByteArray} {a e : Nat} (L : TagEnd s a e) (h : ¬ tagOk s a e) : tokT s a = none := by
  unfold tokT; rw [L.up, if_neg (fun g => h g.2.2)]
theorem tokT_yes {s : ByteArray} {a e : Nat} (L : TagEnd s a e) (h : tagOk s a e) : tokT s a = some ⟨6, a, e, s.extract (a + 1) e, noB, 0, false⟩ := by
  unfold tokT; rw [L.up, if_pos ⟨L.b0, L.pre, h⟩]

/-- the letters' flag: is there a letter before place k? -/
def hasL (s : ByteArray) (a k : Nat) : Bool := decide (upto letB s (a + 1) < k)
theorem hasL_zero (s : ByteArray) (a : Nat) : hasL s a (a + 1) = false := by unfold hasL; have := upto_ge letB s (a + 1); simp; omega
theorem hasL_yes {s : ByteArray} {a k : Nat} (h : hasL s a k = true) : hasL s a (k + 1) = true := by unfold hasL at *; simp at *; omega
theorem hasL_step {s : ByteArray} {a k : Nat} (hk : a + 1 ≤ k) (hs : k < s.size) (h : hasL s a k = false) : hasL s a (k + 1) = letB (bt s k) := by
  unfold hasL at *
  simp only [decide_eq_false_iff_not, Nat.not_lt] at h
  cases hq : letB (bt s k)
  · simp only [decide_eq_false_iff_not, Nat.not_lt]
    rcases Nat.lt_or_ge k (upto letB s (a + 1)) with g | g
    · omega
    · have e : upto letB s (a + 1) = k := by omega
      have := upto_at (stop := letB) (s := s) (i := a + 1) (by omega)
      rw [e, hq] at this; cases this
  · simp only [decide_eq_true_eq]
    rcases Nat.lt_or_ge k (upto letB s (a + 1)) with g | g
    · rw [upto_mid hk g] at hq; cases hq
    · omega

set_option maxHeartbeats 4000000 in
set_option maxRecDepth 100000 in
theorem tagAt_other (s : ByteArray) (a : Nat) (w : World) (_hs : s.size ≤ 4294967280) (ha : a < s.size) (h : bt s a ≠ 35) :
    Calls Tryz.prog 298 #[.string s, .int .i64 a] w fun e w' => e = .returned (tokV (tokT s a)) ∧ Below w.heap.size w w' := by
  have hi0 : (0 : Int) ≤ (a : Int) := by omega
  have hi1 : (a : Int) < (s.size : Int) := by omega
  have g1 : ((s[a].toNat : Int) != 35) = true := by rw [bt_at ha] at h; simpa using h
  have HV : Hid (Ending.returned (.tuple #[spZ, .bool false]) = .returned (tokV (tokT s a))) := by show _ = _; rw [tokT_head h]; rfl
  clear h
  go_enter Tryz.func298, Tryz.ntmps298
  go_wp2_with fail
  refine bodyPost_ret (v := .tuple #[spZ, .bool false]) (by simp [results, Tryz.results298, go_sem, spZ]) rfl ⟨HV.out, (Below.refl _ _).alloc (Nat.le_refl _) _⟩

set_option maxHeartbeats 4000000 in
set_option maxRecDepth 100000 in
theorem tagAt_first (s : ByteArray) (a : Nat) (w : World) (hs : s.size ≤ 4294967280) (ha : a < s.size) (h : bt s a = 35) (h0 : a = 0) :
    Calls Tryz.prog 298 #[.string s, .int .i64 a] w fun e w' => e = .returned (tokV (tokT s a)) ∧ Below w.heap.size w w' := by
  have hi0 : (0 : Int) ≤ (a : Int) := by omega
  have hi1 : (a : Int) < (s.size : Int) := by omega
  have g1 : ((s[a].toNat : Int) != 35) = false := by rw [bt_at ha] at h; simpa using h
  have HB := Lib.hid h
  have H0 := Lib.hid h0
  have h0' : ¬ (0 : Int) < (a : Int) := by omega
  clear h h0
  go_enter Tryz.func298, Tryz.ntmps298
  go_wp2_with fail
  go_loop [7, 8] (fun i l => ∃ k : Nat, a + 1 ≤ k ∧ k ≤ s.size ∧ i = .int .i64 k ∧ l = .bool (hasL s a k) ∧ Hid (upto (notB tagB) s k = upto (notB tagB) s (a + 1))) (fun i _ => s.size - (intOf i).toNat)
  case atStart => exact ⟨a + 1, Nat.le_refl _, ha, rfl, by rw [hasL_zero], rfl⟩
  case round =>
    obtain ⟨k, hk0, hk, rfl, rfl, hu⟩ := hrel
    have ik0 : (0 : Int) ≤ (k : Int) := by omega
    have ways : (∃ h : k < s.size, tagB (s[k].toNat : Int) = true) ∨ (∃ h : k < s.size, tagB (s[k].toNat : Int) = false) ∨ s.size ≤ k := by
      by_cases h : k < s.size
      · cases hq : tagB (s[k].toNat : Int)
        · exact .inr (.inl ⟨h, hq⟩)
        · exact .inl ⟨h, hq⟩
      · exact .inr (.inr (by omega))
    rcases ways with ⟨hlt, hq⟩ | ways
    · have hc0 : (0 : Int) ≤ (s[k].toNat : Int) := by omega
      have hc1 : (s[k].toNat : Int) ≤ 255 := by have := (s[k]).toNat_lt; omega
      have ik1 : (k : Int) < (s.size : Int) := by omega
      have HU : Hid (upto (notB tagB) s (k + 1) = upto (notB tagB) s (a + 1)) := (upto_go hlt (by rw [bt_at hlt]; unfold notB; rw [hq]; rfl)).symm.trans hu.out
      cases hL : hasL s a k
      · have HL : Hid (hasL s a (k + 1) = letB (s[k].toNat : Int)) := by show _ = _; rw [hasL_step hk0 hlt hL, bt_at hlt]
        go_wp2_with fail
        refine (inTag_any _ _ hc0 hc1).mono ?_
        rintro e w1 ⟨rfl, hw⟩
        rw [hq, ← hw]
        clear hw
        go_wp2_with fail
        refine (isLetter_any _ _ hc0 hc1).mono ?_
        rintro e w1 ⟨rfl, hw⟩
        rw [← hw]
        clear hw
        go_wp2_with fail
        go_round
        case rel => exact ⟨k + 1, by omega, by omega, by go_num, by rw [HL.out], HU⟩
        case measure => simp [intOf]; omega
      · have HL := Lib.hid (hasL_yes hL)
        go_wp2_with fail
        refine (inTag_any _ _ hc0 hc1).mono ?_
        rintro e w1 ⟨rfl, hw⟩
        rw [hq, ← hw]
        clear hw
        go_wp2_with fail
        go_round
        case rel => exact ⟨k + 1, by omega, by omega, by go_num, by rw [HL.out], HU⟩
        case measure => simp [intOf]; omega
    · have L : Hid (TagEnd s a k) := by
        refine ⟨hk0, hk, ?_, HB.out, .inl H0.out⟩
        rw [← hu.out]
        rcases ways with ⟨h, hq⟩ | h
        · exact upto_stop (by rw [bt_at h]; unfold notB; rw [hq]; rfl)
        · exact upto_out h
      have lt0 : (a : Int) + 1 ≤ (k : Int) := by omega
      have lt1 : (k : Int) ≤ (s.size : Int) := by omega
      clear hu
      rcases ways with ⟨hlt, hq⟩ | hge
      · have hc0 : (0 : Int) ≤ (s[k].toNat : Int) := by omega
        have hc1 : (s[k].toNat : Int) ≤ 255 := by have := (s[k]).toNat_lt; omega
        have ik1 : (k : Int) < (s.size : Int) := by omega
        go_wp2_with fail
        refine (inTag_any _ _ hc0 hc1).mono ?_
        rintro e w1 ⟨rfl, hw⟩
        rw [hq, ← hw]
        clear hw
        go_upto_region 12 with (fail)
        obtain ⟨T, hT⟩ : ∃ T, T = s.extract (a + 1) k := ⟨_, rfl⟩
        rw [← hT]
        have hsz : T.size = k - (a + 1) := by rw [hT, ByteArray.size_extract]; omega
        have HT := Lib.hid hT
        have hle : T.size ≤ 4294967280 := by omega
        cases hL : hasL s a k
        case false =>
          have HV : Hid (Ending.returned (.tuple #[spZ, .bool false]) = .returned (tokV (tokT s a))) := by show _ = _; rw [tokT_no L.out (fun g => by have := g.1; simp [hasL] at hL; omega)]; rfl
          clear hT hsz
          go_wp2_with fail
          refine bodyPost_ret (v := .tuple #[spZ, .bool false]) (by simp [results, Tryz.results298, go_sem, spZ]) rfl ⟨HV.out, (Below.refl _ _).alloc (Nat.le_refl _) _⟩
        have hLk : upto letB s (a + 1) < k := by simpa [hasL] using hL
        have hlow := upto_ge letB s (a + 1)
        have hp : 0 < T.size := by omega
        by_cases e2 : k ≤ a + 101
        case neg =>
          have HV : Hid (Ending.returned (.tuple #[spZ, .bool false]) = .returned (tokV (tokT s a))) := by show _ = _; rw [tokT_no L.out (fun g => e2 g.2.1)]; rfl
          have e2' : (100 : Int) < (T.size : Int) := by omega
          clear e2 hT hsz hLk hlow
          go_wp2_with fail
          refine bodyPost_ret (v := .tuple #[spZ, .bool false]) (by simp [results, Tryz.results298, go_sem, spZ]) rfl ⟨HV.out, (Below.refl _ _).alloc (Nat.le_refl _) _⟩
        have e2' : (T.size : Int) ≤ 100 := by omega
        have hb0 : bt s (a + 1) = (T[0].toNat : Int) := by have := bt_ext s (a + 1) k 0 L.out.es (by omega); rw [← bt_at hp, hT, this]
        have hl : T.size - 1 < T.size := by omega
        have hb1 : bt s (k - 1) = (T[T.size - 1].toNat : Int) := by have := bt_ext s (a + 1) k (k - 1 - (a + 1)) L.out.es (by omega); rw [← bt_at hl, hsz, hT, show k - (a + 1) - 1 = k - 1 - (a + 1) by omega, this]; congr 1; omega
        have ip : (0 : Int) ≤ (T.size : Int) - 1 := by omega
        cases e3 : ((T[0].toNat : Int) == 47)
        case true =>
          have HV : Hid (Ending.returned (.tuple #[spZ, .bool false]) = .returned (tokV (tokT s a))) := by show _ = _; rw [tokT_no L.out (fun g => g.2.2.1 (by rw [hb0]; simpa using e3))]; rfl
          clear hb0 hb1 e2 hT hsz hLk hlow
          go_wp2_with fail
          refine bodyPost_ret (v := .tuple #[spZ, .bool false]) (by simp [results, Tryz.results298, go_sem, spZ]) rfl ⟨HV.out, (Below.refl _ _).alloc (Nat.le_refl _) _⟩
        cases e4 : ((T[T.size - 1].toNat : Int) == 47)
        case true =>
          have HV : Hid (Ending.returned (.tuple #[spZ, .bool false]) = .returned (tokV (tokT s a))) := by show _ = _; rw [tokT_no L.out (fun g => g.2.2.2 (by rw [hb1]; simpa using e4))]; rfl
          clear hb0 hb1 e2 hT hsz hLk hlow
          go_wp2_with fail
          refine bodyPost_ret (v := .tuple #[spZ, .bool false]) (by simp [results, Tryz.results298, go_sem, spZ]) rfl ⟨HV.out, (Below.refl _ _).alloc (Nat.le_refl _) _⟩
        have HV : Hid (Ending.returned (.tuple #[.agg #[.int .i64 6, .int .i64 a, .int .i64 k, .string T, .string ⟨#[]⟩, .int .i64 0, .bool false], .bool true]) = .returned (tokV (tokT s a))) := by show _ = _; rw [tokT_yes L.out ⟨hLk, e2, by rw [hb0]; simpa using e3, by rw [hb1]; simpa using e4⟩, ← HT.out]; rfl
        clear hb0 hb1 e2 hT hsz hLk hlow
        go_wp2_with fail
        refine bodyPost_ret (v := (.tuple #[.agg #[.int .i64 6, .int .i64 a, .int .i64 k, .string T, .string ⟨#[]⟩, .int .i64 0, .bool false], .bool true])) (by simp [results, Tryz.results298, go_sem]) rfl ⟨HV.out, (Below.refl _ _).alloc (Nat.le_refl _) _⟩
      · go_upto_region 12 with (fail)
        obtain ⟨T, hT⟩ : ∃ T, T = s.extract (a + 1) k := ⟨_, rfl⟩
        rw [← hT]
        have hsz : T.size = k - (a + 1) := by rw [hT, ByteArray.size_extract]; omega
        have HT := Lib.hid hT
        have hle : T.size ≤ 4294967280 := by omega
        cases hL : hasL s a k
        case false =>
          have HV : Hid (Ending.returned (.tuple #[spZ, .bool false]) = .returned (tokV (tokT s a))) := by show _ = _; rw [tokT_no L.out (fun g => by have := g.1; simp [hasL] at hL; omega)]; rfl
          clear hT hsz
          go_wp2_with fail
          refine bodyPost_ret (v := .tuple #[spZ, .bool false]) (by simp [results, Tryz.results298, go_sem, spZ]) rfl ⟨HV.out, (Below.refl _ _).alloc (Nat.le_refl _) _⟩
        have hLk : upto letB s (a + 1) < k := by simpa [hasL] using hL
        have hlow := upto_ge letB s (a + 1)
        have hp : 0 < T.size := by omega
        by_cases e2 : k ≤ a + 101
        case neg =>
          have HV : Hid (Ending.returned (.tuple #[spZ, .bool false]) = .returned (tokV (tokT s a))) := by show _ = _; rw [tokT_no L.out (fun g => e2 g.2.1)]; rfl
          have e2' : (100 : Int) < (T.size : Int) := by omega
          clear e2 hT hsz hLk hlow
          go_wp2_with fail
          refine bodyPost_ret (v := .tuple #[spZ, .bool false]) (by simp [results, Tryz.results298, go_sem, spZ]) rfl ⟨HV.out, (Below.refl _ _).alloc (Nat.le_refl _) _⟩
        have e2' : (T.size : Int) ≤ 100 := by omega
        have hb0 : bt s (a + 1) = (T[0].toNat : Int) := by have := bt_ext s (a + 1) k 0 L.out.es (by omega); rw [← bt_at hp, hT, this]
        have hl : T.size - 1 < T.size := by omega
        have hb1 : bt s (k - 1) = (T[T.size - 1].toNat : Int) := by have := bt_ext s (a + 1) k (k - 1 - (a + 1)) L.out.es (by omega); rw [← bt_at hl, hsz, hT, show k - (a + 1) - 1 = k - 1 - (a + 1) by omega, this]; congr 1; omega
        have ip : (0 : Int) ≤ (T.size : Int) - 1 := by omega
        cases e3 : ((T[0].toNat : Int) == 47)
        case true =>
          have HV : Hid (Ending.returned (.tuple #[spZ, .bool false]) = .returned (tokV (tokT s a))) := by show _ = _; rw [tokT_no L.out (fun g => g.2.2.1 (by rw [hb0]; simpa using e3))]; rfl
          clear hb0 hb1 e2 hT hsz hLk hlow
          go_wp2_with fail
          refine bodyPost_ret (v := .tuple #[spZ, .bool false]) (by simp [results, Tryz.results298, go_sem, spZ]) rfl ⟨HV.out, (Below.refl _ _).alloc (Nat.le_refl _) _⟩
        cases e4 : ((T[T.size - 1].toNat : Int) == 47)
        case true =>
          have HV : Hid (Ending.returned (.tuple #[spZ, .bool false]) = .returned (tokV (tokT s a))) := by show _ = _; rw [tokT_no L.out (fun g => g.2.2.2 (by rw [hb1]; simpa using e4))]; rfl
          clear hb0 hb1 e2 hT hsz hLk hlow
          go_wp2_with fail
          refine bodyPost_ret (v := .tuple #[spZ, .bool false]) (by simp [results, Tryz.results298, go_sem, spZ]) rfl ⟨HV.out, (Below.refl _ _).alloc (Nat.le_refl _) _⟩
        have HV : Hid (Ending.returned (.tuple #[.agg #[.int .i64 6, .int .i64 a, .int .i64 k, .string T, .string ⟨#[]⟩, .int .i64 0, .bool false], .bool true]) = .returned (tokV (tokT s a))) := by show _ = _; rw [tokT_yes L.out ⟨hLk, e2, by rw [hb0]; simpa using e3, by rw [hb1]; simpa using e4⟩, ← HT.out]; rfl
        clear hb0 hb1 e2 hT hsz hLk hlow
        go_wp2_with fail
        refine bodyPost_ret (v := (.tuple #[.agg #[.int .i64 6, .int .i64 a, .int .i64 k, .string T, .string ⟨#[]⟩, .int .i64 0, .bool false], .bool true])) (by simp [results, Tryz.results298, go_sem]) rfl ⟨HV.out, (Below.refl _ _).alloc (Nat.le_refl _) _⟩

set_option maxHeartbeats 4000000 in
set_option maxRecDepth 100000 in
theorem tagAt_behind (s : ByteArray) (a : Nat) (w : World) (hs : s.size ≤ 4294967280) (ha : a < s.size) (h : bt s a = 35) (h0 : a ≠ 0) (h1 : preT (bt s (a - 1)) = true) :
    Calls Tryz.prog 298 #[.string s, .int .i64 a] w fun e w' => e = .returned (tokV (tokT s a)) ∧ Below w.heap.size w w' := by
  have hi0 : (0 : Int) ≤ (a : Int) := by omega
  have hi1 : (a : Int) < (s.size : Int) := by omega
  have g1 : ((s[a].toNat : Int) != 35) = false := by rw [bt_at ha] at h; simpa using h
  have hq : a - 1 < s.size := by omega
  have hp0 : (0 : Int) ≤ (s[a - 1].toNat : Int) := by omega
  have hp1 : (s[a - 1].toNat : Int) ≤ 255 := by have := (s[a - 1]).toNat_lt; omega
  have h0' : (0 : Int) < (a : Int) := by omega
  have i0 : (0 : Int) ≤ (a : Int) - 1 := by omega
  have hbq := bt_at hq
  have HB := Lib.hid h
  have H0 := Lib.hid h0
  have HP := Lib.hid h1
  have hcs : letB (s[a - 1].toNat : Int) = false ∧ digB (s[a - 1].toNat : Int) = false ∧ ((s[a - 1].toNat : Int) == 35) = false ∧ ((s[a - 1].toNat : Int) == 38) = false := by
    rw [hbq] at h1
    unfold preT at h1
    simp only [Bool.not_eq_true', Bool.or_eq_false_iff] at h1
    exact ⟨h1.1.1.1, h1.1.1.2, h1.1.2, h1.2⟩
  obtain ⟨c1, c2, c3, c4⟩ := hcs
  clear h h0 h1 hbq
  go_enter Tryz.func298, Tryz.ntmps298
  go_wp2_with fail
  refine (isLetter_any _ _ hp0 hp1).mono ?_
  rintro e w1 ⟨rfl, hw⟩
  rw [c1, ← hw]
  clear hw
  go_wp2_with fail
  refine (isDigit_any _ _ hp0 hp1).mono ?_
  rintro e w1 ⟨rfl, hw⟩
  rw [c2, ← hw]
  clear hw
  go_wp2_with fail
  go_loop [7, 8] (fun i l => ∃ k : Nat, a + 1 ≤ k ∧ k ≤ s.size ∧ i = .int .i64 k ∧ l = .bool (hasL s a k) ∧ Hid (upto (notB tagB) s k = upto (notB tagB) s (a + 1))) (fun i _ => s.size - (intOf i).toNat)
  case atStart => exact ⟨a + 1, Nat.le_refl _, ha, rfl, by rw [hasL_zero], rfl⟩
  case round =>
    obtain ⟨k, hk0, hk, rfl, rfl, hu⟩ := hrel
    have ik0 : (0 : Int) ≤ (k : Int) := by omega
    have ways : (∃ h : k < s.size, tagB (s[k].toNat : Int) = true) ∨ (∃ h : k < s.size, tagB (s[k].toNat : Int) = false) ∨ s.size ≤ k := by
      by_cases h : k < s.size
      · cases hq : tagB (s[k].toNat : Int)
        · exact .inr (.inl ⟨h, hq⟩)
        · exact .inl ⟨h, hq⟩
      · exact .inr (.inr (by omega))
    rcases ways with ⟨hlt, hq⟩ | ways
    · have hc0 : (0 : Int) ≤ (s[k].toNat : Int) := by omega
      have hc1 : (s[k].toNat : Int) ≤ 255 := by have := (s[k]).toNat_lt; omega
      have ik1 : (k : Int) < (s.size : Int) := by omega
      have HU : Hid (upto (notB tagB) s (k + 1) = upto (notB tagB) s (a + 1)) := (upto_go hlt (by rw [bt_at hlt]; unfold notB; rw [hq]; rfl)).symm.trans hu.out
      cases hL : hasL s a k
      · have HL : Hid (hasL s a (k + 1) = letB (s[k].toNat : Int)) := by show _ = _; rw [hasL_step hk0 hlt hL, bt_at hlt]
        go_wp2_with fail
        refine (inTag_any _ _ hc0 hc1).mono ?_
        rintro e w1 ⟨rfl, hw⟩
        rw [hq, ← hw]
        clear hw
        go_wp2_with fail
        refine (isLetter_any _ _ hc0 hc1).mono ?_
        rintro e w1 ⟨rfl, hw⟩
        rw [← hw]
        clear hw
        go_wp2_with fail
        go_round
        case rel => exact ⟨k + 1, by omega, by omega, by go_num, by rw [HL.out], HU⟩
        case measure => simp [intOf]; omega
      · have HL := Lib.hid (hasL_yes hL)
        go_wp2_with fail
        refine (inTag_any _ _ hc0 hc1).mono ?_
        rintro e w1 ⟨rfl, hw⟩
        rw [hq, ← hw]
        clear hw
        go_wp2_with fail
        go_round
        case rel => exact ⟨k + 1, by omega, by omega, by go_num, by rw [HL.out], HU⟩
        case measure => simp [intOf]; omega
    · have L : Hid (TagEnd s a k) := by
        refine ⟨hk0, hk, ?_, HB.out, .inr HP.out⟩
        rw [← hu.out]
        rcases ways with ⟨h, hq⟩ | h
        · exact upto_stop (by rw [bt_at h]; unfold notB; rw [hq]; rfl)
        · exact upto_out h
      have lt0 : (a : Int) + 1 ≤ (k : Int) := by omega
      have lt1 : (k : Int) ≤ (s.size : Int) := by omega
      clear hu
      rcases ways with ⟨hlt, hq⟩ | hge
      · have hc0 : (0 : Int) ≤ (s[k].toNat : Int) := by omega
        have hc1 : (s[k].toNat : Int) ≤ 255 := by have := (s[k]).toNat_lt; omega
        have ik1 : (k : Int) < (s.size : Int) := by omega
        go_wp2_with fail
        refine (inTag_any _ _ hc0 hc1).mono ?_
        rintro e w1 ⟨rfl, hw⟩
        rw [hq, ← hw]
        clear hw
        go_upto_region 12 with (fail)
        obtain ⟨T, hT⟩ : ∃ T, T = s.extract (a + 1) k := ⟨_, rfl⟩
        rw [← hT]
        have hsz : T.size = k - (a + 1) := by rw [hT, ByteArray.size_extract]; omega
        have HT := Lib.hid hT
        have hle : T.size ≤ 4294967280 := by omega
        cases hL : hasL s a k
        case false =>
          have HV : Hid (Ending.returned (.tuple #[spZ, .bool false]) = .returned (tokV (tokT s a))) := by show _ = _; rw [tokT_no L.out (fun g => by have := g.1; simp [hasL] at hL; omega)]; rfl
          clear hT hsz
          go_wp2_with fail
          refine bodyPost_ret (v := .tuple #[spZ, .bool false]) (by simp [results, Tryz.results298, go_sem, spZ]) rfl ⟨HV.out, (Below.refl _ _).alloc (Nat.le_refl _) _⟩
        have hLk : upto letB s (a + 1) < k := by simpa [hasL] using hL
        have hlow := upto_ge letB s (a + 1)
        have hp : 0 < T.size := by omega
        by_cases e2 : k ≤ a + 101
        case neg =>
          have HV : Hid (Ending.returned (.tuple #[spZ, .bool false]) = .returned (tokV (tokT s a))) := by show _ = _; rw [tokT_no L.out (fun g => e2 g.2.1)]; rfl
          have e2' : (100 : Int) < (T.size : Int) := by omega
          clear e2 hT hsz hLk hlow
          go_wp2_with fail
          refine bodyPost_ret (v := .tuple #[spZ, .bool false]) (by simp [results, Tryz.results298, go_sem, spZ]) rfl ⟨HV.out, (Below.refl _ _).alloc (Nat.le_refl _) _⟩
        have e2' : (T.size : Int) ≤ 100 := by omega
        have hb0 : bt s (a + 1) = (T[0].toNat : Int) := by have := bt_ext s (a + 1) k 0 L.out.es (by omega); rw [← bt_at hp, hT, this]
        have hl : T.size - 1 < T.size := by omega
        have hb1 : bt s (k - 1) = (T[T.size - 1].toNat : Int) := by have := bt_ext s (a + 1) k (k - 1 - (a + 1)) L.out.es (by omega); rw [← bt_at hl, hsz, hT, show k - (a + 1) - 1 = k - 1 - (a + 1) by omega, this]; congr 1; omega
        have ip : (0 : Int) ≤ (T.size : Int) - 1 := by omega
        cases e3 : ((T[0].toNat : Int) == 47)
        case true =>
          have HV : Hid (Ending.returned (.tuple #[spZ, .bool false]) = .returned (tokV (tokT s a))) := by show _ = _; rw [tokT_no L.out (fun g => g.2.2.1 (by rw [hb0]; simpa using e3))]; rfl
          clear hb0 hb1 e2 hT hsz hLk hlow
          go_wp2_with fail
          refine bodyPost_ret (v := .tuple #[spZ, .bool false]) (by simp [results, Tryz.results298, go_sem, spZ]) rfl ⟨HV.out, (Below.refl _ _).alloc (Nat.le_refl _) _⟩
        cases e4 : ((T[T.size - 1].toNat : Int) == 47)
        case true =>
          have HV : Hid (Ending.returned (.tuple #[spZ, .bool false]) = .returned (tokV (tokT s a))) := by show _ = _; rw [tokT_no L.out (fun g => g.2.2.2 (by rw [hb1]; simpa using e4))]; rfl
          clear hb0 hb1 e2 hT hsz hLk hlow
          go_wp2_with fail
          refine bodyPost_ret (v := .tuple #[spZ, .bool false]) (by simp [results, Tryz.results298, go_sem, spZ]) rfl ⟨HV.out, (Below.refl _ _).alloc (Nat.le_refl _) _⟩
        have HV : Hid (Ending.returned (.tuple #[.agg #[.int .i64 6, .int .i64 a, .int .i64 k, .string T, .string ⟨#[]⟩, .int .i64 0, .bool false], .bool true]) = .returned (tokV (tokT s a))) := by show _ = _; rw [tokT_yes L.out ⟨hLk, e2, by rw [hb0]; simpa using e3, by rw [hb1]; simpa using e4⟩, ← HT.out]; rfl
        clear hb0 hb1 e2 hT hsz hLk hlow
        go_wp2_with fail
        refine bodyPost_ret (v := (.tuple #[.agg #[.int .i64 6, .int .i64 a, .int .i64 k, .string T, .string ⟨#[]⟩, .int .i64 0, .bool false], .bool true])) (by simp [results, Tryz.results298, go_sem]) rfl ⟨HV.out, (Below.refl _ _).alloc (Nat.le_refl _) _⟩
      · go_upto_region 12 with (fail)
        obtain ⟨T, hT⟩ : ∃ T, T = s.extract (a + 1) k := ⟨_, rfl⟩
        rw [← hT]
        have hsz : T.size = k - (a + 1) := by rw [hT, ByteArray.size_extract]; omega
        have HT := Lib.hid hT
        have hle : T.size ≤ 4294967280 := by omega
        cases hL : hasL s a k
        case false =>
          have HV : Hid (Ending.returned (.tuple #[spZ, .bool false]) = .returned (tokV (tokT s a))) := by show _ = _; rw [tokT_no L.out (fun g => by have := g.1; simp [hasL] at hL; omega)]; rfl
          clear hT hsz
          go_wp2_with fail
          refine bodyPost_ret (v := .tuple #[spZ, .bool false]) (by simp [results, Tryz.results298, go_sem, spZ]) rfl ⟨HV.out, (Below.refl _ _).alloc (Nat.le_refl _) _⟩
        have hLk : upto letB s (a + 1) < k := by simpa [hasL] using hL
        have hlow := upto_ge letB s (a + 1)
        have hp : 0 < T.size := by omega
        by_cases e2 : k ≤ a + 101
        case neg =>
          have HV : Hid (Ending.returned (.tuple #[spZ, .bool false]) = .returned (tokV (tokT s a))) := by show _ = _; rw [tokT_no L.out (fun g => e2 g.2.1)]; rfl
          have e2' : (100 : Int) < (T.size : Int) := by omega
          clear e2 hT hsz hLk hlow
          go_wp2_with fail
          refine bodyPost_ret (v := .tuple #[spZ, .bool false]) (by simp [results, Tryz.results298, go_sem, spZ]) rfl ⟨HV.out, (Below.refl _ _).alloc (Nat.le_refl _) _⟩
        have e2' : (T.size : Int) ≤ 100 := by omega
        have hb0 : bt s (a + 1) = (T[0].toNat : Int) := by have := bt_ext s (a + 1) k 0 L.out.es (by omega); rw [← bt_at hp, hT, this]
        have hl : T.size - 1 < T.size := by omega
        have hb1 : bt s (k - 1) = (T[T.size - 1].toNat : Int) := by have := bt_ext s (a + 1) k (k - 1 - (a + 1)) L.out.es (by omega); rw [← bt_at hl, hsz, hT, show k - (a + 1) - 1 = k - 1 - (a + 1) by omega, this]; congr 1; omega
        have ip : (0 : Int) ≤ (T.size : Int) - 1 := by omega
        cases e3 : ((T[0].toNat : Int) == 47)
        case true =>
          have HV : Hid (Ending.returned (.tuple #[spZ, .bool false]) = .returned (tokV (tokT s a))) := by show _ = _; rw [tokT_no L.out (fun g => g.2.2.1 (by rw [hb0]; simpa using e3))]; rfl
          clear hb0 hb1 e2 hT hsz hLk hlow
          go_wp2_with fail
          refine bodyPost_ret (v := .tuple #[spZ, .bool false]) (by simp [results, Tryz.results298, go_sem, spZ]) rfl ⟨HV.out, (Below.refl _ _).alloc (Nat.le_refl _) _⟩
        cases e4 : ((T[T.size - 1].toNat : Int) == 47)
        case true =>
          have HV : Hid (Ending.returned (.tuple #[spZ, .bool false]) = .returned (tokV (tokT s a))) := by show _ = _; rw [tokT_no L.out (fun g => g.2.2.2 (by rw [hb1]; simpa using e4))]; rfl
          clear hb0 hb1 e2 hT hsz hLk hlow
          go_wp2_with fail
          refine bodyPost_ret (v := .tuple #[spZ, .bool false]) (by simp [results, Tryz.results298, go_sem, spZ]) rfl ⟨HV.out, (Below.refl _ _).alloc (Nat.le_refl _) _⟩
        have HV : Hid (Ending.returned (.tuple #[.agg #[.int .i64 6, .int .i64 a, .int .i64 k, .string T, .string ⟨#[]⟩, .int .i64 0, .bool false], .bool true]) = .returned (tokV (tokT s a))) := by show _ = _; rw [tokT_yes L.out ⟨hLk, e2, by rw [hb0]; simpa using e3, by rw [hb1]; simpa using e4⟩, ← HT.out]; rfl
        clear hb0 hb1 e2 hT hsz hLk hlow
        go_wp2_with fail
        refine bodyPost_ret (v := (.tuple #[.agg #[.int .i64 6, .int .i64 a, .int .i64 k, .string T, .string ⟨#[]⟩, .int .i64 0, .bool false], .bool true])) (by simp [results, Tryz.results298, go_sem]) rfl ⟨HV.out, (Below.refl _ _).alloc (Nat.le_refl _) _⟩

set_option maxHeartbeats 4000000 in
set_option maxRecDepth 100000 in
theorem tagAt_barred (s : ByteArray) (a : Nat) (w : World) (hs : s.size ≤ 4294967280) (ha : a < s.size) (h : bt s a = 35) (h0 : a ≠ 0) (h1 : preT (bt s (a - 1)) = false) :
    Calls Tryz.prog 298 #[.string s, .int .i64 a] w fun e w' => e = .returned (tokV (tokT s a)) ∧ Below w.heap.size w w' := by
  have hi0 : (0 : Int) ≤ (a : Int) := by omega
  have hi1 : (a : Int) < (s.size : Int) := by omega
  have g1 : ((s[a].toNat : Int) != 35) = false := by rw [bt_at ha] at h; simpa using h
  have hq : a - 1 < s.size := by omega
  have hp0 : (0 : Int) ≤ (s[a - 1].toNat : Int) := by omega
  have hp1 : (s[a - 1].toNat : Int) ≤ 255 := by have := (s[a - 1]).toNat_lt; omega
  have h0' : (0 : Int) < (a : Int) := by omega
  have i0 : (0 : Int) ≤ (a : Int) - 1 := by omega
  have hbq := bt_at hq
  have HB := Lib.hid h
  have H0 := Lib.hid h0
  have HV : Hid (Ending.returned (.tuple #[spZ, .bool false]) = .returned (tokV (tokT s a))) := by show _ = _; rw [tokT_pre h0 h1]; rfl
  have hcs : letB (s[a - 1].toNat : Int) = true ∨ (letB (s[a - 1].toNat : Int) = false ∧ digB (s[a - 1].toNat : Int) = true) ∨ (letB (s[a - 1].toNat : Int) = false ∧ digB (s[a - 1].toNat : Int) = false ∧ ((s[a - 1].toNat : Int) == 35) = true) ∨
      (letB (s[a - 1].toNat : Int) = false ∧ digB (s[a - 1].toNat : Int) = false ∧ ((s[a - 1].toNat : Int) == 35) = false ∧ ((s[a - 1].toNat : Int) == 38) = true) := by
    rw [hbq] at h1
    unfold preT at h1
    cases g1 : letB (s[a - 1].toNat : Int) <;> cases g2 : digB (s[a - 1].toNat : Int) <;> cases g3 : ((s[a - 1].toNat : Int) == 35) <;> cases g4 : ((s[a - 1].toNat : Int) == 38) <;> simp_all
  clear h h0 h1 hbq HB H0
  rcases hcs with c1 | ⟨c1, c2⟩ | ⟨c1, c2, c3⟩ | ⟨c1, c2, c3, c4⟩
  · go_enter Tryz.func298, Tryz.ntmps298
    go_wp2_with fail
    refine (isLetter_any _ _ hp0 hp1).mono ?_
    rintro e w1 ⟨rfl, hw⟩
    rw [c1, ← hw]
    clear hw
    go_wp2_with fail
    refine bodyPost_ret (v := .tuple #[spZ, .bool false]) (by simp [results, Tryz.results298, go_sem, spZ]) rfl ⟨HV.out, (Below.refl _ _).alloc (Nat.le_refl _) _⟩
  · go_enter Tryz.func298, Tryz.ntmps298
    go_wp2_with fail
    refine (isLetter_any _ _ hp0 hp1).mono ?_
    rintro e w1 ⟨rfl, hw⟩
    rw [c1, ← hw]
    clear hw
    go_wp2_with fail
    refine (isDigit_any _ _ hp0 hp1).mono ?_
    rintro e w1 ⟨rfl, hw⟩
    rw [c2, ← hw]
    clear hw
    go_wp2_with fail
    refine bodyPost_ret (v := .tuple #[spZ, .bool false]) (by simp [results, Tryz.results298, go_sem, spZ]) rfl ⟨HV.out, (Below.refl _ _).alloc (Nat.le_refl _) _⟩
  · go_enter Tryz.func298, Tryz.ntmps298
    go_wp2_with fail
    refine (isLetter_any _ _ hp0 hp1).mono ?_
    rintro e w1 ⟨rfl, hw⟩
    rw [c1, ← hw]
    clear hw
    go_wp2_with fail
    refine (isDigit_any _ _ hp0 hp1).mono ?_
    rintro e w1 ⟨rfl, hw⟩
    rw [c2, ← hw]
    clear hw
    go_wp2_with fail
    refine bodyPost_ret (v := .tuple #[spZ, .bool false]) (by simp [results, Tryz.results298, go_sem, spZ]) rfl ⟨HV.out, (Below.refl _ _).alloc (Nat.le_refl _) _⟩
  · go_enter Tryz.func298, Tryz.ntmps298
    go_wp2_with fail
    refine (isLetter_any _ _ hp0 hp1).mono ?_
    rintro e w1 ⟨rfl, hw⟩
    rw [c1, ← hw]
    clear hw
    go_wp2_with fail
    refine (isDigit_any _ _ hp0 hp1).mono ?_
    rintro e w1 ⟨rfl, hw⟩
    rw [c2, ← hw]
    clear hw
    go_wp2_with fail
    refine bodyPost_ret (v := .tuple #[spZ, .bool false]) (by simp [results, Tryz.results298, go_sem, spZ]) rfl ⟨HV.out, (Below.refl _ _).alloc (Nat.le_refl _) _⟩

theorem tagAt_any (s : ByteArray) (a : Nat) (w : World) (hs : s.size ≤ 4294967280) (ha : a < s.size) :
    Calls Tryz.prog 298 #[.string s, .int .i64 a] w fun e w' => e = .returned (tokV (tokT s a)) ∧ Below w.heap.size w w' := by
  by_cases h : bt s a = 35
  · by_cases h0 : a = 0
    · exact tagAt_first s a w hs ha h h0
    · cases h1 : preT (bt s (a - 1))
      · exact tagAt_barred s a w hs ha h h0 h1
      · exact tagAt_behind s a w hs ha h h0 h1
  · exact tagAt_other s a w hs ha h
end Go.Proofs.YtnlonleljbbgoaaGreatDoor
