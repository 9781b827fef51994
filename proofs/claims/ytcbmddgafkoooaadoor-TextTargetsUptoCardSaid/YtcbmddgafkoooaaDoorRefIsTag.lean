/-
  DERIVED. The walk of florref1.IsTag, of a text of bytes of a tag. Conditions: a length in reach. By an AI agent.
-/
import Derived.Test.YtcbmddgafkoooaaDoorTagAt
namespace Go.Proofs.YtcbmddgafkoooaaDoor
open Go.RowKit

/-- is there a letter ahead of place k? -/
def letTo (s : ByteArray) (k : Nat) : Bool := decide (upto letB s 0 < k)
theorem letTo_step {s : ByteArray} {k : Nat} (hk : k < s.size) : letTo s (k + 1) = (letTo s k || letB (bt s k)) := by
  unfold letTo
  by_cases h : upto letB s 0 < k
  · simp [h]; omega
  · cases hb : letB (bt s k)
    · have : upto letB s 0 ≠ k := fun e => by have := upto_at (stop := letB) (s := s) (i := 0) (by omega); rw [e, hb] at this; cases this
      simp [h]; omega
    · have : upto letB s 0 ≤ k := by
        rcases Nat.lt_or_ge k (upto letB s 0) with g | g
        · have := upto_mid (stop := letB) (i := 0) (Nat.zero_le _) g; rw [hb] at this; cases this
        · exact g
      simp; omega
def isTagB (s : ByteArray) : Bool := letTo s s.size && decide (s.size ≤ 100) && !(bt s 0 == 47) && !(bt s (s.size - 1) == 47)

theorem isTagB_eq (s : ByteArray) {a b : Int} (h0 : bt s 0 = a) (h1 : bt s (s.size - 1) = b) : isTagB s = (letTo s s.size && decide ((s.size : Int) ≤ 100) && (a != 47) && (b != 47)) := by
  unfold isTagB
  rw [h0, h1]
  have : decide (s.size ≤ 100) = decide ((s.size : Int) ≤ 100) := by simp only [decide_eq_decide]; omega
  rw [this]
  rfl

set_option maxHeartbeats 4000000 in
set_option maxRecDepth 100000 in
theorem rIsTag_any (s : ByteArray) (w : World) (hs : s.size ≤ 4294967280) (h0 : 0 < s.size) (hall : ∀ i, i < s.size → tagB (bt s i) = true) :
    Calls Tryd.prog 80 #[.string s] w fun e w' => e = .returned (.bool (isTagB s)) ∧ w = w' := by
  have HA := Lib.hid hall
  clear hall
  go_enter Tryd.func80, Tryd.ntmps80
  go_wp2
  go_loop [3, 4] (fun b i => ∃ k : Nat, k ≤ s.size ∧ i = .int .i64 k ∧ b = .bool (letTo s k)) (fun _ i => s.size - (intOf i).toNat)
  case atStart => exact ⟨0, Nat.zero_le _, rfl, by unfold letTo; simp⟩
  case round =>
    obtain ⟨k, hk, rfl, rfl⟩ := hrel
    by_cases hlt : k < s.size
    · have i0 : (0 : Int) ≤ (k : Int) := by omega
      have i1 : (k : Int) < (s.size : Int) := by omega
      have ht := HA.out k hlt
      have hst := letTo_step hlt
      rw [bt_at hlt] at ht hst
      have c0 : (0 : Int) ≤ (s[k].toNat : Int) := by omega
      have c1 : (s[k].toNat : Int) ≤ 255 := by have := (s[k]).toNat_lt; omega
      obtain ⟨c, hc⟩ : ∃ c : Int, c = (s[k].toNat : Int) := ⟨_, rfl⟩
      have HC := Lib.hid hc
      rw [← hc] at ht hst c0 c1
      rw [tagB_split] at ht
      obtain ⟨b, hb⟩ : ∃ b, b = letTo s k := ⟨_, rfl⟩
      rw [← hb] at hst ⊢
      obtain ⟨b', hb'⟩ : ∃ b', b' = letTo s (k + 1) := ⟨_, rfl⟩
      rw [← hb'] at hst
      have HB' := Lib.hid hb'
      have hcc : (s[k].toNat : Int) = c := hc.symm
      clear hb hb' hc
      cases hl : letB c
      · rw [hl] at ht hst
        cases hd : digB c
        · rw [hd] at ht
          have hw3 : c = 95 ∨ c = 45 ∨ c = 47 := by simpa [or_assoc] using ht
          have n1 : (c != 95) = !(c == 95) := rfl
          rcases hw3 with e3 | e3 | e3
          · have q1 : (c != 95) = false := by rw [e3]; rfl
            have q2 : (c != 45) = true := by rw [e3]; rfl
            have q3 : (c != 47) = true := by rw [e3]; rfl
            clear e3 n1
            have HH := Lib.hid hst
            clear hst ht
            cases b
            · skip
              go_wp2_with fail
              refine (rLetter_any _ _ c0 c1).mono ?_
              rintro e w1 ⟨rfl, hw⟩
              rw [hl, ← hw]
              clear hw
              go_wp2_with fail
              refine (rDigit_any _ _ c0 c1).mono ?_
              rintro e w1 ⟨rfl, hw⟩
              rw [hd, ← hw]
              clear hw
              go_wp2_with fail
              refine (rLetter_any _ _ c0 c1).mono ?_
              rintro e w1 ⟨rfl, hw⟩
              rw [hl, ← hw]
              clear hw
              go_wp2_with fail
              go_round
              case rel => exact ⟨k + 1, by omega, by go_num, by rw [← HB'.out, HH.out]; rfl⟩
              case measure => simp [intOf]; omega
            · skip
              go_wp2_with fail
              refine (rLetter_any _ _ c0 c1).mono ?_
              rintro e w1 ⟨rfl, hw⟩
              rw [hl, ← hw]
              clear hw
              go_wp2_with fail
              refine (rDigit_any _ _ c0 c1).mono ?_
              rintro e w1 ⟨rfl, hw⟩
              rw [hd, ← hw]
              clear hw
              go_wp2_with fail
              go_round
              case rel => exact ⟨k + 1, by omega, by go_num, by rw [← HB'.out, HH.out]; rfl⟩
              case measure => simp [intOf]; omega
          · have q1 : (c != 95) = true := by rw [e3]; rfl
            have q2 : (c != 45) = false := by rw [e3]; rfl
            have q3 : (c != 47) = true := by rw [e3]; rfl
            clear e3 n1
            have HH := Lib.hid hst
            clear hst ht
            cases b
            · skip
              go_wp2_with fail
              refine (rLetter_any _ _ c0 c1).mono ?_
              rintro e w1 ⟨rfl, hw⟩
              rw [hl, ← hw]
              clear hw
              go_wp2_with fail
              refine (rDigit_any _ _ c0 c1).mono ?_
              rintro e w1 ⟨rfl, hw⟩
              rw [hd, ← hw]
              clear hw
              go_wp2_with fail
              refine (rLetter_any _ _ c0 c1).mono ?_
              rintro e w1 ⟨rfl, hw⟩
              rw [hl, ← hw]
              clear hw
              go_wp2_with fail
              go_round
              case rel => exact ⟨k + 1, by omega, by go_num, by rw [← HB'.out, HH.out]; rfl⟩
              case measure => simp [intOf]; omega
            · skip
              go_wp2_with fail
              refine (rLetter_any _ _ c0 c1).mono ?_
              rintro e w1 ⟨rfl, hw⟩
              rw [hl, ← hw]
              clear hw
              go_wp2_with fail
              refine (rDigit_any _ _ c0 c1).mono ?_
              rintro e w1 ⟨rfl, hw⟩
              rw [hd, ← hw]
              clear hw
              go_wp2_with fail
              go_round
              case rel => exact ⟨k + 1, by omega, by go_num, by rw [← HB'.out, HH.out]; rfl⟩
              case measure => simp [intOf]; omega
          · have q1 : (c != 95) = true := by rw [e3]; rfl
            have q2 : (c != 45) = true := by rw [e3]; rfl
            have q3 : (c != 47) = false := by rw [e3]; rfl
            clear e3 n1
            have HH := Lib.hid hst
            clear hst ht
            cases b
            · skip
              go_wp2_with fail
              refine (rLetter_any _ _ c0 c1).mono ?_
              rintro e w1 ⟨rfl, hw⟩
              rw [hl, ← hw]
              clear hw
              go_wp2_with fail
              refine (rDigit_any _ _ c0 c1).mono ?_
              rintro e w1 ⟨rfl, hw⟩
              rw [hd, ← hw]
              clear hw
              go_wp2_with fail
              refine (rLetter_any _ _ c0 c1).mono ?_
              rintro e w1 ⟨rfl, hw⟩
              rw [hl, ← hw]
              clear hw
              go_wp2_with fail
              go_round
              case rel => exact ⟨k + 1, by omega, by go_num, by rw [← HB'.out, HH.out]; rfl⟩
              case measure => simp [intOf]; omega
            · skip
              go_wp2_with fail
              refine (rLetter_any _ _ c0 c1).mono ?_
              rintro e w1 ⟨rfl, hw⟩
              rw [hl, ← hw]
              clear hw
              go_wp2_with fail
              refine (rDigit_any _ _ c0 c1).mono ?_
              rintro e w1 ⟨rfl, hw⟩
              rw [hd, ← hw]
              clear hw
              go_wp2_with fail
              go_round
              case rel => exact ⟨k + 1, by omega, by go_num, by rw [← HB'.out, HH.out]; rfl⟩
              case measure => simp [intOf]; omega
        · skip
          have HH := Lib.hid hst
          clear hst ht
          cases b
          · skip
            go_wp2_with fail
            refine (rLetter_any _ _ c0 c1).mono ?_
            rintro e w1 ⟨rfl, hw⟩
            rw [hl, ← hw]
            clear hw
            go_wp2_with fail
            refine (rDigit_any _ _ c0 c1).mono ?_
            rintro e w1 ⟨rfl, hw⟩
            rw [hd, ← hw]
            clear hw
            go_wp2_with fail
            refine (rLetter_any _ _ c0 c1).mono ?_
            rintro e w1 ⟨rfl, hw⟩
            rw [hl, ← hw]
            clear hw
            go_wp2_with fail
            go_round
            case rel => exact ⟨k + 1, by omega, by go_num, by rw [← HB'.out, HH.out]; rfl⟩
            case measure => simp [intOf]; omega
          · skip
            go_wp2_with fail
            refine (rLetter_any _ _ c0 c1).mono ?_
            rintro e w1 ⟨rfl, hw⟩
            rw [hl, ← hw]
            clear hw
            go_wp2_with fail
            refine (rDigit_any _ _ c0 c1).mono ?_
            rintro e w1 ⟨rfl, hw⟩
            rw [hd, ← hw]
            clear hw
            go_wp2_with fail
            go_round
            case rel => exact ⟨k + 1, by omega, by go_num, by rw [← HB'.out, HH.out]; rfl⟩
            case measure => simp [intOf]; omega
      · rw [hl] at hst
        have HH := Lib.hid hst
        clear hst ht
        cases b
        · skip
          go_wp2_with fail
          refine (rLetter_any _ _ c0 c1).mono ?_
          rintro e w1 ⟨rfl, hw⟩
          rw [hl, ← hw]
          clear hw
          go_wp2_with fail
          refine (rLetter_any _ _ c0 c1).mono ?_
          rintro e w1 ⟨rfl, hw⟩
          rw [hl, ← hw]
          clear hw
          go_wp2_with fail
          go_round
          case rel => exact ⟨k + 1, by omega, by go_num, by rw [← HB'.out, HH.out]; rfl⟩
          case measure => simp [intOf]; omega
        · skip
          go_wp2_with fail
          refine (rLetter_any _ _ c0 c1).mono ?_
          rintro e w1 ⟨rfl, hw⟩
          rw [hl, ← hw]
          clear hw
          go_wp2_with fail
          go_round
          case rel => exact ⟨k + 1, by omega, by go_num, by rw [← HB'.out, HH.out]; rfl⟩
          case measure => simp [intOf]; omega
    · obtain rfl : k = s.size := by omega
      have hlast : s.size - 1 < s.size := by omega
      have i1 : (0 : Int) ≤ (s.size : Int) - 1 := by omega
      have b0 := bt_at h0
      have b1 := bt_at hlast
      have HV := isTagB_eq s b0 b1
      obtain ⟨b, hb⟩ : ∃ b, b = letTo s s.size := ⟨_, rfl⟩
      rw [← hb] at HV ⊢
      have HV1 := Lib.hid HV
      clear hb b0 b1 HV
      cases b
      · have HV2 : Hid (false = isTagB s) := by show _ = _; rw [HV1.out]; rfl
        go_wp2_with fail
        go_ret
        exact ⟨ret_boolS HV2.out, rfl⟩
      · cases d1 : decide ((s.size : Int) ≤ 100)
        · have HV2 : Hid (false = isTagB s) := by show _ = _; rw [HV1.out, d1]; rfl
          go_wp2_with fail
          go_ret
          exact ⟨ret_boolS HV2.out, rfl⟩
        · cases d2 : ((s[0].toNat : Int) != 47)
          · have HV2 : Hid (false = isTagB s) := by show _ = _; rw [HV1.out, d1, d2]; rfl
            go_wp2_with fail
            go_ret
            exact ⟨ret_boolS HV2.out, rfl⟩
          · have HV2 : Hid (((s[s.size - 1].toNat : Int) != 47) = isTagB s) := by show _ = _; rw [HV1.out, d1, d2]; rfl
            go_wp2_with fail
            go_ret
            exact ⟨ret_boolS HV2.out, rfl⟩
end Go.Proofs.YtcbmddgafkoooaaDoor
