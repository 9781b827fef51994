/-
  DERIVED. The walks of florref1.controls and IsTarget. Conditions: a length in reach. By an AI agent.
-/
import Derived.Test.YtcbmddgafkoooaaDoorIndexAnyG
namespace Go.Proofs.YtcbmddgafkoooaaDoor
open Go.RowKit

def lowB (n : Int) : Bool := decide (n < 32)
def badS : ByteArray := ⟨#[91, 93, 124, 96]⟩
theorem badS_asc : Asc badS := by
  intro i h
  have : i < 4 := h
  match i, this with
  | 0, _ => exact (by decide : (91 : UInt8).toNat < 128)
  | 1, _ => exact (by decide : (93 : UInt8).toNat < 128)
  | 2, _ => exact (by decide : (124 : UInt8).toNat < 128)
  | 3, _ => exact (by decide : (96 : UInt8).toNat < 128)
set_option maxHeartbeats 1000000 in
theorem controls_any (s : ByteArray) (w : World) (hs : s.size ≤ 4294967280) :
    Calls Tryd.prog 54 #[.string s] w fun e w' => e = .returned (.bool (decide (upto lowB s 0 < s.size))) ∧ w = w' := by
  go_enter Tryd.func54, Tryd.ntmps54
  go_wp2
  go_loop [3] (fun i => ∃ k : Nat, k ≤ s.size ∧ i = .int .i64 k ∧ Hid (upto lowB s k = upto lowB s 0)) (fun i => s.size - (intOf i).toNat)
  case atStart => exact ⟨0, Nat.zero_le _, rfl, rfl⟩
  case round =>
    obtain ⟨k, hk, rfl, hu⟩ := hrel
    by_cases hlt : k < s.size
    · have i0 : (0 : Int) ≤ (k : Int) := by omega
      have i1 : (k : Int) < (s.size : Int) := by omega
      have hb := bt_at hlt
      cases hq : decide ((s[k].toNat : Int) < 32)
      · have HU : Hid (upto lowB s (k + 1) = upto lowB s 0) := (upto_go hlt (by rw [hb]; exact hq)).symm.trans hu.out
        clear hb
        go_wp2
        go_round
        case rel => exact ⟨k + 1, by omega, by go_num, HU⟩
        case measure => simp [intOf]; omega
      · have HV : Hid (true = decide (upto lowB s 0 < s.size)) := by
          show _ = _
          rw [← hu.out, upto_stop (by rw [hb]; exact hq)]
          simp [hlt]
        clear hb
        go_wp2
        go_ret
        exact ⟨ret_boolS HV.out, rfl⟩
    · obtain rfl : k = s.size := by omega
      have HV : Hid (false = decide (upto lowB s 0 < s.size)) := by
        show _ = _
        rw [← hu.out, upto_out (Nat.le_refl _)]
        simp
      go_wp2
      go_ret
      exact ⟨ret_boolS HV.out, rfl⟩

theorem isTgt_split {t : ByteArray} (h0 : 0 < t.size) (h1 : t.size ≤ 100) (h2 : (bt t 0 == 32) = false) (h3 : (bt t (t.size - 1) == 32) = false) :
    isTgt t = (!(decide (upto (isAny badS.data.toList) t 0 < t.size)) && !(decide (upto lowB t 0 < t.size))) := by
  unfold isTgt
  rw [h2, h3]
  simp only [h0, h1, decide_true, Bool.true_and, Bool.not_false]
  have e1 := upto_ge (notB tgtB) t 0
  have key : ∀ n : Int, notB tgtB n = (isAny badS.data.toList n || lowB n) := by
    intro n
    unfold notB isAny badS lowB tgtB
    rw [Bool.eq_iff_iff]
    simp
    omega
  by_cases ha : upto (isAny badS.data.toList) t 0 < t.size
  · have := upto_at ha
    have hn : ¬ upto (notB tgtB) t 0 = t.size := fun e => by
      have := upto_mid (stop := notB tgtB) (s := t) (i := 0) (j := upto (isAny badS.data.toList) t 0) (Nat.zero_le _) (by omega)
      rw [key] at this
      simp at this
      rw [upto_at ha] at this
      cases this.1
    simp [ha, hn]
  · by_cases hb : upto lowB t 0 < t.size
    · have hn : ¬ upto (notB tgtB) t 0 = t.size := fun e => by
        have := upto_mid (stop := notB tgtB) (s := t) (i := 0) (j := upto lowB t 0) (Nat.zero_le _) (by omega)
        rw [key] at this
        simp at this
        rw [upto_at hb] at this
        cases this.2
      simp [hb, hn]
    · have : upto (notB tgtB) t 0 = t.size := upto_eq (Nat.zero_le _) (Nat.le_refl _) (fun j hj hj' => by
        rw [key, upto_mid (stop := isAny badS.data.toList) (i := 0) hj (by omega), upto_mid (stop := lowB) (i := 0) hj (by omega)]; rfl) (.inl rfl)
      simp [ha, hb, this]

set_option maxHeartbeats 2000000 in
theorem rIsTarget_any (t : ByteArray) (w : World) (hs : t.size ≤ 4294967280) :
    Calls Tryd.prog 26 #[.string t] w fun e w' => e = .returned (.bool (isTgt t)) ∧ Below w.heap.size w w' := by
  by_cases c0 : t.size = 0
  · have HV : Hid (false = isTgt t) := by show _ = _; unfold isTgt; simp [c0]
    have g0 : decide ((1 : Int) ≤ (t.size : Int)) = false := by simp; omega
    clear c0
    go_enter Tryd.func26, Tryd.ntmps26
    go_wp2_with fail
    go_ret
    exact ⟨ret_boolS HV.out, Below.refl _ _⟩
  have hp : 0 < t.size := by omega
  have g0 : decide ((1 : Int) ≤ (t.size : Int)) = true := by simp; omega
  clear c0
  by_cases c1 : t.size ≤ 100
  · have g1 : decide ((t.size : Int) ≤ 100) = true := by simp; omega
    have hlast : t.size - 1 < t.size := by omega
    have i1 : (0 : Int) ≤ (t.size : Int) - 1 := by omega
    have i2 : (t.size : Int) ≤ 100 := by omega
    have b0 := bt_at hp
    have b1 := bt_at hlast
    cases c2 : decide (upto (isAny badS.data.toList) t 0 < t.size)
    · cases c3 : ((t[0].toNat : Int) == 32)
      · cases c4 : ((t[t.size - 1].toNat : Int) == 32)
        · have hsp := isTgt_split hp c1 (by rw [b0]; exact c3) (by rw [b1]; exact c4)
          rw [c2] at hsp
          have HV : Hid ((!(decide (upto lowB t 0 < t.size))) = isTgt t) := by show _ = _; rw [hsp]; rfl
          have d3 : ((t[0].toNat : Int) != 32) = true := by simpa using c3
          have d4 : ((t[t.size - 1].toNat : Int) != 32) = true := by simpa using c4
          clear b0 b1 hsp c3 c4
          go_enter Tryd.func26, Tryd.ntmps26
          go_wp2_with fail
          refine (containsAny_asc badS badS_asc (by decide) (by decide) t _ hs).mono ?_
          rintro e w1 ⟨rfl, hb⟩
          rw [c2]
          have HB := Lib.hid hb
          clear hb c2
          go_wp2_with fail
          refine (controls_any t _ hs).mono ?_
          rintro e w2 ⟨rfl, hw⟩
          rw [← hw]
          clear hw
          obtain ⟨v, hv⟩ : ∃ v, v = decide (upto lowB t 0 < t.size) := ⟨_, rfl⟩
          rw [← hv] at HV ⊢
          clear hv
          go_wp2_with fail
          go_ret
          exact ⟨ret_boolS HV.out, HB.out⟩
        · have HV : Hid (false = isTgt t) := by show _ = _; unfold isTgt; rw [b1, c4]; simp
          have d3 : ((t[0].toNat : Int) != 32) = true := by simpa using c3
          have d4 : ((t[t.size - 1].toNat : Int) != 32) = false := by simpa using c4
          clear b0 b1 c3 c4
          go_enter Tryd.func26, Tryd.ntmps26
          go_wp2_with fail
          refine (containsAny_asc badS badS_asc (by decide) (by decide) t _ hs).mono ?_
          rintro e w1 ⟨rfl, hb⟩
          rw [c2]
          have HB := Lib.hid hb
          clear hb c2
          go_wp2_with fail
          go_ret
          exact ⟨ret_boolS HV.out, HB.out⟩
      · have HV : Hid (false = isTgt t) := by show _ = _; unfold isTgt; rw [b0, c3]; simp
        have d3 : ((t[0].toNat : Int) != 32) = false := by simpa using c3
        clear b0 b1 c3
        go_enter Tryd.func26, Tryd.ntmps26
        go_wp2_with fail
        refine (containsAny_asc badS badS_asc (by decide) (by decide) t _ hs).mono ?_
        rintro e w1 ⟨rfl, hb⟩
        rw [c2]
        have HB := Lib.hid hb
        clear hb c2
        go_wp2_with fail
        go_ret
        exact ⟨ret_boolS HV.out, HB.out⟩
    · have HV : Hid (false = isTgt t) := by
        show _ = _
        cases c3 : (bt t 0 == 32)
        · cases c4 : (bt t (t.size - 1) == 32)
          · rw [isTgt_split hp c1 c3 c4, c2]; rfl
          · unfold isTgt; rw [c4]; simp
        · unfold isTgt; rw [c3]; simp
      clear b0 b1
      go_enter Tryd.func26, Tryd.ntmps26
      go_wp2_with fail
      refine (containsAny_asc badS badS_asc (by decide) (by decide) t _ hs).mono ?_
      rintro e w1 ⟨rfl, hb⟩
      rw [c2]
      have HB := Lib.hid hb
      clear hb c2
      go_wp2_with fail
      go_ret
      exact ⟨ret_boolS HV.out, HB.out⟩
  · have HV : Hid (false = isTgt t) := by show _ = _; unfold isTgt; simp [c1]
    have g1 : decide ((t.size : Int) ≤ 100) = false := by simp; omega
    clear c1
    go_enter Tryd.func26, Tryd.ntmps26
    go_wp2_with fail
    go_ret
    exact ⟨ret_boolS HV.out, Below.refl _ _⟩
end Go.Proofs.YtcbmddgafkoooaaDoor
