/-
  DERIVED. The walk of text.isTarget. Conditions: a length in reach. By an AI agent.
-/
import Derived.Test.YtcbmddgafkoooaaDoorSortsWalk
import Derived.Test.YtcbmddgafkoooaaDoorTokMath
import Derived.WalkSpells
namespace Go.Proofs.YtcbmddgafkoooaaDoor
open Go.RowKit

theorem empty_of {t : ByteArray} (h : t.size = 0) : t = ⟨#[]⟩ := by
  obtain ⟨⟨l⟩⟩ := t
  have : l.length = 0 := h
  rw [List.length_eq_zero_iff.1 this]
theorem notEmpty_of {t : ByteArray} (h : 0 < t.size) : t.toList.isEmpty = false := by
  rw [ByteArray.toList_eq]
  obtain ⟨⟨l⟩⟩ := t
  cases l with
  | nil => cases h
  | cons a l => rfl

set_option maxHeartbeats 2000000 in
theorem isTarget_any (t : ByteArray) (w : World) (hs : t.size ≤ 4294967280) :
    Calls Tryd.prog 32 #[.string t] w fun e w' => e = .returned (.bool (isTgt t)) ∧ w = w' := by
  by_cases c0 : t.size = 0
  · have HV : Hid (false = isTgt t) := by show _ = _; unfold isTgt; simp [c0]
    obtain rfl := empty_of c0
    clear c0
    go_enter Tryd.func32, Tryd.ntmps32
    go_wp2
    go_ret
    exact ⟨ret_boolS HV.out, rfl⟩
  have hp : 0 < t.size := by omega
  have hne := notEmpty_of hp
  clear c0
  by_cases c1 : t.size ≤ 100
  · have hlast : t.size - 1 < t.size := by omega
    have i1 : (0 : Int) ≤ (t.size : Int) - 1 := by omega
    have b0 := bt_at hp
    have b1 := bt_at hlast
    cases c2 : ((t[0].toNat : Int) == 32)
    · cases c3 : ((t[t.size - 1].toNat : Int) == 32)
      · have HP : Hid (isTgt t = decide (upto (notB tgtB) t 0 = t.size)) := by
          show _ = _
          unfold isTgt
          rw [b0, b1, c2, c3]
          simp [hp, c1]
        clear b0 b1
        go_enter Tryd.func32, Tryd.ntmps32
        go_wp2
        go_loop [26] (fun i => ∃ k : Nat, k ≤ t.size ∧ i = .int .i64 k ∧ Hid (upto (notB tgtB) t k = upto (notB tgtB) t 0)) (fun i => t.size - (intOf i).toNat)
        case atStart => exact ⟨0, Nat.zero_le _, rfl, rfl⟩
        case round =>
          obtain ⟨k, hk, rfl, hu⟩ := hrel
          by_cases hlt : k < t.size
          · have hb := bt_at hlt
            have hc0 : (0 : Int) ≤ (t[k].toNat : Int) := by omega
            have hc1 : (t[k].toNat : Int) ≤ 255 := by have := (t[k]).toNat_lt; omega
            cases c4 : tgtB (t[k].toNat : Int)
            · have HV : Hid (false = isTgt t) := by
                show _ = _
                rw [HP.out, ← hu.out, upto_stop (by rw [hb]; unfold notB; rw [c4]; rfl)]
                simp; omega
              clear hb
              go_wp2_with fail
              refine (inTarget_any _ _ hc0 hc1).mono ?_
              rintro e w1 ⟨rfl, rfl⟩
              rw [c4]
              go_wp2
              go_ret
              exact ⟨ret_boolS HV.out, rfl⟩
            · have HU : Hid (upto (notB tgtB) t (k + 1) = upto (notB tgtB) t 0) := (upto_go hlt (by rw [hb]; unfold notB; rw [c4]; rfl)).symm.trans hu.out
              clear hb
              go_wp2_with fail
              refine (inTarget_any _ _ hc0 hc1).mono ?_
              rintro e w1 ⟨rfl, rfl⟩
              rw [c4]
              go_wp2
              go_round
              case rel => exact ⟨k + 1, by omega, by go_num, HU⟩
              case measure => simp [intOf]; omega
          · obtain rfl : k = t.size := by omega
            have HV : Hid (true = isTgt t) := by
              show _ = _
              rw [HP.out, ← hu.out, upto_out (Nat.le_refl _)]
              simp
            go_wp2
            go_ret
            exact ⟨ret_boolS HV.out, rfl⟩
      · have HV : Hid (false = isTgt t) := by show _ = _; unfold isTgt; rw [b0, b1, c2, c3]; simp
        clear b0 b1
        go_enter Tryd.func32, Tryd.ntmps32
        go_wp2
        go_ret
        exact ⟨ret_boolS HV.out, rfl⟩
    · have HV : Hid (false = isTgt t) := by show _ = _; unfold isTgt; rw [b0, c2]; simp
      clear b0 b1
      go_enter Tryd.func32, Tryd.ntmps32
      go_wp2
      go_ret
      exact ⟨ret_boolS HV.out, rfl⟩
  · have HV : Hid (false = isTgt t) := by show _ = _; unfold isTgt; simp [c1]
    have c1' : (100 : Int) < (t.size : Int) := by omega
    clear c1
    go_enter Tryd.func32, Tryd.ntmps32
    go_wp2
    go_ret
    exact ⟨ret_boolS HV.out, rfl⟩
end Go.Proofs.YtcbmddgafkoooaaDoor
