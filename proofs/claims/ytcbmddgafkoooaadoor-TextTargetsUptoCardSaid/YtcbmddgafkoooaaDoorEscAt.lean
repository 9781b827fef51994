/-
  DERIVED. The walk of text.escapeAt. Conditions: a place in the text. By an AI agent.
-/
import Derived.Test.YtcbmddgafkoooaaDoorSortsWalk
import Derived.Test.YtcbmddgafkoooaaDoorTokMath
import Derived.WalkSpells
namespace Go.Proofs.YtcbmddgafkoooaaDoor
open Go.RowKit

theorem ret_eq {a b : Value} (h : a = b) : Ending.returned a = .returned b := by rw [h]

set_option maxHeartbeats 1000000 in
theorem escapeAt_any (s : ByteArray) (a : Nat) (w : World) (hs : s.size ≤ 4294967280) (ha : a < s.size) :
    Calls Tryd.prog 69 #[.string s, .int .i64 a] w fun e w' => e = .returned (tokV (tokE s a)) ∧ Below w.heap.size w w' := by
  have hi0 : (0 : Int) ≤ (a : Int) := by omega
  have hi1 : (a : Int) < (s.size : Int) := by omega
  by_cases c1 : bt s a = 92
  · have g1 : ((s[a].toNat : Int) != 92) = false := by rw [bt_at ha] at c1; simpa using c1
    by_cases c2 : a + 1 < s.size
    · have e2 : ((a : Int) + 1 == (s.size : Int)) = false := beq_eq_false_iff_ne.2 (by omega)
      have hi2 : (a : Int) + 1 < (s.size : Int) := by omega
      have hb := bt_at c2
      have hc0 : (0 : Int) ≤ (s[a + 1].toNat : Int) := by omega
      have hc1 : (s[a + 1].toNat : Int) ≤ 255 := by have := (s[a + 1]).toNat_lt; omega
      cases c3 : punB (s[a + 1].toNat : Int)
      · have HV : Hid (Ending.returned (.tuple #[spZ, .bool false]) = .returned (tokV (tokE s a))) := by show _ = _; unfold tokE; rw [if_neg (by rw [hb, c3]; simp)]; rfl
        clear c1 hb
        go_enter Tryd.func69, Tryd.ntmps69
        go_wp2_with fail
        refine (isPunct_any _ _ hc0 hc1).mono ?_
        rintro e w1 ⟨rfl, hw1⟩
        rw [c3, ← hw1]
        clear hw1
        go_wp2
        refine bodyPost_ret (v := .tuple #[spZ, .bool false]) (by simp [results, Tryd.results69, go_sem, spZ]) rfl ⟨HV.out, (Below.refl _ _).alloc (Nat.le_refl _) _⟩
      · have HV : Hid (Ending.returned (.tuple #[.agg #[.int .i64 2, .int .i64 a, .int .i64 (a + 2), .string (s.extract (a + 1) (a + 2)), .string ⟨#[]⟩, .int .i64 0, .bool false], .bool true]) = .returned (tokV (tokE s a))) := by show _ = _; unfold tokE; rw [if_pos ⟨c1, by rw [hb, c3]⟩]; rfl
        clear c1 hb
        have hi3 : (a : Int) + 2 ≤ (s.size : Int) := by omega
        go_enter Tryd.func69, Tryd.ntmps69
        go_wp2_with fail
        refine (isPunct_any _ _ hc0 hc1).mono ?_
        rintro e w1 ⟨rfl, hw1⟩
        rw [c3, ← hw1]
        clear hw1
        go_wp2
        refine bodyPost_ret (v := .tuple #[.agg #[.int .i64 2, .int .i64 a, .int .i64 (a + 2), .string (s.extract (a + 1) (a + 2)), .string ⟨#[]⟩, .int .i64 0, .bool false], .bool true]) (by simp [results, Tryd.results69, go_sem]) rfl ⟨HV.out, (Below.refl _ _).alloc (Nat.le_refl _) _⟩
    · have e2 : ((a : Int) + 1 == (s.size : Int)) = true := beq_iff_eq.2 (by omega)
      have HV : Hid (Ending.returned (.tuple #[spZ, .bool false]) = .returned (tokV (tokE s a))) := by show _ = _; unfold tokE; rw [if_neg (by rw [bt_out (show s.size ≤ a + 1 by omega)]; simp [punB])]; rfl
      clear c1
      go_enter Tryd.func69, Tryd.ntmps69
      go_wp2
      refine bodyPost_ret (v := .tuple #[spZ, .bool false]) (by simp [results, Tryd.results69, go_sem, spZ]) rfl ⟨HV.out, (Below.refl _ _).alloc (Nat.le_refl _) _⟩
  · have g1 : ((s[a].toNat : Int) != 92) = true := by rw [bt_at ha] at c1; simpa using c1
    have HV : Hid (Ending.returned (.tuple #[spZ, .bool false]) = .returned (tokV (tokE s a))) := by show _ = _; unfold tokE; rw [if_neg (fun h => c1 h.1)]; rfl
    clear c1
    go_enter Tryd.func69, Tryd.ntmps69
    go_wp2
    refine bodyPost_ret (v := .tuple #[spZ, .bool false]) (by simp [results, Tryd.results69, go_sem, spZ]) rfl ⟨HV.out, (Below.refl _ _).alloc (Nat.le_refl _) _⟩
end Go.Proofs.YtcbmddgafkoooaaDoor
