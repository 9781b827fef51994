/-
  DERIVED. The walk of text.codeAt. Conditions: a place in the text. By an AI agent.
-/
import Derived.Test.YtcbmddgafkoooaaGreatDoorEscAt
import Derived.Test.YtcbmddgafkoooaaGreatDoorShelf
namespace Go.Proofs.YtcbmddgafkoooaaGreatDoor
open Go.RowKit

theorem indexByte_ext (s : ByteArray) (a : Nat) (c : UInt8) : Lib.indexByte (s.extract a s.size).data.toList c = if upto (isC c.toNat) s a < s.size then (upto (isC c.toNat) s a : Int) - a else -1 := by
  rw [ext_list]; exact indexByte_upto s c _ a rfl

set_option maxHeartbeats 1000000 in
theorem codeAt_any (s : ByteArray) (a : Nat) (w : World) (hs : s.size ≤ 4294967280) (ha : a < s.size) :
    Calls Tryz.prog 73 #[.string s, .int .i64 a] w fun e w' => e = .returned (tokV (tokC s a)) ∧ Below w.heap.size w w' := by
  have hi0 : (0 : Int) ≤ (a : Int) := by omega
  have hi1 : (a : Int) < (s.size : Int) := by omega
  by_cases c1 : bt s a = 96
  · have g1 : ((s[a].toNat : Int) != 96) = false := by rw [bt_at ha] at c1; simpa using c1
    have hi2 : (a : Int) + 1 ≤ (s.size : Int) := by omega
    have hJ := upto_ge (isC 96) s (a + 1)
    have hJ2 := upto_le (stop := isC 96) (s := s) (i := a + 1) (by omega)
    have hx := indexByte_ext s (a + 1) 96
    rw [show isC (96 : UInt8).toNat = isC 96 from rfl] at hx
    by_cases c2 : upto (isC 96) s (a + 1) < s.size ∧ a + 1 < upto (isC 96) s (a + 1)
    · obtain ⟨m, hm⟩ : ∃ m : Nat, upto (isC 96) s (a + 1) = a + 1 + m := ⟨upto (isC 96) s (a + 1) - (a + 1), by omega⟩
      have hm1 : 1 ≤ m := by omega
      have hm2 : a + 1 + m < s.size := by omega
      have hxm : Lib.indexByte (s.extract (a + 1) s.size).data.toList 96 = (m : Int) := by rw [hx, if_pos (by omega), hm]; omega
      have HV : Hid (Ending.returned (.tuple #[.agg #[.int .i64 3, .int .i64 a, .int .i64 (a + m + 2), .string (s.extract (a + 1) (a + 1 + m)), .string ⟨#[]⟩, .int .i64 0, .bool false], .bool true]) = .returned (tokV (tokC s a))) := by
        show _ = _
        unfold tokC
        rw [if_pos ⟨c1, c2.1, c2.2⟩, hm]
        unfold tokV spV noB
        simp only
        rw [show ((a + 1 + m + 1 : Nat) : Int) = (a : Int) + m + 2 by omega]
      clear c1 c2 hJ hJ2 hx hm
      go_enter Tryz.func73, Tryz.ntmps73
      go_wp2_with fail
      refine (Tryz.strings_IndexByte _ _ _).mono ?_
      rintro e w1 ⟨rfl, rfl⟩
      rw [show ((96 : Int).toNat.toUInt8) = 96 from rfl, hxm]
      go_wp2
      refine bodyPost_ret (v := .tuple #[.agg #[.int .i64 3, .int .i64 a, .int .i64 (a + m + 2), .string (s.extract (a + 1) (a + 1 + m)), .string ⟨#[]⟩, .int .i64 0, .bool false], .bool true]) (by simp [results, Tryz.results73, go_sem]) rfl ⟨HV.out, (Below.refl _ _).alloc (Nat.le_refl _) _⟩
    · obtain ⟨x, hxx, hx0⟩ : ∃ x : Int, Lib.indexByte (s.extract (a + 1) s.size).data.toList 96 = x ∧ x < 1 := by
        refine ⟨_, rfl, ?_⟩
        rw [hx]
        split <;> omega
      have HV : Hid (Ending.returned (.tuple #[spZ, .bool false]) = .returned (tokV (tokC s a))) := by show _ = _; unfold tokC; rw [if_neg (fun h => c2 h.2)]; rfl
      clear c1 c2 hJ hJ2 hx
      go_enter Tryz.func73, Tryz.ntmps73
      go_wp2_with fail
      refine (Tryz.strings_IndexByte _ _ _).mono ?_
      rintro e w1 ⟨rfl, rfl⟩
      rw [show ((96 : Int).toNat.toUInt8) = 96 from rfl, hxx]
      clear hxx
      go_wp2
      refine bodyPost_ret (v := .tuple #[spZ, .bool false]) (by simp [results, Tryz.results73, go_sem, spZ]) rfl ⟨HV.out, (Below.refl _ _).alloc (Nat.le_refl _) _⟩
  · have g1 : ((s[a].toNat : Int) != 96) = true := by rw [bt_at ha] at c1; simpa using c1
    have HV : Hid (Ending.returned (.tuple #[spZ, .bool false]) = .returned (tokV (tokC s a))) := by show _ = _; unfold tokC; rw [if_neg (fun h => c1 h.1)]; rfl
    clear c1
    go_enter Tryz.func73, Tryz.ntmps73
    go_wp2
    refine bodyPost_ret (v := .tuple #[spZ, .bool false]) (by simp [results, Tryz.results73, go_sem, spZ]) rfl ⟨HV.out, (Below.refl _ _).alloc (Nat.le_refl _) _⟩
end Go.Proofs.YtcbmddgafkoooaaGreatDoor
