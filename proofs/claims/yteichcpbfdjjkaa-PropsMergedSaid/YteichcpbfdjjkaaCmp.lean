/-
  DERIVED. The walks of cmp.Compare at int and string, cmp.Or at int. Conditions: none. By an AI agent.
-/
import Derived.Test.YteichcpbfdjjkaaBase
import Derived.Test.YteichcpbfdjjkaaValueMath
import Derived.Test.YteichcpbfdjjkaaChecked
import Derived.WalkLawsBesides
namespace Go.Proofs.Yteichcpbfdjjkaa
open Go.RowKit

theorem ret_int' {k : IntKind} {a b : Int} (h : a = b) : Ending.returned (.int k a) = .returned (.int k b) := by rw [h]

set_option maxHeartbeats 1000000 in
theorem cmpInt_any (a b : Int) (w : World) : Calls Try.prog 34 #[.int .i64 a, .int .i64 b] w fun e w' => e = .returned (.int .i64 (c3 a b)) ∧ w = w' := by
  have hc : a < b ∧ c3 a b = -1 ∨ b < a ∧ c3 a b = 1 ∨ a = b ∧ c3 a b = 0 := by
    unfold c3
    repeat' split
    all_goals omega
  rcases hc with ⟨h, hv⟩ | ⟨h, hv⟩ | ⟨rfl, hv⟩
  all_goals
    rw [hv]
    clear hv
    go_enter Try.func34, Try.ntmps34
    go_wp2
    go_ret
    exact ⟨rfl, rfl⟩

set_option maxHeartbeats 1000000 in
theorem cmpStr_any (a b : ByteArray) (w : World) : Calls Try.prog 36 #[.string a, .string b] w fun e w' => e = .returned (.int .i64 (cL a.data.toList b.data.toList)) ∧ w = w' := by
  have hc : Op.bytesLess a.toList b.toList = true ∧ cL a.data.toList b.data.toList = -1 ∨ Op.bytesLess a.toList b.toList = false ∧ (a.toList == b.toList) = true ∧ cL a.data.toList b.data.toList = 0 ∨ Op.bytesLess a.toList b.toList = false ∧ (a.toList == b.toList) = false ∧ cL a.data.toList b.data.toList = 1 := by
    rw [ByteArray.toList_eq, ByteArray.toList_eq]
    unfold cL
    cases h : Op.bytesLess a.data.toList b.data.toList
    · by_cases e : a.data.toList = b.data.toList
      · simp [e]
      · rw [if_neg (by simp), if_neg e]
        simp only [beq_eq_false_iff_ne, ne_eq, e, not_false_eq_true, true_and, Int.reduceNeg, and_true]
        simp
    · simp
  rcases hc with ⟨h, hv⟩ | ⟨h, h', hv⟩ | ⟨h, h', hv⟩
  all_goals
    rw [hv]
    clear hv
    go_enter Try.func36, Try.ntmps36
    go_wp2
    go_ret
    exact ⟨rfl, rfl⟩

def orI (a b : Int) : Int := if a = 0 then b else a
set_option maxHeartbeats 1000000 in
theorem or_two (a b : Int) (g : Nat) (cap : Nat) (w : World) (c0 : w.cell? ⟨g, 0, none⟩ = some (.int .i64 a)) (c1 : w.cell? ⟨g, 1, none⟩ = some (.int .i64 b)) :
    Calls Try.prog 35 #[.slice (some ⟨g, 0, none⟩) 2 cap] w fun e w' => e = .returned (.int .i64 (orI a b)) ∧ w = w' := by
  go_enter Try.func35, Try.ntmps35
  go_wp2
  go_loop [8] (fun i => i = .int .i64 0 ∨ (i = .int .i64 1 ∧ Hid (a = 0)) ∨ (i = .int .i64 2 ∧ Hid (a = 0) ∧ Hid (b = 0))) (fun i => (2 - intOf i).toNat)
  case atStart => exact .inl rfl
  case round =>
    rcases hrel with rfl | ⟨rfl, ha⟩ | ⟨rfl, ha, hb⟩
    · by_cases ha : a = 0
      · have hn : (a != 0) = false := by simpa using ha
        have HA : Hid (a = 0) := ha
        clear ha
        go_wp2
        go_round
        case rel => exact .inr (.inl ⟨rfl, HA⟩)
        case measure => simp [intOf]
      · have hn : (a != 0) = true := by simpa using ha
        have HA := Lib.hid ha
        clear ha
        go_wp2
        go_ret
        exact ⟨ret_int' (by unfold orI; rw [if_neg HA.out]), rfl⟩
    · by_cases hb : b = 0
      · have hn : (b != 0) = false := by simpa using hb
        have HB : Hid (b = 0) := hb
        clear hb
        go_wp2
        go_round
        case rel => exact .inr (.inr ⟨rfl, ha, HB⟩)
        case measure => simp [intOf]
      · have hn : (b != 0) = true := by simpa using hb
        have HB := Lib.hid hb
        clear hb
        go_wp2
        go_ret
        exact ⟨ret_int' (by unfold orI; rw [if_pos ha.out]), rfl⟩
    · go_wp2
      go_ret
      exact ⟨ret_int' (by unfold orI; rw [if_pos ha.out, hb.out]), rfl⟩
end Go.Proofs.Yteichcpbfdjjkaa
