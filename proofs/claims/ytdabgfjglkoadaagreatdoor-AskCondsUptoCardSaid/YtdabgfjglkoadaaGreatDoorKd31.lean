/-
  DERIVED. The word of an operation, a text quoted: the walks of ask.word and ask.quote. Conditions: sizes.
  By an AI agent.
-/
import Derived.Test.YtdabgfjglkoadaaGreatDoorKd30
import Derived.Test.YtdabgfjglkoadaaGreatDoorKd19
namespace Go.Proofs.YtdabgfjglkoadaaGreatDoor
open Go.RowKit

set_option maxHeartbeats 4000000 in
set_option maxRecDepth 100000 in
/-- ask.word -/
theorem word_any (o : Int) (h1 : 1 ≤ o) (h2 : o ≤ 17) (w : World) :
    Calls Tryz.prog 39 #[.int .i64 o] w fun e w' => e = .returned (.string (wordS o)) ∧ w' = w := by
  by_cases h : o = 1
  · subst h
    rw [wordS_1]
    clear h1 h2
    have i0 : ∀ w, (Instr.index 75 (.agg #[.string ⟨#[]⟩, .string ⟨#[97, 108, 108]⟩, .string ⟨#[97, 110, 121]⟩, .string ⟨#[110, 111, 116]⟩, .string ⟨#[115, 97, 121, 115]⟩, .string ⟨#[108, 105, 110, 107, 115]⟩, .string ⟨#[116, 97, 103]⟩, .string ⟨#[112, 97, 103, 101]⟩, .string ⟨#[105, 115, 45, 112, 97, 103, 101]⟩, .string ⟨#[100, 101, 101, 112]⟩, .string ⟨#[117, 110, 100, 101, 114]⟩, .string ⟨#[104, 97, 115]⟩, .string ⟨#[61]⟩, .string ⟨#[60]⟩, .string ⟨#[62]⟩, .string ⟨#[112, 97, 114, 101, 110, 116]⟩, .string ⟨#[107, 105, 100]⟩, .string ⟨#[98, 101, 108, 111, 119]⟩]) (.int .i64 1)).run Tryz.prog w = .ok (.string ⟨#[97, 108, 108]⟩) w := fun _ => by kernel_rfl
    go_enter Tryz.func39, Tryz.ntmps39
    go_wp2_with fail
    go_ret
    exact ⟨rfl, rfl⟩
  have n1 := h
  clear h
  by_cases h : o = 2
  · subst h
    rw [wordS_2]
    clear h1 h2
    have i0 : ∀ w, (Instr.index 75 (.agg #[.string ⟨#[]⟩, .string ⟨#[97, 108, 108]⟩, .string ⟨#[97, 110, 121]⟩, .string ⟨#[110, 111, 116]⟩, .string ⟨#[115, 97, 121, 115]⟩, .string ⟨#[108, 105, 110, 107, 115]⟩, .string ⟨#[116, 97, 103]⟩, .string ⟨#[112, 97, 103, 101]⟩, .string ⟨#[105, 115, 45, 112, 97, 103, 101]⟩, .string ⟨#[100, 101, 101, 112]⟩, .string ⟨#[117, 110, 100, 101, 114]⟩, .string ⟨#[104, 97, 115]⟩, .string ⟨#[61]⟩, .string ⟨#[60]⟩, .string ⟨#[62]⟩, .string ⟨#[112, 97, 114, 101, 110, 116]⟩, .string ⟨#[107, 105, 100]⟩, .string ⟨#[98, 101, 108, 111, 119]⟩]) (.int .i64 2)).run Tryz.prog w = .ok (.string ⟨#[97, 110, 121]⟩) w := fun _ => by kernel_rfl
    go_enter Tryz.func39, Tryz.ntmps39
    go_wp2_with fail
    go_ret
    exact ⟨rfl, rfl⟩
  have n2 := h
  clear h
  by_cases h : o = 3
  · subst h
    rw [wordS_3]
    clear h1 h2
    have i0 : ∀ w, (Instr.index 75 (.agg #[.string ⟨#[]⟩, .string ⟨#[97, 108, 108]⟩, .string ⟨#[97, 110, 121]⟩, .string ⟨#[110, 111, 116]⟩, .string ⟨#[115, 97, 121, 115]⟩, .string ⟨#[108, 105, 110, 107, 115]⟩, .string ⟨#[116, 97, 103]⟩, .string ⟨#[112, 97, 103, 101]⟩, .string ⟨#[105, 115, 45, 112, 97, 103, 101]⟩, .string ⟨#[100, 101, 101, 112]⟩, .string ⟨#[117, 110, 100, 101, 114]⟩, .string ⟨#[104, 97, 115]⟩, .string ⟨#[61]⟩, .string ⟨#[60]⟩, .string ⟨#[62]⟩, .string ⟨#[112, 97, 114, 101, 110, 116]⟩, .string ⟨#[107, 105, 100]⟩, .string ⟨#[98, 101, 108, 111, 119]⟩]) (.int .i64 3)).run Tryz.prog w = .ok (.string ⟨#[110, 111, 116]⟩) w := fun _ => by kernel_rfl
    go_enter Tryz.func39, Tryz.ntmps39
    go_wp2_with fail
    go_ret
    exact ⟨rfl, rfl⟩
  have n3 := h
  clear h
  by_cases h : o = 4
  · subst h
    rw [wordS_4]
    clear h1 h2
    have i0 : ∀ w, (Instr.index 75 (.agg #[.string ⟨#[]⟩, .string ⟨#[97, 108, 108]⟩, .string ⟨#[97, 110, 121]⟩, .string ⟨#[110, 111, 116]⟩, .string ⟨#[115, 97, 121, 115]⟩, .string ⟨#[108, 105, 110, 107, 115]⟩, .string ⟨#[116, 97, 103]⟩, .string ⟨#[112, 97, 103, 101]⟩, .string ⟨#[105, 115, 45, 112, 97, 103, 101]⟩, .string ⟨#[100, 101, 101, 112]⟩, .string ⟨#[117, 110, 100, 101, 114]⟩, .string ⟨#[104, 97, 115]⟩, .string ⟨#[61]⟩, .string ⟨#[60]⟩, .string ⟨#[62]⟩, .string ⟨#[112, 97, 114, 101, 110, 116]⟩, .string ⟨#[107, 105, 100]⟩, .string ⟨#[98, 101, 108, 111, 119]⟩]) (.int .i64 4)).run Tryz.prog w = .ok (.string ⟨#[115, 97, 121, 115]⟩) w := fun _ => by kernel_rfl
    go_enter Tryz.func39, Tryz.ntmps39
    go_wp2_with fail
    go_ret
    exact ⟨rfl, rfl⟩
  have n4 := h
  clear h
  by_cases h : o = 5
  · subst h
    rw [wordS_5]
    clear h1 h2
    have i0 : ∀ w, (Instr.index 75 (.agg #[.string ⟨#[]⟩, .string ⟨#[97, 108, 108]⟩, .string ⟨#[97, 110, 121]⟩, .string ⟨#[110, 111, 116]⟩, .string ⟨#[115, 97, 121, 115]⟩, .string ⟨#[108, 105, 110, 107, 115]⟩, .string ⟨#[116, 97, 103]⟩, .string ⟨#[112, 97, 103, 101]⟩, .string ⟨#[105, 115, 45, 112, 97, 103, 101]⟩, .string ⟨#[100, 101, 101, 112]⟩, .string ⟨#[117, 110, 100, 101, 114]⟩, .string ⟨#[104, 97, 115]⟩, .string ⟨#[61]⟩, .string ⟨#[60]⟩, .string ⟨#[62]⟩, .string ⟨#[112, 97, 114, 101, 110, 116]⟩, .string ⟨#[107, 105, 100]⟩, .string ⟨#[98, 101, 108, 111, 119]⟩]) (.int .i64 5)).run Tryz.prog w = .ok (.string ⟨#[108, 105, 110, 107, 115]⟩) w := fun _ => by kernel_rfl
    go_enter Tryz.func39, Tryz.ntmps39
    go_wp2_with fail
    go_ret
    exact ⟨rfl, rfl⟩
  have n5 := h
  clear h
  by_cases h : o = 6
  · subst h
    rw [wordS_6]
    clear h1 h2
    have i0 : ∀ w, (Instr.index 75 (.agg #[.string ⟨#[]⟩, .string ⟨#[97, 108, 108]⟩, .string ⟨#[97, 110, 121]⟩, .string ⟨#[110, 111, 116]⟩, .string ⟨#[115, 97, 121, 115]⟩, .string ⟨#[108, 105, 110, 107, 115]⟩, .string ⟨#[116, 97, 103]⟩, .string ⟨#[112, 97, 103, 101]⟩, .string ⟨#[105, 115, 45, 112, 97, 103, 101]⟩, .string ⟨#[100, 101, 101, 112]⟩, .string ⟨#[117, 110, 100, 101, 114]⟩, .string ⟨#[104, 97, 115]⟩, .string ⟨#[61]⟩, .string ⟨#[60]⟩, .string ⟨#[62]⟩, .string ⟨#[112, 97, 114, 101, 110, 116]⟩, .string ⟨#[107, 105, 100]⟩, .string ⟨#[98, 101, 108, 111, 119]⟩]) (.int .i64 6)).run Tryz.prog w = .ok (.string ⟨#[116, 97, 103]⟩) w := fun _ => by kernel_rfl
    go_enter Tryz.func39, Tryz.ntmps39
    go_wp2_with fail
    go_ret
    exact ⟨rfl, rfl⟩
  have n6 := h
  clear h
  by_cases h : o = 7
  · subst h
    rw [wordS_7]
    clear h1 h2
    have i0 : ∀ w, (Instr.index 75 (.agg #[.string ⟨#[]⟩, .string ⟨#[97, 108, 108]⟩, .string ⟨#[97, 110, 121]⟩, .string ⟨#[110, 111, 116]⟩, .string ⟨#[115, 97, 121, 115]⟩, .string ⟨#[108, 105, 110, 107, 115]⟩, .string ⟨#[116, 97, 103]⟩, .string ⟨#[112, 97, 103, 101]⟩, .string ⟨#[105, 115, 45, 112, 97, 103, 101]⟩, .string ⟨#[100, 101, 101, 112]⟩, .string ⟨#[117, 110, 100, 101, 114]⟩, .string ⟨#[104, 97, 115]⟩, .string ⟨#[61]⟩, .string ⟨#[60]⟩, .string ⟨#[62]⟩, .string ⟨#[112, 97, 114, 101, 110, 116]⟩, .string ⟨#[107, 105, 100]⟩, .string ⟨#[98, 101, 108, 111, 119]⟩]) (.int .i64 7)).run Tryz.prog w = .ok (.string ⟨#[112, 97, 103, 101]⟩) w := fun _ => by kernel_rfl
    go_enter Tryz.func39, Tryz.ntmps39
    go_wp2_with fail
    go_ret
    exact ⟨rfl, rfl⟩
  have n7 := h
  clear h
  by_cases h : o = 8
  · subst h
    rw [wordS_8]
    clear h1 h2
    have i0 : ∀ w, (Instr.index 75 (.agg #[.string ⟨#[]⟩, .string ⟨#[97, 108, 108]⟩, .string ⟨#[97, 110, 121]⟩, .string ⟨#[110, 111, 116]⟩, .string ⟨#[115, 97, 121, 115]⟩, .string ⟨#[108, 105, 110, 107, 115]⟩, .string ⟨#[116, 97, 103]⟩, .string ⟨#[112, 97, 103, 101]⟩, .string ⟨#[105, 115, 45, 112, 97, 103, 101]⟩, .string ⟨#[100, 101, 101, 112]⟩, .string ⟨#[117, 110, 100, 101, 114]⟩, .string ⟨#[104, 97, 115]⟩, .string ⟨#[61]⟩, .string ⟨#[60]⟩, .string ⟨#[62]⟩, .string ⟨#[112, 97, 114, 101, 110, 116]⟩, .string ⟨#[107, 105, 100]⟩, .string ⟨#[98, 101, 108, 111, 119]⟩]) (.int .i64 8)).run Tryz.prog w = .ok (.string ⟨#[105, 115, 45, 112, 97, 103, 101]⟩) w := fun _ => by kernel_rfl
    go_enter Tryz.func39, Tryz.ntmps39
    go_wp2_with fail
    go_ret
    exact ⟨rfl, rfl⟩
  have n8 := h
  clear h
  by_cases h : o = 9
  · subst h
    rw [wordS_9]
    clear h1 h2
    have i0 : ∀ w, (Instr.index 75 (.agg #[.string ⟨#[]⟩, .string ⟨#[97, 108, 108]⟩, .string ⟨#[97, 110, 121]⟩, .string ⟨#[110, 111, 116]⟩, .string ⟨#[115, 97, 121, 115]⟩, .string ⟨#[108, 105, 110, 107, 115]⟩, .string ⟨#[116, 97, 103]⟩, .string ⟨#[112, 97, 103, 101]⟩, .string ⟨#[105, 115, 45, 112, 97, 103, 101]⟩, .string ⟨#[100, 101, 101, 112]⟩, .string ⟨#[117, 110, 100, 101, 114]⟩, .string ⟨#[104, 97, 115]⟩, .string ⟨#[61]⟩, .string ⟨#[60]⟩, .string ⟨#[62]⟩, .string ⟨#[112, 97, 114, 101, 110, 116]⟩, .string ⟨#[107, 105, 100]⟩, .string ⟨#[98, 101, 108, 111, 119]⟩]) (.int .i64 9)).run Tryz.prog w = .ok (.string ⟨#[100, 101, 101, 112]⟩) w := fun _ => by kernel_rfl
    go_enter Tryz.func39, Tryz.ntmps39
    go_wp2_with fail
    go_ret
    exact ⟨rfl, rfl⟩
  have n9 := h
  clear h
  by_cases h : o = 10
  · subst h
    rw [wordS_10]
    clear h1 h2
    have i0 : ∀ w, (Instr.index 75 (.agg #[.string ⟨#[]⟩, .string ⟨#[97, 108, 108]⟩, .string ⟨#[97, 110, 121]⟩, .string ⟨#[110, 111, 116]⟩, .string ⟨#[115, 97, 121, 115]⟩, .string ⟨#[108, 105, 110, 107, 115]⟩, .string ⟨#[116, 97, 103]⟩, .string ⟨#[112, 97, 103, 101]⟩, .string ⟨#[105, 115, 45, 112, 97, 103, 101]⟩, .string ⟨#[100, 101, 101, 112]⟩, .string ⟨#[117, 110, 100, 101, 114]⟩, .string ⟨#[104, 97, 115]⟩, .string ⟨#[61]⟩, .string ⟨#[60]⟩, .string ⟨#[62]⟩, .string ⟨#[112, 97, 114, 101, 110, 116]⟩, .string ⟨#[107, 105, 100]⟩, .string ⟨#[98, 101, 108, 111, 119]⟩]) (.int .i64 10)).run Tryz.prog w = .ok (.string ⟨#[117, 110, 100, 101, 114]⟩) w := fun _ => by kernel_rfl
    go_enter Tryz.func39, Tryz.ntmps39
    go_wp2_with fail
    go_ret
    exact ⟨rfl, rfl⟩
  have n10 := h
  clear h
  by_cases h : o = 11
  · subst h
    rw [wordS_11]
    clear h1 h2
    have i0 : ∀ w, (Instr.index 75 (.agg #[.string ⟨#[]⟩, .string ⟨#[97, 108, 108]⟩, .string ⟨#[97, 110, 121]⟩, .string ⟨#[110, 111, 116]⟩, .string ⟨#[115, 97, 121, 115]⟩, .string ⟨#[108, 105, 110, 107, 115]⟩, .string ⟨#[116, 97, 103]⟩, .string ⟨#[112, 97, 103, 101]⟩, .string ⟨#[105, 115, 45, 112, 97, 103, 101]⟩, .string ⟨#[100, 101, 101, 112]⟩, .string ⟨#[117, 110, 100, 101, 114]⟩, .string ⟨#[104, 97, 115]⟩, .string ⟨#[61]⟩, .string ⟨#[60]⟩, .string ⟨#[62]⟩, .string ⟨#[112, 97, 114, 101, 110, 116]⟩, .string ⟨#[107, 105, 100]⟩, .string ⟨#[98, 101, 108, 111, 119]⟩]) (.int .i64 11)).run Tryz.prog w = .ok (.string ⟨#[104, 97, 115]⟩) w := fun _ => by kernel_rfl
    go_enter Tryz.func39, Tryz.ntmps39
    go_wp2_with fail
    go_ret
    exact ⟨rfl, rfl⟩
  have n11 := h
  clear h
  by_cases h : o = 12
  · subst h
    rw [wordS_12]
    clear h1 h2
    have i0 : ∀ w, (Instr.index 75 (.agg #[.string ⟨#[]⟩, .string ⟨#[97, 108, 108]⟩, .string ⟨#[97, 110, 121]⟩, .string ⟨#[110, 111, 116]⟩, .string ⟨#[115, 97, 121, 115]⟩, .string ⟨#[108, 105, 110, 107, 115]⟩, .string ⟨#[116, 97, 103]⟩, .string ⟨#[112, 97, 103, 101]⟩, .string ⟨#[105, 115, 45, 112, 97, 103, 101]⟩, .string ⟨#[100, 101, 101, 112]⟩, .string ⟨#[117, 110, 100, 101, 114]⟩, .string ⟨#[104, 97, 115]⟩, .string ⟨#[61]⟩, .string ⟨#[60]⟩, .string ⟨#[62]⟩, .string ⟨#[112, 97, 114, 101, 110, 116]⟩, .string ⟨#[107, 105, 100]⟩, .string ⟨#[98, 101, 108, 111, 119]⟩]) (.int .i64 12)).run Tryz.prog w = .ok (.string ⟨#[61]⟩) w := fun _ => by kernel_rfl
    go_enter Tryz.func39, Tryz.ntmps39
    go_wp2_with fail
    go_ret
    exact ⟨rfl, rfl⟩
  have n12 := h
  clear h
  by_cases h : o = 13
  · subst h
    rw [wordS_13]
    clear h1 h2
    have i0 : ∀ w, (Instr.index 75 (.agg #[.string ⟨#[]⟩, .string ⟨#[97, 108, 108]⟩, .string ⟨#[97, 110, 121]⟩, .string ⟨#[110, 111, 116]⟩, .string ⟨#[115, 97, 121, 115]⟩, .string ⟨#[108, 105, 110, 107, 115]⟩, .string ⟨#[116, 97, 103]⟩, .string ⟨#[112, 97, 103, 101]⟩, .string ⟨#[105, 115, 45, 112, 97, 103, 101]⟩, .string ⟨#[100, 101, 101, 112]⟩, .string ⟨#[117, 110, 100, 101, 114]⟩, .string ⟨#[104, 97, 115]⟩, .string ⟨#[61]⟩, .string ⟨#[60]⟩, .string ⟨#[62]⟩, .string ⟨#[112, 97, 114, 101, 110, 116]⟩, .string ⟨#[107, 105, 100]⟩, .string ⟨#[98, 101, 108, 111, 119]⟩]) (.int .i64 13)).run Tryz.prog w = .ok (.string ⟨#[60]⟩) w := fun _ => by kernel_rfl
    go_enter Tryz.func39, Tryz.ntmps39
    go_wp2_with fail
    go_ret
    exact ⟨rfl, rfl⟩
  have n13 := h
  clear h
  by_cases h : o = 14
  · subst h
    rw [wordS_14]
    clear h1 h2
    have i0 : ∀ w, (Instr.index 75 (.agg #[.string ⟨#[]⟩, .string ⟨#[97, 108, 108]⟩, .string ⟨#[97, 110, 121]⟩, .string ⟨#[110, 111, 116]⟩, .string ⟨#[115, 97, 121, 115]⟩, .string ⟨#[108, 105, 110, 107, 115]⟩, .string ⟨#[116, 97, 103]⟩, .string ⟨#[112, 97, 103, 101]⟩, .string ⟨#[105, 115, 45, 112, 97, 103, 101]⟩, .string ⟨#[100, 101, 101, 112]⟩, .string ⟨#[117, 110, 100, 101, 114]⟩, .string ⟨#[104, 97, 115]⟩, .string ⟨#[61]⟩, .string ⟨#[60]⟩, .string ⟨#[62]⟩, .string ⟨#[112, 97, 114, 101, 110, 116]⟩, .string ⟨#[107, 105, 100]⟩, .string ⟨#[98, 101, 108, 111, 119]⟩]) (.int .i64 14)).run Tryz.prog w = .ok (.string ⟨#[62]⟩) w := fun _ => by kernel_rfl
    go_enter Tryz.func39, Tryz.ntmps39
    go_wp2_with fail
    go_ret
    exact ⟨rfl, rfl⟩
  have n14 := h
  clear h
  by_cases h : o = 15
  · subst h
    rw [wordS_15]
    clear h1 h2
    have i0 : ∀ w, (Instr.index 75 (.agg #[.string ⟨#[]⟩, .string ⟨#[97, 108, 108]⟩, .string ⟨#[97, 110, 121]⟩, .string ⟨#[110, 111, 116]⟩, .string ⟨#[115, 97, 121, 115]⟩, .string ⟨#[108, 105, 110, 107, 115]⟩, .string ⟨#[116, 97, 103]⟩, .string ⟨#[112, 97, 103, 101]⟩, .string ⟨#[105, 115, 45, 112, 97, 103, 101]⟩, .string ⟨#[100, 101, 101, 112]⟩, .string ⟨#[117, 110, 100, 101, 114]⟩, .string ⟨#[104, 97, 115]⟩, .string ⟨#[61]⟩, .string ⟨#[60]⟩, .string ⟨#[62]⟩, .string ⟨#[112, 97, 114, 101, 110, 116]⟩, .string ⟨#[107, 105, 100]⟩, .string ⟨#[98, 101, 108, 111, 119]⟩]) (.int .i64 15)).run Tryz.prog w = .ok (.string ⟨#[112, 97, 114, 101, 110, 116]⟩) w := fun _ => by kernel_rfl
    go_enter Tryz.func39, Tryz.ntmps39
    go_wp2_with fail
    go_ret
    exact ⟨rfl, rfl⟩
  have n15 := h
  clear h
  by_cases h : o = 16
  · subst h
    rw [wordS_16]
    clear h1 h2
    have i0 : ∀ w, (Instr.index 75 (.agg #[.string ⟨#[]⟩, .string ⟨#[97, 108, 108]⟩, .string ⟨#[97, 110, 121]⟩, .string ⟨#[110, 111, 116]⟩, .string ⟨#[115, 97, 121, 115]⟩, .string ⟨#[108, 105, 110, 107, 115]⟩, .string ⟨#[116, 97, 103]⟩, .string ⟨#[112, 97, 103, 101]⟩, .string ⟨#[105, 115, 45, 112, 97, 103, 101]⟩, .string ⟨#[100, 101, 101, 112]⟩, .string ⟨#[117, 110, 100, 101, 114]⟩, .string ⟨#[104, 97, 115]⟩, .string ⟨#[61]⟩, .string ⟨#[60]⟩, .string ⟨#[62]⟩, .string ⟨#[112, 97, 114, 101, 110, 116]⟩, .string ⟨#[107, 105, 100]⟩, .string ⟨#[98, 101, 108, 111, 119]⟩]) (.int .i64 16)).run Tryz.prog w = .ok (.string ⟨#[107, 105, 100]⟩) w := fun _ => by kernel_rfl
    go_enter Tryz.func39, Tryz.ntmps39
    go_wp2_with fail
    go_ret
    exact ⟨rfl, rfl⟩
  have n16 := h
  clear h
  by_cases h : o = 17
  · subst h
    rw [wordS_17]
    clear h1 h2
    have i0 : ∀ w, (Instr.index 75 (.agg #[.string ⟨#[]⟩, .string ⟨#[97, 108, 108]⟩, .string ⟨#[97, 110, 121]⟩, .string ⟨#[110, 111, 116]⟩, .string ⟨#[115, 97, 121, 115]⟩, .string ⟨#[108, 105, 110, 107, 115]⟩, .string ⟨#[116, 97, 103]⟩, .string ⟨#[112, 97, 103, 101]⟩, .string ⟨#[105, 115, 45, 112, 97, 103, 101]⟩, .string ⟨#[100, 101, 101, 112]⟩, .string ⟨#[117, 110, 100, 101, 114]⟩, .string ⟨#[104, 97, 115]⟩, .string ⟨#[61]⟩, .string ⟨#[60]⟩, .string ⟨#[62]⟩, .string ⟨#[112, 97, 114, 101, 110, 116]⟩, .string ⟨#[107, 105, 100]⟩, .string ⟨#[98, 101, 108, 111, 119]⟩]) (.int .i64 17)).run Tryz.prog w = .ok (.string ⟨#[98, 101, 108, 111, 119]⟩) w := fun _ => by kernel_rfl
    go_enter Tryz.func39, Tryz.ntmps39
    go_wp2_with fail
    go_ret
    exact ⟨rfl, rfl⟩
  have n17 := h
  clear h
  omega
set_option maxHeartbeats 4000000 in
set_option maxRecDepth 100000 in
/-- ask.quote -/
theorem quote_any (s : ByteArray) (w : World) (hs : s.size ≤ 2000) :
    Calls Tryz.prog 40 #[.string s] w fun e w' => e = .returned (.string (quoS s)) ∧ Below w.heap.size w w' := by
  have hq := quoS_eq s
  have hes := escS_size s
  have HRP := Lib.hid fun w b g cap h1 h2 h3 h4 => replace_any w b g cap s (by omega) h1 h2 h3 h4
  obtain ⟨S, hS⟩ : ∃ S, S = escS s := ⟨_, rfl⟩
  rw [← hS] at hq hes HRP
  have hes2 : S.size ≤ 4000 := by omega
  rw [← hq]
  clear hq hS hes
  have ha1 : ∀ W, (Op.stringOp .add ⟨#[34]⟩ S).run Tryz.prog W = .ok (.string (⟨#[34]⟩ ++ S)) W := fun W => run_string_add_sum W _ _ (by show 1 + S.size ≤ _; omega)
  have ha2 : ∀ W, (Op.stringOp .add (⟨#[34]⟩ ++ S) ⟨#[34]⟩).run Tryz.prog W = .ok (.string (⟨#[34]⟩ ++ S ++ ⟨#[34]⟩)) W := fun W => run_string_add_sum W _ _ (by rw [ByteArray.size_append]; show 1 + S.size + 1 ≤ _; omega)
  have hbY : Below w.heap.size w (w.alloc (.cells #[.string ⟨#[34]⟩, .string ⟨#[92, 34]⟩, .string ⟨#[92]⟩, .string ⟨#[92, 92]⟩] 9)) := (Below.refl _ _).alloc (Nat.le_refl _) _
  have hcY : ∀ j u, rpO[j]? = some u → (w.alloc (.cells #[.string ⟨#[34]⟩, .string ⟨#[92, 34]⟩, .string ⟨#[92]⟩, .string ⟨#[92, 92]⟩] 9)).cell? ((⟨w.heap.size, 0, none⟩ : Addr).add j) = some u := fun j u h => by
    rw [Addr.add_lit, Nat.zero_add, World.cell?_alloc_mark]
    show (rpO.toArray)[j]? = some u
    rw [List.getElem?_toArray]
    exact h
  have HNR := Lib.hid (newReplacer_any ⟨w.heap.size, 0, none⟩ 4 _ hcY)
  have HBY := Lib.hid hbY
  clear hcY hbY
  go_enter Tryz.func40, Tryz.ntmps40
  go_wp2_with fail
  refine HNR.out.mono ?_
  rintro e w2 ⟨b, g, cap, rfl, hb1, hg1, hblk, hcl, hgb, hbel⟩
  have hgl : g < w2.heap.size := World.block_lt_of_cell? w2 _ (hcl 0 _ rfl)
  have HB2 : Hid (Below w.heap.size w w2) := HBY.out.trans (hbel.mono (by simp))
  have HR := Lib.hid (HRP.out w2 b g cap hgl hblk hcl (Nat.ne_of_lt hgb))
  clear hblk hcl hbel hgl
  have hbb : w.heap.size ≤ b := Nat.le_trans (by simp) hb1
  go_wp2_with fail
  refine HR.out.mono ?_
  rintro e w3 ⟨rfl, hb3⟩
  have HB3 : Hid (Below w.heap.size w w3) := HB2.out.trans (hb3.mono (by omega))
  clear hb3
  go_wp2_with fail
  go_ret
  exact ⟨rfl, HB3.out⟩
end Go.Proofs.YtdabgfjglkoadaaGreatDoor
