/-
  DERIVED. The kids of a node, as the reference asks for them. Plain law. Conditions: none.
  The walk of text.Tags. Conditions: the text's size.
  What fields an operation of a condition uses: the walk of ask.uses. Conditions: none.
  The word of an operation, a text quoted: the walks of ask.word and ask.quote. Conditions: sizes.
  What a column is: the walk of ask.isBy. Conditions: none.
  By an AI agent.
-/
import Derived.Test.YtnlonleljbbgoaaGreatDoorKe27
import Derived.Test.YtnlonleljbbgoaaGreatDoorKe26
import Derived.StillTailTactics
import Derived.Deep.DeepCutAuto
import Derived.Test.YtnlonleljbbgoaaGreatDoorKe16
import Derived.Test.YtnlonleljbbgoaaGreatDoorKe05
import Derived.Test.YtnlonleljbbgoaaGreatDoorKe07
import Derived.Deep.RegionWith
namespace Go.Proofs.YtnlonleljbbgoaaGreatDoor
open Go.RowKit

def oneB (o : Int) : Bool := (o == 3) || decide (15 ≤ o)
def manyB (o : Int) : Bool := (o == 1) || (o == 2)
theorem kerr_eq {o : Int} (h1 : 1 ≤ o) (h2 : o ≤ 17) (n : Nat) : (decide (0 ≤ uK o) && ((n : Int) != uK o)) = (oneB o && ((n : Int) != 1) || !oneB o && !manyB o && decide (0 < (n : Int))) := by
  unfold uK oneB manyB
  by_cases a1 : o = 1
  · subst a1; rfl
  by_cases a2 : o = 2
  · subst a2; rfl
  by_cases a3 : o = 3
  · subst a3; simp
  by_cases a4 : 15 ≤ o
  · have e1 : (o == 3) = false := by simpa using a3
    rw [if_neg (by omega), if_pos (by omega), e1, decide_eq_true a4]
    simp
  · have e1 : (o == 3) = false := by simpa using a3
    have e2 : (o == 1) = false := by simpa using a1
    have e3 : (o == 2) = false := by simpa using a2
    rw [if_neg (by omega), if_neg (by omega), e1, e2, e3, decide_eq_false a4]
    simp only [Bool.or_self, Bool.false_and, Bool.not_false, Bool.true_and, Bool.false_or]
    rw [Bool.eq_iff_iff]
    simp
    omega
theorem uM_eq (o : Int) : uM o = ((o == 9) || (o == 10)) := by
  unfold uM
  rw [Bool.eq_iff_iff]
  simp
  omega
end Go.Proofs.YtnlonleljbbgoaaGreatDoor
namespace Go.Proofs.YtnlonleljbbgoaaGreatDoor
open Go.RowKit

set_option maxHeartbeats 1000000 in
theorem tags_any (s : ByteArray) (w : World) (hs : s.size ≤ 1048576) :
    Calls Tryz.prog 160 #[.string s] w fun e w' => ∃ v, e = .returned v ∧ w'.ownsRow w.heap.size 9 1 v (textsK 6 (spans s)).length (textsK 6 (spans s)) ∧ Below w.heap.size w w' := by
  go_enter Tryz.func160, Tryz.ntmps160
  go_wp2_with fail
  refine (textsOf_any s 6 _ hs).mono ?_
  rintro e w1 ⟨v, rfl, h1, h2⟩
  have H := Lib.hid (And.intro h1 h2)
  clear h1 h2
  go_wp2
  go_ret
  exact ⟨_, rfl, H.out.1, H.out.2⟩

end Go.Proofs.YtnlonleljbbgoaaGreatDoor
namespace Go.Proofs.YtnlonleljbbgoaaGreatDoor
open Go.RowKit

set_option maxHeartbeats 4000000 in
set_option maxRecDepth 100000 in
/-- ask.uses -/
theorem uses_any (o : Int) (w : World) :
    Calls Tryz.prog 156 #[.int .i64 o] w fun e w' => e = .returned (.tuple #[.bool (uN o), .bool (uT o), .bool (uV o), .bool (uM o), .int .i64 (uK o)]) ∧ w' = w := by
  by_cases h1 : o = 1
  · subst h1
    go_enter Tryz.func156, Tryz.ntmps156
    go_wp2_with fail
    exact bodyPost_ret (v := .tuple #[.bool false, .bool false, .bool false, .bool false, .int .i64 (-1)]) (by simp [results, Tryz.results156, go_sem]) rfl ⟨rfl, rfl⟩
  by_cases h2 : o = 2
  · subst h2
    go_enter Tryz.func156, Tryz.ntmps156
    go_wp2_with fail
    exact bodyPost_ret (v := .tuple #[.bool false, .bool false, .bool false, .bool false, .int .i64 (-1)]) (by simp [results, Tryz.results156, go_sem]) rfl ⟨rfl, rfl⟩
  by_cases h3 : o = 3
  · subst h3
    go_enter Tryz.func156, Tryz.ntmps156
    go_wp2_with fail
    exact bodyPost_ret (v := .tuple #[.bool false, .bool false, .bool false, .bool false, .int .i64 1]) (by simp [results, Tryz.results156, go_sem]) rfl ⟨rfl, rfl⟩
  by_cases h15 : o = 15
  · subst h15
    go_enter Tryz.func156, Tryz.ntmps156
    go_wp2_with fail
    exact bodyPost_ret (v := .tuple #[.bool false, .bool false, .bool false, .bool false, .int .i64 1]) (by simp [results, Tryz.results156, go_sem]) rfl ⟨rfl, rfl⟩
  by_cases h16 : o = 16
  · subst h16
    go_enter Tryz.func156, Tryz.ntmps156
    go_wp2_with fail
    exact bodyPost_ret (v := .tuple #[.bool false, .bool false, .bool false, .bool false, .int .i64 1]) (by simp [results, Tryz.results156, go_sem]) rfl ⟨rfl, rfl⟩
  by_cases h17 : o = 17
  · subst h17
    go_enter Tryz.func156, Tryz.ntmps156
    go_wp2_with fail
    exact bodyPost_ret (v := .tuple #[.bool false, .bool false, .bool false, .bool false, .int .i64 1]) (by simp [results, Tryz.results156, go_sem]) rfl ⟨rfl, rfl⟩
  by_cases h4 : o = 4
  · subst h4
    go_enter Tryz.func156, Tryz.ntmps156
    go_wp2_with fail
    exact bodyPost_ret (v := .tuple #[.bool false, .bool true, .bool false, .bool false, .int .i64 0]) (by simp [results, Tryz.results156, go_sem]) rfl ⟨rfl, rfl⟩
  by_cases h5 : o = 5
  · subst h5
    go_enter Tryz.func156, Tryz.ntmps156
    go_wp2_with fail
    exact bodyPost_ret (v := .tuple #[.bool false, .bool true, .bool false, .bool false, .int .i64 0]) (by simp [results, Tryz.results156, go_sem]) rfl ⟨rfl, rfl⟩
  by_cases h6 : o = 6
  · subst h6
    go_enter Tryz.func156, Tryz.ntmps156
    go_wp2_with fail
    exact bodyPost_ret (v := .tuple #[.bool false, .bool true, .bool false, .bool false, .int .i64 0]) (by simp [results, Tryz.results156, go_sem]) rfl ⟨rfl, rfl⟩
  by_cases h7 : o = 7
  · subst h7
    go_enter Tryz.func156, Tryz.ntmps156
    go_wp2_with fail
    exact bodyPost_ret (v := .tuple #[.bool false, .bool true, .bool false, .bool false, .int .i64 0]) (by simp [results, Tryz.results156, go_sem]) rfl ⟨rfl, rfl⟩
  by_cases h9 : o = 9
  · subst h9
    go_enter Tryz.func156, Tryz.ntmps156
    go_wp2_with fail
    exact bodyPost_ret (v := .tuple #[.bool false, .bool false, .bool false, .bool true, .int .i64 0]) (by simp [results, Tryz.results156, go_sem]) rfl ⟨rfl, rfl⟩
  by_cases h10 : o = 10
  · subst h10
    go_enter Tryz.func156, Tryz.ntmps156
    go_wp2_with fail
    exact bodyPost_ret (v := .tuple #[.bool false, .bool false, .bool false, .bool true, .int .i64 0]) (by simp [results, Tryz.results156, go_sem]) rfl ⟨rfl, rfl⟩
  by_cases h11 : o = 11
  · subst h11
    go_enter Tryz.func156, Tryz.ntmps156
    go_wp2_with fail
    exact bodyPost_ret (v := .tuple #[.bool true, .bool false, .bool false, .bool false, .int .i64 0]) (by simp [results, Tryz.results156, go_sem]) rfl ⟨rfl, rfl⟩
  by_cases h12 : o = 12
  · subst h12
    go_enter Tryz.func156, Tryz.ntmps156
    go_wp2_with fail
    exact bodyPost_ret (v := .tuple #[.bool true, .bool false, .bool true, .bool false, .int .i64 0]) (by simp [results, Tryz.results156, go_sem]) rfl ⟨rfl, rfl⟩
  by_cases h13 : o = 13
  · subst h13
    go_enter Tryz.func156, Tryz.ntmps156
    go_wp2_with fail
    exact bodyPost_ret (v := .tuple #[.bool true, .bool false, .bool true, .bool false, .int .i64 0]) (by simp [results, Tryz.results156, go_sem]) rfl ⟨rfl, rfl⟩
  by_cases h14 : o = 14
  · subst h14
    go_enter Tryz.func156, Tryz.ntmps156
    go_wp2_with fail
    exact bodyPost_ret (v := .tuple #[.bool true, .bool false, .bool true, .bool false, .int .i64 0]) (by simp [results, Tryz.results156, go_sem]) rfl ⟨rfl, rfl⟩
  have e1 : (o == 1) = false := by simpa using h1
  have e2 : (o == 2) = false := by simpa using h2
  have e3 : (o == 3) = false := by simpa using h3
  have e15 : (o == 15) = false := by simpa using h15
  have e16 : (o == 16) = false := by simpa using h16
  have e17 : (o == 17) = false := by simpa using h17
  have e4 : (o == 4) = false := by simpa using h4
  have e5 : (o == 5) = false := by simpa using h5
  have e6 : (o == 6) = false := by simpa using h6
  have e7 : (o == 7) = false := by simpa using h7
  have e9 : (o == 9) = false := by simpa using h9
  have e10 : (o == 10) = false := by simpa using h10
  have e11 : (o == 11) = false := by simpa using h11
  have e12 : (o == 12) = false := by simpa using h12
  have e13 : (o == 13) = false := by simpa using h13
  have e14 : (o == 14) = false := by simpa using h14
  have HV : Hid (uN o = false ∧ uT o = false ∧ uV o = false ∧ uM o = false ∧ uK o = 0) := by
    refine ⟨decide_eq_false (by omega), decide_eq_false (by omega), decide_eq_false (by omega), decide_eq_false (by omega), ?_⟩
    unfold uK
    rw [if_neg (by omega), if_neg (by omega)]
  clear h1 h2 h3 h15 h16 h17 h4 h5 h6 h7 h9 h10 h11 h12 h13 h14
  go_enter Tryz.func156, Tryz.ntmps156
  go_wp2_with fail
  refine bodyPost_ret (v := .tuple #[.bool false, .bool false, .bool false, .bool false, .int .i64 0]) (by simp [results, Tryz.results156, go_sem]) rfl ⟨?_, rfl⟩
  obtain ⟨a1, a2, a3, a4, a5⟩ := HV.out
  rw [a1, a2, a3, a4, a5]
end Go.Proofs.YtnlonleljbbgoaaGreatDoor
namespace Go.Proofs.YtnlonleljbbgoaaGreatDoor
open Go.RowKit

set_option maxHeartbeats 4000000 in
set_option maxRecDepth 100000 in
/-- ask.word -/
theorem word_any (o : Int) (h1 : 1 ≤ o) (h2 : o ≤ 17) (w : World) :
    Calls Tryz.prog 61 #[.int .i64 o] w fun e w' => e = .returned (.string (wordS o)) ∧ w' = w := by
  by_cases h : o = 1
  · subst h
    rw [wordS_1]
    clear h1 h2
    have i0 : ∀ w, (Instr.index 141 (.agg #[.string ⟨#[]⟩, .string ⟨#[97, 108, 108]⟩, .string ⟨#[97, 110, 121]⟩, .string ⟨#[110, 111, 116]⟩, .string ⟨#[115, 97, 121, 115]⟩, .string ⟨#[108, 105, 110, 107, 115]⟩, .string ⟨#[116, 97, 103]⟩, .string ⟨#[112, 97, 103, 101]⟩, .string ⟨#[105, 115, 45, 112, 97, 103, 101]⟩, .string ⟨#[100, 101, 101, 112]⟩, .string ⟨#[117, 110, 100, 101, 114]⟩, .string ⟨#[104, 97, 115]⟩, .string ⟨#[61]⟩, .string ⟨#[60]⟩, .string ⟨#[62]⟩, .string ⟨#[112, 97, 114, 101, 110, 116]⟩, .string ⟨#[107, 105, 100]⟩, .string ⟨#[98, 101, 108, 111, 119]⟩]) (.int .i64 1)).run Tryz.prog w = .ok (.string ⟨#[97, 108, 108]⟩) w := fun _ => by kernel_rfl
    go_enter Tryz.func61, Tryz.ntmps61
    go_wp2_with fail
    go_ret
    exact ⟨rfl, rfl⟩
  have n1 := h
  clear h
  by_cases h : o = 2
  · subst h
    rw [wordS_2]
    clear h1 h2
    have i0 : ∀ w, (Instr.index 141 (.agg #[.string ⟨#[]⟩, .string ⟨#[97, 108, 108]⟩, .string ⟨#[97, 110, 121]⟩, .string ⟨#[110, 111, 116]⟩, .string ⟨#[115, 97, 121, 115]⟩, .string ⟨#[108, 105, 110, 107, 115]⟩, .string ⟨#[116, 97, 103]⟩, .string ⟨#[112, 97, 103, 101]⟩, .string ⟨#[105, 115, 45, 112, 97, 103, 101]⟩, .string ⟨#[100, 101, 101, 112]⟩, .string ⟨#[117, 110, 100, 101, 114]⟩, .string ⟨#[104, 97, 115]⟩, .string ⟨#[61]⟩, .string ⟨#[60]⟩, .string ⟨#[62]⟩, .string ⟨#[112, 97, 114, 101, 110, 116]⟩, .string ⟨#[107, 105, 100]⟩, .string ⟨#[98, 101, 108, 111, 119]⟩]) (.int .i64 2)).run Tryz.prog w = .ok (.string ⟨#[97, 110, 121]⟩) w := fun _ => by kernel_rfl
    go_enter Tryz.func61, Tryz.ntmps61
    go_wp2_with fail
    go_ret
    exact ⟨rfl, rfl⟩
  have n2 := h
  clear h
  by_cases h : o = 3
  · subst h
    rw [wordS_3]
    clear h1 h2
    have i0 : ∀ w, (Instr.index 141 (.agg #[.string ⟨#[]⟩, .string ⟨#[97, 108, 108]⟩, .string ⟨#[97, 110, 121]⟩, .string ⟨#[110, 111, 116]⟩, .string ⟨#[115, 97, 121, 115]⟩, .string ⟨#[108, 105, 110, 107, 115]⟩, .string ⟨#[116, 97, 103]⟩, .string ⟨#[112, 97, 103, 101]⟩, .string ⟨#[105, 115, 45, 112, 97, 103, 101]⟩, .string ⟨#[100, 101, 101, 112]⟩, .string ⟨#[117, 110, 100, 101, 114]⟩, .string ⟨#[104, 97, 115]⟩, .string ⟨#[61]⟩, .string ⟨#[60]⟩, .string ⟨#[62]⟩, .string ⟨#[112, 97, 114, 101, 110, 116]⟩, .string ⟨#[107, 105, 100]⟩, .string ⟨#[98, 101, 108, 111, 119]⟩]) (.int .i64 3)).run Tryz.prog w = .ok (.string ⟨#[110, 111, 116]⟩) w := fun _ => by kernel_rfl
    go_enter Tryz.func61, Tryz.ntmps61
    go_wp2_with fail
    go_ret
    exact ⟨rfl, rfl⟩
  have n3 := h
  clear h
  by_cases h : o = 4
  · subst h
    rw [wordS_4]
    clear h1 h2
    have i0 : ∀ w, (Instr.index 141 (.agg #[.string ⟨#[]⟩, .string ⟨#[97, 108, 108]⟩, .string ⟨#[97, 110, 121]⟩, .string ⟨#[110, 111, 116]⟩, .string ⟨#[115, 97, 121, 115]⟩, .string ⟨#[108, 105, 110, 107, 115]⟩, .string ⟨#[116, 97, 103]⟩, .string ⟨#[112, 97, 103, 101]⟩, .string ⟨#[105, 115, 45, 112, 97, 103, 101]⟩, .string ⟨#[100, 101, 101, 112]⟩, .string ⟨#[117, 110, 100, 101, 114]⟩, .string ⟨#[104, 97, 115]⟩, .string ⟨#[61]⟩, .string ⟨#[60]⟩, .string ⟨#[62]⟩, .string ⟨#[112, 97, 114, 101, 110, 116]⟩, .string ⟨#[107, 105, 100]⟩, .string ⟨#[98, 101, 108, 111, 119]⟩]) (.int .i64 4)).run Tryz.prog w = .ok (.string ⟨#[115, 97, 121, 115]⟩) w := fun _ => by kernel_rfl
    go_enter Tryz.func61, Tryz.ntmps61
    go_wp2_with fail
    go_ret
    exact ⟨rfl, rfl⟩
  have n4 := h
  clear h
  by_cases h : o = 5
  · subst h
    rw [wordS_5]
    clear h1 h2
    have i0 : ∀ w, (Instr.index 141 (.agg #[.string ⟨#[]⟩, .string ⟨#[97, 108, 108]⟩, .string ⟨#[97, 110, 121]⟩, .string ⟨#[110, 111, 116]⟩, .string ⟨#[115, 97, 121, 115]⟩, .string ⟨#[108, 105, 110, 107, 115]⟩, .string ⟨#[116, 97, 103]⟩, .string ⟨#[112, 97, 103, 101]⟩, .string ⟨#[105, 115, 45, 112, 97, 103, 101]⟩, .string ⟨#[100, 101, 101, 112]⟩, .string ⟨#[117, 110, 100, 101, 114]⟩, .string ⟨#[104, 97, 115]⟩, .string ⟨#[61]⟩, .string ⟨#[60]⟩, .string ⟨#[62]⟩, .string ⟨#[112, 97, 114, 101, 110, 116]⟩, .string ⟨#[107, 105, 100]⟩, .string ⟨#[98, 101, 108, 111, 119]⟩]) (.int .i64 5)).run Tryz.prog w = .ok (.string ⟨#[108, 105, 110, 107, 115]⟩) w := fun _ => by kernel_rfl
    go_enter Tryz.func61, Tryz.ntmps61
    go_wp2_with fail
    go_ret
    exact ⟨rfl, rfl⟩
  have n5 := h
  clear h
  by_cases h : o = 6
  · subst h
    rw [wordS_6]
    clear h1 h2
    have i0 : ∀ w, (Instr.index 141 (.agg #[.string ⟨#[]⟩, .string ⟨#[97, 108, 108]⟩, .string ⟨#[97, 110, 121]⟩, .string ⟨#[110, 111, 116]⟩, .string ⟨#[115, 97, 121, 115]⟩, .string ⟨#[108, 105, 110, 107, 115]⟩, .string ⟨#[116, 97, 103]⟩, .string ⟨#[112, 97, 103, 101]⟩, .string ⟨#[105, 115, 45, 112, 97, 103, 101]⟩, .string ⟨#[100, 101, 101, 112]⟩, .string ⟨#[117, 110, 100, 101, 114]⟩, .string ⟨#[104, 97, 115]⟩, .string ⟨#[61]⟩, .string ⟨#[60]⟩, .string ⟨#[62]⟩, .string ⟨#[112, 97, 114, 101, 110, 116]⟩, .string ⟨#[107, 105, 100]⟩, .string ⟨#[98, 101, 108, 111, 119]⟩]) (.int .i64 6)).run Tryz.prog w = .ok (.string ⟨#[116, 97, 103]⟩) w := fun _ => by kernel_rfl
    go_enter Tryz.func61, Tryz.ntmps61
    go_wp2_with fail
    go_ret
    exact ⟨rfl, rfl⟩
  have n6 := h
  clear h
  by_cases h : o = 7
  · subst h
    rw [wordS_7]
    clear h1 h2
    have i0 : ∀ w, (Instr.index 141 (.agg #[.string ⟨#[]⟩, .string ⟨#[97, 108, 108]⟩, .string ⟨#[97, 110, 121]⟩, .string ⟨#[110, 111, 116]⟩, .string ⟨#[115, 97, 121, 115]⟩, .string ⟨#[108, 105, 110, 107, 115]⟩, .string ⟨#[116, 97, 103]⟩, .string ⟨#[112, 97, 103, 101]⟩, .string ⟨#[105, 115, 45, 112, 97, 103, 101]⟩, .string ⟨#[100, 101, 101, 112]⟩, .string ⟨#[117, 110, 100, 101, 114]⟩, .string ⟨#[104, 97, 115]⟩, .string ⟨#[61]⟩, .string ⟨#[60]⟩, .string ⟨#[62]⟩, .string ⟨#[112, 97, 114, 101, 110, 116]⟩, .string ⟨#[107, 105, 100]⟩, .string ⟨#[98, 101, 108, 111, 119]⟩]) (.int .i64 7)).run Tryz.prog w = .ok (.string ⟨#[112, 97, 103, 101]⟩) w := fun _ => by kernel_rfl
    go_enter Tryz.func61, Tryz.ntmps61
    go_wp2_with fail
    go_ret
    exact ⟨rfl, rfl⟩
  have n7 := h
  clear h
  by_cases h : o = 8
  · subst h
    rw [wordS_8]
    clear h1 h2
    have i0 : ∀ w, (Instr.index 141 (.agg #[.string ⟨#[]⟩, .string ⟨#[97, 108, 108]⟩, .string ⟨#[97, 110, 121]⟩, .string ⟨#[110, 111, 116]⟩, .string ⟨#[115, 97, 121, 115]⟩, .string ⟨#[108, 105, 110, 107, 115]⟩, .string ⟨#[116, 97, 103]⟩, .string ⟨#[112, 97, 103, 101]⟩, .string ⟨#[105, 115, 45, 112, 97, 103, 101]⟩, .string ⟨#[100, 101, 101, 112]⟩, .string ⟨#[117, 110, 100, 101, 114]⟩, .string ⟨#[104, 97, 115]⟩, .string ⟨#[61]⟩, .string ⟨#[60]⟩, .string ⟨#[62]⟩, .string ⟨#[112, 97, 114, 101, 110, 116]⟩, .string ⟨#[107, 105, 100]⟩, .string ⟨#[98, 101, 108, 111, 119]⟩]) (.int .i64 8)).run Tryz.prog w = .ok (.string ⟨#[105, 115, 45, 112, 97, 103, 101]⟩) w := fun _ => by kernel_rfl
    go_enter Tryz.func61, Tryz.ntmps61
    go_wp2_with fail
    go_ret
    exact ⟨rfl, rfl⟩
  have n8 := h
  clear h
  by_cases h : o = 9
  · subst h
    rw [wordS_9]
    clear h1 h2
    have i0 : ∀ w, (Instr.index 141 (.agg #[.string ⟨#[]⟩, .string ⟨#[97, 108, 108]⟩, .string ⟨#[97, 110, 121]⟩, .string ⟨#[110, 111, 116]⟩, .string ⟨#[115, 97, 121, 115]⟩, .string ⟨#[108, 105, 110, 107, 115]⟩, .string ⟨#[116, 97, 103]⟩, .string ⟨#[112, 97, 103, 101]⟩, .string ⟨#[105, 115, 45, 112, 97, 103, 101]⟩, .string ⟨#[100, 101, 101, 112]⟩, .string ⟨#[117, 110, 100, 101, 114]⟩, .string ⟨#[104, 97, 115]⟩, .string ⟨#[61]⟩, .string ⟨#[60]⟩, .string ⟨#[62]⟩, .string ⟨#[112, 97, 114, 101, 110, 116]⟩, .string ⟨#[107, 105, 100]⟩, .string ⟨#[98, 101, 108, 111, 119]⟩]) (.int .i64 9)).run Tryz.prog w = .ok (.string ⟨#[100, 101, 101, 112]⟩) w := fun _ => by kernel_rfl
    go_enter Tryz.func61, Tryz.ntmps61
    go_wp2_with fail
    go_ret
    exact ⟨rfl, rfl⟩
  have n9 := h
  clear h
  by_cases h : o = 10
  · subst h
    rw [wordS_10]
    clear h1 h2
    have i0 : ∀ w, (Instr.index 141 (.agg #[.string ⟨#[]⟩, .string ⟨#[97, 108, 108]⟩, .string ⟨#[97, 110, 121]⟩, .string ⟨#[110, 111, 116]⟩, .string ⟨#[115, 97, 121, 115]⟩, .string ⟨#[108, 105, 110, 107, 115]⟩, .string ⟨#[116, 97, 103]⟩, .string ⟨#[112, 97, 103, 101]⟩, .string ⟨#[105, 115, 45, 112, 97, 103, 101]⟩, .string ⟨#[100, 101, 101, 112]⟩, .string ⟨#[117, 110, 100, 101, 114]⟩, .string ⟨#[104, 97, 115]⟩, .string ⟨#[61]⟩, .string ⟨#[60]⟩, .string ⟨#[62]⟩, .string ⟨#[112, 97, 114, 101, 110, 116]⟩, .string ⟨#[107, 105, 100]⟩, .string ⟨#[98, 101, 108, 111, 119]⟩]) (.int .i64 10)).run Tryz.prog w = .ok (.string ⟨#[117, 110, 100, 101, 114]⟩) w := fun _ => by kernel_rfl
    go_enter Tryz.func61, Tryz.ntmps61
    go_wp2_with fail
    go_ret
    exact ⟨rfl, rfl⟩
  have n10 := h
  clear h
  by_cases h : o = 11
  · subst h
    rw [wordS_11]
    clear h1 h2
    have i0 : ∀ w, (Instr.index 141 (.agg #[.string ⟨#[]⟩, .string ⟨#[97, 108, 108]⟩, .string ⟨#[97, 110, 121]⟩, .string ⟨#[110, 111, 116]⟩, .string ⟨#[115, 97, 121, 115]⟩, .string ⟨#[108, 105, 110, 107, 115]⟩, .string ⟨#[116, 97, 103]⟩, .string ⟨#[112, 97, 103, 101]⟩, .string ⟨#[105, 115, 45, 112, 97, 103, 101]⟩, .string ⟨#[100, 101, 101, 112]⟩, .string ⟨#[117, 110, 100, 101, 114]⟩, .string ⟨#[104, 97, 115]⟩, .string ⟨#[61]⟩, .string ⟨#[60]⟩, .string ⟨#[62]⟩, .string ⟨#[112, 97, 114, 101, 110, 116]⟩, .string ⟨#[107, 105, 100]⟩, .string ⟨#[98, 101, 108, 111, 119]⟩]) (.int .i64 11)).run Tryz.prog w = .ok (.string ⟨#[104, 97, 115]⟩) w := fun _ => by kernel_rfl
    go_enter Tryz.func61, Tryz.ntmps61
    go_wp2_with fail
    go_ret
    exact ⟨rfl, rfl⟩
  have n11 := h
  clear h
  by_cases h : o = 12
  · subst h
    rw [wordS_12]
    clear h1 h2
    have i0 : ∀ w, (Instr.index 141 (.agg #[.string ⟨#[]⟩, .string ⟨#[97, 108, 108]⟩, .string ⟨#[97, 110, 121]⟩, .string ⟨#[110, 111, 116]⟩, .string ⟨#[115, 97, 121, 115]⟩, .string ⟨#[108, 105, 110, 107, 115]⟩, .string ⟨#[116, 97, 103]⟩, .string ⟨#[112, 97, 103, 101]⟩, .string ⟨#[105, 115, 45, 112, 97, 103, 101]⟩, .string ⟨#[100, 101, 101, 112]⟩, .string ⟨#[117, 110, 100, 101, 114]⟩, .string ⟨#[104, 97, 115]⟩, .string ⟨#[61]⟩, .string ⟨#[60]⟩, .string ⟨#[62]⟩, .string ⟨#[112, 97, 114, 101, 110, 116]⟩, .string ⟨#[107, 105, 100]⟩, .string ⟨#[98, 101, 108, 111, 119]⟩]) (.int .i64 12)).run Tryz.prog w = .ok (.string ⟨#[61]⟩) w := fun _ => by kernel_rfl
    go_enter Tryz.func61, Tryz.ntmps61
    go_wp2_with fail
    go_ret
    exact ⟨rfl, rfl⟩
  have n12 := h
  clear h
  by_cases h : o = 13
  · subst h
    rw [wordS_13]
    clear h1 h2
    have i0 : ∀ w, (Instr.index 141 (.agg #[.string ⟨#[]⟩, .string ⟨#[97, 108, 108]⟩, .string ⟨#[97, 110, 121]⟩, .string ⟨#[110, 111, 116]⟩, .string ⟨#[115, 97, 121, 115]⟩, .string ⟨#[108, 105, 110, 107, 115]⟩, .string ⟨#[116, 97, 103]⟩, .string ⟨#[112, 97, 103, 101]⟩, .string ⟨#[105, 115, 45, 112, 97, 103, 101]⟩, .string ⟨#[100, 101, 101, 112]⟩, .string ⟨#[117, 110, 100, 101, 114]⟩, .string ⟨#[104, 97, 115]⟩, .string ⟨#[61]⟩, .string ⟨#[60]⟩, .string ⟨#[62]⟩, .string ⟨#[112, 97, 114, 101, 110, 116]⟩, .string ⟨#[107, 105, 100]⟩, .string ⟨#[98, 101, 108, 111, 119]⟩]) (.int .i64 13)).run Tryz.prog w = .ok (.string ⟨#[60]⟩) w := fun _ => by kernel_rfl
    go_enter Tryz.func61, Tryz.ntmps61
    go_wp2_with fail
    go_ret
    exact ⟨rfl, rfl⟩
  have n13 := h
  clear h
  by_cases h : o = 14
  · subst h
    rw [wordS_14]
    clear h1 h2
    have i0 : ∀ w, (Instr.index 141 (.agg #[.string ⟨#[]⟩, .string ⟨#[97, 108, 108]⟩, .string ⟨#[97, 110, 121]⟩, .string ⟨#[110, 111, 116]⟩, .string ⟨#[115, 97, 121, 115]⟩, .string ⟨#[108, 105, 110, 107, 115]⟩, .string ⟨#[116, 97, 103]⟩, .string ⟨#[112, 97, 103, 101]⟩, .string ⟨#[105, 115, 45, 112, 97, 103, 101]⟩, .string ⟨#[100, 101, 101, 112]⟩, .string ⟨#[117, 110, 100, 101, 114]⟩, .string ⟨#[104, 97, 115]⟩, .string ⟨#[61]⟩, .string ⟨#[60]⟩, .string ⟨#[62]⟩, .string ⟨#[112, 97, 114, 101, 110, 116]⟩, .string ⟨#[107, 105, 100]⟩, .string ⟨#[98, 101, 108, 111, 119]⟩]) (.int .i64 14)).run Tryz.prog w = .ok (.string ⟨#[62]⟩) w := fun _ => by kernel_rfl
    go_enter Tryz.func61, Tryz.ntmps61
    go_wp2_with fail
    go_ret
    exact ⟨rfl, rfl⟩
  have n14 := h
  clear h
  by_cases h : o = 15
  · subst h
    rw [wordS_15]
    clear h1 h2
    have i0 : ∀ w, (Instr.index 141 (.agg #[.string ⟨#[]⟩, .string ⟨#[97, 108, 108]⟩, .string ⟨#[97, 110, 121]⟩, .string ⟨#[110, 111, 116]⟩, .string ⟨#[115, 97, 121, 115]⟩, .string ⟨#[108, 105, 110, 107, 115]⟩, .string ⟨#[116, 97, 103]⟩, .string ⟨#[112, 97, 103, 101]⟩, .string ⟨#[105, 115, 45, 112, 97, 103, 101]⟩, .string ⟨#[100, 101, 101, 112]⟩, .string ⟨#[117, 110, 100, 101, 114]⟩, .string ⟨#[104, 97, 115]⟩, .string ⟨#[61]⟩, .string ⟨#[60]⟩, .string ⟨#[62]⟩, .string ⟨#[112, 97, 114, 101, 110, 116]⟩, .string ⟨#[107, 105, 100]⟩, .string ⟨#[98, 101, 108, 111, 119]⟩]) (.int .i64 15)).run Tryz.prog w = .ok (.string ⟨#[112, 97, 114, 101, 110, 116]⟩) w := fun _ => by kernel_rfl
    go_enter Tryz.func61, Tryz.ntmps61
    go_wp2_with fail
    go_ret
    exact ⟨rfl, rfl⟩
  have n15 := h
  clear h
  by_cases h : o = 16
  · subst h
    rw [wordS_16]
    clear h1 h2
    have i0 : ∀ w, (Instr.index 141 (.agg #[.string ⟨#[]⟩, .string ⟨#[97, 108, 108]⟩, .string ⟨#[97, 110, 121]⟩, .string ⟨#[110, 111, 116]⟩, .string ⟨#[115, 97, 121, 115]⟩, .string ⟨#[108, 105, 110, 107, 115]⟩, .string ⟨#[116, 97, 103]⟩, .string ⟨#[112, 97, 103, 101]⟩, .string ⟨#[105, 115, 45, 112, 97, 103, 101]⟩, .string ⟨#[100, 101, 101, 112]⟩, .string ⟨#[117, 110, 100, 101, 114]⟩, .string ⟨#[104, 97, 115]⟩, .string ⟨#[61]⟩, .string ⟨#[60]⟩, .string ⟨#[62]⟩, .string ⟨#[112, 97, 114, 101, 110, 116]⟩, .string ⟨#[107, 105, 100]⟩, .string ⟨#[98, 101, 108, 111, 119]⟩]) (.int .i64 16)).run Tryz.prog w = .ok (.string ⟨#[107, 105, 100]⟩) w := fun _ => by kernel_rfl
    go_enter Tryz.func61, Tryz.ntmps61
    go_wp2_with fail
    go_ret
    exact ⟨rfl, rfl⟩
  have n16 := h
  clear h
  by_cases h : o = 17
  · subst h
    rw [wordS_17]
    clear h1 h2
    have i0 : ∀ w, (Instr.index 141 (.agg #[.string ⟨#[]⟩, .string ⟨#[97, 108, 108]⟩, .string ⟨#[97, 110, 121]⟩, .string ⟨#[110, 111, 116]⟩, .string ⟨#[115, 97, 121, 115]⟩, .string ⟨#[108, 105, 110, 107, 115]⟩, .string ⟨#[116, 97, 103]⟩, .string ⟨#[112, 97, 103, 101]⟩, .string ⟨#[105, 115, 45, 112, 97, 103, 101]⟩, .string ⟨#[100, 101, 101, 112]⟩, .string ⟨#[117, 110, 100, 101, 114]⟩, .string ⟨#[104, 97, 115]⟩, .string ⟨#[61]⟩, .string ⟨#[60]⟩, .string ⟨#[62]⟩, .string ⟨#[112, 97, 114, 101, 110, 116]⟩, .string ⟨#[107, 105, 100]⟩, .string ⟨#[98, 101, 108, 111, 119]⟩]) (.int .i64 17)).run Tryz.prog w = .ok (.string ⟨#[98, 101, 108, 111, 119]⟩) w := fun _ => by kernel_rfl
    go_enter Tryz.func61, Tryz.ntmps61
    go_wp2_with fail
    go_ret
    exact ⟨rfl, rfl⟩
  have n17 := h
  clear h
  omega
set_option maxHeartbeats 4000000 in
set_option maxRecDepth 100000 in
/-- ask.quote -/
theorem quote_any (s : ByteArray) (w : World) (hs : s.size ≤ 2000) :
    Calls Tryz.prog 63 #[.string s] w fun e w' => e = .returned (.string (quoS s)) ∧ Below w.heap.size w w' := by
  have hq := quoS_eq s
  have hes := escS_size s
  have HRP := Lib.hid fun w b g cap h1 h2 h3 h4 => replace_any w b g cap s (by omega) h1 h2 h3 h4
  obtain ⟨S, hS⟩ : ∃ S, S = escS s := ⟨_, rfl⟩
  rw [← hS] at hq hes HRP
  have hes2 : S.size ≤ 4000 := by omega
  rw [← hq]
  clear hq hS hes
  have ha1 : ∀ W, (Op.stringOp .add ⟨#[34]⟩ S).run Tryz.prog W = .ok (.string (⟨#[34]⟩ ++ S)) W := fun W => run_string_add_sum W _ _ (by show 1 + S.size ≤ _; omega)
  have ha2 : ∀ W, (Op.stringOp .add (⟨#[34]⟩ ++ S) ⟨#[34]⟩).run Tryz.prog W = .ok (.string (⟨#[34]⟩ ++ S ++ ⟨#[34]⟩)) W := fun W => run_string_add_sum W _ _ (by rw [ByteArray.size_append]; show 1 + S.size + 1 ≤ _; omega)
  have hbY : Below w.heap.size w (w.alloc (.cells #[.string ⟨#[34]⟩, .string ⟨#[92, 34]⟩, .string ⟨#[92]⟩, .string ⟨#[92, 92]⟩] 9)) := (Below.refl _ _).alloc (Nat.le_refl _) _
  have hcY : ∀ j u, rpO[j]? = some u → (w.alloc (.cells #[.string ⟨#[34]⟩, .string ⟨#[92, 34]⟩, .string ⟨#[92]⟩, .string ⟨#[92, 92]⟩] 9)).cell? ((⟨w.heap.size, 0, none⟩ : Addr).add j) = some u := fun j u h => by
    rw [Addr.add_lit, Nat.zero_add, World.cell?_alloc_mark]
    show (rpO.toArray)[j]? = some u
    rw [List.getElem?_toArray]
    exact h
  have HNR := Lib.hid (newReplacer_any ⟨w.heap.size, 0, none⟩ 4 _ hcY)
  have HBY := Lib.hid hbY
  clear hcY hbY
  go_enter Tryz.func63, Tryz.ntmps63
  go_wp2_with fail
  refine HNR.out.mono ?_
  rintro e w2 ⟨b, g, cap, rfl, hb1, hg1, hblk, hcl, hgb, hbel⟩
  have hgl : g < w2.heap.size := World.block_lt_of_cell? w2 _ (hcl 0 _ rfl)
  have HB2 : Hid (Below w.heap.size w w2) := HBY.out.trans (hbel.mono (by simp))
  have HR := Lib.hid (HRP.out w2 b g cap hgl hblk hcl (Nat.ne_of_lt hgb))
  clear hblk hcl hbel hgl
  have hbb : w.heap.size ≤ b := Nat.le_trans (by simp) hb1
  go_wp2_with fail
  refine HR.out.mono ?_
  rintro e w3 ⟨rfl, hb3⟩
  have HB3 : Hid (Below w.heap.size w w3) := HB2.out.trans (hb3.mono (by omega))
  clear hb3
  go_wp2_with fail
  go_ret
  exact ⟨rfl, HB3.out⟩
end Go.Proofs.YtnlonleljbbgoaaGreatDoor
namespace Go.Proofs.YtnlonleljbbgoaaGreatDoor
open Go.RowKit

def idS : ByteArray := ⟨#[64, 105, 100]⟩
def textS : ByteArray := ⟨#[64, 116, 101, 120, 116]⟩
def depthS : ByteArray := ⟨#[64, 100, 101, 112, 116, 104]⟩
theorem idS_list : idS.toList = [64, 105, 100] := by rw [ByteArray.toList_eq]; rfl
theorem textS_list : textS.toList = [64, 116, 101, 120, 116] := by rw [ByteArray.toList_eq]; rfl
theorem depthS_list : depthS.toList = [64, 100, 101, 112, 116, 104] := by rw [ByteArray.toList_eq]; rfl
/-- whether a text names what is sorted by -/
def isByL (s : ByteArray) : Bool := decide (s = idS) || decide (s = textS) || decide (s = depthS) || decide (nmErr s = 0)
set_option maxHeartbeats 1000000 in
set_option maxRecDepth 100000 in
/-- ask.isBy -/
theorem isBy_any (s : ByteArray) (w : World) :
    Calls Tryz.prog 28 #[.string s] w fun e w' => e = .returned (.bool (isByL s)) ∧ w' = w := by
  obtain ⟨q1, h1⟩ : ∃ q, (s.toList == [64, 105, 100]) = q := ⟨_, rfl⟩
  obtain ⟨q2, h2⟩ : ∃ q, (s.toList == [64, 116, 101, 120, 116]) = q := ⟨_, rfl⟩
  obtain ⟨q3, h3⟩ : ∃ q, (s.toList == [64, 100, 101, 112, 116, 104]) = q := ⟨_, rfl⟩
  obtain ⟨er, her⟩ : ∃ er, nmErr s = er := ⟨_, rfl⟩
  have HE : Hid (isByL s = (q1 || q2 || q3 || decide (er = 0))) := by
    show isByL s = _
    rw [← h1, ← h2, ← h3, ← her, isByL, dec_toList, dec_toList, dec_toList, idS_list, textS_list, depthS_list]
  have HC := Lib.hid (checkName_any s w)
  rw [her] at HC
  have hq : (er == 0) = decide (er = 0) := rfl
  clear her
  go_enter Tryz.func28, Tryz.ntmps28
  cases q1
  · cases q2
    · cases q3
      · go_wp2_with fail
        refine HC.out.mono ?_
        rintro e w1 ⟨rfl, hb⟩
        have HB := Lib.hid hb
        clear hb
        go_wp2_with fail
        go_ret
        exact ⟨by rw [HE.out]; simp, HB.out⟩
      · go_wp2_with fail
        go_ret
        exact ⟨by rw [HE.out]; simp, rfl⟩
    · go_wp2_with fail
      go_ret
      exact ⟨by rw [HE.out]; simp, rfl⟩
  · go_wp2_with fail
    go_ret
    exact ⟨by rw [HE.out]; simp, rfl⟩
end Go.Proofs.YtnlonleljbbgoaaGreatDoor
