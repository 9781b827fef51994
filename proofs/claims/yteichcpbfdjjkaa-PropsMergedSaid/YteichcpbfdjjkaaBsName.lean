/-
  DERIVED. The walk of prop.CheckName. Conditions: sizes. By an AI agent.
-/
import Derived.Test.YteichcpbfdjjkaaBsSmallP
import Derived.Deep.LoopGhost
namespace Go.Proofs.Yteichcpbfdjjkaa
open Go.RowKit

/-- a byte of a name -/
def nmB (c : UInt8) : Bool := ((97 ≤ c.toNat && c.toNat ≤ 122) || (48 ≤ c.toNat && c.toNat ≤ 57)) || c.toNat == 45
/-- a name's first byte -/
def nmA (c : UInt8) : Bool := 97 ≤ c.toNat && c.toNat ≤ 122
/-- is it a name -/
def nmOk (s : ByteArray) : Bool := decide (0 < s.size) && decide (s.size ≤ 20) && (s.data.toList.take 1).all nmA && s.data.toList.all nmB
/-- the error of a name -/
def nmErr (s : ByteArray) : Int := if nmOk s = true then 0 else 3
theorem nmErr_no {s : ByteArray} (h : nmOk s = false) : nmErr s = 3 := if_neg (by rw [h]; decide)
theorem nmErr_yes {s : ByteArray} (h : nmOk s = true) : nmErr s = 0 := if_pos h
def nmTo (s : ByteArray) (k : Nat) : Prop := ∀ j (h : j < s.size), j < k → nmB s[j] = true
theorem nm_bad (s : ByteArray) (k : Nat) (h : k < s.size) (hc : nmB s[k] = false) : nmOk s = false := by
  unfold nmOk
  rw [Bool.and_eq_false_iff]
  refine .inr (List.all_eq_false.2 ⟨s[k], by show s.data[k] ∈ _; simp, by rw [hc]; decide⟩)
theorem nm_all (s : ByteArray) (h : nmTo s s.size) : s.data.toList.all nmB = true := by
  rw [List.all_eq_true]
  intro c hc
  obtain ⟨j, hj, rfl⟩ := List.mem_iff_getElem.1 hc
  have hj' : j < s.size := by simpa using hj
  have := h j hj' hj'
  have e : s.data.toList[j] = s[j] := by simp; rfl
  rw [e, this]
theorem nmTo_succ (s : ByteArray) (k : Nat) (hk : k < s.size) (h : nmTo s k) (hc : nmB s[k] = true) : nmTo s (k + 1) := fun j hj hjk => by
  rcases Nat.lt_succ_iff_lt_or_eq.1 hjk with h1 | rfl
  · exact h j hj h1
  · exact hc
theorem nmB_ways (c : UInt8) : (((97 : Int) ≤ c.toNat ∧ (c.toNat : Int) ≤ 122) ∧ nmB c = true)
    ∨ ((¬ (97 : Int) ≤ c.toNat ∧ (48 : Int) ≤ c.toNat ∧ (c.toNat : Int) ≤ 57) ∧ nmB c = true)
    ∨ ((¬ (97 : Int) ≤ c.toNat ∧ ¬ (48 : Int) ≤ c.toNat ∧ ((c.toNat : Int) == 45) = true) ∧ nmB c = true)
    ∨ ((¬ (97 : Int) ≤ c.toNat ∧ ¬ (48 : Int) ≤ c.toNat ∧ ((c.toNat : Int) == 45) = false) ∧ nmB c = false)
    ∨ ((¬ (97 : Int) ≤ c.toNat ∧ (48 : Int) ≤ c.toNat ∧ ¬ (c.toNat : Int) ≤ 57 ∧ ((c.toNat : Int) == 45) = false) ∧ nmB c = false)
    ∨ (((97 : Int) ≤ c.toNat ∧ ¬ (c.toNat : Int) ≤ 122 ∧ (48 : Int) ≤ c.toNat ∧ ¬ (c.toNat : Int) ≤ 57 ∧ ((c.toNat : Int) == 45) = false) ∧ nmB c = false) := by
  have h := fun n : Nat => fun (hn : n < 256) => show (((97 : Int) ≤ n ∧ (n : Int) ≤ 122) ∧ (((97 ≤ n && n ≤ 122) || (48 ≤ n && n ≤ 57)) || n == 45) = true)
    ∨ ((¬ (97 : Int) ≤ n ∧ (48 : Int) ≤ n ∧ (n : Int) ≤ 57) ∧ (((97 ≤ n && n ≤ 122) || (48 ≤ n && n ≤ 57)) || n == 45) = true)
    ∨ ((¬ (97 : Int) ≤ n ∧ ¬ (48 : Int) ≤ n ∧ ((n : Int) == 45) = true) ∧ (((97 ≤ n && n ≤ 122) || (48 ≤ n && n ≤ 57)) || n == 45) = true)
    ∨ ((¬ (97 : Int) ≤ n ∧ ¬ (48 : Int) ≤ n ∧ ((n : Int) == 45) = false) ∧ (((97 ≤ n && n ≤ 122) || (48 ≤ n && n ≤ 57)) || n == 45) = false)
    ∨ ((¬ (97 : Int) ≤ n ∧ (48 : Int) ≤ n ∧ ¬ (n : Int) ≤ 57 ∧ ((n : Int) == 45) = false) ∧ (((97 ≤ n && n ≤ 122) || (48 ≤ n && n ≤ 57)) || n == 45) = false)
    ∨ (((97 : Int) ≤ n ∧ ¬ (n : Int) ≤ 122 ∧ (48 : Int) ≤ n ∧ ¬ (n : Int) ≤ 57 ∧ ((n : Int) == 45) = false) ∧ (((97 ≤ n && n ≤ 122) || (48 ≤ n && n ≤ 57)) || n == 45) = false) from by
      simp only [beq_iff_eq, beq_eq_false_iff_ne, Bool.or_eq_true, Bool.and_eq_true, decide_eq_true_eq, Bool.or_eq_false_iff, Bool.and_eq_false_iff, decide_eq_false_iff_not]
      omega
  exact h c.toNat c.toNat_lt

set_option maxHeartbeats 1000000 in
theorem checkName_any (s : ByteArray) (w : World) :
    Calls Try.prog 16 #[.string s] w fun e w' => e = .returned (.int .i64 (nmErr s)) ∧ w' = w := by
  by_cases h0 : s.size = 0
  · obtain rfl : s = ⟨#[]⟩ := by cases s with | mk d => rw [show d = #[] from Array.eq_empty_of_size_eq_zero h0]
    clear h0
    go_enter Try.func16, Try.ntmps16
    go_wp2_with fail
    go_ret
    exact ⟨rfl, rfl⟩
  have hne : s.toList.isEmpty = false := by
    rw [ByteArray.toList_eq, List.isEmpty_eq_false_iff]
    intro e
    have := congrArg List.length e
    simp at this
    exact h0 (by show s.data.size = 0; rw [this]; rfl)
  by_cases h1 : 20 < s.size
  · have hv : nmErr s = 3 := by
      unfold nmErr nmOk
      rw [decide_eq_false (by omega : ¬ s.size ≤ 20)]
      simp
    rw [hv]
    have h1' : (20 : Int) < (s.size : Int) := by omega
    clear hv
    go_enter Try.func16, Try.ntmps16
    go_wp2_with fail
    go_ret
    exact ⟨rfl, rfl⟩
  have h1' : ¬ (20 : Int) < (s.size : Int) := by omega
  have hz : 0 < s.size := by omega
  have hz' : (0 : Int) < (s.size : Int) := by omega
  have ht : s.data.toList.take 1 = [s[0]] := by
    cases s with | mk d => cases d with | mk l => cases l with
      | nil => exact absurd rfl h0
      | cons a l => rfl
  by_cases ha : (s[0].toNat : Int) < 97
  · have hv : nmErr s = 3 := nmErr_no (by
      unfold nmOk nmA
      rw [ht]
      simp only [List.all_cons, List.all_nil]
      rw [decide_eq_false (by omega : ¬ 97 ≤ s[0].toNat)]
      simp)
    rw [hv]
    clear hv ht
    go_enter Try.func16, Try.ntmps16
    go_wp2_with fail
    go_ret
    exact ⟨rfl, rfl⟩
  by_cases hb : (122 : Int) < (s[0].toNat : Int)
  · have hv : nmErr s = 3 := nmErr_no (by
      unfold nmOk nmA
      rw [ht]
      simp only [List.all_cons, List.all_nil]
      rw [decide_eq_false (by omega : ¬ s[0].toNat ≤ 122)]
      simp)
    rw [hv]
    clear hv ht
    go_enter Try.func16, Try.ntmps16
    go_wp2_with fail
    go_ret
    exact ⟨rfl, rfl⟩
  have HA : Hid (nmTo s s.size → nmErr s = 0) := fun h => nmErr_yes (by
    unfold nmOk nmA
    rw [ht, nm_all s h, decide_eq_true hz, decide_eq_true (by omega : s.size ≤ 20)]
    simp only [List.all_cons, List.all_nil]
    rw [decide_eq_true (by omega : 97 ≤ s[0].toNat), decide_eq_true (by omega : s[0].toNat ≤ 122)]
    rfl)
  clear ht
  go_enter Try.func16, Try.ntmps16
  go_wp2_with fail
  go_loopg [24] s.size (fun gg s24 wr => ∃ k : Nat, k + gg = s.size ∧ s24 = .int .i64 (k : Int) ∧ Hid (nmTo s k) ∧ wr = w)
  case atStart => exact ⟨0, by omega, rfl, (fun j _ h => absurd h (by omega)), rfl⟩
  case round =>
    obtain ⟨k, hkg, rfl, hno, rfl⟩ := hrel
    by_cases hk : k < s.size
    · have HB : Hid (nmB s[k] = false → nmErr s = 3) := fun h => nmErr_no (nm_bad s k hk h)
      have HG : Hid (nmB s[k] = true → nmTo s (k + 1)) := fun h => nmTo_succ s k hk hno.out h
      have j0 : (0 : Int) ≤ (k : Int) := by omega
      have j1 : (k : Int) < (s.size : Int) := by omega
      rcases nmB_ways s[k] with ⟨⟨f1, f2⟩, g⟩ | ⟨⟨f1, f2, f3⟩, g⟩ | ⟨⟨f1, f2, f3⟩, g⟩ | ⟨⟨f1, f2, f3⟩, g⟩ | ⟨⟨f1, f2, f3, f4⟩, g⟩ | ⟨⟨f1, f2, f3, f4, f5⟩, g⟩
      · go_wp2_with fail
        go_roundg (s.size - (k + 1))
        case measure => omega
        case rel => exact ⟨k + 1, by omega, by go_num, HG.out g, rfl⟩
      · go_wp2_with fail
        go_roundg (s.size - (k + 1))
        case measure => omega
        case rel => exact ⟨k + 1, by omega, by go_num, HG.out g, rfl⟩
      · go_wp2_with fail
        go_roundg (s.size - (k + 1))
        case measure => omega
        case rel => exact ⟨k + 1, by omega, by go_num, HG.out g, rfl⟩
      · go_wp2_with fail
        go_ret
        exact ⟨by rw [HB.out g]; rfl, rfl⟩
      · go_wp2_with fail
        go_ret
        exact ⟨by rw [HB.out g]; rfl, rfl⟩
      · go_wp2_with fail
        go_ret
        exact ⟨by rw [HB.out g]; rfl, rfl⟩
    · obtain rfl : k = s.size := by omega
      have hv := HA.out hno.out
      go_wp2_with fail
      go_ret
      exact ⟨by rw [hv]; rfl, rfl⟩
end Go.Proofs.Yteichcpbfdjjkaa
