/-
  DERIVED. The walk of slices.Equal at []int, for two slices that read the same list: true. Conditions: the length is within the form's reach. By an AI agent.
-/
import Derived.Test.YtnkmmlancippmaaMarksShift
import Derived.Deep.QuietTactic
import Derived.BigQuiet
namespace Go.Proofs.Ytnkmmlancippmaa
open Go.RowKit

set_option maxHeartbeats 1000000 in
theorem equal_ints (A A' : Option Addr) (len cap cap' : Nat) (zs : List Int) (w : World) (B : Nat) (hr : Reads w B 1 A len (zs.map (.int .i64))) (hr' : Reads w B 1 A' len (zs.map (.int .i64))) (hB : B ≤ w.heap.size) (hl : len ≤ 140737488351232) :
    Calls Try.prog 5 #[.slice A len cap, .slice A' len cap'] w fun e w' => e = .returned (.bool true) ∧ Below w.heap.size w w' := by
  go_enter Try.func5, Try.ntmps5
  go_wp2
  go_loopw [13] (fun i wr => ∃ k : Nat, k ≤ len ∧ i = .int .i64 k ∧ Below w.heap.size w wr) (fun i _ => len - (intOf i).toNat)
  case atStart => exact ⟨0, Nat.zero_le _, rfl, Below.refl _ _⟩
  case round =>
    obtain ⟨k, hk, rfl, hbel⟩ := hrel
    by_cases hkl : k < len
    · obtain ⟨ad, u, rfl, hab, hx, hc⟩ := hr.at_ hkl
      obtain ⟨ad', u', rfl, hab', hx', hc'⟩ := hr'.at_ hkl
      obtain ⟨m, hm, rfl⟩ := map_int_at hx
      obtain ⟨m', hm', rfl⟩ := map_int_at hx'
      rw [hm] at hm'
      injection hm' with hm'
      subst hm'
      have hc1 := (hbel.cell (p := ad.add k) (by rw [block_of_add]; omega)).trans hc
      have hc2 := (hbel.cell (p := ad'.add k) (by rw [block_of_add]; omega)).trans hc'
      clear hc hc' hx hx' hm
      have i1 : (k : Int) < (len : Int) := by omega
      have i0 : (0 : Int) ≤ (k : Int) := by omega
      go_wp2
      go_quiet (fail)
      go_wp2
      go_roundw
      case rel => exact ⟨k + 1, by omega, by go_num, bdrew hbel _⟩
      case measure => simp [intOf]; omega
    · go_wp2
      go_ret
      exact ⟨rfl, hbel⟩
end Go.Proofs.Ytnkmmlancippmaa
