/-
  DERIVED. The reference's walk beside hasControl. Conditions: a length in reach. By an AI agent.
-/
import Derived.Test.YtbkhnfdfdgdfkaaCtl
namespace Go.Proofs.Ytbkhnfdfdgdfkaa
open Go.RowKit

set_option maxHeartbeats 400000 in
theorem below_any (s : ByteArray) (w : World) (hs : s.size ≤ 140737488351232) :
    Calls Try.prog 48 #[.string s] w fun e w' => e = .returned (.bool (ctl s)) ∧ w = w' := by
  go_enter Try.func48, Try.ntmps48
  go_wp2
  go_loop [3] (fun i => ∃ k : Nat, k ≤ s.size ∧ i = .int .i64 k ∧ ctlTo s k) (fun i => s.size - (intOf i).toNat)
  case atStart => exact ⟨0, Nat.zero_le _, rfl, fun j _ h => absurd h (by omega)⟩
  case round =>
    obtain ⟨k, hk, rfl, ht⟩ := hrel
    by_cases hlt : k < s.size
    · have H1 := Lib.hid (ctl_yes s k hlt)
      have H2 := Lib.hid (ctlTo_succ s k hlt ht)
      clear ht
      rcases ctlB_ways s[k] with g | ⟨g, g'⟩ | ⟨g, g'⟩
      · go_wp2
        go_ret
        exact ⟨ret_bool' (H1.out (ctlB_low g)).symm, rfl⟩
      · go_wp2
        go_ret
        exact ⟨ret_bool' (H1.out (ctlB_del g')).symm, rfl⟩
      · go_wp2
        go_round
        case rel => exact ⟨k + 1, by omega, by go_num, H2.out (ctlB_not g g')⟩
        case measure => simp [intOf]; omega
    · obtain rfl : k = s.size := by omega
      have H := Lib.hid (ctl_no s ht)
      clear ht
      go_wp2
      go_ret
      exact ⟨ret_bool' H.out.symm, rfl⟩

end Go.Proofs.Ytbkhnfdfdgdfkaa
