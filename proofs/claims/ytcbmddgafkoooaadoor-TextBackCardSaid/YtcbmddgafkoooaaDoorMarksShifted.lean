/-
  DERIVED. The walk of text.shifted. Conditions: the mark and the edit are in range. By an AI agent.
-/
import Derived.Test.YtcbmddgafkoooaaDoorBase
import Derived.Test.YtcbmddgafkoooaaDoorMarksMath
import Derived.Test.YtcbmddgafkoooaaDoorChecked
namespace Go.Proofs.YtcbmddgafkoooaaDoor
open Go.RowKit

set_option maxHeartbeats 400000 in
theorem shifted_any (m f t : Int) (s : ByteArray) (b : Bool) (w : World) (h0 : 0 ≤ m) (h1 : m ≤ 2000) (h2 : 0 ≤ f) (h3 : f ≤ t) (h4 : t ≤ 9223372036854775807) (hs : s.size ≤ 140737488351232) :
    Calls Tryd.prog 41 #[.int .i64 m, .agg #[.int .i64 f, .int .i64 t, .string s], .bool b] w fun e w' => e = .returned (.int .i64 (shf m f t s.size b)) ∧ Below w.heap.size w w' := by
  by_cases c1 : m < f
  · go_enter Tryd.func41, Tryd.ntmps41
    go_wp2
    go_ret
    exact ⟨ret_int (shf_before c1).symm, (Below.refl _ _).alloc (Nat.le_refl _) _⟩
  · by_cases c2 : t < m
    · go_enter Tryd.func41, Tryd.ntmps41
      go_wp2
      go_ret
      exact ⟨ret_int (shf_behind h0 h1 h2 h3 c2).symm, (Below.refl _ _).alloc (Nat.le_refl _) _⟩
    · cases b
      · go_enter Tryd.func41, Tryd.ntmps41
        go_wp2
        go_ret
        exact ⟨ret_int (by rw [shf_in h0 h1 h2 h3 (by omega) (by omega)]; rfl), (Below.refl _ _).alloc (Nat.le_refl _) _⟩
      · go_enter Tryd.func41, Tryd.ntmps41
        go_wp2
        go_ret
        exact ⟨ret_int (by rw [shf_in h0 h1 h2 h3 (by omega) (by omega)]; rfl), (Below.refl _ _).alloc (Nat.le_refl _) _⟩
end Go.Proofs.YtcbmddgafkoooaaDoor
