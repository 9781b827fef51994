/-
  DERIVED. The walks of text.edited, florref1.Edited, text.CheckEdit, florref1.EditError. Conditions: the lengths are within the form's reach. By an AI agent.
-/
import Derived.Test.YtcbmddgafkoooaaDoorEditMath
import Derived.Deep.QuietTactic
import Derived.BigQuiet
import Derived.WalkSpells
namespace Go.Proofs.YtcbmddgafkoooaaDoor
open Go.RowKit

set_option maxHeartbeats 1000000 in
theorem edited_any (s x : ByteArray) (f t : Int) (w : World) (hs : s.size ≤ 140737488351232) (hx : x.size ≤ 140737488351232) (h0 : 0 ≤ f) (h1 : f ≤ t) (h2 : t ≤ (s.size : Int)) :
    Calls Tryd.prog 39 #[.string s, .agg #[.int .i64 f, .int .i64 t, .string x]] w fun e w' => e = .returned (.string (edS s x f t)) ∧ Below w.heap.size w w' := by
  obtain ⟨a, rfl⟩ := Int.eq_ofNat_of_zero_le h0
  obtain ⟨b, rfl⟩ := Int.eq_ofNat_of_zero_le (Int.le_trans h0 h1)
  go_enter Tryd.func39, Tryd.ntmps39
  go_wp2
  go_quiet (fail)
  go_wp2
  go_ret
  exact ⟨rfl, bdrew ((Below.refl _ _).alloc (Nat.le_refl _) _) _⟩

set_option maxHeartbeats 2000000 in
theorem checkEdit_any (s x : ByteArray) (f t : Int) (w : World) (hs : s.size ≤ 140737488351232) (hx : x.size ≤ 140737488351232) :
    Calls Tryd.prog 38 #[.string s, .agg #[.int .i64 f, .int .i64 t, .string x]] w fun e w' => e = .returned (.int .i64 (edErr s x f t)) ∧ Below w.heap.size w w' := by
  rcases edErr_ways s x f t with ⟨g, h⟩ | ⟨⟨g, g1⟩, h⟩ | ⟨⟨g, g1, g2⟩, h⟩ | ⟨⟨g, g1, g2⟩, g3, h⟩ | ⟨⟨g, g1, g2⟩, g3, g4, h⟩ | ⟨⟨g, g1, g2⟩, g3, g4, h⟩
  all_goals
    rw [h]
    clear h
    go_enter Tryd.func38, Tryd.ntmps38
    go_wp2_with (go_at_call 40; refine (hasControl_any x _ hx).mono ?_; rintro e w' ⟨rfl, rfl⟩)
    go_ret
    exact ⟨rfl, (Below.refl _ _).alloc (Nat.le_refl _) _⟩

end Go.Proofs.YtcbmddgafkoooaaDoor
