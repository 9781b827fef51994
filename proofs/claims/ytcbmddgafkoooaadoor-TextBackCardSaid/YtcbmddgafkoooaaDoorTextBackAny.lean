/-
  DERIVED. The walk of florkeep1.TextBack, whatever the input. Conditions: lengths in reach. By an AI agent.
-/
import Derived.Test.YtcbmddgafkoooaaDoorTextBackOk
namespace Go.Proofs.YtcbmddgafkoooaaDoor
open Go.RowKit

theorem textBack_any (s x b : ByteArray) (f t : Int) (w : World) (hs : s.size ≤ 140737488351232) (hx : x.size ≤ 140737488351232) (hb : b.size ≤ 140737488351232) :
    Calls Tryd.prog 4 #[.string s, .agg #[.int .i64 f, .int .i64 t, .string x], .string b] w fun e w' => e = .returned (.bool true) ∧ Below w.heap.size w w' := by
  by_cases hE : edErr s x f t = 0
  · obtain ⟨g0, g1, g2, g3, g4⟩ := edErr_ok hE
    have hT := edS_size g0 g1 g2 (x := x)
    rcases edErr_ways (edS s x f t) (s.extract f.toNat t.toNat) f (f + x.size) with ⟨a, _⟩ | ⟨a, _⟩ | ⟨a, _⟩ | ⟨_, _, h3⟩ | ⟨_, _, _, h3⟩ | ⟨_, _, _, h3⟩
    · omega
    · omega
    · omega
    · exact textBack_err s x b f t w hs hx hE 9 h3 (.inl rfl)
    · exact textBack_err s x b f t w hs hx hE 4 h3 (.inr rfl)
    · exact textBack_ok s x b f t w hs hx hb hE h3
  · exact textBack_bad s x b f t w hs hx hb hE
end Go.Proofs.YtcbmddgafkoooaaDoor
