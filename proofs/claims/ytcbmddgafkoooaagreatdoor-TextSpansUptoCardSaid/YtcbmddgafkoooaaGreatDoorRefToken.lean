/-
  DERIVED. The walk of florref1.token, at every place. Conditions: a place in the text. By an AI agent.
-/
import Derived.Test.YtcbmddgafkoooaaGreatDoorRefTokenL
import Derived.Test.YtcbmddgafkoooaaGreatDoorRefTokenR
import Derived.Test.YtcbmddgafkoooaaGreatDoorRefTokenT
namespace Go.Proofs.YtcbmddgafkoooaaGreatDoor
open Go.RowKit

theorem tok_plain {s T : ByteArray} {a : Nat} (L : Tl s a T) (h0 : ¬ (bt T 0 = 92 ∧ punB (bt T 1) = true)) (h1 : bt T 0 ≠ 96) (h2 : ¬ (bt T 0 = 91 ∧ bt T 1 = 91)) (h3 : ¬ (bt T 0 = 40 ∧ bt T 1 = 40)) (h4 : bt T 0 ≠ 35) (h5 : ¬ (bt T 0 = 42 ∧ bt T 1 = 42)) : tokA s a = plainAt a := by
  have e0 := L.bt 0
  have e1 := L.bt 1
  rw [Nat.add_zero] at e0
  rw [e0] at h0 h1 h2 h3 h4 h5
  rw [e1] at h0 h2 h3 h5
  refine tokA_none (fun j hj => ?_)
  cases e : tokK j s a with
  | none => rfl
  | some y =>
    exfalso
    match j, hj with
    | 0, _ =>
      have e : tokE s a = some y := e
      unfold tokE at e; split at e
      · rename_i c; exact h0 c
      · cases e
    | 1, _ => exact h1 (tokC_byte e)
    | 2, _ => have e : tokL s a = some y := e; exact h2 ⟨(tokL_inv e).b0, (tokL_inv e).b1⟩
    | 3, _ =>
      have e : tokR s a = some y := e
      unfold tokR at e; dsimp only at e; split at e
      · rename_i c; exact h3 ⟨c.1, c.2.1⟩
      · cases e
    | 4, _ =>
      have e : tokT s a = some y := e
      unfold tokT at e; dsimp only at e; split at e
      · rename_i c; exact h4 c.1
      · cases e
    | 5, _ =>
      have e : tokB s a = some y := e
      unfold tokB at e; split at e
      · rename_i c; exact h5 c
      · cases e

theorem rtoken_any (s : ByteArray) (a : Nat) (w : World) (hs : s.size ≤ 4294967280) (ha : a < s.size) :
    Calls Tryz.prog 32 #[.string s, .int .i64 a] w fun e w' => e = .returned (rtV s a) ∧ Below w.heap.size w w' := by
  have L : Tl s a (s.extract a s.size) := ⟨rfl, ha⟩
  generalize s.extract a s.size = T at L
  have hz := L.z
  by_cases h1 : bt T 0 = 96
  · by_cases c : upto (isC 96) T 1 < T.size ∧ 1 < upto (isC 96) T 1
    · exact rtok_code s T a w hs L h1 c.1 c.2
    · exact rtok_nocode s T a w hs L h1 c
  by_cases h2 : bt T 0 = 91 ∧ bt T 1 = 91
  · exact rtok_link s T a w hs L h2.1 h2.2
  by_cases h3 : bt T 0 = 40 ∧ bt T 1 = 40
  · exact rtok_ref s T a w hs L h3.1 h3.2
  by_cases h4 : bt T 0 = 35
  · exact rtok_tag s T a w hs L h4
  by_cases h5 : bt T 0 = 42 ∧ bt T 1 = 42
  · exact rtok_bold s T a w hs L h5.1 h5.2
  by_cases h0 : bt T 0 = 92
  · by_cases h6 : punB (bt T 1) = true
    · have : 1 < T.size := bt_in (by
        have := bt_lo T 1
        by_cases g : 0 ≤ bt T 1
        · exact g
        · rw [show bt T 1 = -1 by omega] at h6; cases h6)
      exact rtok_esc s T a w hs L h0 this h6
    · refine rtok_noesc s T a w hs L (by simpa using h0) ?_ h1 h2 h3 h4 h5 (tok_plain L (fun c => h6 c.2) h1 h2 h3 h4 h5)
      by_cases g : 1 < T.size
      · exact .inr ⟨g, by rw [← bt_at g]; simpa using h6⟩
      · exact .inl (by omega)
  · exact rtok_rest s T a w hs L (notBeq h0) h1 h2 h3 h4 h5 (tok_plain L (fun c => h0 c.1) h1 h2 h3 h4 h5)
end Go.Proofs.YtcbmddgafkoooaaGreatDoor
