/-
  DERIVED. Plain law: the error of an edit, and what it makes. Conditions: none. By an AI agent.
-/
import Derived.Test.YtcbmddgafkoooaaDoorCtl
namespace Go.Proofs.YtcbmddgafkoooaaDoor
open Go.RowKit

def edS (s x : ByteArray) (f t : Int) : ByteArray := s.extract 0 f.toNat ++ x ++ s.extract t.toNat s.size
def edErr (s x : ByteArray) (f t : Int) : Int :=
  if f < 0 ∨ t < f ∨ (s.size : Int) < t then 2 else if ctl x = true then 9 else if 2000 < (s.size : Int) - (t - f) + x.size then 4 else 0

theorem edErr_ways (s x : ByteArray) (f t : Int) :
    f < 0 ∧ edErr s x f t = 2 ∨ (0 ≤ f ∧ t < f) ∧ edErr s x f t = 2 ∨ (0 ≤ f ∧ f ≤ t ∧ (s.size : Int) < t) ∧ edErr s x f t = 2 ∨
    (0 ≤ f ∧ f ≤ t ∧ t ≤ (s.size : Int)) ∧ ctl x = true ∧ edErr s x f t = 9 ∨
    (0 ≤ f ∧ f ≤ t ∧ t ≤ (s.size : Int)) ∧ ctl x = false ∧ 2000 < (s.size : Int) - (t - f) + x.size ∧ edErr s x f t = 4 ∨
    (0 ≤ f ∧ f ≤ t ∧ t ≤ (s.size : Int)) ∧ ctl x = false ∧ (s.size : Int) - (t - f) + x.size ≤ 2000 ∧ edErr s x f t = 0 := by
  unfold edErr
  by_cases h1 : f < 0
  · exact .inl ⟨h1, by rw [if_pos (.inl h1)]⟩
  by_cases h2 : t < f
  · exact .inr (.inl ⟨⟨by omega, h2⟩, by rw [if_pos (.inr (.inl h2))]⟩)
  by_cases h3 : (s.size : Int) < t
  · exact .inr (.inr (.inl ⟨⟨by omega, by omega, h3⟩, by rw [if_pos (.inr (.inr h3))]⟩))
  rw [if_neg (by omega)]
  cases h4 : ctl x
  · by_cases h5 : 2000 < (s.size : Int) - (t - f) + x.size
    · exact .inr (.inr (.inr (.inr (.inl ⟨by omega, rfl, h5, by rw [if_neg (by simp), if_pos h5]⟩))))
    · exact .inr (.inr (.inr (.inr (.inr ⟨by omega, rfl, by omega, by rw [if_neg (by simp), if_neg h5]⟩))))
  · exact .inr (.inr (.inr (.inl ⟨by omega, rfl, by rw [if_pos rfl]⟩)))

/-- an edit that may be made -/
theorem edErr_ok {s x : ByteArray} {f t : Int} (h : edErr s x f t = 0) : 0 ≤ f ∧ f ≤ t ∧ t ≤ (s.size : Int) ∧ ctl x = false ∧ (s.size : Int) - (t - f) + x.size ≤ 2000 := by
  rcases edErr_ways s x f t with ⟨_, g⟩ | ⟨_, g⟩ | ⟨_, g⟩ | ⟨_, _, g⟩ | ⟨_, _, _, g⟩ | ⟨a, b, c, g⟩
  all_goals first | omega | exact ⟨a.1, a.2.1, a.2.2, b, c⟩

theorem edS_size {s x : ByteArray} {f t : Int} (h0 : 0 ≤ f) (h1 : f ≤ t) (h2 : t ≤ (s.size : Int)) : ((edS s x f t).size : Int) = (s.size : Int) - (t - f) + x.size := by
  unfold edS
  simp only [ByteArray.size_append, ByteArray.size_extract]
  omega
end Go.Proofs.YtcbmddgafkoooaaDoor
