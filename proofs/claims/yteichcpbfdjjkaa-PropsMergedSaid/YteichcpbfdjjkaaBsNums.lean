/-
  DERIVED. The walks of prop.usesForm and prop.checkNumbers. Conditions: sizes. By an AI agent.
-/
import Derived.Test.YteichcpbfdjjkaaBsName
import Derived.Test.YteichcpbfdjjkaaBsSamePl
import Derived.WalkSpells
import Derived.Deep.QuietTactic
import Derived.BigQuiet
import Derived.Deep.LoopGhost
import Derived.Test.YteichcpbfdjjkaaChecked
import Derived.Deep.DeepCutAuto
namespace Go.Proofs.Yteichcpbfdjjkaa
open Go.RowKit

def hasI (k : Int) : Bool := (k == 1) || (k == 2) || (k == 4) || (k == 5)
def hasT (k : Int) : Bool := (k == 3) || (k == 6)
/-- a value has no field that its kind does not use -/
def ufB (x : Vl) : Bool := (hasI x.kind || x.int_ == 0) && ((x.kind == 5) || x.to_ == 0) && (hasT x.kind || x.text.toList.isEmpty) && ((x.kind == 7) || ((x.items.length : Int) == 0))

set_option maxHeartbeats 4000000 in
theorem usesForm_any (x : Vl) (A : Option Addr) (n c : Nat) (w : World) (hn : n = x.items.length) :
    Calls Try.prog 31 #[AV (x, .slice A n c)] w fun e w' => e = .returned (.bool (ufB x)) ∧ Below w.heap.size w w' := by
  obtain ⟨k, i, t, s, l⟩ := x
  dsimp only [AV, Vl.kind, Vl.int_, Vl.to_, Vl.text, Vl.items] at hn ⊢
  unfold ufB hasI hasT
  dsimp only [Vl.kind, Vl.int_, Vl.to_, Vl.text, Vl.items]
  rw [← hn]
  clear hn
  obtain ⟨k1, h1⟩ : ∃ q, (k == 1) = q := ⟨_, rfl⟩
  obtain ⟨k2, h2⟩ : ∃ q, (k == 2) = q := ⟨_, rfl⟩
  obtain ⟨k3, h3⟩ : ∃ q, (k == 3) = q := ⟨_, rfl⟩
  obtain ⟨k4, h4⟩ : ∃ q, (k == 4) = q := ⟨_, rfl⟩
  obtain ⟨k5, h5⟩ : ∃ q, (k == 5) = q := ⟨_, rfl⟩
  obtain ⟨k6, h6⟩ : ∃ q, (k == 6) = q := ⟨_, rfl⟩
  obtain ⟨k7, h7⟩ : ∃ q, (k == 7) = q := ⟨_, rfl⟩
  obtain ⟨z1, g1⟩ : ∃ q, (i == 0) = q := ⟨_, rfl⟩
  obtain ⟨z2, g2⟩ : ∃ q, (t == 0) = q := ⟨_, rfl⟩
  obtain ⟨z3, g3⟩ : ∃ q, s.toList.isEmpty = q := ⟨_, rfl⟩
  obtain ⟨z4, g4⟩ : ∃ q, ((n : Int) == 0) = q := ⟨_, rfl⟩
  rw [h1, h2, h3, h4, h5, h6, h7, g1, g2, g3, g4]
  have W : True := trivial
  go_enter Try.func31, Try.ntmps31
  go_upto_region 1 with fail
  go_cut [3] (fun s3 wc => s3 = .bool (k1 || k2 || k4 || k5) ∧ wc = w.alloc (.cells #[.int .i64 k, .int .i64 i, .int .i64 t, .string s, .slice A n c] 38))
  case first =>
    go_wp2_with fail
    all_goals
      go_meet
      exact ⟨by simp_all, rfl⟩
  case rest =>
  obtain ⟨rfl, rfl⟩ := hcut
  go_upto_region 2 with fail
  go_cut [4] (fun s4 wc => s4 = .bool (k3 || k6) ∧ wc = w.alloc (.cells #[.int .i64 k, .int .i64 i, .int .i64 t, .string s, .slice A n c] 38))
  case first =>
    go_wp2_with fail
    all_goals
      go_meet
      exact ⟨by simp_all, rfl⟩
  case rest =>
  obtain ⟨rfl, rfl⟩ := hcut
  obtain ⟨a1, e1⟩ : ∃ q, (k1 || k2 || k4 || k5) = q := ⟨_, rfl⟩
  obtain ⟨a2, e2⟩ : ∃ q, (k3 || k6) = q := ⟨_, rfl⟩
  rw [e1, e2]
  clear h1 h2 h3 h4 h6
  go_wp2_with fail
  all_goals
    go_ret
    exact ⟨by simp_all, (Below.refl _ _).alloc (Nat.le_refl _) _⟩

def outI (n a b : Int) : Bool := decide (n < a ∨ b < n)
/-- the error of the numbers of a value -/
def nuErr (k i t : Int) : Int :=
  if (k == 1) = true then (if outI i 0 1 = true then 2 else 0)
  else if (k == 2) = true then (if outI i (-1000000000) 1000000000 = true then 2 else 0)
  else if (k == 4) = true then (if outI i 0 100000 = true then 2 else 0)
  else if (k == 5) = true then (if (outI i 0 100000 || outI t 0 100000) = true then 2 else if t < i then 5 else 0)
  else 0

set_option maxHeartbeats 4000000 in
theorem checkNumbers_any (x : Vl × Value) (w : World) :
    Calls Try.prog 32 #[AV x] w fun e w' => e = .returned (.int .i64 (nuErr x.1.kind x.1.int_ x.1.to_)) ∧ Below w.heap.size w w' := by
  obtain ⟨⟨k, i, t, s, l⟩, v⟩ := x
  dsimp only [AV, Vl.kind, Vl.int_, Vl.to_, Vl.text, Vl.items]
  have HO : Hid (∀ n a b W, Calls Try.prog 21 #[.int .i64 n, .int .i64 a, .int .i64 b] W fun e w' => e = .returned (.bool (outI n a b)) ∧ w' = W) := fun n a b W => outsideP_any n a b W
  obtain ⟨k1, h1⟩ : ∃ q, (k == 1) = q := ⟨_, rfl⟩
  obtain ⟨k2, h2⟩ : ∃ q, (k == 2) = q := ⟨_, rfl⟩
  obtain ⟨k4, h4⟩ : ∃ q, (k == 4) = q := ⟨_, rfl⟩
  obtain ⟨k5, h5⟩ : ∃ q, (k == 5) = q := ⟨_, rfl⟩
  unfold nuErr
  rw [h1, h2, h4, h5]
  go_enter Try.func32, Try.ntmps32
  go_wp2_with (refine (HO.out _ _ _ _).mono ?_; rintro e w1 ⟨rfl, rfl⟩)
  all_goals
    first
      | (go_ret; exact ⟨rfl, (Below.refl _ _).alloc (Nat.le_refl _) _⟩)
      | (go_ret; exact ⟨by simp_all, (Below.refl _ _).alloc (Nat.le_refl _) _⟩)
      | skip
  all_goals fail
end Go.Proofs.Yteichcpbfdjjkaa
