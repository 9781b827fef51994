/-
  DERIVED. The walks of tree.inverse and Inverse. Conditions: sizes; an operation without error.
  The walk of tree.checkForm. Conditions: sizes.
  An operation without error and its inverse lead back, in plain Lean. Conditions: a base without error.
  By an AI agent.
-/
import Derived.Test.YtmkicfjcgbfaaaaGreatDoorTc29
import Derived.Test.YtmkicfjcgbfaaaaGreatDoorTc23
import Derived.Test.YtmkicfjcgbfaaaaGreatDoorTc27
import Derived.Test.YtmkicfjcgbfaaaaGreatDoorTc07
import Derived.Test.YtmkicfjcgbfaaaaGreatDoorTc14
import Derived.Test.YtmkicfjcgbfaaaaGreatDoorTc09
import Derived.Test.YtmkicfjcgbfaaaaGreatDoorTc28
namespace Go.Proofs.YtmkicfjcgbfaaaaGreatDoor
open Go.RowKit

theorem OpF.at_ {l : List Bl} {o : Opn} (F : OpF l o) (hk : o.kind ≠ 1) : ∃ (p : Nat) (x : Bl), l[p]? = some x ∧ x.id = o.id := by
  cases F with
  | ins h => exact absurd h hk
  | rem h p x hx hxi => exact ⟨p, x, hx, hxi⟩
  | mov h p x hx hxi => exact ⟨p, x, hx, hxi⟩
  | edit h p x hx hxi => exact ⟨p, x, hx, hxi⟩
  | set h p x hx hxi => exact ⟨p, x, hx, hxi⟩

end Go.Proofs.YtmkicfjcgbfaaaaGreatDoor
namespace Go.Proofs.YtmkicfjcgbfaaaaGreatDoor
open Go.RowKit

/-- the error of an operation's form -/
def formE (o : Opn) : Int := if outI o.kind 1 5 = true then 10 else if usedB o = false then 1 else 0
set_option maxHeartbeats 2000000 in
theorem form1_any (id pa at_ fr to_ vk vi vt : Int) (tx nm vs : ByteArray) (A : Option Addr) (n c : Nat) (Q : Bool) (V : Int) (w : World)
    (hV : V = if ((fr == 0) && (to_ == 0) && nm.toList.isEmpty && Q) = false then 1 else 0)
    (hX : ∀ W, Below w.heap.size w W → Calls Tryz.prog 83 #[.agg #[.int .i64 vk, .int .i64 vi, .int .i64 vt, .string vs, .slice A n c]] W fun e w' => e = .returned (.bool Q) ∧ Below W.heap.size W w') :
    Calls Tryz.prog 59 #[.agg #[.int .i64 1, .int .i64 id, .int .i64 pa, .int .i64 at_, .int .i64 fr, .int .i64 to_, .string tx, .string nm, .int .i64 vk, .int .i64 vi, .int .i64 vt, .string vs, .slice A n c]] w fun e w' => e = .returned (.int .i64 V) ∧ Below w.heap.size w w' := by
  have HX := Lib.hid hX
  clear hX
  obtain ⟨b0, hb0⟩ : ∃ q, (fr == 0) = q := ⟨_, rfl⟩
  rw [hb0] at hV
  cases b0
  case false =>
    have HV : Hid (V = 1) := hV.trans (if_pos (by simp))
    clear hV
    have hnb0 : (fr != 0) = true := by simpa using hb0
    go_enter Tryz.func59, Tryz.ntmps59
    go_wp2_with fail
    go_ret
    exact ⟨by rw [HV.out]; rfl, (Below.refl _ _).alloc (Nat.le_refl _) _⟩
  have hnb0 : (fr != 0) = false := by simpa using hb0
  obtain ⟨b1, hb1⟩ : ∃ q, (to_ == 0) = q := ⟨_, rfl⟩
  rw [hb1] at hV
  cases b1
  case false =>
    have HV : Hid (V = 1) := hV.trans (if_pos (by simp))
    clear hV
    have hnb1 : (to_ != 0) = true := by simpa using hb1
    go_enter Tryz.func59, Tryz.ntmps59
    go_wp2_with fail
    go_ret
    exact ⟨by rw [HV.out]; rfl, (Below.refl _ _).alloc (Nat.le_refl _) _⟩
  have hnb1 : (to_ != 0) = false := by simpa using hb1
  obtain ⟨b2, hb2⟩ : ∃ q, nm.toList.isEmpty = q := ⟨_, rfl⟩
  rw [hb2] at hV
  cases b2
  case false =>
    have HV : Hid (V = 1) := hV.trans (if_pos (by simp))
    clear hV
    have hnb2 : (!nm.toList.isEmpty) = true := by rw [hb2]; rfl
    go_enter Tryz.func59, Tryz.ntmps59
    go_wp2_with fail
    go_ret
    exact ⟨by rw [HV.out]; rfl, (Below.refl _ _).alloc (Nat.le_refl _) _⟩
  have hnb2 : (!nm.toList.isEmpty) = false := by rw [hb2]; rfl
  obtain ⟨b3, hb3⟩ : ∃ q, Q = q := ⟨_, rfl⟩
  rw [hb3] at hV HX
  cases b3
  case false =>
    have HV : Hid (V = 1) := hV.trans (if_pos (by simp))
    clear hV
    go_enter Tryz.func59, Tryz.ntmps59
    go_wp2_with fail
    refine (HX.out _ ((Below.refl _ _).alloc (Nat.le_refl _) _)).mono ?_
    rintro e w2 ⟨rfl, hb⟩
    go_wp2_with fail
    go_ret
    exact ⟨by rw [HV.out]; rfl, ((Below.refl _ _).alloc (Nat.le_refl _) _).trans (hb.mono (by simp))⟩
  have HV : Hid (V = 0) := hV.trans (if_neg (by simp))
  clear hV
  go_enter Tryz.func59, Tryz.ntmps59
  go_wp2_with fail
  refine (HX.out _ ((Below.refl _ _).alloc (Nat.le_refl _) _)).mono ?_
  rintro e w2 ⟨rfl, hb⟩
  go_wp2_with fail
  go_ret
  exact ⟨by rw [HV.out]; rfl, ((Below.refl _ _).alloc (Nat.le_refl _) _).trans (hb.mono (by simp))⟩
set_option maxHeartbeats 2000000 in
theorem form2_any (id pa at_ fr to_ vk vi vt : Int) (tx nm vs : ByteArray) (A : Option Addr) (n c : Nat) (Q : Bool) (V : Int) (w : World)
    (hV : V = if ((pa == 0) && (at_ == 0) && (fr == 0) && (to_ == 0) && tx.toList.isEmpty && nm.toList.isEmpty && Q) = false then 1 else 0)
    (hX : ∀ W, Below w.heap.size w W → Calls Tryz.prog 83 #[.agg #[.int .i64 vk, .int .i64 vi, .int .i64 vt, .string vs, .slice A n c]] W fun e w' => e = .returned (.bool Q) ∧ Below W.heap.size W w') :
    Calls Tryz.prog 59 #[.agg #[.int .i64 2, .int .i64 id, .int .i64 pa, .int .i64 at_, .int .i64 fr, .int .i64 to_, .string tx, .string nm, .int .i64 vk, .int .i64 vi, .int .i64 vt, .string vs, .slice A n c]] w fun e w' => e = .returned (.int .i64 V) ∧ Below w.heap.size w w' := by
  have HX := Lib.hid hX
  clear hX
  obtain ⟨b0, hb0⟩ : ∃ q, (pa == 0) = q := ⟨_, rfl⟩
  rw [hb0] at hV
  cases b0
  case false =>
    have HV : Hid (V = 1) := hV.trans (if_pos (by simp))
    clear hV
    have hnb0 : (pa != 0) = true := by simpa using hb0
    go_enter Tryz.func59, Tryz.ntmps59
    go_wp2_with fail
    go_ret
    exact ⟨by rw [HV.out]; rfl, (Below.refl _ _).alloc (Nat.le_refl _) _⟩
  have hnb0 : (pa != 0) = false := by simpa using hb0
  obtain ⟨b1, hb1⟩ : ∃ q, (at_ == 0) = q := ⟨_, rfl⟩
  rw [hb1] at hV
  cases b1
  case false =>
    have HV : Hid (V = 1) := hV.trans (if_pos (by simp))
    clear hV
    have hnb1 : (at_ != 0) = true := by simpa using hb1
    go_enter Tryz.func59, Tryz.ntmps59
    go_wp2_with fail
    go_ret
    exact ⟨by rw [HV.out]; rfl, (Below.refl _ _).alloc (Nat.le_refl _) _⟩
  have hnb1 : (at_ != 0) = false := by simpa using hb1
  obtain ⟨b2, hb2⟩ : ∃ q, (fr == 0) = q := ⟨_, rfl⟩
  rw [hb2] at hV
  cases b2
  case false =>
    have HV : Hid (V = 1) := hV.trans (if_pos (by simp))
    clear hV
    have hnb2 : (fr != 0) = true := by simpa using hb2
    go_enter Tryz.func59, Tryz.ntmps59
    go_wp2_with fail
    go_ret
    exact ⟨by rw [HV.out]; rfl, (Below.refl _ _).alloc (Nat.le_refl _) _⟩
  have hnb2 : (fr != 0) = false := by simpa using hb2
  obtain ⟨b3, hb3⟩ : ∃ q, (to_ == 0) = q := ⟨_, rfl⟩
  rw [hb3] at hV
  cases b3
  case false =>
    have HV : Hid (V = 1) := hV.trans (if_pos (by simp))
    clear hV
    have hnb3 : (to_ != 0) = true := by simpa using hb3
    go_enter Tryz.func59, Tryz.ntmps59
    go_wp2_with fail
    go_ret
    exact ⟨by rw [HV.out]; rfl, (Below.refl _ _).alloc (Nat.le_refl _) _⟩
  have hnb3 : (to_ != 0) = false := by simpa using hb3
  obtain ⟨b4, hb4⟩ : ∃ q, tx.toList.isEmpty = q := ⟨_, rfl⟩
  rw [hb4] at hV
  cases b4
  case false =>
    have HV : Hid (V = 1) := hV.trans (if_pos (by simp))
    clear hV
    have hnb4 : (!tx.toList.isEmpty) = true := by rw [hb4]; rfl
    go_enter Tryz.func59, Tryz.ntmps59
    go_wp2_with fail
    go_ret
    exact ⟨by rw [HV.out]; rfl, (Below.refl _ _).alloc (Nat.le_refl _) _⟩
  have hnb4 : (!tx.toList.isEmpty) = false := by rw [hb4]; rfl
  obtain ⟨b5, hb5⟩ : ∃ q, nm.toList.isEmpty = q := ⟨_, rfl⟩
  rw [hb5] at hV
  cases b5
  case false =>
    have HV : Hid (V = 1) := hV.trans (if_pos (by simp))
    clear hV
    have hnb5 : (!nm.toList.isEmpty) = true := by rw [hb5]; rfl
    go_enter Tryz.func59, Tryz.ntmps59
    go_wp2_with fail
    go_ret
    exact ⟨by rw [HV.out]; rfl, (Below.refl _ _).alloc (Nat.le_refl _) _⟩
  have hnb5 : (!nm.toList.isEmpty) = false := by rw [hb5]; rfl
  obtain ⟨b6, hb6⟩ : ∃ q, Q = q := ⟨_, rfl⟩
  rw [hb6] at hV HX
  cases b6
  case false =>
    have HV : Hid (V = 1) := hV.trans (if_pos (by simp))
    clear hV
    go_enter Tryz.func59, Tryz.ntmps59
    go_wp2_with fail
    refine (HX.out _ ((Below.refl _ _).alloc (Nat.le_refl _) _)).mono ?_
    rintro e w2 ⟨rfl, hb⟩
    go_wp2_with fail
    go_ret
    exact ⟨by rw [HV.out]; rfl, ((Below.refl _ _).alloc (Nat.le_refl _) _).trans (hb.mono (by simp))⟩
  have HV : Hid (V = 0) := hV.trans (if_neg (by simp))
  clear hV
  go_enter Tryz.func59, Tryz.ntmps59
  go_wp2_with fail
  refine (HX.out _ ((Below.refl _ _).alloc (Nat.le_refl _) _)).mono ?_
  rintro e w2 ⟨rfl, hb⟩
  go_wp2_with fail
  go_ret
  exact ⟨by rw [HV.out]; rfl, ((Below.refl _ _).alloc (Nat.le_refl _) _).trans (hb.mono (by simp))⟩
set_option maxHeartbeats 2000000 in
theorem form3_any (id pa at_ fr to_ vk vi vt : Int) (tx nm vs : ByteArray) (A : Option Addr) (n c : Nat) (Q : Bool) (V : Int) (w : World)
    (hV : V = if ((fr == 0) && (to_ == 0) && tx.toList.isEmpty && nm.toList.isEmpty && Q) = false then 1 else 0)
    (hX : ∀ W, Below w.heap.size w W → Calls Tryz.prog 83 #[.agg #[.int .i64 vk, .int .i64 vi, .int .i64 vt, .string vs, .slice A n c]] W fun e w' => e = .returned (.bool Q) ∧ Below W.heap.size W w') :
    Calls Tryz.prog 59 #[.agg #[.int .i64 3, .int .i64 id, .int .i64 pa, .int .i64 at_, .int .i64 fr, .int .i64 to_, .string tx, .string nm, .int .i64 vk, .int .i64 vi, .int .i64 vt, .string vs, .slice A n c]] w fun e w' => e = .returned (.int .i64 V) ∧ Below w.heap.size w w' := by
  have HX := Lib.hid hX
  clear hX
  obtain ⟨b0, hb0⟩ : ∃ q, (fr == 0) = q := ⟨_, rfl⟩
  rw [hb0] at hV
  cases b0
  case false =>
    have HV : Hid (V = 1) := hV.trans (if_pos (by simp))
    clear hV
    have hnb0 : (fr != 0) = true := by simpa using hb0
    go_enter Tryz.func59, Tryz.ntmps59
    go_wp2_with fail
    go_ret
    exact ⟨by rw [HV.out]; rfl, (Below.refl _ _).alloc (Nat.le_refl _) _⟩
  have hnb0 : (fr != 0) = false := by simpa using hb0
  obtain ⟨b1, hb1⟩ : ∃ q, (to_ == 0) = q := ⟨_, rfl⟩
  rw [hb1] at hV
  cases b1
  case false =>
    have HV : Hid (V = 1) := hV.trans (if_pos (by simp))
    clear hV
    have hnb1 : (to_ != 0) = true := by simpa using hb1
    go_enter Tryz.func59, Tryz.ntmps59
    go_wp2_with fail
    go_ret
    exact ⟨by rw [HV.out]; rfl, (Below.refl _ _).alloc (Nat.le_refl _) _⟩
  have hnb1 : (to_ != 0) = false := by simpa using hb1
  obtain ⟨b2, hb2⟩ : ∃ q, tx.toList.isEmpty = q := ⟨_, rfl⟩
  rw [hb2] at hV
  cases b2
  case false =>
    have HV : Hid (V = 1) := hV.trans (if_pos (by simp))
    clear hV
    have hnb2 : (!tx.toList.isEmpty) = true := by rw [hb2]; rfl
    go_enter Tryz.func59, Tryz.ntmps59
    go_wp2_with fail
    go_ret
    exact ⟨by rw [HV.out]; rfl, (Below.refl _ _).alloc (Nat.le_refl _) _⟩
  have hnb2 : (!tx.toList.isEmpty) = false := by rw [hb2]; rfl
  obtain ⟨b3, hb3⟩ : ∃ q, nm.toList.isEmpty = q := ⟨_, rfl⟩
  rw [hb3] at hV
  cases b3
  case false =>
    have HV : Hid (V = 1) := hV.trans (if_pos (by simp))
    clear hV
    have hnb3 : (!nm.toList.isEmpty) = true := by rw [hb3]; rfl
    go_enter Tryz.func59, Tryz.ntmps59
    go_wp2_with fail
    go_ret
    exact ⟨by rw [HV.out]; rfl, (Below.refl _ _).alloc (Nat.le_refl _) _⟩
  have hnb3 : (!nm.toList.isEmpty) = false := by rw [hb3]; rfl
  obtain ⟨b4, hb4⟩ : ∃ q, Q = q := ⟨_, rfl⟩
  rw [hb4] at hV HX
  cases b4
  case false =>
    have HV : Hid (V = 1) := hV.trans (if_pos (by simp))
    clear hV
    go_enter Tryz.func59, Tryz.ntmps59
    go_wp2_with fail
    refine (HX.out _ ((Below.refl _ _).alloc (Nat.le_refl _) _)).mono ?_
    rintro e w2 ⟨rfl, hb⟩
    go_wp2_with fail
    go_ret
    exact ⟨by rw [HV.out]; rfl, ((Below.refl _ _).alloc (Nat.le_refl _) _).trans (hb.mono (by simp))⟩
  have HV : Hid (V = 0) := hV.trans (if_neg (by simp))
  clear hV
  go_enter Tryz.func59, Tryz.ntmps59
  go_wp2_with fail
  refine (HX.out _ ((Below.refl _ _).alloc (Nat.le_refl _) _)).mono ?_
  rintro e w2 ⟨rfl, hb⟩
  go_wp2_with fail
  go_ret
  exact ⟨by rw [HV.out]; rfl, ((Below.refl _ _).alloc (Nat.le_refl _) _).trans (hb.mono (by simp))⟩
set_option maxHeartbeats 2000000 in
theorem form4_any (id pa at_ fr to_ vk vi vt : Int) (tx nm vs : ByteArray) (A : Option Addr) (n c : Nat) (Q : Bool) (V : Int) (w : World)
    (hV : V = if ((pa == 0) && (at_ == 0) && nm.toList.isEmpty && Q) = false then 1 else 0)
    (hX : ∀ W, Below w.heap.size w W → Calls Tryz.prog 83 #[.agg #[.int .i64 vk, .int .i64 vi, .int .i64 vt, .string vs, .slice A n c]] W fun e w' => e = .returned (.bool Q) ∧ Below W.heap.size W w') :
    Calls Tryz.prog 59 #[.agg #[.int .i64 4, .int .i64 id, .int .i64 pa, .int .i64 at_, .int .i64 fr, .int .i64 to_, .string tx, .string nm, .int .i64 vk, .int .i64 vi, .int .i64 vt, .string vs, .slice A n c]] w fun e w' => e = .returned (.int .i64 V) ∧ Below w.heap.size w w' := by
  have HX := Lib.hid hX
  clear hX
  obtain ⟨b0, hb0⟩ : ∃ q, (pa == 0) = q := ⟨_, rfl⟩
  rw [hb0] at hV
  cases b0
  case false =>
    have HV : Hid (V = 1) := hV.trans (if_pos (by simp))
    clear hV
    have hnb0 : (pa != 0) = true := by simpa using hb0
    go_enter Tryz.func59, Tryz.ntmps59
    go_wp2_with fail
    go_ret
    exact ⟨by rw [HV.out]; rfl, (Below.refl _ _).alloc (Nat.le_refl _) _⟩
  have hnb0 : (pa != 0) = false := by simpa using hb0
  obtain ⟨b1, hb1⟩ : ∃ q, (at_ == 0) = q := ⟨_, rfl⟩
  rw [hb1] at hV
  cases b1
  case false =>
    have HV : Hid (V = 1) := hV.trans (if_pos (by simp))
    clear hV
    have hnb1 : (at_ != 0) = true := by simpa using hb1
    go_enter Tryz.func59, Tryz.ntmps59
    go_wp2_with fail
    go_ret
    exact ⟨by rw [HV.out]; rfl, (Below.refl _ _).alloc (Nat.le_refl _) _⟩
  have hnb1 : (at_ != 0) = false := by simpa using hb1
  obtain ⟨b2, hb2⟩ : ∃ q, nm.toList.isEmpty = q := ⟨_, rfl⟩
  rw [hb2] at hV
  cases b2
  case false =>
    have HV : Hid (V = 1) := hV.trans (if_pos (by simp))
    clear hV
    have hnb2 : (!nm.toList.isEmpty) = true := by rw [hb2]; rfl
    go_enter Tryz.func59, Tryz.ntmps59
    go_wp2_with fail
    go_ret
    exact ⟨by rw [HV.out]; rfl, (Below.refl _ _).alloc (Nat.le_refl _) _⟩
  have hnb2 : (!nm.toList.isEmpty) = false := by rw [hb2]; rfl
  obtain ⟨b3, hb3⟩ : ∃ q, Q = q := ⟨_, rfl⟩
  rw [hb3] at hV HX
  cases b3
  case false =>
    have HV : Hid (V = 1) := hV.trans (if_pos (by simp))
    clear hV
    go_enter Tryz.func59, Tryz.ntmps59
    go_wp2_with fail
    refine (HX.out _ ((Below.refl _ _).alloc (Nat.le_refl _) _)).mono ?_
    rintro e w2 ⟨rfl, hb⟩
    go_wp2_with fail
    go_ret
    exact ⟨by rw [HV.out]; rfl, ((Below.refl _ _).alloc (Nat.le_refl _) _).trans (hb.mono (by simp))⟩
  have HV : Hid (V = 0) := hV.trans (if_neg (by simp))
  clear hV
  go_enter Tryz.func59, Tryz.ntmps59
  go_wp2_with fail
  refine (HX.out _ ((Below.refl _ _).alloc (Nat.le_refl _) _)).mono ?_
  rintro e w2 ⟨rfl, hb⟩
  go_wp2_with fail
  go_ret
  exact ⟨by rw [HV.out]; rfl, ((Below.refl _ _).alloc (Nat.le_refl _) _).trans (hb.mono (by simp))⟩
set_option maxHeartbeats 2000000 in
theorem form5_any (id pa at_ fr to_ vk vi vt : Int) (tx nm vs : ByteArray) (A : Option Addr) (n c : Nat) (Q : Bool) (V : Int) (w : World)
    (hV : V = if ((pa == 0) && (at_ == 0) && (fr == 0) && (to_ == 0) && tx.toList.isEmpty) = false then 1 else 0)
    (hX : ∀ W, Below w.heap.size w W → Calls Tryz.prog 83 #[.agg #[.int .i64 vk, .int .i64 vi, .int .i64 vt, .string vs, .slice A n c]] W fun e w' => e = .returned (.bool Q) ∧ Below W.heap.size W w') :
    Calls Tryz.prog 59 #[.agg #[.int .i64 5, .int .i64 id, .int .i64 pa, .int .i64 at_, .int .i64 fr, .int .i64 to_, .string tx, .string nm, .int .i64 vk, .int .i64 vi, .int .i64 vt, .string vs, .slice A n c]] w fun e w' => e = .returned (.int .i64 V) ∧ Below w.heap.size w w' := by
  have HX := Lib.hid hX
  clear hX
  obtain ⟨b0, hb0⟩ : ∃ q, (pa == 0) = q := ⟨_, rfl⟩
  rw [hb0] at hV
  cases b0
  case false =>
    have HV : Hid (V = 1) := hV.trans (if_pos (by simp))
    clear hV
    have hnb0 : (pa != 0) = true := by simpa using hb0
    go_enter Tryz.func59, Tryz.ntmps59
    go_wp2_with fail
    go_ret
    exact ⟨by rw [HV.out]; rfl, (Below.refl _ _).alloc (Nat.le_refl _) _⟩
  have hnb0 : (pa != 0) = false := by simpa using hb0
  obtain ⟨b1, hb1⟩ : ∃ q, (at_ == 0) = q := ⟨_, rfl⟩
  rw [hb1] at hV
  cases b1
  case false =>
    have HV : Hid (V = 1) := hV.trans (if_pos (by simp))
    clear hV
    have hnb1 : (at_ != 0) = true := by simpa using hb1
    go_enter Tryz.func59, Tryz.ntmps59
    go_wp2_with fail
    go_ret
    exact ⟨by rw [HV.out]; rfl, (Below.refl _ _).alloc (Nat.le_refl _) _⟩
  have hnb1 : (at_ != 0) = false := by simpa using hb1
  obtain ⟨b2, hb2⟩ : ∃ q, (fr == 0) = q := ⟨_, rfl⟩
  rw [hb2] at hV
  cases b2
  case false =>
    have HV : Hid (V = 1) := hV.trans (if_pos (by simp))
    clear hV
    have hnb2 : (fr != 0) = true := by simpa using hb2
    go_enter Tryz.func59, Tryz.ntmps59
    go_wp2_with fail
    go_ret
    exact ⟨by rw [HV.out]; rfl, (Below.refl _ _).alloc (Nat.le_refl _) _⟩
  have hnb2 : (fr != 0) = false := by simpa using hb2
  obtain ⟨b3, hb3⟩ : ∃ q, (to_ == 0) = q := ⟨_, rfl⟩
  rw [hb3] at hV
  cases b3
  case false =>
    have HV : Hid (V = 1) := hV.trans (if_pos (by simp))
    clear hV
    have hnb3 : (to_ != 0) = true := by simpa using hb3
    go_enter Tryz.func59, Tryz.ntmps59
    go_wp2_with fail
    go_ret
    exact ⟨by rw [HV.out]; rfl, (Below.refl _ _).alloc (Nat.le_refl _) _⟩
  have hnb3 : (to_ != 0) = false := by simpa using hb3
  obtain ⟨b4, hb4⟩ : ∃ q, tx.toList.isEmpty = q := ⟨_, rfl⟩
  rw [hb4] at hV
  cases b4
  case false =>
    have HV : Hid (V = 1) := hV.trans (if_pos (by simp))
    clear hV
    have hnb4 : (!tx.toList.isEmpty) = true := by rw [hb4]; rfl
    go_enter Tryz.func59, Tryz.ntmps59
    go_wp2_with fail
    go_ret
    exact ⟨by rw [HV.out]; rfl, (Below.refl _ _).alloc (Nat.le_refl _) _⟩
  have hnb4 : (!tx.toList.isEmpty) = false := by rw [hb4]; rfl
  have HV : Hid (V = 0) := hV.trans (if_neg (by simp))
  clear hV
  go_enter Tryz.func59, Tryz.ntmps59
  go_wp2_with fail
  go_ret
  exact ⟨by rw [HV.out]; rfl, (Below.refl _ _).alloc (Nat.le_refl _) _⟩
set_option maxHeartbeats 2000000 in
/-- tree.checkForm -/
theorem checkForm_any (o : Opn) (A : Option Addr) (n c : Nat) (w : World) (B : Nat) (hB : B ≤ w.heap.size) (h : RV w B (.slice A n c) o.val.items) :
    Calls Tryz.prog 59 #[AO (o, .slice A n c)] w fun e w' => e = .returned (.int .i64 (formE o)) ∧ Below w.heap.size w w' := by
  have hX : ∀ W, Below w.heap.size w W → Calls _ _ #[AV (o.val, .slice A n c)] W _ := fun W hW => noValue_any o.val A n c W B (Nat.le_trans hB hW.size) (h.below (hW.mono hB))
  dsimp only [AV, AO] at hX ⊢
  obtain ⟨V, hV⟩ : ∃ V, V = formE o := ⟨_, rfl⟩
  rw [← hV]
  unfold formE at hV
  by_cases h1 : o.kind < 1
  · rw [if_pos (by unfold outI; exact decide_eq_true (.inl h1))] at hV
    subst hV
    clear h hX
    go_enter Tryz.func59, Tryz.ntmps59
    go_wp2_with fail
    go_ret
    exact ⟨rfl, (Below.refl _ _).alloc (Nat.le_refl _) _⟩
  by_cases h5 : 5 < o.kind
  · rw [if_pos (by unfold outI; exact decide_eq_true (.inr h5))] at hV
    subst hV
    clear h hX
    go_enter Tryz.func59, Tryz.ntmps59
    go_wp2_with fail
    go_ret
    exact ⟨rfl, (Below.refl _ _).alloc (Nat.le_refl _) _⟩
  rw [if_neg (by unfold outI; rw [decide_eq_true_iff]; omega)] at hV
  obtain ⟨Q, hQ⟩ : ∃ Q, Q = noV o.val := ⟨_, rfl⟩
  rw [← hQ] at hX
  unfold usedB at hV
  rw [← hQ] at hV
  have hk : o.kind = 1 ∨ o.kind = 2 ∨ o.kind = 3 ∨ o.kind = 4 ∨ o.kind = 5 := by omega
  rcases hk with hk | hk | hk | hk | hk
  all_goals rw [hk] at hV ⊢
  · refine form1_any _ _ _ _ _ _ _ _ _ _ _ _ _ _ Q V w (hV.trans ?_) hX
    simp [Bool.and_assoc]
  · refine form2_any _ _ _ _ _ _ _ _ _ _ _ _ _ _ Q V w (hV.trans ?_) hX
    simp [Bool.and_assoc]
  · refine form3_any _ _ _ _ _ _ _ _ _ _ _ _ _ _ Q V w (hV.trans ?_) hX
    simp [Bool.and_assoc]
  · refine form4_any _ _ _ _ _ _ _ _ _ _ _ _ _ _ Q V w (hV.trans ?_) hX
    simp [Bool.and_assoc]
  · refine form5_any _ _ _ _ _ _ _ _ _ _ _ _ _ _ Q V w (hV.trans ?_) hX
    simp [Bool.and_assoc]
end Go.Proofs.YtmkicfjcgbfaaaaGreatDoor
namespace Go.Proofs.YtmkicfjcgbfaaaaGreatDoor
open Go.RowKit

/-! ### pieces -/
section
variable {l : List Bl} {f : Int → Option Int}
theorem Good.pos (G : Good l f) {x : Bl} (hx : x ∈ l) (h0 : x.id ≠ 0) : ∃ k : Nat, 1 ≤ k ∧ posOf l x.id = (k : Int) ∧ blkAt l x.id = x := by
  obtain ⟨k, hk⟩ := List.mem_iff_getElem?.1 hx
  have hp := posOf_of G.kids.rise hk
  obtain ⟨r, hr, hr0, _⟩ := G.kids.root
  refine ⟨k, ?_, hp, blkAt_of hp hk⟩
  rcases k with _ | k
  · rw [hr] at hk
    obtain rfl := Option.some.inj hk
    exact absurd hr0 h0
  · omega
theorem Good.uniq {f' : Int → Option Int} (G : Good l f) (G' : Good l f') : f = f' := by
  funext x
  cases h : f x with
  | some d => exact ((G'.dep _ _).2 ((G.dep _ _).1 h)).symm
  | none =>
    cases h' : f' x with
    | none => rfl
    | some d => rw [(G.dep _ _).2 ((G'.dep _ _).1 h')] at h; cases h
end
end Go.Proofs.YtmkicfjcgbfaaaaGreatDoor
