/-
  DERIVED. The walk of tree.checkForm. Conditions: sizes.
  The walks of the reference's SameOp at equal operations, and position. Conditions: sizes.
  The walks of the reference's SameOps and the law's sameMany, at equal lists. Conditions: sizes.
  By an AI agent.
-/
import Derived.Test.YtmkicfjcgbfaaaaGreatTg26
import Derived.Test.YtmkicfjcgbfaaaaGreatTg22
import Derived.Test.YtmkicfjcgbfaaaaGreatTg27
import Derived.Test.YtmkicfjcgbfaaaaGreatTg28
import Derived.BigQuiet
namespace Go.Proofs.YtmkicfjcgbfaaaaGreat
open Go.RowKit

/-- the error of an operation's form -/
def formE (o : Opn) : Int := if outI o.kind 1 5 = true then 10 else if usedB o = false then 1 else 0
set_option maxHeartbeats 2000000 in
theorem form1_any (id pa at_ fr to_ vk vi vt : Int) (tx nm vs : ByteArray) (A : Option Addr) (n c : Nat) (Q : Bool) (V : Int) (w : World)
    (hV : V = if ((fr == 0) && (to_ == 0) && nm.toList.isEmpty && Q) = false then 1 else 0)
    (hX : ∀ W, Below w.heap.size w W → Calls Tryz.prog 154 #[.agg #[.int .i64 vk, .int .i64 vi, .int .i64 vt, .string vs, .slice A n c]] W fun e w' => e = .returned (.bool Q) ∧ Below W.heap.size W w') :
    Calls Tryz.prog 120 #[.agg #[.int .i64 1, .int .i64 id, .int .i64 pa, .int .i64 at_, .int .i64 fr, .int .i64 to_, .string tx, .string nm, .int .i64 vk, .int .i64 vi, .int .i64 vt, .string vs, .slice A n c]] w fun e w' => e = .returned (.int .i64 V) ∧ Below w.heap.size w w' := by
  have HX := Lib.hid hX
  clear hX
  obtain ⟨b0, hb0⟩ : ∃ q, (fr == 0) = q := ⟨_, rfl⟩
  rw [hb0] at hV
  cases b0
  case false =>
    have HV : Hid (V = 1) := hV.trans (if_pos (by simp))
    clear hV
    have hnb0 : (fr != 0) = true := by simpa using hb0
    go_enter Tryz.func120, Tryz.ntmps120
    go_wp2_with fail
    go_ret
    exact ⟨by rw [HV.out]; rfl, (Below.refl _ _).alloc (Nat.le_refl _) _⟩
  have hnb0 : (fr != 0) = false := by simpa using hb0
  obtain ⟨b1, hb1⟩ : ∃ q, (to_ == 0) = q := ⟨_, rfl⟩
  rw [hb1] at hV
  cases b1
  case false =>
    have HV : Hid (V = 1) := hV.trans (if_pos (by simp))
    clear hV
    have hnb1 : (to_ != 0) = true := by simpa using hb1
    go_enter Tryz.func120, Tryz.ntmps120
    go_wp2_with fail
    go_ret
    exact ⟨by rw [HV.out]; rfl, (Below.refl _ _).alloc (Nat.le_refl _) _⟩
  have hnb1 : (to_ != 0) = false := by simpa using hb1
  obtain ⟨b2, hb2⟩ : ∃ q, nm.toList.isEmpty = q := ⟨_, rfl⟩
  rw [hb2] at hV
  cases b2
  case false =>
    have HV : Hid (V = 1) := hV.trans (if_pos (by simp))
    clear hV
    have hnb2 : (!nm.toList.isEmpty) = true := by rw [hb2]; rfl
    go_enter Tryz.func120, Tryz.ntmps120
    go_wp2_with fail
    go_ret
    exact ⟨by rw [HV.out]; rfl, (Below.refl _ _).alloc (Nat.le_refl _) _⟩
  have hnb2 : (!nm.toList.isEmpty) = false := by rw [hb2]; rfl
  obtain ⟨b3, hb3⟩ : ∃ q, Q = q := ⟨_, rfl⟩
  rw [hb3] at hV HX
  cases b3
  case false =>
    have HV : Hid (V = 1) := hV.trans (if_pos (by simp))
    clear hV
    go_enter Tryz.func120, Tryz.ntmps120
    go_wp2_with fail
    refine (HX.out _ ((Below.refl _ _).alloc (Nat.le_refl _) _)).mono ?_
    rintro e w2 ⟨rfl, hb⟩
    go_wp2_with fail
    go_ret
    exact ⟨by rw [HV.out]; rfl, ((Below.refl _ _).alloc (Nat.le_refl _) _).trans (hb.mono (by simp))⟩
  have HV : Hid (V = 0) := hV.trans (if_neg (by simp))
  clear hV
  go_enter Tryz.func120, Tryz.ntmps120
  go_wp2_with fail
  refine (HX.out _ ((Below.refl _ _).alloc (Nat.le_refl _) _)).mono ?_
  rintro e w2 ⟨rfl, hb⟩
  go_wp2_with fail
  go_ret
  exact ⟨by rw [HV.out]; rfl, ((Below.refl _ _).alloc (Nat.le_refl _) _).trans (hb.mono (by simp))⟩
set_option maxHeartbeats 2000000 in
theorem form2_any (id pa at_ fr to_ vk vi vt : Int) (tx nm vs : ByteArray) (A : Option Addr) (n c : Nat) (Q : Bool) (V : Int) (w : World)
    (hV : V = if ((pa == 0) && (at_ == 0) && (fr == 0) && (to_ == 0) && tx.toList.isEmpty && nm.toList.isEmpty && Q) = false then 1 else 0)
    (hX : ∀ W, Below w.heap.size w W → Calls Tryz.prog 154 #[.agg #[.int .i64 vk, .int .i64 vi, .int .i64 vt, .string vs, .slice A n c]] W fun e w' => e = .returned (.bool Q) ∧ Below W.heap.size W w') :
    Calls Tryz.prog 120 #[.agg #[.int .i64 2, .int .i64 id, .int .i64 pa, .int .i64 at_, .int .i64 fr, .int .i64 to_, .string tx, .string nm, .int .i64 vk, .int .i64 vi, .int .i64 vt, .string vs, .slice A n c]] w fun e w' => e = .returned (.int .i64 V) ∧ Below w.heap.size w w' := by
  have HX := Lib.hid hX
  clear hX
  obtain ⟨b0, hb0⟩ : ∃ q, (pa == 0) = q := ⟨_, rfl⟩
  rw [hb0] at hV
  cases b0
  case false =>
    have HV : Hid (V = 1) := hV.trans (if_pos (by simp))
    clear hV
    have hnb0 : (pa != 0) = true := by simpa using hb0
    go_enter Tryz.func120, Tryz.ntmps120
    go_wp2_with fail
    go_ret
    exact ⟨by rw [HV.out]; rfl, (Below.refl _ _).alloc (Nat.le_refl _) _⟩
  have hnb0 : (pa != 0) = false := by simpa using hb0
  obtain ⟨b1, hb1⟩ : ∃ q, (at_ == 0) = q := ⟨_, rfl⟩
  rw [hb1] at hV
  cases b1
  case false =>
    have HV : Hid (V = 1) := hV.trans (if_pos (by simp))
    clear hV
    have hnb1 : (at_ != 0) = true := by simpa using hb1
    go_enter Tryz.func120, Tryz.ntmps120
    go_wp2_with fail
    go_ret
    exact ⟨by rw [HV.out]; rfl, (Below.refl _ _).alloc (Nat.le_refl _) _⟩
  have hnb1 : (at_ != 0) = false := by simpa using hb1
  obtain ⟨b2, hb2⟩ : ∃ q, (fr == 0) = q := ⟨_, rfl⟩
  rw [hb2] at hV
  cases b2
  case false =>
    have HV : Hid (V = 1) := hV.trans (if_pos (by simp))
    clear hV
    have hnb2 : (fr != 0) = true := by simpa using hb2
    go_enter Tryz.func120, Tryz.ntmps120
    go_wp2_with fail
    go_ret
    exact ⟨by rw [HV.out]; rfl, (Below.refl _ _).alloc (Nat.le_refl _) _⟩
  have hnb2 : (fr != 0) = false := by simpa using hb2
  obtain ⟨b3, hb3⟩ : ∃ q, (to_ == 0) = q := ⟨_, rfl⟩
  rw [hb3] at hV
  cases b3
  case false =>
    have HV : Hid (V = 1) := hV.trans (if_pos (by simp))
    clear hV
    have hnb3 : (to_ != 0) = true := by simpa using hb3
    go_enter Tryz.func120, Tryz.ntmps120
    go_wp2_with fail
    go_ret
    exact ⟨by rw [HV.out]; rfl, (Below.refl _ _).alloc (Nat.le_refl _) _⟩
  have hnb3 : (to_ != 0) = false := by simpa using hb3
  obtain ⟨b4, hb4⟩ : ∃ q, tx.toList.isEmpty = q := ⟨_, rfl⟩
  rw [hb4] at hV
  cases b4
  case false =>
    have HV : Hid (V = 1) := hV.trans (if_pos (by simp))
    clear hV
    have hnb4 : (!tx.toList.isEmpty) = true := by rw [hb4]; rfl
    go_enter Tryz.func120, Tryz.ntmps120
    go_wp2_with fail
    go_ret
    exact ⟨by rw [HV.out]; rfl, (Below.refl _ _).alloc (Nat.le_refl _) _⟩
  have hnb4 : (!tx.toList.isEmpty) = false := by rw [hb4]; rfl
  obtain ⟨b5, hb5⟩ : ∃ q, nm.toList.isEmpty = q := ⟨_, rfl⟩
  rw [hb5] at hV
  cases b5
  case false =>
    have HV : Hid (V = 1) := hV.trans (if_pos (by simp))
    clear hV
    have hnb5 : (!nm.toList.isEmpty) = true := by rw [hb5]; rfl
    go_enter Tryz.func120, Tryz.ntmps120
    go_wp2_with fail
    go_ret
    exact ⟨by rw [HV.out]; rfl, (Below.refl _ _).alloc (Nat.le_refl _) _⟩
  have hnb5 : (!nm.toList.isEmpty) = false := by rw [hb5]; rfl
  obtain ⟨b6, hb6⟩ : ∃ q, Q = q := ⟨_, rfl⟩
  rw [hb6] at hV HX
  cases b6
  case false =>
    have HV : Hid (V = 1) := hV.trans (if_pos (by simp))
    clear hV
    go_enter Tryz.func120, Tryz.ntmps120
    go_wp2_with fail
    refine (HX.out _ ((Below.refl _ _).alloc (Nat.le_refl _) _)).mono ?_
    rintro e w2 ⟨rfl, hb⟩
    go_wp2_with fail
    go_ret
    exact ⟨by rw [HV.out]; rfl, ((Below.refl _ _).alloc (Nat.le_refl _) _).trans (hb.mono (by simp))⟩
  have HV : Hid (V = 0) := hV.trans (if_neg (by simp))
  clear hV
  go_enter Tryz.func120, Tryz.ntmps120
  go_wp2_with fail
  refine (HX.out _ ((Below.refl _ _).alloc (Nat.le_refl _) _)).mono ?_
  rintro e w2 ⟨rfl, hb⟩
  go_wp2_with fail
  go_ret
  exact ⟨by rw [HV.out]; rfl, ((Below.refl _ _).alloc (Nat.le_refl _) _).trans (hb.mono (by simp))⟩
set_option maxHeartbeats 2000000 in
theorem form3_any (id pa at_ fr to_ vk vi vt : Int) (tx nm vs : ByteArray) (A : Option Addr) (n c : Nat) (Q : Bool) (V : Int) (w : World)
    (hV : V = if ((fr == 0) && (to_ == 0) && tx.toList.isEmpty && nm.toList.isEmpty && Q) = false then 1 else 0)
    (hX : ∀ W, Below w.heap.size w W → Calls Tryz.prog 154 #[.agg #[.int .i64 vk, .int .i64 vi, .int .i64 vt, .string vs, .slice A n c]] W fun e w' => e = .returned (.bool Q) ∧ Below W.heap.size W w') :
    Calls Tryz.prog 120 #[.agg #[.int .i64 3, .int .i64 id, .int .i64 pa, .int .i64 at_, .int .i64 fr, .int .i64 to_, .string tx, .string nm, .int .i64 vk, .int .i64 vi, .int .i64 vt, .string vs, .slice A n c]] w fun e w' => e = .returned (.int .i64 V) ∧ Below w.heap.size w w' := by
  have HX := Lib.hid hX
  clear hX
  obtain ⟨b0, hb0⟩ : ∃ q, (fr == 0) = q := ⟨_, rfl⟩
  rw [hb0] at hV
  cases b0
  case false =>
    have HV : Hid (V = 1) := hV.trans (if_pos (by simp))
    clear hV
    have hnb0 : (fr != 0) = true := by simpa using hb0
    go_enter Tryz.func120, Tryz.ntmps120
    go_wp2_with fail
    go_ret
    exact ⟨by rw [HV.out]; rfl, (Below.refl _ _).alloc (Nat.le_refl _) _⟩
  have hnb0 : (fr != 0) = false := by simpa using hb0
  obtain ⟨b1, hb1⟩ : ∃ q, (to_ == 0) = q := ⟨_, rfl⟩
  rw [hb1] at hV
  cases b1
  case false =>
    have HV : Hid (V = 1) := hV.trans (if_pos (by simp))
    clear hV
    have hnb1 : (to_ != 0) = true := by simpa using hb1
    go_enter Tryz.func120, Tryz.ntmps120
    go_wp2_with fail
    go_ret
    exact ⟨by rw [HV.out]; rfl, (Below.refl _ _).alloc (Nat.le_refl _) _⟩
  have hnb1 : (to_ != 0) = false := by simpa using hb1
  obtain ⟨b2, hb2⟩ : ∃ q, tx.toList.isEmpty = q := ⟨_, rfl⟩
  rw [hb2] at hV
  cases b2
  case false =>
    have HV : Hid (V = 1) := hV.trans (if_pos (by simp))
    clear hV
    have hnb2 : (!tx.toList.isEmpty) = true := by rw [hb2]; rfl
    go_enter Tryz.func120, Tryz.ntmps120
    go_wp2_with fail
    go_ret
    exact ⟨by rw [HV.out]; rfl, (Below.refl _ _).alloc (Nat.le_refl _) _⟩
  have hnb2 : (!tx.toList.isEmpty) = false := by rw [hb2]; rfl
  obtain ⟨b3, hb3⟩ : ∃ q, nm.toList.isEmpty = q := ⟨_, rfl⟩
  rw [hb3] at hV
  cases b3
  case false =>
    have HV : Hid (V = 1) := hV.trans (if_pos (by simp))
    clear hV
    have hnb3 : (!nm.toList.isEmpty) = true := by rw [hb3]; rfl
    go_enter Tryz.func120, Tryz.ntmps120
    go_wp2_with fail
    go_ret
    exact ⟨by rw [HV.out]; rfl, (Below.refl _ _).alloc (Nat.le_refl _) _⟩
  have hnb3 : (!nm.toList.isEmpty) = false := by rw [hb3]; rfl
  obtain ⟨b4, hb4⟩ : ∃ q, Q = q := ⟨_, rfl⟩
  rw [hb4] at hV HX
  cases b4
  case false =>
    have HV : Hid (V = 1) := hV.trans (if_pos (by simp))
    clear hV
    go_enter Tryz.func120, Tryz.ntmps120
    go_wp2_with fail
    refine (HX.out _ ((Below.refl _ _).alloc (Nat.le_refl _) _)).mono ?_
    rintro e w2 ⟨rfl, hb⟩
    go_wp2_with fail
    go_ret
    exact ⟨by rw [HV.out]; rfl, ((Below.refl _ _).alloc (Nat.le_refl _) _).trans (hb.mono (by simp))⟩
  have HV : Hid (V = 0) := hV.trans (if_neg (by simp))
  clear hV
  go_enter Tryz.func120, Tryz.ntmps120
  go_wp2_with fail
  refine (HX.out _ ((Below.refl _ _).alloc (Nat.le_refl _) _)).mono ?_
  rintro e w2 ⟨rfl, hb⟩
  go_wp2_with fail
  go_ret
  exact ⟨by rw [HV.out]; rfl, ((Below.refl _ _).alloc (Nat.le_refl _) _).trans (hb.mono (by simp))⟩
set_option maxHeartbeats 2000000 in
theorem form4_any (id pa at_ fr to_ vk vi vt : Int) (tx nm vs : ByteArray) (A : Option Addr) (n c : Nat) (Q : Bool) (V : Int) (w : World)
    (hV : V = if ((pa == 0) && (at_ == 0) && nm.toList.isEmpty && Q) = false then 1 else 0)
    (hX : ∀ W, Below w.heap.size w W → Calls Tryz.prog 154 #[.agg #[.int .i64 vk, .int .i64 vi, .int .i64 vt, .string vs, .slice A n c]] W fun e w' => e = .returned (.bool Q) ∧ Below W.heap.size W w') :
    Calls Tryz.prog 120 #[.agg #[.int .i64 4, .int .i64 id, .int .i64 pa, .int .i64 at_, .int .i64 fr, .int .i64 to_, .string tx, .string nm, .int .i64 vk, .int .i64 vi, .int .i64 vt, .string vs, .slice A n c]] w fun e w' => e = .returned (.int .i64 V) ∧ Below w.heap.size w w' := by
  have HX := Lib.hid hX
  clear hX
  obtain ⟨b0, hb0⟩ : ∃ q, (pa == 0) = q := ⟨_, rfl⟩
  rw [hb0] at hV
  cases b0
  case false =>
    have HV : Hid (V = 1) := hV.trans (if_pos (by simp))
    clear hV
    have hnb0 : (pa != 0) = true := by simpa using hb0
    go_enter Tryz.func120, Tryz.ntmps120
    go_wp2_with fail
    go_ret
    exact ⟨by rw [HV.out]; rfl, (Below.refl _ _).alloc (Nat.le_refl _) _⟩
  have hnb0 : (pa != 0) = false := by simpa using hb0
  obtain ⟨b1, hb1⟩ : ∃ q, (at_ == 0) = q := ⟨_, rfl⟩
  rw [hb1] at hV
  cases b1
  case false =>
    have HV : Hid (V = 1) := hV.trans (if_pos (by simp))
    clear hV
    have hnb1 : (at_ != 0) = true := by simpa using hb1
    go_enter Tryz.func120, Tryz.ntmps120
    go_wp2_with fail
    go_ret
    exact ⟨by rw [HV.out]; rfl, (Below.refl _ _).alloc (Nat.le_refl _) _⟩
  have hnb1 : (at_ != 0) = false := by simpa using hb1
  obtain ⟨b2, hb2⟩ : ∃ q, nm.toList.isEmpty = q := ⟨_, rfl⟩
  rw [hb2] at hV
  cases b2
  case false =>
    have HV : Hid (V = 1) := hV.trans (if_pos (by simp))
    clear hV
    have hnb2 : (!nm.toList.isEmpty) = true := by rw [hb2]; rfl
    go_enter Tryz.func120, Tryz.ntmps120
    go_wp2_with fail
    go_ret
    exact ⟨by rw [HV.out]; rfl, (Below.refl _ _).alloc (Nat.le_refl _) _⟩
  have hnb2 : (!nm.toList.isEmpty) = false := by rw [hb2]; rfl
  obtain ⟨b3, hb3⟩ : ∃ q, Q = q := ⟨_, rfl⟩
  rw [hb3] at hV HX
  cases b3
  case false =>
    have HV : Hid (V = 1) := hV.trans (if_pos (by simp))
    clear hV
    go_enter Tryz.func120, Tryz.ntmps120
    go_wp2_with fail
    refine (HX.out _ ((Below.refl _ _).alloc (Nat.le_refl _) _)).mono ?_
    rintro e w2 ⟨rfl, hb⟩
    go_wp2_with fail
    go_ret
    exact ⟨by rw [HV.out]; rfl, ((Below.refl _ _).alloc (Nat.le_refl _) _).trans (hb.mono (by simp))⟩
  have HV : Hid (V = 0) := hV.trans (if_neg (by simp))
  clear hV
  go_enter Tryz.func120, Tryz.ntmps120
  go_wp2_with fail
  refine (HX.out _ ((Below.refl _ _).alloc (Nat.le_refl _) _)).mono ?_
  rintro e w2 ⟨rfl, hb⟩
  go_wp2_with fail
  go_ret
  exact ⟨by rw [HV.out]; rfl, ((Below.refl _ _).alloc (Nat.le_refl _) _).trans (hb.mono (by simp))⟩
set_option maxHeartbeats 2000000 in
theorem form5_any (id pa at_ fr to_ vk vi vt : Int) (tx nm vs : ByteArray) (A : Option Addr) (n c : Nat) (Q : Bool) (V : Int) (w : World)
    (hV : V = if ((pa == 0) && (at_ == 0) && (fr == 0) && (to_ == 0) && tx.toList.isEmpty) = false then 1 else 0)
    (hX : ∀ W, Below w.heap.size w W → Calls Tryz.prog 154 #[.agg #[.int .i64 vk, .int .i64 vi, .int .i64 vt, .string vs, .slice A n c]] W fun e w' => e = .returned (.bool Q) ∧ Below W.heap.size W w') :
    Calls Tryz.prog 120 #[.agg #[.int .i64 5, .int .i64 id, .int .i64 pa, .int .i64 at_, .int .i64 fr, .int .i64 to_, .string tx, .string nm, .int .i64 vk, .int .i64 vi, .int .i64 vt, .string vs, .slice A n c]] w fun e w' => e = .returned (.int .i64 V) ∧ Below w.heap.size w w' := by
  have HX := Lib.hid hX
  clear hX
  obtain ⟨b0, hb0⟩ : ∃ q, (pa == 0) = q := ⟨_, rfl⟩
  rw [hb0] at hV
  cases b0
  case false =>
    have HV : Hid (V = 1) := hV.trans (if_pos (by simp))
    clear hV
    have hnb0 : (pa != 0) = true := by simpa using hb0
    go_enter Tryz.func120, Tryz.ntmps120
    go_wp2_with fail
    go_ret
    exact ⟨by rw [HV.out]; rfl, (Below.refl _ _).alloc (Nat.le_refl _) _⟩
  have hnb0 : (pa != 0) = false := by simpa using hb0
  obtain ⟨b1, hb1⟩ : ∃ q, (at_ == 0) = q := ⟨_, rfl⟩
  rw [hb1] at hV
  cases b1
  case false =>
    have HV : Hid (V = 1) := hV.trans (if_pos (by simp))
    clear hV
    have hnb1 : (at_ != 0) = true := by simpa using hb1
    go_enter Tryz.func120, Tryz.ntmps120
    go_wp2_with fail
    go_ret
    exact ⟨by rw [HV.out]; rfl, (Below.refl _ _).alloc (Nat.le_refl _) _⟩
  have hnb1 : (at_ != 0) = false := by simpa using hb1
  obtain ⟨b2, hb2⟩ : ∃ q, (fr == 0) = q := ⟨_, rfl⟩
  rw [hb2] at hV
  cases b2
  case false =>
    have HV : Hid (V = 1) := hV.trans (if_pos (by simp))
    clear hV
    have hnb2 : (fr != 0) = true := by simpa using hb2
    go_enter Tryz.func120, Tryz.ntmps120
    go_wp2_with fail
    go_ret
    exact ⟨by rw [HV.out]; rfl, (Below.refl _ _).alloc (Nat.le_refl _) _⟩
  have hnb2 : (fr != 0) = false := by simpa using hb2
  obtain ⟨b3, hb3⟩ : ∃ q, (to_ == 0) = q := ⟨_, rfl⟩
  rw [hb3] at hV
  cases b3
  case false =>
    have HV : Hid (V = 1) := hV.trans (if_pos (by simp))
    clear hV
    have hnb3 : (to_ != 0) = true := by simpa using hb3
    go_enter Tryz.func120, Tryz.ntmps120
    go_wp2_with fail
    go_ret
    exact ⟨by rw [HV.out]; rfl, (Below.refl _ _).alloc (Nat.le_refl _) _⟩
  have hnb3 : (to_ != 0) = false := by simpa using hb3
  obtain ⟨b4, hb4⟩ : ∃ q, tx.toList.isEmpty = q := ⟨_, rfl⟩
  rw [hb4] at hV
  cases b4
  case false =>
    have HV : Hid (V = 1) := hV.trans (if_pos (by simp))
    clear hV
    have hnb4 : (!tx.toList.isEmpty) = true := by rw [hb4]; rfl
    go_enter Tryz.func120, Tryz.ntmps120
    go_wp2_with fail
    go_ret
    exact ⟨by rw [HV.out]; rfl, (Below.refl _ _).alloc (Nat.le_refl _) _⟩
  have hnb4 : (!tx.toList.isEmpty) = false := by rw [hb4]; rfl
  have HV : Hid (V = 0) := hV.trans (if_neg (by simp))
  clear hV
  go_enter Tryz.func120, Tryz.ntmps120
  go_wp2_with fail
  go_ret
  exact ⟨by rw [HV.out]; rfl, (Below.refl _ _).alloc (Nat.le_refl _) _⟩
set_option maxHeartbeats 2000000 in
/-- tree.checkForm -/
theorem checkForm_any (o : Opn) (A : Option Addr) (n c : Nat) (w : World) (B : Nat) (hB : B ≤ w.heap.size) (h : RV w B (.slice A n c) o.val.items) :
    Calls Tryz.prog 120 #[AO (o, .slice A n c)] w fun e w' => e = .returned (.int .i64 (formE o)) ∧ Below w.heap.size w w' := by
  have hX : ∀ W, Below w.heap.size w W → Calls _ _ #[AV (o.val, .slice A n c)] W _ := fun W hW => noValue_any o.val A n c W B (Nat.le_trans hB hW.size) (h.below (hW.mono hB))
  dsimp only [AV, AO] at hX ⊢
  obtain ⟨V, hV⟩ : ∃ V, V = formE o := ⟨_, rfl⟩
  rw [← hV]
  unfold formE at hV
  by_cases h1 : o.kind < 1
  · rw [if_pos (by unfold outI; exact decide_eq_true (.inl h1))] at hV
    subst hV
    clear h hX
    go_enter Tryz.func120, Tryz.ntmps120
    go_wp2_with fail
    go_ret
    exact ⟨rfl, (Below.refl _ _).alloc (Nat.le_refl _) _⟩
  by_cases h5 : 5 < o.kind
  · rw [if_pos (by unfold outI; exact decide_eq_true (.inr h5))] at hV
    subst hV
    clear h hX
    go_enter Tryz.func120, Tryz.ntmps120
    go_wp2_with fail
    go_ret
    exact ⟨rfl, (Below.refl _ _).alloc (Nat.le_refl _) _⟩
  rw [if_neg (by unfold outI; rw [decide_eq_true_iff]; omega)] at hV
  obtain ⟨Q, hQ⟩ : ∃ Q, Q = noV o.val := ⟨_, rfl⟩
  rw [← hQ] at hX
  unfold usedB at hV
  rw [← hQ] at hV
  have hk : o.kind = 1 ∨ o.kind = 2 ∨ o.kind = 3 ∨ o.kind = 4 ∨ o.kind = 5 := by omega
  rcases hk with hk | hk | hk | hk | hk
  all_goals rw [hk] at hV ⊢
  · refine form1_any _ _ _ _ _ _ _ _ _ _ _ _ _ _ Q V w (hV.trans ?_) hX
    simp [Bool.and_assoc]
  · refine form2_any _ _ _ _ _ _ _ _ _ _ _ _ _ _ Q V w (hV.trans ?_) hX
    simp [Bool.and_assoc]
  · refine form3_any _ _ _ _ _ _ _ _ _ _ _ _ _ _ Q V w (hV.trans ?_) hX
    simp [Bool.and_assoc]
  · refine form4_any _ _ _ _ _ _ _ _ _ _ _ _ _ _ Q V w (hV.trans ?_) hX
    simp [Bool.and_assoc]
  · refine form5_any _ _ _ _ _ _ _ _ _ _ _ _ _ _ Q V w (hV.trans ?_) hX
    simp [Bool.and_assoc]
end Go.Proofs.YtmkicfjcgbfaaaaGreat
namespace Go.Proofs.YtmkicfjcgbfaaaaGreat
open Go.RowKit

set_option maxRecDepth 100000 in
set_option maxHeartbeats 4000000 in
/-- the reference's SameOp at one operation -/
theorem sameOp_any (o : Opn) (A A' : Option Addr) (n c n' c' : Nat) (w : World) (B : Nat) (hB : B ≤ w.heap.size) (h1 : RV w B (.slice A n c) o.val.items) (h2 : RV w B (.slice A' n' c') o.val.items) :
    Calls Tryz.prog 41 #[AO (o, .slice A n c), AO (o, .slice A' n' c')] w fun e w' => e = .returned (.bool true) ∧ Below w.heap.size w w' := by
  have HS := Lib.hid fun W (hW : Below w.heap.size w W) => sameRef_at o.val o.val A A' n c n' c' W B (Nat.le_trans hB hW.size) (h1.below (hW.mono hB)) (h2.below (hW.mono hB))
  rw [sameV_refl] at HS
  obtain ⟨ok, oi, op, oa, of, ot, ox, on, ⟨vk, vi, vt, vs, vl⟩⟩ := o
  dsimp only [AO, AV, Vl.kind, Vl.int_, Vl.to_, Vl.text] at HS ⊢
  have HB2 : Hid (Below w.heap.size w ((w.alloc (.cells #[.int .i64 ok, .int .i64 oi, .int .i64 op, .int .i64 oa, .int .i64 of, .int .i64 ot, .string ox, .string on, .int .i64 vk, .int .i64 vi, .int .i64 vt, .string vs, .slice A n c] 31)).alloc (.cells #[.int .i64 ok, .int .i64 oi, .int .i64 op, .int .i64 oa, .int .i64 of, .int .i64 ot, .string ox, .string on, .int .i64 vk, .int .i64 vi, .int .i64 vt, .string vs, .slice A' n' c'] 31))) := ((Below.refl _ _).alloc (Nat.le_refl _) _).alloc (by simp) _
  clear h1 h2
  go_enter Tryz.func41, Tryz.ntmps41
  go_wp2_with fail
  refine (HS.out _ HB2.out).mono ?_
  rintro e w2 ⟨rfl, hb⟩
  have HB3 : Hid (Below w.heap.size w w2) := HB2.out.trans (hb.mono HB2.out.size)
  clear hb
  go_wp2_with fail
  go_ret
  exact ⟨rfl, HB3.out⟩

end Go.Proofs.YtmkicfjcgbfaaaaGreat
namespace Go.Proofs.YtmkicfjcgbfaaaaGreat
open Go.RowKit

set_option maxRecDepth 100000 in
set_option maxHeartbeats 8000000 in
/-- SameOps at equal lists -/
theorem sameOps_any (os : List Opn) (A A' : Option Addr) (n c n' c' : Nat) (w : World) (h1 : ROs w w.heap.size (.slice A n c) os) (h2 : ROs w w.heap.size (.slice A' n' c') os) :
    Calls Tryz.prog 28 #[.slice A n c, .slice A' n' c'] w fun e w' => e = .returned (.bool true) ∧ Below w.heap.size w w' := by
  have hl1 := h1.len
  have hl2 := h2.len
  obtain rfl : n' = n := hl2.1.trans hl1.1.symm
  have HN : Hid (n' = os.length) := hl1.1
  have hnb : n' * 144 ≤ 140737488351232 := hl1.2.2
  have H1 := Lib.hid h1
  have H2 := Lib.hid h2
  clear h1 h2 hl1 hl2
  go_enter Tryz.func28, Tryz.ntmps28
  go_wp2_with fail
  go_loopg [13] n' (fun gg s13 wr => ∃ (k : Nat), k + gg = n' ∧ s13 = .int .i64 (k : Int) ∧ Hid (Below w.heap.size w wr))
  case atStart => exact ⟨0, by omega, rfl, Below.refl _ _⟩
  case round =>
    obtain ⟨k, hkg, rfl, hbel⟩ := hrel
    obtain ⟨W1, rfl⟩ : ∃ W1, W1 = wr := ⟨_, rfl⟩
    by_cases hk : k < n'
    · obtain ⟨o, hko⟩ : ∃ o, os[k]? = some o := ⟨_, List.getElem?_eq_getElem (by have := HN.out; omega)⟩
      obtain ⟨b, off, Ag, ng, cg, rfl, hbb, hcg, hrg, _⟩ := (H1.out.below hbel.out).at_ hko
      obtain ⟨b2, off2, Aq, nq, cq, rfl, hbb2, hcq, hrq, _⟩ := (H2.out.below hbel.out).at_ hko
      have HSO := Lib.hid fun W (hW : Below W1.heap.size W1 W) => sameOp_any o Ag Aq ng cg nq cq W w.heap.size (Nat.le_trans hbel.out.size hW.size) (hrg.below (hW.mono hbel.out.size)) (hrq.below (hW.mono hbel.out.size))
      obtain ⟨ok, oi, op, oa, of, ot, ox, on, ⟨vk, vi, vt, vs, vl⟩⟩ := o
      dsimp only [AO, Vl.kind, Vl.int_, Vl.to_, Vl.text] at HSO
      have g0 : W1.cell? ⟨b, off + k * 13, none⟩ = some (.int .i64 ok) := hcg 0 _ rfl
      have g1 : W1.cell? ⟨b, off + k * 13 + 1, none⟩ = some (.int .i64 oi) := hcg 1 _ rfl
      have g2 : W1.cell? ⟨b, off + k * 13 + 2, none⟩ = some (.int .i64 op) := hcg 2 _ rfl
      have g3 : W1.cell? ⟨b, off + k * 13 + 3, none⟩ = some (.int .i64 oa) := hcg 3 _ rfl
      have g4 : W1.cell? ⟨b, off + k * 13 + 4, none⟩ = some (.int .i64 of) := hcg 4 _ rfl
      have g5 : W1.cell? ⟨b, off + k * 13 + 5, none⟩ = some (.int .i64 ot) := hcg 5 _ rfl
      have g6 : W1.cell? ⟨b, off + k * 13 + 6, none⟩ = some (.string ox) := hcg 6 _ rfl
      have g7 : W1.cell? ⟨b, off + k * 13 + 7, none⟩ = some (.string on) := hcg 7 _ rfl
      have g8 : W1.cell? ⟨b, off + k * 13 + 8, none⟩ = some (.int .i64 vk) := hcg 8 _ rfl
      have g9 : W1.cell? ⟨b, off + k * 13 + 9, none⟩ = some (.int .i64 vi) := hcg 9 _ rfl
      have g10 : W1.cell? ⟨b, off + k * 13 + 10, none⟩ = some (.int .i64 vt) := hcg 10 _ rfl
      have g11 : W1.cell? ⟨b, off + k * 13 + 11, none⟩ = some (.string vs) := hcg 11 _ rfl
      have g12 : W1.cell? ⟨b, off + k * 13 + 12, none⟩ = some (.slice Ag ng cg) := hcg 12 _ rfl
      have q0 : W1.cell? ⟨b2, off2 + k * 13, none⟩ = some (.int .i64 ok) := hcq 0 _ rfl
      have q1 : W1.cell? ⟨b2, off2 + k * 13 + 1, none⟩ = some (.int .i64 oi) := hcq 1 _ rfl
      have q2 : W1.cell? ⟨b2, off2 + k * 13 + 2, none⟩ = some (.int .i64 op) := hcq 2 _ rfl
      have q3 : W1.cell? ⟨b2, off2 + k * 13 + 3, none⟩ = some (.int .i64 oa) := hcq 3 _ rfl
      have q4 : W1.cell? ⟨b2, off2 + k * 13 + 4, none⟩ = some (.int .i64 of) := hcq 4 _ rfl
      have q5 : W1.cell? ⟨b2, off2 + k * 13 + 5, none⟩ = some (.int .i64 ot) := hcq 5 _ rfl
      have q6 : W1.cell? ⟨b2, off2 + k * 13 + 6, none⟩ = some (.string ox) := hcq 6 _ rfl
      have q7 : W1.cell? ⟨b2, off2 + k * 13 + 7, none⟩ = some (.string on) := hcq 7 _ rfl
      have q8 : W1.cell? ⟨b2, off2 + k * 13 + 8, none⟩ = some (.int .i64 vk) := hcq 8 _ rfl
      have q9 : W1.cell? ⟨b2, off2 + k * 13 + 9, none⟩ = some (.int .i64 vi) := hcq 9 _ rfl
      have q10 : W1.cell? ⟨b2, off2 + k * 13 + 10, none⟩ = some (.int .i64 vt) := hcq 10 _ rfl
      have q11 : W1.cell? ⟨b2, off2 + k * 13 + 11, none⟩ = some (.string vs) := hcq 11 _ rfl
      have q12 : W1.cell? ⟨b2, off2 + k * 13 + 12, none⟩ = some (.slice Aq nq cq) := hcq 12 _ rfl
      have j0 : (0 : Int) ≤ (k : Int) := by omega
      have j1 : (k : Int) < (n' : Int) := by omega
      clear hko hbb hcg hrg hbb2 hcq hrq
      go_upto_region 6 with fail
      go_cut [25] (fun s25 wc => s25 = .bool false ∧ Hid (Below W1.heap.size W1 wc))
      case first =>
        go_region_with (go_at_call 41; refine (HSO.out _ (by first | with_reducible exact (Below.refl _ _).drew | with_reducible exact Below.refl _ _ | exact (Below.refl _ _).drew)).mono ?_; rintro e w9 ⟨rfl, hb9⟩; have HB9 : Hid (Below W1.heap.size W1 w9) := (by first | exact (Below.refl W1.heap.size W1).drew.trans hb9 | exact hb9); clear hb9)
        all_goals
          go_wp2_with fail
          go_meet
          exact ⟨rfl, HB9⟩
      case rest =>
      obtain ⟨rfl, hwc⟩ := hcut
      have HBC : Hid (Below w.heap.size w wc) := hbel.out.trans (hwc.out.mono hbel.out.size)
      clear g0 q0 g1 q1 g2 q2 g3 q3 g4 q4 g5 q5 g6 q6 g7 q7 g8 q8 g9 q9 g10 q10 g11 q11 g12 q12
      go_wp2_with fail
      go_roundg (n' - (k + 1))
      case measure => omega
      case rel => exact ⟨k + 1, by omega, by go_num, HBC⟩
    · obtain rfl : k = n' := by omega
      go_wp2_with fail
      go_ret
      exact ⟨rfl, hbel.out⟩
set_option maxHeartbeats 1000000 in
/-- sameMany where there is an error -/
theorem sameMany_bad (A' : Option Addr) (n' c' : Nat) (er : Int) (hne : er ≠ 0) (w : World) :
    Calls Tryz.prog 46 #[.slice none 0 0, .int .i64 er, .slice A' n' c', .int .i64 er] w fun e w' => e = .returned (.bool true) ∧ Below w.heap.size w w' := by
  have h0' : (er != 0) = true := by simpa using hne
  have h1' : (er == er) = true := beq_self_eq_true er
  clear hne
  go_enter Tryz.func46, Tryz.ntmps46
  go_wp2_with fail
  go_ret
  exact ⟨rfl, Below.refl _ _⟩
set_option maxHeartbeats 1000000 in
/-- sameMany at equal lists -/
theorem sameMany_any (os : List Opn) (A A' : Option Addr) (n c n' c' : Nat) (w : World) (h1 : ROs w w.heap.size (.slice A n c) os) (h2 : ROs w w.heap.size (.slice A' n' c') os) :
    Calls Tryz.prog 46 #[.slice A n c, .int .i64 0, .slice A' n' c', .int .i64 0] w fun e w' => e = .returned (.bool true) ∧ Below w.heap.size w w' := by
  have HS := Lib.hid (sameOps_any os A A' n c n' c' w h1 h2)
  clear h1 h2
  go_enter Tryz.func46, Tryz.ntmps46
  go_wp2_with fail
  refine HS.out.mono ?_
  rintro e w1 ⟨rfl, hb⟩
  have HB := Lib.hid hb
  clear hb
  go_wp2_with fail
  go_ret
  exact ⟨rfl, HB.out⟩
end Go.Proofs.YtmkicfjcgbfaaaaGreat
