/-
  DERIVED. The walks of prop.usesForm and prop.checkNumbers. Conditions: sizes.
  The walks of prop.hasControl and prop.checkText. Conditions: sizes.
  The walk of prop.CheckValue. Conditions: sizes.
  By an AI agent.
-/
import Derived.Test.YtemngidkfgcigaaGreatDoorKa10
import Derived.Test.YtemngidkfgcigaaGreatDoorKa07
import Derived.WalkSpells
import Derived.Deep.QuietTactic
import Derived.BigQuiet
import Derived.Deep.LoopGhost
import Derived.Test.YtemngidkfgcigaaGreatDoorChecked
import Derived.Deep.DeepCutAuto
import Derived.Test.YtemngidkfgcigaaGreatDoorKa03
import Derived.Test.YtemngidkfgcigaaGreatDoorKa02
namespace Go.Proofs.YtemngidkfgcigaaGreatDoor
open Go.RowKit

def hasI (k : Int) : Bool := (k == 1) || (k == 2) || (k == 4) || (k == 5)
def hasT (k : Int) : Bool := (k == 3) || (k == 6)
/-- a value has no field that its kind does not use -/
def ufB (x : Vl) : Bool := (hasI x.kind || x.int_ == 0) && ((x.kind == 5) || x.to_ == 0) && (hasT x.kind || x.text.toList.isEmpty) && ((x.kind == 7) || ((x.items.length : Int) == 0))

set_option maxHeartbeats 4000000 in
theorem usesForm_any (x : Vl) (A : Option Addr) (n c : Nat) (w : World) (hn : n = x.items.length) :
    Calls Tryz.prog 55 #[AV (x, .slice A n c)] w fun e w' => e = .returned (.bool (ufB x)) ∧ Below w.heap.size w w' := by
  obtain ⟨k, i, t, s, l⟩ := x
  dsimp only [AV, Vl.kind, Vl.int_, Vl.to_, Vl.text, Vl.items] at hn ⊢
  unfold ufB hasI hasT
  dsimp only [Vl.kind, Vl.int_, Vl.to_, Vl.text, Vl.items]
  rw [← hn]
  clear hn
  obtain ⟨k1, h1⟩ : ∃ q, (k == 1) = q := ⟨_, rfl⟩
  obtain ⟨k2, h2⟩ : ∃ q, (k == 2) = q := ⟨_, rfl⟩
  obtain ⟨k3, h3⟩ : ∃ q, (k == 3) = q := ⟨_, rfl⟩
  obtain ⟨k4, h4⟩ : ∃ q, (k == 4) = q := ⟨_, rfl⟩
  obtain ⟨k5, h5⟩ : ∃ q, (k == 5) = q := ⟨_, rfl⟩
  obtain ⟨k6, h6⟩ : ∃ q, (k == 6) = q := ⟨_, rfl⟩
  obtain ⟨k7, h7⟩ : ∃ q, (k == 7) = q := ⟨_, rfl⟩
  obtain ⟨z1, g1⟩ : ∃ q, (i == 0) = q := ⟨_, rfl⟩
  obtain ⟨z2, g2⟩ : ∃ q, (t == 0) = q := ⟨_, rfl⟩
  obtain ⟨z3, g3⟩ : ∃ q, s.toList.isEmpty = q := ⟨_, rfl⟩
  obtain ⟨z4, g4⟩ : ∃ q, ((n : Int) == 0) = q := ⟨_, rfl⟩
  rw [h1, h2, h3, h4, h5, h6, h7, g1, g2, g3, g4]
  have W : True := trivial
  go_enter Tryz.func55, Tryz.ntmps55
  go_upto_region 1 with fail
  go_cut [3] (fun s3 wc => s3 = .bool (k1 || k2 || k4 || k5) ∧ wc = w.alloc (.cells #[.int .i64 k, .int .i64 i, .int .i64 t, .string s, .slice A n c] 41))
  case first =>
    go_wp2_with fail
    all_goals
      go_meet
      exact ⟨by simp_all, rfl⟩
  case rest =>
  obtain ⟨rfl, rfl⟩ := hcut
  go_upto_region 2 with fail
  go_cut [4] (fun s4 wc => s4 = .bool (k3 || k6) ∧ wc = w.alloc (.cells #[.int .i64 k, .int .i64 i, .int .i64 t, .string s, .slice A n c] 41))
  case first =>
    go_wp2_with fail
    all_goals
      go_meet
      exact ⟨by simp_all, rfl⟩
  case rest =>
  obtain ⟨rfl, rfl⟩ := hcut
  obtain ⟨a1, e1⟩ : ∃ q, (k1 || k2 || k4 || k5) = q := ⟨_, rfl⟩
  obtain ⟨a2, e2⟩ : ∃ q, (k3 || k6) = q := ⟨_, rfl⟩
  rw [e1, e2]
  clear h1 h2 h3 h4 h6
  go_wp2_with fail
  all_goals
    go_ret
    exact ⟨by simp_all, (Below.refl _ _).alloc (Nat.le_refl _) _⟩

def outI (n a b : Int) : Bool := decide (n < a ∨ b < n)
/-- the error of the numbers of a value -/
def nuErr (k i t : Int) : Int :=
  if (k == 1) = true then (if outI i 0 1 = true then 2 else 0)
  else if (k == 2) = true then (if outI i (-1000000000) 1000000000 = true then 2 else 0)
  else if (k == 4) = true then (if outI i 0 100000 = true then 2 else 0)
  else if (k == 5) = true then (if (outI i 0 100000 || outI t 0 100000) = true then 2 else if t < i then 5 else 0)
  else 0

set_option maxHeartbeats 4000000 in
theorem checkNumbers_any (x : Vl × Value) (w : World) :
    Calls Tryz.prog 56 #[AV x] w fun e w' => e = .returned (.int .i64 (nuErr x.1.kind x.1.int_ x.1.to_)) ∧ Below w.heap.size w w' := by
  obtain ⟨⟨k, i, t, s, l⟩, v⟩ := x
  dsimp only [AV, Vl.kind, Vl.int_, Vl.to_, Vl.text, Vl.items]
  have HO : Hid (∀ n a b W, Calls Tryz.prog 54 #[.int .i64 n, .int .i64 a, .int .i64 b] W fun e w' => e = .returned (.bool (outI n a b)) ∧ w' = W) := fun n a b W => outsideP_any n a b W
  obtain ⟨k1, h1⟩ : ∃ q, (k == 1) = q := ⟨_, rfl⟩
  obtain ⟨k2, h2⟩ : ∃ q, (k == 2) = q := ⟨_, rfl⟩
  obtain ⟨k4, h4⟩ : ∃ q, (k == 4) = q := ⟨_, rfl⟩
  obtain ⟨k5, h5⟩ : ∃ q, (k == 5) = q := ⟨_, rfl⟩
  unfold nuErr
  rw [h1, h2, h4, h5]
  go_enter Tryz.func56, Tryz.ntmps56
  go_wp2_with (refine (HO.out _ _ _ _).mono ?_; rintro e w1 ⟨rfl, rfl⟩)
  all_goals
    first
      | (go_ret; exact ⟨rfl, (Below.refl _ _).alloc (Nat.le_refl _) _⟩)
      | (go_ret; exact ⟨by simp_all, (Below.refl _ _).alloc (Nat.le_refl _) _⟩)
      | skip
  all_goals fail
end Go.Proofs.YtemngidkfgcigaaGreatDoor
namespace Go.Proofs.YtemngidkfgcigaaGreatDoor
open Go.RowKit

def ctR (r : Nat) : Bool := decide (r < 32) || (r == 127)
theorem ctR_byte (c : UInt8) : ctR c.toNat = ctlB c := rfl
theorem ctR_far {r : Nat} (h : 128 ≤ r) : ctR r = false := by unfold ctR; simp; omega
theorem idxF_ctl (s : ByteArray) : ∀ f pos, s.size - pos ≤ f → ((0 ≤ Lib.idxFuncFrom ctR true s f pos) ↔ ∃ j, ∃ h : j < s.size, pos ≤ j ∧ ctlB s[j] = true)
  | 0, pos, hf => by
    unfold Lib.idxFuncFrom
    exact ⟨fun h => absurd h (by omega), fun ⟨j, h, h1, _⟩ => absurd h1 (by omega)⟩
  | f + 1, pos, hf => by
    unfold Lib.idxFuncFrom
    by_cases hp : pos < s.size
    · rw [if_pos hp]
      by_cases ha : (s[pos]).toNat < 128
      · rw [decode_ascii s pos hp ha]
        dsimp only
        cases hc : ctlB s[pos]
        · rw [if_neg (by rw [ctR_byte, hc]; decide), idxF_ctl s f (pos + 1) (by omega)]
          constructor
          · rintro ⟨j, h, h1, h2⟩
            exact ⟨j, h, by omega, h2⟩
          · rintro ⟨j, h, h1, h2⟩
            refine ⟨j, h, ?_, h2⟩
            rcases Nat.lt_or_ge pos j with g | g
            · exact g
            · obtain rfl : pos = j := by omega
              rw [hc] at h2; cases h2
        · rw [if_pos (by rw [ctR_byte, hc])]
          exact ⟨fun _ => ⟨pos, hp, Nat.le_refl _, hc⟩, fun _ => by omega⟩
      · obtain ⟨a1, a2, a3, a4, a5⟩ := decode_far hp (by omega)
        rw [if_neg (by rw [ctR_far a1]; decide), idxF_ctl s f _ (by omega)]
        constructor
        · rintro ⟨j, h, h1, h2⟩
          exact ⟨j, h, by omega, h2⟩
        · rintro ⟨j, h, h1, h2⟩
          refine ⟨j, h, ?_, h2⟩
          rcases Nat.lt_or_ge j (pos + (Utf8.decode s pos).2) with g | g
          · have := a5 j h h1 g
            exfalso
            unfold ctlB at h2
            simp at h2
            omega
          · exact g
    · rw [if_neg hp]
      exact ⟨fun h => absurd h (by omega), fun ⟨j, h, h1, _⟩ => absurd h1 (by omega)⟩
theorem ctl_iff (s : ByteArray) : (ctl s = true) ↔ ∃ j, ∃ h : j < s.size, ctlB s[j] = true := by
  constructor
  · intro h
    obtain ⟨c, hc, h2⟩ := List.any_eq_true.1 h
    obtain ⟨j, hj, rfl⟩ := List.mem_iff_getElem.1 hc
    have e : s.data.toList[j] = s[j]'(by simpa using hj) := by simp; rfl
    rw [e] at h2
    exact ⟨j, by simpa using hj, h2⟩
  · rintro ⟨j, h, h2⟩
    exact ctl_yes s j h h2
theorem idxF_is (s : ByteArray) : decide ((0 : Int) ≤ Lib.idxFunc ctR true s) = ctl s := by
  rw [Bool.eq_iff_iff, decide_eq_true_iff, ctl_iff]
  unfold Lib.idxFunc
  rw [idxF_ctl s s.size 0 (by omega)]
  exact ⟨fun ⟨j, h, _, h2⟩ => ⟨j, h, h2⟩, fun ⟨j, h, h2⟩ => ⟨j, h, Nat.zero_le _, h2⟩⟩
theorem ctrl_at (w : World) : PredAt Tryz.prog 81 #[] encR ctR w := fun W r _ => by
  unfold FnGives
  unfold ctR
  obtain ⟨q1, h1⟩ : ∃ q, q = decide (r < 32) := ⟨_, rfl⟩
  obtain ⟨q2, h2⟩ : ∃ q, q = (r == 127) := ⟨_, rfl⟩
  rw [← h1, ← h2]
  have z2 : ((r : Int) == 127) = q2 := by rw [h2, Bool.eq_iff_iff]; simp; omega
  clear h2
  cases q1
  · have z1 : ¬ (r : Int) < 32 := by have := of_decide_eq_false h1.symm; omega
    clear h1
    cases q2
    all_goals
      go_enter Tryz.func81, Tryz.ntmps81
      go_wp2
      go_ret
      exact ⟨rfl, 0, rfl⟩
  · have z1 : (r : Int) < 32 := by have := of_decide_eq_true h1.symm; omega
    clear h1
    go_enter Tryz.func81, Tryz.ntmps81
    go_wp2
    go_ret
    exact ⟨rfl, 0, rfl⟩
set_option maxHeartbeats 400000 in
theorem hasControlP_any (s : ByteArray) (w : World) :
    Calls Tryz.prog 66 #[.string s] w fun e w' => e = .returned (.bool (ctl s)) ∧ Below w.heap.size w w' := by
  have HC := Lib.hid (Tryz.strings_ContainsFunc 81 #[] (enters_of Tryz.func81 (by kernel_rfl) rfl) ctR s w (ctrl_at w))
  rw [idxF_is] at HC
  go_enter Tryz.func66, Tryz.ntmps66
  go_wp2_with fail
  refine HC.out.mono ?_
  rintro e w1 ⟨rfl, hb⟩
  have HB := Lib.hid hb
  clear hb
  go_wp2_with fail
  go_ret
  exact ⟨rfl, HB.out⟩

def lkS : ByteArray := ⟨#[91, 93, 124]⟩
theorem lkS_asc : Asc lkS := by
  intro i h
  have : i < 3 := h
  match i, this with
  | 0, _ => exact (by decide : (91 : UInt8).toNat < 128)
  | 1, _ => exact (by decide : (93 : UInt8).toNat < 128)
  | 2, _ => exact (by decide : (124 : UInt8).toNat < 128)
/-- has a text a byte that no title has -/
def lkAny (s : ByteArray) : Bool := decide (0 ≤ Lib.indexAny s.data.toList lkS.data.toList)
/-- a text that is no title -/
def lkBad (s : ByteArray) : Bool := s.toList.isEmpty || (bt s 0 == 32) || (bt s (s.size - 1) == 32) || lkAny s
/-- the error of the text of a value -/
def ttErr (k6 : Bool) (s : ByteArray) : Int :=
  if 2000 < s.size then 4 else if k6 = true ∧ 100 < s.size then 4 else if ctl s = true then 9 else if (k6 && lkBad s) = true then 1 else 0

set_option maxHeartbeats 4000000 in
theorem checkTextP_any (x : Vl × Value) (w : World) (hv : ∃ A n c, x.2 = .slice A n c) :
    Calls Tryz.prog 57 #[AV x] w fun e w' => e = .returned (.int .i64 (ttErr (x.1.kind == 6) x.1.text)) ∧ Below w.heap.size w w' := by
  obtain ⟨⟨k, i, t, s, l⟩, v⟩ := x
  obtain ⟨A, n, c, rfl⟩ := hv
  dsimp only [AV, Vl.kind, Vl.int_, Vl.to_, Vl.text, Vl.items]
  obtain ⟨k6, h6⟩ : ∃ q, (k == 6) = q := ⟨_, rfl⟩
  rw [h6]
  by_cases b1 : 2000 < s.size
  · have hv : ttErr k6 s = 4 := if_pos b1
    rw [hv]
    have b1' : (2000 : Int) < (s.size : Int) := by omega
    clear hv b1
    cases k6 <;>
    · go_enter Tryz.func57, Tryz.ntmps57
      go_wp2_with fail
      go_ret
      exact ⟨rfl, (Below.refl _ _).alloc (Nat.le_refl _) _⟩
  have b1' : ¬ (2000 : Int) < (s.size : Int) := by omega
  have HC := Lib.hid fun W => hasControlP_any s W
  have HA := Lib.hid fun W => containsAny_asc lkS lkS_asc (by decide) (by decide) s W (by omega)
  by_cases b2 : k6 = true ∧ 100 < s.size
  · have hv : ttErr k6 s = 4 := by unfold ttErr; rw [if_neg b1, if_pos b2]
    rw [hv]
    obtain ⟨rfl, b2⟩ := b2
    have b2' : (100 : Int) < (s.size : Int) := by omega
    clear hv b1 b2
    go_enter Tryz.func57, Tryz.ntmps57
    go_wp2_with fail
    go_ret
    exact ⟨rfl, (Below.refl _ _).alloc (Nat.le_refl _) _⟩
  have hv : ttErr k6 s = if ctl s = true then 9 else if (k6 && lkBad s) = true then 1 else 0 := by unfold ttErr; rw [if_neg b1, if_neg b2]
  rw [hv]
  clear hv
  obtain ⟨q, hq⟩ : ∃ q, q = ctl s := ⟨_, rfl⟩
  rw [← hq] at HC ⊢
  clear hq
  obtain ⟨lb, hlb⟩ : ∃ lb, lb = lkBad s := ⟨_, rfl⟩
  rw [← hlb]
  have HLB := Lib.hid hlb
  clear hlb
  cases k6
  case false =>
    go_enter Tryz.func57, Tryz.ntmps57
    go_wp2_with fail
    refine (HC.out _).mono ?_
    rintro e w1 ⟨rfl, hb⟩
    have hc := fun i => hb.cell (p := ⟨w.heap.size, i, none⟩) (by simp)
    have HB : Hid (Below w.heap.size w w1) := ((Below.refl _ _).alloc (Nat.le_refl _) _).trans (hb.mono (by simp))
    clear hb
    cases q
    · go_wp2_with fail
      go_ret
      exact ⟨rfl, HB.out⟩
    · go_wp2_with fail
      go_ret
      exact ⟨rfl, HB.out⟩
  case true =>
    have b2' : ¬ (100 : Int) < (s.size : Int) := fun h => b2 ⟨rfl, by omega⟩
    cases q
    case true =>
      go_enter Tryz.func57, Tryz.ntmps57
      go_wp2_with fail
      refine (HC.out _).mono ?_
      rintro e w1 ⟨rfl, hb⟩
      have hc := fun i => hb.cell (p := ⟨w.heap.size, i, none⟩) (by simp)
      have HB : Hid (Below w.heap.size w w1) := ((Below.refl _ _).alloc (Nat.le_refl _) _).trans (hb.mono (by simp))
      clear hb
      go_wp2_with fail
      go_ret
      exact ⟨rfl, HB.out⟩
    by_cases h0 : s.size = 0
    · obtain rfl : s = ⟨#[]⟩ := by cases s with | mk d => rw [show d = #[] from Array.eq_empty_of_size_eq_zero h0]
      have e : lb = true := by
        rw [HLB.out]
        unfold lkBad
        rw [show (⟨#[]⟩ : ByteArray).toList.isEmpty = true from by rw [ByteArray.toList_eq]; rfl]
        rfl
      rw [e]
      clear e h0
      go_enter Tryz.func57, Tryz.ntmps57
      go_wp2_with fail
      refine (HC.out _).mono ?_
      rintro e w1 ⟨rfl, hb⟩
      have hc := fun i => hb.cell (p := ⟨w.heap.size, i, none⟩) (by simp)
      have HB : Hid (Below w.heap.size w w1) := ((Below.refl _ _).alloc (Nat.le_refl _) _).trans (hb.mono (by simp))
      clear hb
      go_wp2_with fail
      go_ret
      exact ⟨rfl, HB.out⟩
    have hne := notEmpty_of (t := s) (by omega)
    have hz : 0 < s.size := by omega
    have hl : s.size - 1 < s.size := by omega
    have z1 : (1 : Int) ≤ (s.size : Int) := by omega
    have z0 : (0 : Int) ≤ (s.size : Int) - 1 := by omega
    have z2 : ((s.size : Int) - 1).toNat = s.size - 1 := by omega
    have hlk : lb = ((((s[0].toNat : Int) == 32) || ((s[s.size - 1].toNat : Int) == 32)) || lkAny s) := by rw [HLB.out]; unfold lkBad; rw [hne, bt_at hz, bt_at hl]; rfl
    obtain ⟨a1, e1⟩ : ∃ q, ((s[0].toNat : Int) == 32) = q := ⟨_, rfl⟩
    obtain ⟨a2, e2⟩ : ∃ q, ((s[s.size - 1].toNat : Int) == 32) = q := ⟨_, rfl⟩
    obtain ⟨a3, e3⟩ : ∃ q, lkAny s = q := ⟨_, rfl⟩
    rw [e1, e2, e3] at hlk
    have HA3 : Hid (∀ W, Calls Tryz.prog 67 #[.string s, .string ⟨#[91, 93, 124]⟩] W fun e w' => e = .returned (.bool a3) ∧ Below W.heap.size W w') := fun W => by rw [← e3]; exact HA.out W
    obtain ⟨V, hV⟩ : ∃ V : Int, V = (if false = true then 9 else if (true && lb) = true then 1 else 0) := ⟨_, rfl⟩
    rw [← hV]
    rw [hlk] at hV
    have HLK := Lib.hid hV
    clear hlk e3 h0 HA hV
    cases a1 <;> cases a2
    all_goals
      go_enter Tryz.func57, Tryz.ntmps57
      go_wp2_with fail
      refine (HC.out _).mono ?_
      rintro e w1 ⟨rfl, hb⟩
      have hc := fun i => hb.cell (p := ⟨w.heap.size, i, none⟩) (by simp)
      have HB : Hid (Below w.heap.size w w1) := ((Below.refl _ _).alloc (Nat.le_refl _) _).trans (hb.mono (by simp))
      clear hb
      go_wp2_with fail
    · refine (HA3.out _).mono ?_
      rintro e w2 ⟨rfl, hb⟩
      have HB2 : Hid (Below w.heap.size w w2) := HB.out.trans (hb.mono HB.out.size)
      clear hb
      cases a3
      · go_wp2_with fail
        go_ret
        exact ⟨by rw [HLK.out]; rfl, HB2.out⟩
      · go_wp2_with fail
        go_ret
        exact ⟨by rw [HLK.out]; rfl, HB2.out⟩
    all_goals
      go_ret
      exact ⟨by rw [HLK.out]; rfl, HB.out⟩
end Go.Proofs.YtemngidkfgcigaaGreatDoor
namespace Go.Proofs.YtemngidkfgcigaaGreatDoor
open Go.RowKit

mutual
/-- the error of a value -/
def vErr : Vl → Int
  | .mk k i t s l => if outI k 0 7 = true then 10 else if ufB (.mk k i t s l) = false then 1 else if nuErr k i t ≠ 0 then nuErr k i t else if ttErr (k == 6) s ≠ 0 then ttErr (k == 6) s else if 20 < l.length then 4 else itErr l
/-- the error of a list's items -/
def itErr : List Vl → Int
  | [] => 0
  | x :: l => if (x.kind == 0) = true then 10 else if (x.kind == 7) = true then 10 else if vErr x ≠ 0 then vErr x else itErr l
end
theorem vErr_eq (x : Vl) : vErr x = if outI x.kind 0 7 = true then 10 else if ufB x = false then 1 else if nuErr x.kind x.int_ x.to_ ≠ 0 then nuErr x.kind x.int_ x.to_ else if ttErr (x.kind == 6) x.text ≠ 0 then ttErr (x.kind == 6) x.text else if 20 < x.items.length then 4 else itErr x.items := by
  cases x; rw [vErr]; rfl
theorem vErr_out {x : Vl} (h : outI x.kind 0 7 = true) : vErr x = 10 := by rw [vErr_eq, if_pos h]
theorem vErr_form {x : Vl} (h : outI x.kind 0 7 = false) (h1 : ufB x = false) : vErr x = 1 := by
  rw [vErr_eq, if_neg (by rw [h]; decide), if_pos h1]
theorem vErr_num {x : Vl} (h : outI x.kind 0 7 = false) (h1 : ufB x = true) (h2 : nuErr x.kind x.int_ x.to_ ≠ 0) : vErr x = nuErr x.kind x.int_ x.to_ := by
  rw [vErr_eq, if_neg (by rw [h]; decide), if_neg (by rw [h1]; decide), if_pos h2]
theorem vErr_text {x : Vl} (h : outI x.kind 0 7 = false) (h1 : ufB x = true) (h2 : nuErr x.kind x.int_ x.to_ = 0) (h3 : ttErr (x.kind == 6) x.text ≠ 0) : vErr x = ttErr (x.kind == 6) x.text := by
  rw [vErr_eq, if_neg (by rw [h]; decide), if_neg (by rw [h1]; decide), if_neg (fun e => e h2), if_pos h3]
theorem vErr_large {x : Vl} (h : outI x.kind 0 7 = false) (h1 : ufB x = true) (h2 : nuErr x.kind x.int_ x.to_ = 0) (h3 : ttErr (x.kind == 6) x.text = 0) (h4 : 20 < x.items.length) : vErr x = 4 := by
  rw [vErr_eq, if_neg (by rw [h]; decide), if_neg (by rw [h1]; decide), if_neg (fun e => e h2), if_neg (fun e => e h3), if_pos h4]
theorem vErr_items {x : Vl} (h : outI x.kind 0 7 = false) (h1 : ufB x = true) (h2 : nuErr x.kind x.int_ x.to_ = 0) (h3 : ttErr (x.kind == 6) x.text = 0) (h4 : ¬ 20 < x.items.length) : vErr x = itErr x.items := by
  rw [vErr_eq, if_neg (by rw [h]; decide), if_neg (by rw [h1]; decide), if_neg (fun e => e h2), if_neg (fun e => e h3), if_neg h4]
theorem itErr_at {M : List Vl} {k : Nat} {x : Vl} (h : M[k]? = some x) : itErr (M.drop k) = if (x.kind == 0) = true then 10 else if (x.kind == 7) = true then 10 else if vErr x ≠ 0 then vErr x else itErr (M.drop (k + 1)) := by
  obtain ⟨hk, e⟩ := List.getElem?_eq_some_iff.1 h
  rw [List.drop_eq_getElem_cons hk, itErr, e]

set_option maxHeartbeats 4000000 in
theorem checkVal_walk (x : Vl × Value) (M : List (Vl × Value)) (A : Option Addr) (n c : Nat) (w : World) (B : Nat) (hB : B ≤ w.heap.size) (hx : x.2 = .slice A n c) (hl : M.map Prod.fst = x.1.items) (h1 : Reads w B 5 A n (M.flatMap vlV)) (hn : n = M.length)
    (hs1 : ∀ x ∈ M, ∃ A n c, x.2 = .slice A n c)
    (hcl : ∀ x ∈ M, ∀ W, Below w.heap.size w W → Calls Tryz.prog 42 #[AV x] W fun e w' => e = .returned (.int .i64 (vErr x.1)) ∧ Below W.heap.size W w') :
    Calls Tryz.prog 42 #[AV x] w fun e w' => e = .returned (.int .i64 (vErr x.1)) ∧ Below w.heap.size w w' := by
  have hln : n = x.1.items.length := by rw [hn, ← hl, List.length_map]
  have HO : Hid (∀ n a b W, Calls Tryz.prog 54 #[.int .i64 n, .int .i64 a, .int .i64 b] W fun e w' => e = .returned (.bool (outI n a b)) ∧ w' = W) := fun n a b W => outsideP_any n a b W
  have HU : Hid (∀ W, Calls Tryz.prog 55 #[AV x] W fun e w' => e = .returned (.bool (ufB x.1)) ∧ Below W.heap.size W w') := fun W => by
    obtain ⟨x, v⟩ := x
    obtain rfl : v = _ := hx
    exact usesForm_any x A n c W hln
  have HNU : Hid (∀ W, Calls Tryz.prog 56 #[AV x] W fun e w' => e = .returned (.int .i64 (nuErr x.1.kind x.1.int_ x.1.to_)) ∧ Below W.heap.size W w') := fun W => checkNumbers_any x W
  have HTT : Hid (∀ W, Calls Tryz.prog 57 #[AV x] W fun e w' => e = .returned (.int .i64 (ttErr (x.1.kind == 6) x.1.text)) ∧ Below W.heap.size W w') := fun W => checkTextP_any x W ⟨A, n, c, hx⟩
  have V1 : Hid (outI x.1.kind 0 7 = true → vErr x.1 = 10) := vErr_out
  have V2 : Hid (outI x.1.kind 0 7 = false → ufB x.1 = false → vErr x.1 = 1) := vErr_form
  have V3 : Hid (outI x.1.kind 0 7 = false → ufB x.1 = true → nuErr x.1.kind x.1.int_ x.1.to_ ≠ 0 → vErr x.1 = nuErr x.1.kind x.1.int_ x.1.to_) := vErr_num
  have V4 : Hid (outI x.1.kind 0 7 = false → ufB x.1 = true → nuErr x.1.kind x.1.int_ x.1.to_ = 0 → ttErr (x.1.kind == 6) x.1.text ≠ 0 → vErr x.1 = ttErr (x.1.kind == 6) x.1.text) := vErr_text
  have V5 : Hid (outI x.1.kind 0 7 = false → ufB x.1 = true → nuErr x.1.kind x.1.int_ x.1.to_ = 0 → ttErr (x.1.kind == 6) x.1.text = 0 → 20 < n → vErr x.1 = 4) := fun a b c d e => vErr_large a b c d (by omega)
  have V6 : Hid (outI x.1.kind 0 7 = false → ufB x.1 = true → nuErr x.1.kind x.1.int_ x.1.to_ = 0 → ttErr (x.1.kind == 6) x.1.text = 0 → ¬ 20 < n → vErr x.1 = itErr (M.map Prod.fst)) := fun a b c d e => (vErr_items a b c d (by omega)).trans (by rw [hl])
  obtain ⟨V, hV⟩ : ∃ V, V = vErr x.1 := ⟨_, rfl⟩
  obtain ⟨o, ho⟩ : ∃ o, o = outI x.1.kind 0 7 := ⟨_, rfl⟩
  obtain ⟨u, hu⟩ : ∃ u, u = ufB x.1 := ⟨_, rfl⟩
  obtain ⟨nu, hnu⟩ : ∃ u, u = nuErr x.1.kind x.1.int_ x.1.to_ := ⟨_, rfl⟩
  obtain ⟨tt, htt⟩ : ∃ u, u = ttErr (x.1.kind == 6) x.1.text := ⟨_, rfl⟩
  simp only [← hu] at HU V2 V3 V4 V5 V6
  simp only [← ho] at V1 V2 V3 V4 V5 V6
  simp only [← hnu] at HNU V3 V4 V5 V6
  simp only [← htt] at HTT V4 V5 V6
  rw [← hV] at V1 V2 V3 V4 V5 V6 ⊢
  have HO1 : Hid (∀ W, Calls Tryz.prog 54 #[.int .i64 x.1.kind, .int .i64 0, .int .i64 7] W fun e w' => e = .returned (.bool o) ∧ w' = W) := fun W => by rw [ho]; exact HO.out _ _ _ W
  clear hV ho hu hnu htt
  obtain ⟨⟨k, i, t, s, l⟩, v⟩ := x
  obtain rfl : v = _ := hx
  obtain rfl : _ = l := hl
  have H1 := Lib.hid h1
  have HN := Lib.hid hn
  have HC := Lib.hid hcl
  have S1 := Lib.hid hs1
  clear h1 hn hcl hs1 hln HO
  dsimp only [AV, Vl.kind, Vl.int_, Vl.to_, Vl.text] at HU HNU HTT HO1 ⊢
  cases o
  case true =>
    have hv := V1.out rfl
    rw [hv]
    clear hv
    go_enter Tryz.func42, Tryz.ntmps42
    go_wp2_with fail
    refine (HO1.out _).mono ?_
    rintro e w1 ⟨rfl, rfl⟩
    go_wp2_with fail
    go_ret
    exact ⟨rfl, (Below.refl _ _).alloc (Nat.le_refl _) _⟩
  cases u
  case false =>
    have hv := V2.out rfl rfl
    rw [hv]
    clear hv
    go_enter Tryz.func42, Tryz.ntmps42
    go_wp2_with fail
    refine (HO1.out _).mono ?_
    rintro e w1 ⟨rfl, rfl⟩
    go_wp2_with fail
    refine (HU.out _).mono ?_
    rintro e w1 ⟨rfl, hb⟩
    have HB := Lib.hid hb
    clear hb
    go_wp2_with fail
    go_ret
    exact ⟨rfl, ((Below.refl _ _).alloc (Nat.le_refl _) _).trans (HB.out.mono (by simp))⟩
  by_cases hnz : nu = 0
  case neg =>
    have hv := V3.out rfl rfl hnz
    rw [hv]
    clear hv
    have hnz' : (nu != 0) = true := by simpa using hnz
    clear hnz
    go_enter Tryz.func42, Tryz.ntmps42
    go_wp2_with fail
    refine (HO1.out _).mono ?_
    rintro e w1 ⟨rfl, rfl⟩
    go_wp2_with fail
    refine (HU.out _).mono ?_
    rintro e w1 ⟨rfl, hb⟩
    have hc := fun i => hb.cell (p := ⟨w.heap.size, i, none⟩) (by simp)
    have HB : Hid (Below w.heap.size w w1) := ((Below.refl _ _).alloc (Nat.le_refl _) _).trans (hb.mono (by simp))
    clear hb
    go_wp2_with fail
    refine (HNU.out _).mono ?_
    rintro e w2 ⟨rfl, hb⟩
    have HB2 : Hid (Below w.heap.size w w2) := HB.out.trans (hb.mono HB.out.size)
    clear hb
    go_wp2_with fail
    go_ret
    exact ⟨rfl, HB2.out⟩
  case pos =>
  subst hnz
  by_cases htz : tt = 0
  case neg =>
    have hv := V4.out rfl rfl rfl htz
    rw [hv]
    clear hv
    have htz' : (tt != 0) = true := by simpa using htz
    clear htz
    go_enter Tryz.func42, Tryz.ntmps42
    go_wp2_with fail
    refine (HO1.out _).mono ?_
    rintro e w1 ⟨rfl, rfl⟩
    go_wp2_with fail
    refine (HU.out _).mono ?_
    rintro e w1 ⟨rfl, hb⟩
    have hc := fun i => hb.cell (p := ⟨w.heap.size, i, none⟩) (by simp)
    have HB : Hid (Below w.heap.size w w1) := ((Below.refl _ _).alloc (Nat.le_refl _) _).trans (hb.mono (by simp))
    have hz1 : w.heap.size < w1.heap.size := by have := hb.size; simp at this; omega
    clear hb
    go_wp2_with fail
    refine (HNU.out _).mono ?_
    rintro e w2 ⟨rfl, hb⟩
    have hc2 := fun i => hb.cell (p := ⟨w.heap.size, i, none⟩) hz1
    have HB2 : Hid (Below w.heap.size w w2) := HB.out.trans (hb.mono HB.out.size)
    clear hb
    go_wp2_with fail
    refine (HTT.out _).mono ?_
    rintro e w3 ⟨rfl, hb⟩
    have HB3 : Hid (Below w.heap.size w w3) := HB2.out.trans (hb.mono HB2.out.size)
    clear hb
    go_wp2_with fail
    go_ret
    exact ⟨rfl, HB3.out⟩
  case pos =>
  subst htz
  by_cases hbig : 20 < n
  case pos =>
    have hv := V5.out rfl rfl rfl rfl hbig
    rw [hv]
    clear hv
    have hbig' : (20 : Int) < (n : Int) := by omega
    go_enter Tryz.func42, Tryz.ntmps42
    go_wp2_with fail
    refine (HO1.out _).mono ?_
    rintro e w1 ⟨rfl, rfl⟩
    go_wp2_with fail
    refine (HU.out _).mono ?_
    rintro e w1 ⟨rfl, hb⟩
    have hc := fun i => hb.cell (p := ⟨w.heap.size, i, none⟩) (by simp)
    have HB : Hid (Below w.heap.size w w1) := ((Below.refl _ _).alloc (Nat.le_refl _) _).trans (hb.mono (by simp))
    have hz1 : w.heap.size < w1.heap.size := by have := hb.size; simp at this; omega
    clear hb
    go_wp2_with fail
    refine (HNU.out _).mono ?_
    rintro e w2 ⟨rfl, hb⟩
    have hc2 := fun i => hb.cell (p := ⟨w.heap.size, i, none⟩) hz1
    have HB2 : Hid (Below w.heap.size w w2) := HB.out.trans (hb.mono HB.out.size)
    have hz2 : w.heap.size < w2.heap.size := by have := hb.size; omega
    clear hb
    go_wp2_with fail
    refine (HTT.out _).mono ?_
    rintro e w3 ⟨rfl, hb⟩
    have hc3 := fun i => hb.cell (p := ⟨w.heap.size, i, none⟩) hz2
    have HB3 : Hid (Below w.heap.size w w3) := HB2.out.trans (hb.mono HB2.out.size)
    clear hb
    go_wp2_with fail
    go_ret
    exact ⟨rfl, HB3.out⟩
  case neg =>
  have hbig' : ¬ (20 : Int) < (n : Int) := by omega
  have hv := V6.out rfl rfl rfl rfl hbig
  have HV := Lib.hid hv
  clear hv
  go_enter Tryz.func42, Tryz.ntmps42
  go_wp2_with fail
  refine (HO1.out _).mono ?_
  rintro e w1 ⟨rfl, rfl⟩
  go_wp2_with fail
  refine (HU.out _).mono ?_
  rintro e w1 ⟨rfl, hb⟩
  have hc := fun i => hb.cell (p := ⟨w.heap.size, i, none⟩) (by simp)
  have HB : Hid (Below w.heap.size w w1) := ((Below.refl _ _).alloc (Nat.le_refl _) _).trans (hb.mono (by simp))
  have hz1 : w.heap.size < w1.heap.size := by have := hb.size; simp at this; omega
  clear hb
  go_wp2_with fail
  refine (HNU.out _).mono ?_
  rintro e w2 ⟨rfl, hb⟩
  have hc2 := fun i => hb.cell (p := ⟨w.heap.size, i, none⟩) hz1
  have HB2 : Hid (Below w.heap.size w w2) := HB.out.trans (hb.mono HB.out.size)
  have hz2 : w.heap.size < w2.heap.size := by have := hb.size; omega
  clear hb
  go_wp2_with fail
  refine (HTT.out _).mono ?_
  rintro e w3 ⟨rfl, hb⟩
  have hc3 := fun i => hb.cell (p := ⟨w.heap.size, i, none⟩) hz2
  have HB3 : Hid (Below w.heap.size w w3) := HB2.out.trans (hb.mono HB2.out.size)
  clear hb
  go_wp2_with fail
  go_loopg [31] n (fun gg s31 wr => ∃ k : Nat, k + gg = n ∧ s31 = .int .i64 (k : Int) ∧ Hid (V = itErr ((M.map Prod.fst).drop k)) ∧ Hid (Below w.heap.size w wr))
  case atStart => exact ⟨0, by omega, rfl, HV, HB3⟩
  case round =>
    obtain ⟨k, hkg, rfl, hno, hbel⟩ := hrel
    by_cases hk : k < n
    · obtain ⟨x, hx⟩ : ∃ x, M[k]? = some x := ⟨_, List.getElem?_eq_getElem (by have := HN.out; omega)⟩
      obtain ⟨b, off, rfl, hbb, hc⟩ := H1.out.plain_at (by omega) vlV_len HN.out hx
      have HX : Hid (∀ W, Below wr.heap.size wr W → Calls _ _ #[AV x] W _) := fun W hW => HC.out x (List.mem_of_getElem? hx) W (hbel.out.trans (hW.mono hbel.out.size))
      have hst := hno.out.trans (itErr_at (k := k) (x := x.1) (by rw [List.getElem?_map, hx]; rfl))
      obtain ⟨e0, he0⟩ : ∃ q, (x.1.kind == 0) = q := ⟨_, rfl⟩
      obtain ⟨e7, he7⟩ : ∃ q, (x.1.kind == 7) = q := ⟨_, rfl⟩
      rw [he0, he7] at hst
      obtain ⟨⟨kx, ix, tx, sx, lx⟩, vx⟩ := x
      obtain ⟨Ax, nx, cx, rfl⟩ := S1.out _ (List.mem_of_getElem? hx)
      have g0 := (hbel.out.cell (p := ⟨b, off + k * 5, none⟩) (by show b < _; omega)).trans (hc 0 _ rfl)
      have g1 := (hbel.out.cell (p := ⟨b, off + k * 5 + 1, none⟩) (by show b < _; omega)).trans (hc 1 _ rfl)
      have g2 := (hbel.out.cell (p := ⟨b, off + k * 5 + 2, none⟩) (by show b < _; omega)).trans (hc 2 _ rfl)
      have g3 := (hbel.out.cell (p := ⟨b, off + k * 5 + 3, none⟩) (by show b < _; omega)).trans (hc 3 _ rfl)
      have g4 := (hbel.out.cell (p := ⟨b, off + k * 5 + 4, none⟩) (by show b < _; omega)).trans (hc 4 _ rfl)
      have j0 : (0 : Int) ≤ (k : Int) := by omega
      have j1 : (k : Int) < (n : Int) := by omega
      clear hx hc
      dsimp only [AV, Vl.kind, Vl.int_, Vl.to_, Vl.text] at HX g0 g1 g2 g3 he0 he7
      obtain ⟨vk, hvk⟩ : ∃ v, v = vErr (Vl.mk kx ix tx sx lx) := ⟨_, rfl⟩
      rw [← hvk] at hst
      simp only [← hvk] at HX
      clear hvk
      cases e0
      case true =>
        have HV := Lib.hid (hst.trans (if_pos rfl))
        clear hst
        go_wp2_with fail
        go_ret
        exact ⟨by rw [HV.out]; rfl, hbel.out.alloc hbel.out.size _⟩
      cases e7
      case true =>
        have HV := Lib.hid (hst.trans ((if_neg (by decide)).trans (if_pos rfl)))
        clear hst
        go_wp2_with fail
        go_ret
        exact ⟨by rw [HV.out]; rfl, hbel.out.alloc hbel.out.size _⟩
      have hst := hst.trans ((if_neg (by decide)).trans (if_neg (by decide)))
      have hal : Below wr.heap.size wr (wr.alloc (.cells #[.int .i64 kx, .int .i64 ix, .int .i64 tx, .string sx, .slice Ax nx cx] 41)) := (Below.refl _ _).alloc (Nat.le_refl _) _
      by_cases hz : vk = 0
      · have HV := Lib.hid (hst.trans (if_neg (fun e => e hz)))
        subst hz
        have HX' := Lib.hid (HX.out _ hal)
        have HBA := Lib.hid (hbel.out.trans (hal.mono hbel.out.size))
        clear hst hal
        go_wp2_with fail
        refine HX'.out.mono ?_
        rintro e w5 ⟨rfl, hb⟩
        have HB5 : Hid (Below w.heap.size w w5) := HBA.out.trans (hb.mono HBA.out.size)
        clear hb
        go_wp2_with fail
        go_roundg (n - (k + 1))
        case measure => omega
        case rel => exact ⟨k + 1, by omega, by go_num, HV, HB5⟩
      · have HV := Lib.hid (hst.trans (if_pos hz))
        have hz' : (vk != 0) = true := by simpa using hz
        have HX' := Lib.hid (HX.out _ hal)
        have HBA := Lib.hid (hbel.out.trans (hal.mono hbel.out.size))
        clear hst hal hz
        go_wp2_with fail
        refine HX'.out.mono ?_
        rintro e w5 ⟨rfl, hb⟩
        have HB5 : Hid (Below w.heap.size w w5) := HBA.out.trans (hb.mono HBA.out.size)
        clear hb
        go_wp2_with fail
        go_ret
        exact ⟨by rw [HV.out]; rfl, HB5.out⟩
    · obtain rfl : k = n := by omega
      have hz : V = 0 := hno.out.trans (by rw [List.drop_of_length_le (by rw [List.length_map, ← HN.out]; exact Nat.le_refl _), itErr])
      have HZ := Lib.hid hz
      clear hz
      go_wp2_with fail
      go_ret
      exact ⟨by rw [HZ.out]; rfl, hbel.out⟩
/-- prop.CheckValue -/
theorem checkValue_any : ∀ (d : Nat) (x : Vl × Value) (w : World) (B : Nat), B ≤ w.heap.size → RVd w B d x.2 x.1.items →
    Calls Tryz.prog 42 #[AV x] w fun e w' => e = .returned (.int .i64 (vErr x.1)) ∧ Below w.heap.size w w'
  | 0, x, w, B, hB, hx => by
    obtain ⟨A, n, c, M, h1, h2, h3, h4, h5, h6⟩ := hx.deeper
    have e : M = [] := by rw [← List.map_eq_nil_iff, h1]; exact hx.1
    exact checkVal_walk x M A n c w B hB h2 h1 h5 h3 (fun z hz => (RV.slice ⟨_, h6 z hz⟩)) (fun z hz => by rw [e] at hz; cases hz)
  | d + 1, x, w, B, hB, ⟨A, n, c, M, h1, h2, h3, h4, h5, h6⟩ =>
    checkVal_walk x M A n c w B hB h2 h1 h5 h3 (fun z hz => (RV.slice ⟨_, h6 z hz⟩)) (fun z hz W hW => checkValue_any d z W B (Nat.le_trans hB hW.size) ((h6 z hz).below (hW.mono hB)))
end Go.Proofs.YtemngidkfgcigaaGreatDoor
