/-
  DERIVED. The walks of prop.hasControl and prop.checkText. Conditions: sizes. By an AI agent.
-/
import Derived.Test.YteichcpbfdjjkaaBsNums
import Derived.Test.YteichcpbfdjjkaaAnyAsc
import Derived.Test.YteichcpbfdjjkaaAnShelf
namespace Go.Proofs.Yteichcpbfdjjkaa
open Go.RowKit

def ctR (r : Nat) : Bool := decide (r < 32) || (r == 127)
theorem ctR_byte (c : UInt8) : ctR c.toNat = ctlB c := rfl
theorem ctR_far {r : Nat} (h : 128 ≤ r) : ctR r = false := by unfold ctR; simp; omega
theorem idxF_ctl (s : ByteArray) : ∀ f pos, s.size - pos ≤ f → ((0 ≤ Lib.idxFuncFrom ctR true s f pos) ↔ ∃ j, ∃ h : j < s.size, pos ≤ j ∧ ctlB s[j] = true)
  | 0, pos, hf => by
    unfold Lib.idxFuncFrom
    exact ⟨fun h => absurd h (by omega), fun ⟨j, h, h1, _⟩ => absurd h1 (by omega)⟩
  | f + 1, pos, hf => by
    unfold Lib.idxFuncFrom
    by_cases hp : pos < s.size
    · rw [if_pos hp]
      by_cases ha : (s[pos]).toNat < 128
      · rw [decode_ascii s pos hp ha]
        dsimp only
        cases hc : ctlB s[pos]
        · rw [if_neg (by rw [ctR_byte, hc]; decide), idxF_ctl s f (pos + 1) (by omega)]
          constructor
          · rintro ⟨j, h, h1, h2⟩
            exact ⟨j, h, by omega, h2⟩
          · rintro ⟨j, h, h1, h2⟩
            refine ⟨j, h, ?_, h2⟩
            rcases Nat.lt_or_ge pos j with g | g
            · exact g
            · obtain rfl : pos = j := by omega
              rw [hc] at h2; cases h2
        · rw [if_pos (by rw [ctR_byte, hc])]
          exact ⟨fun _ => ⟨pos, hp, Nat.le_refl _, hc⟩, fun _ => by omega⟩
      · obtain ⟨a1, a2, a3, a4, a5⟩ := decode_far hp (by omega)
        rw [if_neg (by rw [ctR_far a1]; decide), idxF_ctl s f _ (by omega)]
        constructor
        · rintro ⟨j, h, h1, h2⟩
          exact ⟨j, h, by omega, h2⟩
        · rintro ⟨j, h, h1, h2⟩
          refine ⟨j, h, ?_, h2⟩
          rcases Nat.lt_or_ge j (pos + (Utf8.decode s pos).2) with g | g
          · have := a5 j h h1 g
            exfalso
            unfold ctlB at h2
            simp at h2
            omega
          · exact g
    · rw [if_neg hp]
      exact ⟨fun h => absurd h (by omega), fun ⟨j, h, h1, _⟩ => absurd h1 (by omega)⟩
theorem ctl_iff (s : ByteArray) : (ctl s = true) ↔ ∃ j, ∃ h : j < s.size, ctlB s[j] = true := by
  constructor
  · intro h
    obtain ⟨c, hc, h2⟩ := List.any_eq_true.1 h
    obtain ⟨j, hj, rfl⟩ := List.mem_iff_getElem.1 hc
    have e : s.data.toList[j] = s[j]'(by simpa using hj) := by simp; rfl
    rw [e] at h2
    exact ⟨j, by simpa using hj, h2⟩
  · rintro ⟨j, h, h2⟩
    exact ctl_yes s j h h2
theorem idxF_is (s : ByteArray) : decide ((0 : Int) ≤ Lib.idxFunc ctR true s) = ctl s := by
  rw [Bool.eq_iff_iff, decide_eq_true_iff, ctl_iff]
  unfold Lib.idxFunc
  rw [idxF_ctl s s.size 0 (by omega)]
  exact ⟨fun ⟨j, h, _, h2⟩ => ⟨j, h, h2⟩, fun ⟨j, h, h2⟩ => ⟨j, h, Nat.zero_le _, h2⟩⟩
theorem ctrl_at (w : World) : PredAt Try.prog 66 #[] encR ctR w := fun W r _ => by
  unfold FnGives
  unfold ctR
  obtain ⟨q1, h1⟩ : ∃ q, q = decide (r < 32) := ⟨_, rfl⟩
  obtain ⟨q2, h2⟩ : ∃ q, q = (r == 127) := ⟨_, rfl⟩
  rw [← h1, ← h2]
  have z2 : ((r : Int) == 127) = q2 := by rw [h2, Bool.eq_iff_iff]; simp; omega
  clear h2
  cases q1
  · have z1 : ¬ (r : Int) < 32 := by have := of_decide_eq_false h1.symm; omega
    clear h1
    cases q2
    all_goals
      go_enter Try.func66, Try.ntmps66
      go_wp2
      go_ret
      exact ⟨rfl, 0, rfl⟩
  · have z1 : (r : Int) < 32 := by have := of_decide_eq_true h1.symm; omega
    clear h1
    go_enter Try.func66, Try.ntmps66
    go_wp2
    go_ret
    exact ⟨rfl, 0, rfl⟩
set_option maxHeartbeats 400000 in
theorem hasControlP_any (s : ByteArray) (w : World) :
    Calls Try.prog 47 #[.string s] w fun e w' => e = .returned (.bool (ctl s)) ∧ Below w.heap.size w w' := by
  have HC := Lib.hid (Try.strings_ContainsFunc 66 #[] (enters_of Try.func66 (by kernel_rfl) rfl) ctR s w (ctrl_at w))
  rw [idxF_is] at HC
  go_enter Try.func47, Try.ntmps47
  go_wp2_with fail
  refine HC.out.mono ?_
  rintro e w1 ⟨rfl, hb⟩
  have HB := Lib.hid hb
  clear hb
  go_wp2_with fail
  go_ret
  exact ⟨rfl, HB.out⟩

def lkS : ByteArray := ⟨#[91, 93, 124]⟩
theorem lkS_asc : Asc lkS := by
  intro i h
  have : i < 3 := h
  match i, this with
  | 0, _ => exact (by decide : (91 : UInt8).toNat < 128)
  | 1, _ => exact (by decide : (93 : UInt8).toNat < 128)
  | 2, _ => exact (by decide : (124 : UInt8).toNat < 128)
/-- has a text a byte that no title has -/
def lkAny (s : ByteArray) : Bool := decide (0 ≤ Lib.indexAny s.data.toList lkS.data.toList)
/-- a text that is no title -/
def lkBad (s : ByteArray) : Bool := s.toList.isEmpty || (bt s 0 == 32) || (bt s (s.size - 1) == 32) || lkAny s
/-- the error of the text of a value -/
def ttErr (k6 : Bool) (s : ByteArray) : Int :=
  if 2000 < s.size then 4 else if k6 = true ∧ 100 < s.size then 4 else if ctl s = true then 9 else if (k6 && lkBad s) = true then 1 else 0

set_option maxHeartbeats 4000000 in
theorem checkTextP_any (x : Vl × Value) (w : World) (hv : ∃ A n c, x.2 = .slice A n c) :
    Calls Try.prog 33 #[AV x] w fun e w' => e = .returned (.int .i64 (ttErr (x.1.kind == 6) x.1.text)) ∧ Below w.heap.size w w' := by
  obtain ⟨⟨k, i, t, s, l⟩, v⟩ := x
  obtain ⟨A, n, c, rfl⟩ := hv
  dsimp only [AV, Vl.kind, Vl.int_, Vl.to_, Vl.text, Vl.items]
  obtain ⟨k6, h6⟩ : ∃ q, (k == 6) = q := ⟨_, rfl⟩
  rw [h6]
  by_cases b1 : 2000 < s.size
  · have hv : ttErr k6 s = 4 := if_pos b1
    rw [hv]
    have b1' : (2000 : Int) < (s.size : Int) := by omega
    clear hv b1
    cases k6 <;>
    · go_enter Try.func33, Try.ntmps33
      go_wp2_with fail
      go_ret
      exact ⟨rfl, (Below.refl _ _).alloc (Nat.le_refl _) _⟩
  have b1' : ¬ (2000 : Int) < (s.size : Int) := by omega
  have HC := Lib.hid fun W => hasControlP_any s W
  have HA := Lib.hid fun W => containsAny_asc lkS lkS_asc (by decide) (by decide) s W (by omega)
  by_cases b2 : k6 = true ∧ 100 < s.size
  · have hv : ttErr k6 s = 4 := by unfold ttErr; rw [if_neg b1, if_pos b2]
    rw [hv]
    obtain ⟨rfl, b2⟩ := b2
    have b2' : (100 : Int) < (s.size : Int) := by omega
    clear hv b1 b2
    go_enter Try.func33, Try.ntmps33
    go_wp2_with fail
    go_ret
    exact ⟨rfl, (Below.refl _ _).alloc (Nat.le_refl _) _⟩
  have hv : ttErr k6 s = if ctl s = true then 9 else if (k6 && lkBad s) = true then 1 else 0 := by unfold ttErr; rw [if_neg b1, if_neg b2]
  rw [hv]
  clear hv
  obtain ⟨q, hq⟩ : ∃ q, q = ctl s := ⟨_, rfl⟩
  rw [← hq] at HC ⊢
  clear hq
  obtain ⟨lb, hlb⟩ : ∃ lb, lb = lkBad s := ⟨_, rfl⟩
  rw [← hlb]
  have HLB := Lib.hid hlb
  clear hlb
  cases k6
  case false =>
    go_enter Try.func33, Try.ntmps33
    go_wp2_with fail
    refine (HC.out _).mono ?_
    rintro e w1 ⟨rfl, hb⟩
    have hc := fun i => hb.cell (p := ⟨w.heap.size, i, none⟩) (by simp)
    have HB : Hid (Below w.heap.size w w1) := ((Below.refl _ _).alloc (Nat.le_refl _) _).trans (hb.mono (by simp))
    clear hb
    cases q
    · go_wp2_with fail
      go_ret
      exact ⟨rfl, HB.out⟩
    · go_wp2_with fail
      go_ret
      exact ⟨rfl, HB.out⟩
  case true =>
    have b2' : ¬ (100 : Int) < (s.size : Int) := fun h => b2 ⟨rfl, by omega⟩
    cases q
    case true =>
      go_enter Try.func33, Try.ntmps33
      go_wp2_with fail
      refine (HC.out _).mono ?_
      rintro e w1 ⟨rfl, hb⟩
      have hc := fun i => hb.cell (p := ⟨w.heap.size, i, none⟩) (by simp)
      have HB : Hid (Below w.heap.size w w1) := ((Below.refl _ _).alloc (Nat.le_refl _) _).trans (hb.mono (by simp))
      clear hb
      go_wp2_with fail
      go_ret
      exact ⟨rfl, HB.out⟩
    by_cases h0 : s.size = 0
    · obtain rfl : s = ⟨#[]⟩ := by cases s with | mk d => rw [show d = #[] from Array.eq_empty_of_size_eq_zero h0]
      have e : lb = true := by
        rw [HLB.out]
        unfold lkBad
        rw [show (⟨#[]⟩ : ByteArray).toList.isEmpty = true from by rw [ByteArray.toList_eq]; rfl]
        rfl
      rw [e]
      clear e h0
      go_enter Try.func33, Try.ntmps33
      go_wp2_with fail
      refine (HC.out _).mono ?_
      rintro e w1 ⟨rfl, hb⟩
      have hc := fun i => hb.cell (p := ⟨w.heap.size, i, none⟩) (by simp)
      have HB : Hid (Below w.heap.size w w1) := ((Below.refl _ _).alloc (Nat.le_refl _) _).trans (hb.mono (by simp))
      clear hb
      go_wp2_with fail
      go_ret
      exact ⟨rfl, HB.out⟩
    have hne := notEmpty_of (t := s) (by omega)
    have hz : 0 < s.size := by omega
    have hl : s.size - 1 < s.size := by omega
    have z1 : (1 : Int) ≤ (s.size : Int) := by omega
    have z0 : (0 : Int) ≤ (s.size : Int) - 1 := by omega
    have z2 : ((s.size : Int) - 1).toNat = s.size - 1 := by omega
    have hlk : lb = ((((s[0].toNat : Int) == 32) || ((s[s.size - 1].toNat : Int) == 32)) || lkAny s) := by rw [HLB.out]; unfold lkBad; rw [hne, bt_at hz, bt_at hl]; rfl
    obtain ⟨a1, e1⟩ : ∃ q, ((s[0].toNat : Int) == 32) = q := ⟨_, rfl⟩
    obtain ⟨a2, e2⟩ : ∃ q, ((s[s.size - 1].toNat : Int) == 32) = q := ⟨_, rfl⟩
    obtain ⟨a3, e3⟩ : ∃ q, lkAny s = q := ⟨_, rfl⟩
    rw [e1, e2, e3] at hlk
    have HA3 : Hid (∀ W, Calls Try.prog 48 #[.string s, .string ⟨#[91, 93, 124]⟩] W fun e w' => e = .returned (.bool a3) ∧ Below W.heap.size W w') := fun W => by rw [← e3]; exact HA.out W
    obtain ⟨V, hV⟩ : ∃ V : Int, V = (if false = true then 9 else if (true && lb) = true then 1 else 0) := ⟨_, rfl⟩
    rw [← hV]
    rw [hlk] at hV
    have HLK := Lib.hid hV
    clear hlk e3 h0 HA hV
    cases a1 <;> cases a2
    all_goals
      go_enter Try.func33, Try.ntmps33
      go_wp2_with fail
      refine (HC.out _).mono ?_
      rintro e w1 ⟨rfl, hb⟩
      have hc := fun i => hb.cell (p := ⟨w.heap.size, i, none⟩) (by simp)
      have HB : Hid (Below w.heap.size w w1) := ((Below.refl _ _).alloc (Nat.le_refl _) _).trans (hb.mono (by simp))
      clear hb
      go_wp2_with fail
    · refine (HA3.out _).mono ?_
      rintro e w2 ⟨rfl, hb⟩
      have HB2 : Hid (Below w.heap.size w w2) := HB.out.trans (hb.mono HB.out.size)
      clear hb
      cases a3
      · go_wp2_with fail
        go_ret
        exact ⟨by rw [HLK.out]; rfl, HB2.out⟩
      · go_wp2_with fail
        go_ret
        exact ⟨by rw [HLK.out]; rfl, HB2.out⟩
    all_goals
      go_ret
      exact ⟨by rw [HLK.out]; rfl, HB.out⟩
end Go.Proofs.Yteichcpbfdjjkaa
