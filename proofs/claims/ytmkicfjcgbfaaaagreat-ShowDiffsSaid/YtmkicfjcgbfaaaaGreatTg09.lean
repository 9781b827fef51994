/-
  DERIVED. The walks of prop.usesForm and prop.checkNumbers. Conditions: sizes.
  The walks of prop.hasControl and prop.checkText. Conditions: sizes.
  Values, properties, numbers and blocks of a base in memory, in blocks that meet a condition. Conditions: none.
  Same properties, blocks, bases: the plain law. Conditions: none.
  By an AI agent.
-/
import Derived.Test.YtmkicfjcgbfaaaaGreatTg03
import Derived.Test.YtmkicfjcgbfaaaaGreatTg04
import Derived.WalkSpells
import Derived.Deep.QuietTactic
import Derived.BigQuiet
import Derived.Deep.LoopGhost
import Derived.Test.YtmkicfjcgbfaaaaGreatChecked
import Derived.Deep.DeepCutAuto
import Derived.Test.YtmkicfjcgbfaaaaGreatTg02
namespace Go.Proofs.YtmkicfjcgbfaaaaGreat
open Go.RowKit

def hasI (k : Int) : Bool := (k == 1) || (k == 2) || (k == 4) || (k == 5)
def hasT (k : Int) : Bool := (k == 3) || (k == 6)
/-- a value has no field that its kind does not use -/
def ufB (x : Vl) : Bool := (hasI x.kind || x.int_ == 0) && ((x.kind == 5) || x.to_ == 0) && (hasT x.kind || x.text.toList.isEmpty) && ((x.kind == 7) || ((x.items.length : Int) == 0))

set_option maxHeartbeats 4000000 in
theorem usesForm_any (x : Vl) (A : Option Addr) (n c : Nat) (w : World) (hn : n = x.items.length) :
    Calls Tryz.prog 138 #[AV (x, .slice A n c)] w fun e w' => e = .returned (.bool (ufB x)) ∧ Below w.heap.size w w' := by
  obtain ⟨k, i, t, s, l⟩ := x
  dsimp only [AV, Vl.kind, Vl.int_, Vl.to_, Vl.text, Vl.items] at hn ⊢
  unfold ufB hasI hasT
  dsimp only [Vl.kind, Vl.int_, Vl.to_, Vl.text, Vl.items]
  rw [← hn]
  clear hn
  obtain ⟨k1, h1⟩ : ∃ q, (k == 1) = q := ⟨_, rfl⟩
  obtain ⟨k2, h2⟩ : ∃ q, (k == 2) = q := ⟨_, rfl⟩
  obtain ⟨k3, h3⟩ : ∃ q, (k == 3) = q := ⟨_, rfl⟩
  obtain ⟨k4, h4⟩ : ∃ q, (k == 4) = q := ⟨_, rfl⟩
  obtain ⟨k5, h5⟩ : ∃ q, (k == 5) = q := ⟨_, rfl⟩
  obtain ⟨k6, h6⟩ : ∃ q, (k == 6) = q := ⟨_, rfl⟩
  obtain ⟨k7, h7⟩ : ∃ q, (k == 7) = q := ⟨_, rfl⟩
  obtain ⟨z1, g1⟩ : ∃ q, (i == 0) = q := ⟨_, rfl⟩
  obtain ⟨z2, g2⟩ : ∃ q, (t == 0) = q := ⟨_, rfl⟩
  obtain ⟨z3, g3⟩ : ∃ q, s.toList.isEmpty = q := ⟨_, rfl⟩
  obtain ⟨z4, g4⟩ : ∃ q, ((n : Int) == 0) = q := ⟨_, rfl⟩
  rw [h1, h2, h3, h4, h5, h6, h7, g1, g2, g3, g4]
  have W : True := trivial
  go_enter Tryz.func138, Tryz.ntmps138
  go_upto_region 1 with fail
  go_cut [3] (fun s3 wc => s3 = .bool (k1 || k2 || k4 || k5) ∧ wc = w.alloc (.cells #[.int .i64 k, .int .i64 i, .int .i64 t, .string s, .slice A n c] 29))
  case first =>
    go_wp2_with fail
    all_goals
      go_meet
      exact ⟨by simp_all, rfl⟩
  case rest =>
  obtain ⟨rfl, rfl⟩ := hcut
  go_upto_region 2 with fail
  go_cut [4] (fun s4 wc => s4 = .bool (k3 || k6) ∧ wc = w.alloc (.cells #[.int .i64 k, .int .i64 i, .int .i64 t, .string s, .slice A n c] 29))
  case first =>
    go_wp2_with fail
    all_goals
      go_meet
      exact ⟨by simp_all, rfl⟩
  case rest =>
  obtain ⟨rfl, rfl⟩ := hcut
  obtain ⟨a1, e1⟩ : ∃ q, (k1 || k2 || k4 || k5) = q := ⟨_, rfl⟩
  obtain ⟨a2, e2⟩ : ∃ q, (k3 || k6) = q := ⟨_, rfl⟩
  rw [e1, e2]
  clear h1 h2 h3 h4 h6
  go_wp2_with fail
  all_goals
    go_ret
    exact ⟨by simp_all, (Below.refl _ _).alloc (Nat.le_refl _) _⟩

def outI (n a b : Int) : Bool := decide (n < a ∨ b < n)
/-- the error of the numbers of a value -/
def nuErr (k i t : Int) : Int :=
  if (k == 1) = true then (if outI i 0 1 = true then 2 else 0)
  else if (k == 2) = true then (if outI i (-1000000000) 1000000000 = true then 2 else 0)
  else if (k == 4) = true then (if outI i 0 100000 = true then 2 else 0)
  else if (k == 5) = true then (if (outI i 0 100000 || outI t 0 100000) = true then 2 else if t < i then 5 else 0)
  else 0

set_option maxHeartbeats 4000000 in
theorem checkNumbers_any (x : Vl × Value) (w : World) :
    Calls Tryz.prog 139 #[AV x] w fun e w' => e = .returned (.int .i64 (nuErr x.1.kind x.1.int_ x.1.to_)) ∧ Below w.heap.size w w' := by
  obtain ⟨⟨k, i, t, s, l⟩, v⟩ := x
  dsimp only [AV, Vl.kind, Vl.int_, Vl.to_, Vl.text, Vl.items]
  have HO : Hid (∀ n a b W, Calls Tryz.prog 137 #[.int .i64 n, .int .i64 a, .int .i64 b] W fun e w' => e = .returned (.bool (outI n a b)) ∧ w' = W) := fun n a b W => outsideP_any n a b W
  obtain ⟨k1, h1⟩ : ∃ q, (k == 1) = q := ⟨_, rfl⟩
  obtain ⟨k2, h2⟩ : ∃ q, (k == 2) = q := ⟨_, rfl⟩
  obtain ⟨k4, h4⟩ : ∃ q, (k == 4) = q := ⟨_, rfl⟩
  obtain ⟨k5, h5⟩ : ∃ q, (k == 5) = q := ⟨_, rfl⟩
  unfold nuErr
  rw [h1, h2, h4, h5]
  go_enter Tryz.func139, Tryz.ntmps139
  go_wp2_with (refine (HO.out _ _ _ _).mono ?_; rintro e w1 ⟨rfl, rfl⟩)
  all_goals
    first
      | (go_ret; exact ⟨rfl, (Below.refl _ _).alloc (Nat.le_refl _) _⟩)
      | (go_ret; exact ⟨by simp_all, (Below.refl _ _).alloc (Nat.le_refl _) _⟩)
      | skip
  all_goals fail
end Go.Proofs.YtmkicfjcgbfaaaaGreat
namespace Go.Proofs.YtmkicfjcgbfaaaaGreat
open Go.RowKit

def ctR (r : Nat) : Bool := decide (r < 32) || (r == 127)
theorem ctR_byte (c : UInt8) : ctR c.toNat = ctlB c := rfl
theorem ctR_far {r : Nat} (h : 128 ≤ r) : ctR r = false := by unfold ctR; simp; omega
theorem idxF_ctl (s : ByteArray) : ∀ f pos, s.size - pos ≤ f → ((0 ≤ Lib.idxFuncFrom ctR true s f pos) ↔ ∃ j, ∃ h : j < s.size, pos ≤ j ∧ ctlB s[j] = true)
  | 0, pos, hf => by
    unfold Lib.idxFuncFrom
    exact ⟨fun h => absurd h (by omega), fun ⟨j, h, h1, _⟩ => absurd h1 (by omega)⟩
  | f + 1, pos, hf => by
    unfold Lib.idxFuncFrom
    by_cases hp : pos < s.size
    · rw [if_pos hp]
      by_cases ha : (s[pos]).toNat < 128
      · rw [decode_ascii s pos hp ha]
        dsimp only
        cases hc : ctlB s[pos]
        · rw [if_neg (by rw [ctR_byte, hc]; decide), idxF_ctl s f (pos + 1) (by omega)]
          constructor
          · rintro ⟨j, h, h1, h2⟩
            exact ⟨j, h, by omega, h2⟩
          · rintro ⟨j, h, h1, h2⟩
            refine ⟨j, h, ?_, h2⟩
            rcases Nat.lt_or_ge pos j with g | g
            · exact g
            · obtain rfl : pos = j := by omega
              rw [hc] at h2; cases h2
        · rw [if_pos (by rw [ctR_byte, hc])]
          exact ⟨fun _ => ⟨pos, hp, Nat.le_refl _, hc⟩, fun _ => by omega⟩
      · obtain ⟨a1, a2, a3, a4, a5⟩ := decode_far hp (by omega)
        rw [if_neg (by rw [ctR_far a1]; decide), idxF_ctl s f _ (by omega)]
        constructor
        · rintro ⟨j, h, h1, h2⟩
          exact ⟨j, h, by omega, h2⟩
        · rintro ⟨j, h, h1, h2⟩
          refine ⟨j, h, ?_, h2⟩
          rcases Nat.lt_or_ge j (pos + (Utf8.decode s pos).2) with g | g
          · have := a5 j h h1 g
            exfalso
            unfold ctlB at h2
            simp at h2
            omega
          · exact g
    · rw [if_neg hp]
      exact ⟨fun h => absurd h (by omega), fun ⟨j, h, h1, _⟩ => absurd h1 (by omega)⟩
theorem ctl_iff (s : ByteArray) : (ctl s = true) ↔ ∃ j, ∃ h : j < s.size, ctlB s[j] = true := by
  constructor
  · intro h
    obtain ⟨c, hc, h2⟩ := List.any_eq_true.1 h
    obtain ⟨j, hj, rfl⟩ := List.mem_iff_getElem.1 hc
    have e : s.data.toList[j] = s[j]'(by simpa using hj) := by simp; rfl
    rw [e] at h2
    exact ⟨j, by simpa using hj, h2⟩
  · rintro ⟨j, h, h2⟩
    exact ctl_yes s j h h2
theorem idxF_is (s : ByteArray) : decide ((0 : Int) ≤ Lib.idxFunc ctR true s) = ctl s := by
  rw [Bool.eq_iff_iff, decide_eq_true_iff, ctl_iff]
  unfold Lib.idxFunc
  rw [idxF_ctl s s.size 0 (by omega)]
  exact ⟨fun ⟨j, h, _, h2⟩ => ⟨j, h, h2⟩, fun ⟨j, h, h2⟩ => ⟨j, h, Nat.zero_le _, h2⟩⟩
theorem ctrl_at (w : World) : PredAt Tryz.prog 184 #[] encR ctR w := fun W r _ => by
  unfold FnGives
  unfold ctR
  obtain ⟨q1, h1⟩ : ∃ q, q = decide (r < 32) := ⟨_, rfl⟩
  obtain ⟨q2, h2⟩ : ∃ q, q = (r == 127) := ⟨_, rfl⟩
  rw [← h1, ← h2]
  have z2 : ((r : Int) == 127) = q2 := by rw [h2, Bool.eq_iff_iff]; simp; omega
  clear h2
  cases q1
  · have z1 : ¬ (r : Int) < 32 := by have := of_decide_eq_false h1.symm; omega
    clear h1
    cases q2
    all_goals
      go_enter Tryz.func184, Tryz.ntmps184
      go_wp2
      go_ret
      exact ⟨rfl, 0, rfl⟩
  · have z1 : (r : Int) < 32 := by have := of_decide_eq_true h1.symm; omega
    clear h1
    go_enter Tryz.func184, Tryz.ntmps184
    go_wp2
    go_ret
    exact ⟨rfl, 0, rfl⟩
set_option maxHeartbeats 400000 in
theorem hasControlP_any (s : ByteArray) (w : World) :
    Calls Tryz.prog 164 #[.string s] w fun e w' => e = .returned (.bool (ctl s)) ∧ Below w.heap.size w w' := by
  have HC := Lib.hid (Tryz.strings_ContainsFunc 184 #[] (enters_of Tryz.func184 (by kernel_rfl) rfl) ctR s w (ctrl_at w))
  rw [idxF_is] at HC
  go_enter Tryz.func164, Tryz.ntmps164
  go_wp2_with fail
  refine HC.out.mono ?_
  rintro e w1 ⟨rfl, hb⟩
  have HB := Lib.hid hb
  clear hb
  go_wp2_with fail
  go_ret
  exact ⟨rfl, HB.out⟩

def lkS : ByteArray := ⟨#[91, 93, 124]⟩
theorem lkS_asc : Asc lkS := by
  intro i h
  have : i < 3 := h
  match i, this with
  | 0, _ => exact (by decide : (91 : UInt8).toNat < 128)
  | 1, _ => exact (by decide : (93 : UInt8).toNat < 128)
  | 2, _ => exact (by decide : (124 : UInt8).toNat < 128)
/-- has a text a byte that no title has -/
def lkAny (s : ByteArray) : Bool := decide (0 ≤ Lib.indexAny s.data.toList lkS.data.toList)
/-- a text that is no title -/
def lkBad (s : ByteArray) : Bool := s.toList.isEmpty || (bt s 0 == 32) || (bt s (s.size - 1) == 32) || lkAny s
/-- the error of the text of a value -/
def ttErr (k6 : Bool) (s : ByteArray) : Int :=
  if 2000 < s.size then 4 else if k6 = true ∧ 100 < s.size then 4 else if ctl s = true then 9 else if (k6 && lkBad s) = true then 1 else 0

set_option maxHeartbeats 4000000 in
theorem checkTextP_any (x : Vl × Value) (w : World) (hv : ∃ A n c, x.2 = .slice A n c) :
    Calls Tryz.prog 140 #[AV x] w fun e w' => e = .returned (.int .i64 (ttErr (x.1.kind == 6) x.1.text)) ∧ Below w.heap.size w w' := by
  obtain ⟨⟨k, i, t, s, l⟩, v⟩ := x
  obtain ⟨A, n, c, rfl⟩ := hv
  dsimp only [AV, Vl.kind, Vl.int_, Vl.to_, Vl.text, Vl.items]
  obtain ⟨k6, h6⟩ : ∃ q, (k == 6) = q := ⟨_, rfl⟩
  rw [h6]
  by_cases b1 : 2000 < s.size
  · have hv : ttErr k6 s = 4 := if_pos b1
    rw [hv]
    have b1' : (2000 : Int) < (s.size : Int) := by omega
    clear hv b1
    cases k6 <;>
    · go_enter Tryz.func140, Tryz.ntmps140
      go_wp2_with fail
      go_ret
      exact ⟨rfl, (Below.refl _ _).alloc (Nat.le_refl _) _⟩
  have b1' : ¬ (2000 : Int) < (s.size : Int) := by omega
  have HC := Lib.hid fun W => hasControlP_any s W
  have HA := Lib.hid fun W => containsAny_asc lkS lkS_asc (by decide) (by decide) s W (by omega)
  by_cases b2 : k6 = true ∧ 100 < s.size
  · have hv : ttErr k6 s = 4 := by unfold ttErr; rw [if_neg b1, if_pos b2]
    rw [hv]
    obtain ⟨rfl, b2⟩ := b2
    have b2' : (100 : Int) < (s.size : Int) := by omega
    clear hv b1 b2
    go_enter Tryz.func140, Tryz.ntmps140
    go_wp2_with fail
    go_ret
    exact ⟨rfl, (Below.refl _ _).alloc (Nat.le_refl _) _⟩
  have hv : ttErr k6 s = if ctl s = true then 9 else if (k6 && lkBad s) = true then 1 else 0 := by unfold ttErr; rw [if_neg b1, if_neg b2]
  rw [hv]
  clear hv
  obtain ⟨q, hq⟩ : ∃ q, q = ctl s := ⟨_, rfl⟩
  rw [← hq] at HC ⊢
  clear hq
  obtain ⟨lb, hlb⟩ : ∃ lb, lb = lkBad s := ⟨_, rfl⟩
  rw [← hlb]
  have HLB := Lib.hid hlb
  clear hlb
  cases k6
  case false =>
    go_enter Tryz.func140, Tryz.ntmps140
    go_wp2_with fail
    refine (HC.out _).mono ?_
    rintro e w1 ⟨rfl, hb⟩
    have hc := fun i => hb.cell (p := ⟨w.heap.size, i, none⟩) (by simp)
    have HB : Hid (Below w.heap.size w w1) := ((Below.refl _ _).alloc (Nat.le_refl _) _).trans (hb.mono (by simp))
    clear hb
    cases q
    · go_wp2_with fail
      go_ret
      exact ⟨rfl, HB.out⟩
    · go_wp2_with fail
      go_ret
      exact ⟨rfl, HB.out⟩
  case true =>
    have b2' : ¬ (100 : Int) < (s.size : Int) := fun h => b2 ⟨rfl, by omega⟩
    cases q
    case true =>
      go_enter Tryz.func140, Tryz.ntmps140
      go_wp2_with fail
      refine (HC.out _).mono ?_
      rintro e w1 ⟨rfl, hb⟩
      have hc := fun i => hb.cell (p := ⟨w.heap.size, i, none⟩) (by simp)
      have HB : Hid (Below w.heap.size w w1) := ((Below.refl _ _).alloc (Nat.le_refl _) _).trans (hb.mono (by simp))
      clear hb
      go_wp2_with fail
      go_ret
      exact ⟨rfl, HB.out⟩
    by_cases h0 : s.size = 0
    · obtain rfl : s = ⟨#[]⟩ := by cases s with | mk d => rw [show d = #[] from Array.eq_empty_of_size_eq_zero h0]
      have e : lb = true := by
        rw [HLB.out]
        unfold lkBad
        rw [show (⟨#[]⟩ : ByteArray).toList.isEmpty = true from by rw [ByteArray.toList_eq]; rfl]
        rfl
      rw [e]
      clear e h0
      go_enter Tryz.func140, Tryz.ntmps140
      go_wp2_with fail
      refine (HC.out _).mono ?_
      rintro e w1 ⟨rfl, hb⟩
      have hc := fun i => hb.cell (p := ⟨w.heap.size, i, none⟩) (by simp)
      have HB : Hid (Below w.heap.size w w1) := ((Below.refl _ _).alloc (Nat.le_refl _) _).trans (hb.mono (by simp))
      clear hb
      go_wp2_with fail
      go_ret
      exact ⟨rfl, HB.out⟩
    have hne := notEmpty_of (t := s) (by omega)
    have hz : 0 < s.size := by omega
    have hl : s.size - 1 < s.size := by omega
    have z1 : (1 : Int) ≤ (s.size : Int) := by omega
    have z0 : (0 : Int) ≤ (s.size : Int) - 1 := by omega
    have z2 : ((s.size : Int) - 1).toNat = s.size - 1 := by omega
    have hlk : lb = ((((s[0].toNat : Int) == 32) || ((s[s.size - 1].toNat : Int) == 32)) || lkAny s) := by rw [HLB.out]; unfold lkBad; rw [hne, bt_at hz, bt_at hl]; rfl
    obtain ⟨a1, e1⟩ : ∃ q, ((s[0].toNat : Int) == 32) = q := ⟨_, rfl⟩
    obtain ⟨a2, e2⟩ : ∃ q, ((s[s.size - 1].toNat : Int) == 32) = q := ⟨_, rfl⟩
    obtain ⟨a3, e3⟩ : ∃ q, lkAny s = q := ⟨_, rfl⟩
    rw [e1, e2, e3] at hlk
    have HA3 : Hid (∀ W, Calls Tryz.prog 165 #[.string s, .string ⟨#[91, 93, 124]⟩] W fun e w' => e = .returned (.bool a3) ∧ Below W.heap.size W w') := fun W => by rw [← e3]; exact HA.out W
    obtain ⟨V, hV⟩ : ∃ V : Int, V = (if false = true then 9 else if (true && lb) = true then 1 else 0) := ⟨_, rfl⟩
    rw [← hV]
    rw [hlk] at hV
    have HLK := Lib.hid hV
    clear hlk e3 h0 HA hV
    cases a1 <;> cases a2
    all_goals
      go_enter Tryz.func140, Tryz.ntmps140
      go_wp2_with fail
      refine (HC.out _).mono ?_
      rintro e w1 ⟨rfl, hb⟩
      have hc := fun i => hb.cell (p := ⟨w.heap.size, i, none⟩) (by simp)
      have HB : Hid (Below w.heap.size w w1) := ((Below.refl _ _).alloc (Nat.le_refl _) _).trans (hb.mono (by simp))
      clear hb
      go_wp2_with fail
    · refine (HA3.out _).mono ?_
      rintro e w2 ⟨rfl, hb⟩
      have HB2 : Hid (Below w.heap.size w w2) := HB.out.trans (hb.mono HB.out.size)
      clear hb
      cases a3
      · go_wp2_with fail
        go_ret
        exact ⟨by rw [HLK.out]; rfl, HB2.out⟩
      · go_wp2_with fail
        go_ret
        exact ⟨by rw [HLK.out]; rfl, HB2.out⟩
    all_goals
      go_ret
      exact ⟨by rw [HLK.out]; rfl, HB.out⟩
end Go.Proofs.YtmkicfjcgbfaaaaGreat
namespace Go.Proofs.YtmkicfjcgbfaaaaGreat
open Go.RowKit

/-- a slice that reads as a list, its block of a sort -/
def RdX (w : World) (S : Nat → Prop) (size : Nat) (A : Option Addr) (n : Nat) (xs : List Value) : Prop :=
  xs.length = n * size ∧ (0 < n → ∃ ad, A = some ad ∧ S ad.block ∧ ∀ j u, xs[j]? = some u → w.cell? (ad.add j) = some u)
def RVdX (W : World) (S : Nat → Prop) : Nat → Value → List Vl → Prop
  | 0, v, l => l = [] ∧ ∃ A c, v = .slice A 0 c
  | d + 1, v, l => ∃ A n c, ∃ M : List (Vl × Value), M.map Prod.fst = l ∧ v = .slice A n c ∧ n = M.length ∧ (n ≤ c ∧ n * 64 ≤ 140737488351232) ∧ RdX W S 5 A n (M.flatMap vlV) ∧ ∀ x ∈ M, RVdX W S d x.2 x.1.items
def RVX (W : World) (S : Nat → Prop) (v : Value) (l : List Vl) : Prop := ∃ d, RVdX W S d v l
def RPrX (W : World) (S : Nat → Prop) (v : Value) (l : List Pr) : Prop := ∃ A n c, ∃ M : List (Pr × Value), M.map Prod.fst = l ∧ v = .slice A n c ∧ n = M.length ∧ (n ≤ c ∧ n * 80 ≤ 140737488351232) ∧ RdX W S 6 A n (M.flatMap prV) ∧ ∀ x ∈ M, RVX W S x.2 x.1.val.items
def RInX (W : World) (S : Nat → Prop) (v : Value) (l : List Int) : Prop := ∃ A n c, v = .slice A n c ∧ n = l.length ∧ (n ≤ c ∧ n * 8 ≤ 140737488351232) ∧ RdX W S 1 A n (l.map (.int .i64)) ∧ ∀ x ∈ l, I64 x
def RBX (W : World) (S : Nat → Prop) (v : Value) (l : List Bl) : Prop := ∃ A n c, ∃ M : List (Bl × Value × Value), M.map Prod.fst = l ∧ v = .slice A n c ∧ n = M.length ∧ (n ≤ c ∧ n * 80 ≤ 140737488351232) ∧ RdX W S 5 A n (M.flatMap blV) ∧ ∀ x ∈ M, RInX W S x.2.1 x.1.kids ∧ RPrX W S x.2.2 x.1.props
section
variable {w w' : World} {S S' : Nat → Prop} {B size n d : Nat} {A : Option Addr} {xs : List Value} {v : Value}
theorem RdX.keep (h : RdX w S size A n xs) (hk : ∀ p : Addr, S p.block → w'.cell? p = w.cell? p) : RdX w' S size A n xs :=
  ⟨h.1, fun hn => by
    obtain ⟨ad, e, hb, hc⟩ := h.2 hn
    exact ⟨ad, e, hb, fun j u hu => (hk _ (by rw [block_of_add]; exact hb)).trans (hc j u hu)⟩⟩
theorem RdX.weak (h : RdX w S size A n xs) (hS : ∀ b, S b → S' b) : RdX w S' size A n xs :=
  ⟨h.1, fun hn => by
    obtain ⟨ad, e, hb, hc⟩ := h.2 hn
    exact ⟨ad, e, hS _ hb, hc⟩⟩
theorem RdX.reads (h : RdX w S size A n xs) (hS : ∀ b, S b → b < B) : Reads w B size A n xs :=
  ⟨h.1, fun hn => by
    obtain ⟨ad, e, hb, hc⟩ := h.2 hn
    exact ⟨ad, e, hS _ hb, hc⟩⟩
theorem RdX.of (h : Reads w B size A n xs) : RdX w (· < B) size A n xs := h
theorem RdX.of_own {base : Nat} {e : TypeId} (h : w.ownsRow base e size v n xs) : ∃ A c, v = .slice A n c ∧ n ≤ c ∧ RdX w (fun b => v.ownBlock = some b ∧ base ≤ b ∧ b < w.heap.size) size A n xs := by
  obtain ⟨h1, h2⟩ := h
  rcases h2 with ⟨rfl, rfl⟩ | ⟨g, cap, cur, rfl, hg, hh, hnc, r⟩
  · exact ⟨none, 0, rfl, Nat.le_refl _, h1, fun hn => absurd hn (by omega)⟩
  · have hlt : g < w.heap.size := by
      rcases Nat.lt_or_ge g w.heap.size with h | h
      · exact h
      · rw [Array.getElem?_eq_none h] at hh; cases hh
    exact ⟨_, _, rfl, hnc, h1, fun _ => ⟨_, rfl, ⟨rfl, hg, hlt⟩, World.ownsRow.cells (g := g) ⟨h1, .inr ⟨g, cap, cur, rfl, hg, hh, hnc, r⟩⟩ rfl⟩⟩
theorem RVdX.keep (hk : ∀ p : Addr, S p.block → w'.cell? p = w.cell? p) : ∀ {d : Nat} {v : Value} {l : List Vl}, RVdX w S d v l → RVdX w' S d v l
  | 0, _, _, h => h
  | _ + 1, _, _, ⟨A, n, c, M, h1, h2, h3, h4, h5, h6⟩ => ⟨A, n, c, M, h1, h2, h3, h4, h5.keep hk, fun x hx => RVdX.keep hk (h6 x hx)⟩
theorem RVdX.weak (hS : ∀ b, S b → S' b) : ∀ {d : Nat} {v : Value} {l : List Vl}, RVdX w S d v l → RVdX w S' d v l
  | 0, _, _, h => h
  | _ + 1, _, _, ⟨A, n, c, M, h1, h2, h3, h4, h5, h6⟩ => ⟨A, n, c, M, h1, h2, h3, h4, h5.weak hS, fun x hx => RVdX.weak hS (h6 x hx)⟩
theorem RVdX.reads (hS : ∀ b, S b → b < B) : ∀ {d : Nat} {v : Value} {l : List Vl}, RVdX w S d v l → RVd w B d v l
  | 0, _, _, h => h
  | _ + 1, _, _, ⟨A, n, c, M, h1, h2, h3, h4, h5, h6⟩ => ⟨A, n, c, M, h1, h2, h3, h4, h5.reads hS, fun x hx => RVdX.reads hS (h6 x hx)⟩
theorem RVdX.of : ∀ {d : Nat} {v : Value} {l : List Vl}, RVd w B d v l → RVdX w (· < B) d v l
  | 0, _, _, h => h
  | _ + 1, _, _, ⟨A, n, c, M, h1, h2, h3, h4, h5, h6⟩ => ⟨A, n, c, M, h1, h2, h3, h4, h5, fun x hx => RVdX.of (h6 x hx)⟩
theorem RVdX.deeper : ∀ {d : Nat} {v : Value} {l : List Vl}, RVdX w S d v l → RVdX w S (d + 1) v l
  | 0, _, _, ⟨h1, A, c, h2⟩ => ⟨A, 0, c, [], by rw [h1]; rfl, h2, rfl, ⟨Nat.zero_le _, by omega⟩, ⟨rfl, fun h => absurd h (by omega)⟩, fun x hx => by cases hx⟩
  | d + 1, _, _, ⟨A, n, c, M, h1, h2, h3, h4, h5, h6⟩ => ⟨A, n, c, M, h1, h2, h3, h4, h5, fun x hx => RVdX.deeper (h6 x hx)⟩
theorem RVdX.deep {l : List Vl} (h : RVdX w S d v l) : ∀ {k : Nat}, RVdX w S (d + k) v l := by
  intro k
  induction k with
  | zero => exact h
  | succ k ih => exact ih.deeper
theorem RVX.keep {l : List Vl} (h : RVX w S v l) (hk : ∀ p : Addr, S p.block → w'.cell? p = w.cell? p) : RVX w' S v l := h.imp fun _ h => RVdX.keep hk h
theorem RVX.weak {l : List Vl} (h : RVX w S v l) (hS : ∀ b, S b → S' b) : RVX w S' v l := h.imp fun _ h => RVdX.weak hS h
theorem RVX.reads {l : List Vl} (h : RVX w S v l) (hS : ∀ b, S b → b < B) : RV w B v l := h.imp fun _ h => RVdX.reads hS h
theorem RVX.of {l : List Vl} (h : RV w B v l) : RVX w (· < B) v l := h.imp fun _ h => RVdX.of h
theorem RVX.all : ∀ {M : List (Vl × Value)}, (∀ x ∈ M, RVX w S x.2 x.1.items) → ∃ d, ∀ x ∈ M, RVdX w S d x.2 x.1.items
  | [], _ => ⟨0, fun x hx => by cases hx⟩
  | a :: M, h => by
    obtain ⟨d1, h1⟩ := h a (by simp)
    obtain ⟨d2, h2⟩ := RVX.all (M := M) fun x hx => h x (by simp [hx])
    refine ⟨d1 + d2, fun x hx => ?_⟩
    rcases List.mem_cons.1 hx with rfl | hx
    · exact h1.deep
    · have := (h2 x hx).deep (k := d1)
      rwa [Nat.add_comm] at this
theorem RVX.close {A : Option Addr} {n c : Nat} {M : List (Vl × Value)} (hn : n = M.length) (hc : n ≤ c) (hb : n * 64 ≤ 140737488351232) (hr : RdX w S 5 A n (M.flatMap vlV)) (h : ∀ x ∈ M, RVX w S x.2 x.1.items) : RVX w S (.slice A n c) (M.map Prod.fst) := by
  obtain ⟨d, hd⟩ := RVX.all h
  exact ⟨d + 1, A, n, c, M, rfl, rfl, hn, ⟨hc, hb⟩, hr, hd⟩
theorem RPrX.keep {l : List Pr} (h : RPrX w S v l) (hk : ∀ p : Addr, S p.block → w'.cell? p = w.cell? p) : RPrX w' S v l := by
  obtain ⟨A, n, c, M, h1, h2, h3, h4, h5, h6⟩ := h
  exact ⟨A, n, c, M, h1, h2, h3, h4, h5.keep hk, fun x hx => (h6 x hx).keep hk⟩
theorem RPrX.weak {l : List Pr} (h : RPrX w S v l) (hS : ∀ b, S b → S' b) : RPrX w S' v l := by
  obtain ⟨A, n, c, M, h1, h2, h3, h4, h5, h6⟩ := h
  exact ⟨A, n, c, M, h1, h2, h3, h4, h5.weak hS, fun x hx => (h6 x hx).weak hS⟩
theorem RPrX.reads {l : List Pr} (h : RPrX w S v l) (hS : ∀ b, S b → b < B) : RPr w B v l := by
  obtain ⟨A, n, c, M, h1, h2, h3, h4, h5, h6⟩ := h
  exact ⟨A, n, c, M, h1, h2, h3, h4, h5.reads hS, fun x hx => (h6 x hx).reads hS⟩
theorem RPrX.of {l : List Pr} (h : RPr w B v l) : RPrX w (· < B) v l := by
  obtain ⟨A, n, c, M, h1, h2, h3, h4, h5, h6⟩ := h
  exact ⟨A, n, c, M, h1, h2, h3, h4, h5, fun x hx => .of (h6 x hx)⟩
theorem RInX.keep {l : List Int} (h : RInX w S v l) (hk : ∀ p : Addr, S p.block → w'.cell? p = w.cell? p) : RInX w' S v l := by
  obtain ⟨A, n, c, h1, h2, h3, h4, h5⟩ := h
  exact ⟨A, n, c, h1, h2, h3, h4.keep hk, h5⟩
theorem RInX.weak {l : List Int} (h : RInX w S v l) (hS : ∀ b, S b → S' b) : RInX w S' v l := by
  obtain ⟨A, n, c, h1, h2, h3, h4, h5⟩ := h
  exact ⟨A, n, c, h1, h2, h3, h4.weak hS, h5⟩
theorem RInX.reads {l : List Int} (h : RInX w S v l) (hS : ∀ b, S b → b < B) : RIn w B v l := by
  obtain ⟨A, n, c, h1, h2, h3, h4, h5⟩ := h
  exact ⟨A, n, c, h1, h2, h3, h4.reads hS, h5⟩
theorem RInX.of {l : List Int} (h : RIn w B v l) : RInX w (· < B) v l := h
theorem RBX.keep {l : List Bl} (h : RBX w S v l) (hk : ∀ p : Addr, S p.block → w'.cell? p = w.cell? p) : RBX w' S v l := by
  obtain ⟨A, n, c, M, h1, h2, h3, h4, h5, h6⟩ := h
  exact ⟨A, n, c, M, h1, h2, h3, h4, h5.keep hk, fun x hx => ⟨(h6 x hx).1.keep hk, (h6 x hx).2.keep hk⟩⟩
theorem RBX.weak {l : List Bl} (h : RBX w S v l) (hS : ∀ b, S b → S' b) : RBX w S' v l := by
  obtain ⟨A, n, c, M, h1, h2, h3, h4, h5, h6⟩ := h
  exact ⟨A, n, c, M, h1, h2, h3, h4, h5.weak hS, fun x hx => ⟨(h6 x hx).1.weak hS, (h6 x hx).2.weak hS⟩⟩
theorem RBX.reads {l : List Bl} (h : RBX w S v l) (hS : ∀ b, S b → b < B) : RB w B v l := by
  obtain ⟨A, n, c, M, h1, h2, h3, h4, h5, h6⟩ := h
  exact ⟨A, n, c, M, h1, h2, h3, h4, h5.reads hS, fun x hx => ⟨(h6 x hx).1.reads hS, (h6 x hx).2.reads hS⟩⟩
/-- cells of blocks that stand are as they were -/
theorem keep_below {B : Nat} (hb : Below B w w') (hS : ∀ b, S b → b < B) : ∀ p : Addr, S p.block → w'.cell? p = w.cell? p := fun _ hp => hb.cell (hS _ hp)
theorem keep_grown {row : Option Nat} (hg : w.grownBy w' row) (hS : ∀ b, S b → b < w.heap.size ∧ some b ≠ row) : ∀ p : Addr, S p.block → w'.cell? p = w.cell? p := fun _ hp => World.cell?_of_block (hg.block _ (hS _ hp).1 (hS _ hp).2)
end
/-! ### a row of the call's own, with what its elements lead to -/
def Nest (α : Type) := World → (Nat → Prop) → α → Prop
def NestOk {α : Type} (N : Nest α) : Prop := ∀ (w w' : World) (S S' : Nat → Prop) (x : α), N w S x → (∀ p : Addr, S p.block → w'.cell? p = w.cell? p) → (∀ b, S b → S' b) → N w' S' x
/-- a row of the call's own; what its elements lead to lies in other blocks of the call's own -/
structure OwnX {α : Type} (enc : α → List Value) (size : Nat) (e : TypeId) (N : Nest α) (w : World) (base : Nat) (v : Value) (M : List α) : Prop where
  own : w.ownsRow base e size v M.length (M.flatMap enc)
  nest : ∀ x ∈ M, N w (fun b => base ≤ b ∧ b < w.heap.size ∧ v.ownBlock ≠ some b) x
theorem own_block_lt {w : World} {base n size : Nat} {e : TypeId} {v : Value} {xs : List Value} (h : w.ownsRow base e size v n xs) : ∀ g, v.ownBlock = some g → base ≤ g ∧ g < w.heap.size := by
  intro g hg
  rcases h.2 with ⟨rfl, _⟩ | ⟨g', cap, cur, rfl, hb, hh, _⟩
  · cases hg
  · injection hg with hg
    subst hg
    refine ⟨hb, ?_⟩
    rcases Nat.lt_or_ge g' w.heap.size with h | h
    · exact h
    · rw [Array.getElem?_eq_none h] at hh; cases hh
section
variable {α : Type} {enc : α → List Value} {size base : Nat} {e : TypeId} {N : Nest α} {w w' : World} {v v' : Value} {M : List α} {x : α}
theorem OwnX.start (w : World) (base : Nat) : OwnX enc size e N w base (.slice none 0 0) [] := ⟨World.ownsRow_nil w base e size, fun x hx => by cases hx⟩
theorem OwnX.below (hN : NestOk N) (h : OwnX enc size e N w base v M) (hb : Below w.heap.size w w') : OwnX enc size e N w' base v M :=
  ⟨own_below h.own hb, fun x hx => hN _ _ _ _ x (h.nest x hx) (fun _ hp => hb.cell hp.2.1) fun _b hb' => ⟨hb'.1, Nat.lt_of_lt_of_le hb'.2.1 hb.size, hb'.2.2⟩⟩
theorem OwnX.app (hN : NestOk N) (h : OwnX enc size e N w base v M) {S : Nat → Prop} (hx : N w S x) (hS : ∀ b, S b → base ≤ b ∧ b < w.heap.size ∧ v.ownBlock ≠ some b)
    (hown : w'.ownsRow base e size v' (M.length + 1) (M.flatMap enc ++ enc x)) (hg : w.grownBy w' v.ownBlock) (hat : v'.ownBlock = v.ownBlock ∨ v'.ownBlock = some w.heap.size) : OwnX enc size e N w' base v' (M ++ [x]) := by
  have key : ∀ b, base ≤ b ∧ b < w.heap.size ∧ v.ownBlock ≠ some b → base ≤ b ∧ b < w'.heap.size ∧ v'.ownBlock ≠ some b := fun b ⟨h1, h2, h3⟩ => by
    refine ⟨h1, Nat.lt_of_lt_of_le h2 hg.size, ?_⟩
    rcases hat with g | g
    · rw [g]; exact h3
    · rw [g]; intro e; injection e with e; omega
  refine ⟨by rw [List.length_append, List.flatMap_append]; simpa using hown, fun y hy => ?_⟩
  rcases List.mem_append.1 hy with hy | hy
  · exact hN _ _ _ _ y (h.nest y hy) (fun _ hp => World.cell?_of_block (hg.block _ hp.2.1 (fun e => hp.2.2 e.symm))) key
  · obtain rfl : y = x := by simpa using hy
    exact hN _ _ _ _ y hx (fun _ hp => World.cell?_of_block (hg.block _ (hS _ hp).2.1 (fun e => (hS _ hp).2.2 e.symm))) fun b hb => key b (hS b hb)
theorem OwnX.blocks (h : OwnX enc size e N w base v M) : ∀ g, v.ownBlock = some g → base ≤ g ∧ g < w.heap.size := own_block_lt h.own
end
theorem Reads.blk {w : World} {g size n : Nat} {t : TypeId} {cs : Array Value} (h : Blk w g t cs) (hs : cs.size = n * size) : Reads w (g + 1) size (some ⟨g, 0, none⟩) n cs.toList :=
  ⟨by simpa using hs, fun _ => ⟨_, rfl, Nat.lt_succ_self _, fun j u hu => by
    rw [Addr.add_lit, Nat.zero_add]
    rw [h.cell]
    simpa using hu⟩⟩
abbrev NV : Nest (Vl × Value) := fun w S x => RVX w S x.2 x.1.items
abbrev NP : Nest (Pr × Value) := fun w S x => RVX w S x.2 x.1.val.items
abbrev NB : Nest (Bl × Value × Value) := fun w S x => RInX w S x.2.1 x.1.kids ∧ RPrX w S x.2.2 x.1.props
theorem NV_ok : NestOk NV := fun _ _ _ _ _ h hk hS => (h.keep hk).weak hS
theorem NP_ok : NestOk NP := fun _ _ _ _ _ h hk hS => (h.keep hk).weak hS
theorem NB_ok : NestOk NB := fun _ _ _ _ _ h hk hS => ⟨(h.1.keep hk).weak hS, (h.2.keep hk).weak hS⟩
theorem vlV_one (x : Vl × Value) (hx : ∃ A n c, x.2 = .slice A n c) : ∀ u ∈ vlV x, u.oneCell' = true := by
  obtain ⟨x, v⟩ := x
  obtain ⟨A, n, c, rfl⟩ := hx
  intro u hu
  simp only [vlV, List.mem_cons, List.not_mem_nil, or_false] at hu
  rcases hu with rfl | rfl | rfl | rfl | rfl <;> rfl
theorem RVX.slice {w : World} {S : Nat → Prop} {v : Value} {l : List Vl} (h : RVX w S v l) : ∃ A n c, v = .slice A n c := by
  obtain ⟨d, h⟩ := h
  obtain ⟨A, n, c, M, _, h2, _⟩ := h.deeper
  exact ⟨A, n, c, h2⟩
end Go.Proofs.YtmkicfjcgbfaaaaGreat
namespace Go.Proofs.YtmkicfjcgbfaaaaGreat
open Go.RowKit

/-- two lists alike, element by element -/
def eqL {α β : Type} (f : α → β → Bool) : List α → List β → Bool
  | [], [] => true
  | a :: l, b :: m => f a b && eqL f l m
  | _, _ => false
section
variable {α β : Type} {f : α → β → Bool}
theorem eqL_len : ∀ {l : List α} {m : List β}, eqL f l m = true → l.length = m.length
  | [], [], _ => rfl
  | a :: l, b :: m, h => by
    rw [eqL, Bool.and_eq_true] at h
    simp only [List.length_cons, eqL_len h.2]
  | [], b :: m, h => by simp [eqL] at h
  | a :: l, [], h => by simp [eqL] at h
theorem eqL_at : ∀ {l : List α} {m : List β} {k : Nat} {x : α} {y : β}, eqL f l m = true → l[k]? = some x → m[k]? = some y → f x y = true
  | [], _, k, _, _, _, h1, _ => by simp at h1
  | _ :: _, [], k, _, _, _, _, h2 => by simp at h2
  | a :: l, b :: m, 0, x, y, h, h1, h2 => by
    rw [eqL, Bool.and_eq_true] at h
    obtain rfl : a = x := by simpa using h1
    obtain rfl : b = y := by simpa using h2
    exact h.1
  | a :: l, b :: m, k + 1, x, y, h, h1, h2 => by
    rw [eqL, Bool.and_eq_true] at h
    exact eqL_at h.2 (by simpa using h1) (by simpa using h2)
theorem eqL_of : ∀ {l : List α} {m : List β}, l.length = m.length → (∀ (k : Nat) (x : α) (y : β), l[k]? = some x → m[k]? = some y → f x y = true) → eqL f l m = true
  | [], [], _, _ => by rw [eqL]
  | a :: l, b :: m, h, H => by
    rw [eqL, Bool.and_eq_true]
    exact ⟨H 0 a b rfl rfl, eqL_of (by simpa using h) fun k x y h1 h2 => H (k + 1) x y (by rw [List.getElem?_cons_succ]; exact h1) (by rw [List.getElem?_cons_succ]; exact h2)⟩
  | [], b :: m, h, _ => by simp at h
  | a :: l, [], h, _ => by simp at h
end
def samePr (x y : Pr) : Bool := (x.name.toList == y.name.toList) && sameV x.val y.val
def samePs : List Pr → List Pr → Bool := eqL samePr
def sameB (x y : Bl) : Bool := (x.id == y.id) && (x.parent == y.parent) && (x.text.toList == y.text.toList) && (x.kids == y.kids) && samePs x.props y.props
def sameBs : List Bl → List Bl → Bool := eqL sameB
end Go.Proofs.YtmkicfjcgbfaaaaGreat
