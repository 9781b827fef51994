/-
  DERIVED. The walk of prop.CheckName. Conditions: sizes.
  Same values: the plain law; a value as an aggregate. Conditions: none.
  The walks of prop.usesForm and prop.checkNumbers. Conditions: sizes.
  The walks of prop.hasControl and prop.checkText. Conditions: sizes.
  By an AI agent.
-/
import Derived.Test.YtinllchioeldbaaGreatDoorCa03
import Derived.Deep.LoopGhost
import Derived.WalkSpells
import Derived.Deep.QuietTactic
import Derived.BigQuiet
import Derived.Test.YtinllchioeldbaaGreatDoorChecked
import Derived.Deep.DeepCutAuto
import Derived.Test.YtinllchioeldbaaGreatDoorCa04
import Derived.Test.YtinllchioeldbaaGreatDoorCa02
namespace Go.Proofs.YtinllchioeldbaaGreatDoor
open Go.RowKit

/-- a byte of a name -/
def nmB (c : UInt8) : Bool := ((97 ≤ c.toNat && c.toNat ≤ 122) || (48 ≤ c.toNat && c.toNat ≤ 57)) || c.toNat == 45
/-- a name's first byte -/
def nmA (c : UInt8) : Bool := 97 ≤ c.toNat && c.toNat ≤ 122
/-- is it a name -/
def nmOk (s : ByteArray) : Bool := decide (0 < s.size) && decide (s.size ≤ 20) && (s.data.toList.take 1).all nmA && s.data.toList.all nmB
/-- the error of a name -/
def nmErr (s : ByteArray) : Int := if nmOk s = true then 0 else 3
theorem nmErr_no {s : ByteArray} (h : nmOk s = false) : nmErr s = 3 := if_neg (by rw [h]; decide)
theorem nmErr_yes {s : ByteArray} (h : nmOk s = true) : nmErr s = 0 := if_pos h
def nmTo (s : ByteArray) (k : Nat) : Prop := ∀ j (h : j < s.size), j < k → nmB s[j] = true
theorem nm_bad (s : ByteArray) (k : Nat) (h : k < s.size) (hc : nmB s[k] = false) : nmOk s = false := by
  unfold nmOk
  rw [Bool.and_eq_false_iff]
  refine .inr (List.all_eq_false.2 ⟨s[k], by show s.data[k] ∈ _; simp, by rw [hc]; decide⟩)
theorem nm_all (s : ByteArray) (h : nmTo s s.size) : s.data.toList.all nmB = true := by
  rw [List.all_eq_true]
  intro c hc
  obtain ⟨j, hj, rfl⟩ := List.mem_iff_getElem.1 hc
  have hj' : j < s.size := by simpa using hj
  have := h j hj' hj'
  have e : s.data.toList[j] = s[j] := by simp; rfl
  rw [e, this]
theorem nmTo_succ (s : ByteArray) (k : Nat) (hk : k < s.size) (h : nmTo s k) (hc : nmB s[k] = true) : nmTo s (k + 1) := fun j hj hjk => by
  rcases Nat.lt_succ_iff_lt_or_eq.1 hjk with h1 | rfl
  · exact h j hj h1
  · exact hc
theorem nmB_ways (c : UInt8) : (((97 : Int) ≤ c.toNat ∧ (c.toNat : Int) ≤ 122) ∧ nmB c = true)
    ∨ ((¬ (97 : Int) ≤ c.toNat ∧ (48 : Int) ≤ c.toNat ∧ (c.toNat : Int) ≤ 57) ∧ nmB c = true)
    ∨ ((¬ (97 : Int) ≤ c.toNat ∧ ¬ (48 : Int) ≤ c.toNat ∧ ((c.toNat : Int) == 45) = true) ∧ nmB c = true)
    ∨ ((¬ (97 : Int) ≤ c.toNat ∧ ¬ (48 : Int) ≤ c.toNat ∧ ((c.toNat : Int) == 45) = false) ∧ nmB c = false)
    ∨ ((¬ (97 : Int) ≤ c.toNat ∧ (48 : Int) ≤ c.toNat ∧ ¬ (c.toNat : Int) ≤ 57 ∧ ((c.toNat : Int) == 45) = false) ∧ nmB c = false)
    ∨ (((97 : Int) ≤ c.toNat ∧ ¬ (c.toNat : Int) ≤ 122 ∧ (48 : Int) ≤ c.toNat ∧ ¬ (c.toNat : Int) ≤ 57 ∧ ((c.toNat : Int) == 45) = false) ∧ nmB c = false) := by
  have h := fun n : Nat => fun (hn : n < 256) => show (((97 : Int) ≤ n ∧ (n : Int) ≤ 122) ∧ (((97 ≤ n && n ≤ 122) || (48 ≤ n && n ≤ 57)) || n == 45) = true)
    ∨ ((¬ (97 : Int) ≤ n ∧ (48 : Int) ≤ n ∧ (n : Int) ≤ 57) ∧ (((97 ≤ n && n ≤ 122) || (48 ≤ n && n ≤ 57)) || n == 45) = true)
    ∨ ((¬ (97 : Int) ≤ n ∧ ¬ (48 : Int) ≤ n ∧ ((n : Int) == 45) = true) ∧ (((97 ≤ n && n ≤ 122) || (48 ≤ n && n ≤ 57)) || n == 45) = true)
    ∨ ((¬ (97 : Int) ≤ n ∧ ¬ (48 : Int) ≤ n ∧ ((n : Int) == 45) = false) ∧ (((97 ≤ n && n ≤ 122) || (48 ≤ n && n ≤ 57)) || n == 45) = false)
    ∨ ((¬ (97 : Int) ≤ n ∧ (48 : Int) ≤ n ∧ ¬ (n : Int) ≤ 57 ∧ ((n : Int) == 45) = false) ∧ (((97 ≤ n && n ≤ 122) || (48 ≤ n && n ≤ 57)) || n == 45) = false)
    ∨ (((97 : Int) ≤ n ∧ ¬ (n : Int) ≤ 122 ∧ (48 : Int) ≤ n ∧ ¬ (n : Int) ≤ 57 ∧ ((n : Int) == 45) = false) ∧ (((97 ≤ n && n ≤ 122) || (48 ≤ n && n ≤ 57)) || n == 45) = false) from by
      simp only [beq_iff_eq, beq_eq_false_iff_ne, Bool.or_eq_true, Bool.and_eq_true, decide_eq_true_eq, Bool.or_eq_false_iff, Bool.and_eq_false_iff, decide_eq_false_iff_not]
      omega
  exact h c.toNat c.toNat_lt

set_option maxHeartbeats 1000000 in
theorem checkName_any (s : ByteArray) (w : World) :
    Calls Tryz.prog 18 #[.string s] w fun e w' => e = .returned (.int .i64 (nmErr s)) ∧ w' = w := by
  by_cases h0 : s.size = 0
  · obtain rfl : s = ⟨#[]⟩ := by cases s with | mk d => rw [show d = #[] from Array.eq_empty_of_size_eq_zero h0]
    clear h0
    go_enter Tryz.func18, Tryz.ntmps18
    go_wp2_with fail
    go_ret
    exact ⟨rfl, rfl⟩
  have hne : s.toList.isEmpty = false := by
    rw [ByteArray.toList_eq, List.isEmpty_eq_false_iff]
    intro e
    have := congrArg List.length e
    simp at this
    exact h0 (by show s.data.size = 0; rw [this]; rfl)
  by_cases h1 : 20 < s.size
  · have hv : nmErr s = 3 := by
      unfold nmErr nmOk
      rw [decide_eq_false (by omega : ¬ s.size ≤ 20)]
      simp
    rw [hv]
    have h1' : (20 : Int) < (s.size : Int) := by omega
    clear hv
    go_enter Tryz.func18, Tryz.ntmps18
    go_wp2_with fail
    go_ret
    exact ⟨rfl, rfl⟩
  have h1' : ¬ (20 : Int) < (s.size : Int) := by omega
  have hz : 0 < s.size := by omega
  have hz' : (0 : Int) < (s.size : Int) := by omega
  have ht : s.data.toList.take 1 = [s[0]] := by
    cases s with | mk d => cases d with | mk l => cases l with
      | nil => exact absurd rfl h0
      | cons a l => rfl
  by_cases ha : (s[0].toNat : Int) < 97
  · have hv : nmErr s = 3 := nmErr_no (by
      unfold nmOk nmA
      rw [ht]
      simp only [List.all_cons, List.all_nil]
      rw [decide_eq_false (by omega : ¬ 97 ≤ s[0].toNat)]
      simp)
    rw [hv]
    clear hv ht
    go_enter Tryz.func18, Tryz.ntmps18
    go_wp2_with fail
    go_ret
    exact ⟨rfl, rfl⟩
  by_cases hb : (122 : Int) < (s[0].toNat : Int)
  · have hv : nmErr s = 3 := nmErr_no (by
      unfold nmOk nmA
      rw [ht]
      simp only [List.all_cons, List.all_nil]
      rw [decide_eq_false (by omega : ¬ s[0].toNat ≤ 122)]
      simp)
    rw [hv]
    clear hv ht
    go_enter Tryz.func18, Tryz.ntmps18
    go_wp2_with fail
    go_ret
    exact ⟨rfl, rfl⟩
  have HA : Hid (nmTo s s.size → nmErr s = 0) := fun h => nmErr_yes (by
    unfold nmOk nmA
    rw [ht, nm_all s h, decide_eq_true hz, decide_eq_true (by omega : s.size ≤ 20)]
    simp only [List.all_cons, List.all_nil]
    rw [decide_eq_true (by omega : 97 ≤ s[0].toNat), decide_eq_true (by omega : s[0].toNat ≤ 122)]
    rfl)
  clear ht
  go_enter Tryz.func18, Tryz.ntmps18
  go_wp2_with fail
  go_loopg [24] s.size (fun gg s24 wr => ∃ k : Nat, k + gg = s.size ∧ s24 = .int .i64 (k : Int) ∧ Hid (nmTo s k) ∧ wr = w)
  case atStart => exact ⟨0, by omega, rfl, (fun j _ h => absurd h (by omega)), rfl⟩
  case round =>
    obtain ⟨k, hkg, rfl, hno, rfl⟩ := hrel
    by_cases hk : k < s.size
    · have HB : Hid (nmB s[k] = false → nmErr s = 3) := fun h => nmErr_no (nm_bad s k hk h)
      have HG : Hid (nmB s[k] = true → nmTo s (k + 1)) := fun h => nmTo_succ s k hk hno.out h
      have j0 : (0 : Int) ≤ (k : Int) := by omega
      have j1 : (k : Int) < (s.size : Int) := by omega
      rcases nmB_ways s[k] with ⟨⟨f1, f2⟩, g⟩ | ⟨⟨f1, f2, f3⟩, g⟩ | ⟨⟨f1, f2, f3⟩, g⟩ | ⟨⟨f1, f2, f3⟩, g⟩ | ⟨⟨f1, f2, f3, f4⟩, g⟩ | ⟨⟨f1, f2, f3, f4, f5⟩, g⟩
      · go_wp2_with fail
        go_roundg (s.size - (k + 1))
        case measure => omega
        case rel => exact ⟨k + 1, by omega, by go_num, HG.out g, rfl⟩
      · go_wp2_with fail
        go_roundg (s.size - (k + 1))
        case measure => omega
        case rel => exact ⟨k + 1, by omega, by go_num, HG.out g, rfl⟩
      · go_wp2_with fail
        go_roundg (s.size - (k + 1))
        case measure => omega
        case rel => exact ⟨k + 1, by omega, by go_num, HG.out g, rfl⟩
      · go_wp2_with fail
        go_ret
        exact ⟨by rw [HB.out g]; rfl, rfl⟩
      · go_wp2_with fail
        go_ret
        exact ⟨by rw [HB.out g]; rfl, rfl⟩
      · go_wp2_with fail
        go_ret
        exact ⟨by rw [HB.out g]; rfl, rfl⟩
    · obtain rfl : k = s.size := by omega
      have hv := HA.out hno.out
      go_wp2_with fail
      go_ret
      exact ⟨by rw [hv]; rfl, rfl⟩
end Go.Proofs.YtinllchioeldbaaGreatDoor
namespace Go.Proofs.YtinllchioeldbaaGreatDoor
open Go.RowKit

mutual
/-- the same value -/
def sameV : Vl → Vl → Bool
  | .mk k i t s l, .mk k' i' t' s' l' => (k == k') && (i == i') && (t == t') && decide (s = s') && sameL l l'
def sameL : List Vl → List Vl → Bool
  | [], [] => true
  | a :: l, b :: m => sameV a b && sameL l m
  | _, _ => false
end
theorem sameV_eq (a b : Vl) : sameV a b = ((a.kind == b.kind) && (a.int_ == b.int_) && (a.to_ == b.to_) && decide (a.text = b.text) && sameL a.items b.items) := by
  cases a; cases b; rw [sameV]; rfl
theorem sameL_len : ∀ {l m : List Vl}, sameL l m = true → l.length = m.length
  | [], [], _ => rfl
  | a :: l, b :: m, h => by
    rw [sameL, Bool.and_eq_true] at h
    simp only [List.length_cons, sameL_len h.2]
  | [], b :: m, h => by simp [sameL] at h
  | a :: l, [], h => by simp [sameL] at h
theorem sameL_at : ∀ {l m : List Vl} {k : Nat} {x y : Vl}, sameL l m = true → l[k]? = some x → m[k]? = some y → sameV x y = true
  | [], _, k, _, _, _, h1, _ => by simp at h1
  | _ :: _, [], k, _, _, _, _, h2 => by simp at h2
  | a :: l, b :: m, 0, x, y, h, h1, h2 => by
    rw [sameL, Bool.and_eq_true] at h
    obtain rfl : a = x := by simpa using h1
    obtain rfl : b = y := by simpa using h2
    exact h.1
  | a :: l, b :: m, k + 1, x, y, h, h1, h2 => by
    rw [sameL, Bool.and_eq_true] at h
    exact sameL_at h.2 (by simpa using h1) (by simpa using h2)
theorem sameL_of : ∀ {l m : List Vl}, l.length = m.length → (∀ (k : Nat) (x y : Vl), l[k]? = some x → m[k]? = some y → sameV x y = true) → sameL l m = true
  | [], [], _, _ => by rw [sameL]
  | a :: l, b :: m, h, H => by
    rw [sameL, Bool.and_eq_true]
    exact ⟨H 0 a b rfl rfl, sameL_of (by simpa using h) fun k x y h1 h2 => H (k + 1) x y (by rw [List.getElem?_cons_succ]; exact h1) (by rw [List.getElem?_cons_succ]; exact h2)⟩
  | [], b :: m, h, _ => by simp at h
  | a :: l, [], h, _ => by simp at h

theorem dec_toList (a b : ByteArray) : decide (a = b) = (a.toList == b.toList) := by
  cases h : a.toList == b.toList
  · refine decide_eq_false fun e => ?_
    rw [e, beq_self_eq_true] at h
    exact Bool.false_ne_true h.symm
  · have h := eq_of_beq h
    rw [ByteArray.toList_eq, ByteArray.toList_eq] at h
    exact decide_eq_true (by cases a with | mk x => cases b with | mk y => cases x; cases y; simp at h; rw [h])
/-- a value in memory, its items told apart -/
def AV (x : Vl × Value) : Value := .agg #[.int .i64 x.1.kind, .int .i64 x.1.int_, .int .i64 x.1.to_, .string x.1.text, x.2]

theorem RV.slice {w : World} {B : Nat} {v : Value} {l : List Vl} (h : RV w B v l) : ∃ A n c, v = .slice A n c := by
  obtain ⟨A, n, c, M, h1, h2, h3⟩ := h.open_
  exact ⟨A, n, c, h2⟩
end Go.Proofs.YtinllchioeldbaaGreatDoor
namespace Go.Proofs.YtinllchioeldbaaGreatDoor
open Go.RowKit

def hasI (k : Int) : Bool := (k == 1) || (k == 2) || (k == 4) || (k == 5)
def hasT (k : Int) : Bool := (k == 3) || (k == 6)
/-- a value has no field that its kind does not use -/
def ufB (x : Vl) : Bool := (hasI x.kind || x.int_ == 0) && ((x.kind == 5) || x.to_ == 0) && (hasT x.kind || x.text.toList.isEmpty) && ((x.kind == 7) || ((x.items.length : Int) == 0))

set_option maxHeartbeats 4000000 in
theorem usesForm_any (x : Vl) (A : Option Addr) (n c : Nat) (w : World) (hn : n = x.items.length) :
    Calls Tryz.prog 43 #[AV (x, .slice A n c)] w fun e w' => e = .returned (.bool (ufB x)) ∧ Below w.heap.size w w' := by
  obtain ⟨k, i, t, s, l⟩ := x
  dsimp only [AV, Vl.kind, Vl.int_, Vl.to_, Vl.text, Vl.items] at hn ⊢
  unfold ufB hasI hasT
  dsimp only [Vl.kind, Vl.int_, Vl.to_, Vl.text, Vl.items]
  rw [← hn]
  clear hn
  obtain ⟨k1, h1⟩ : ∃ q, (k == 1) = q := ⟨_, rfl⟩
  obtain ⟨k2, h2⟩ : ∃ q, (k == 2) = q := ⟨_, rfl⟩
  obtain ⟨k3, h3⟩ : ∃ q, (k == 3) = q := ⟨_, rfl⟩
  obtain ⟨k4, h4⟩ : ∃ q, (k == 4) = q := ⟨_, rfl⟩
  obtain ⟨k5, h5⟩ : ∃ q, (k == 5) = q := ⟨_, rfl⟩
  obtain ⟨k6, h6⟩ : ∃ q, (k == 6) = q := ⟨_, rfl⟩
  obtain ⟨k7, h7⟩ : ∃ q, (k == 7) = q := ⟨_, rfl⟩
  obtain ⟨z1, g1⟩ : ∃ q, (i == 0) = q := ⟨_, rfl⟩
  obtain ⟨z2, g2⟩ : ∃ q, (t == 0) = q := ⟨_, rfl⟩
  obtain ⟨z3, g3⟩ : ∃ q, s.toList.isEmpty = q := ⟨_, rfl⟩
  obtain ⟨z4, g4⟩ : ∃ q, ((n : Int) == 0) = q := ⟨_, rfl⟩
  rw [h1, h2, h3, h4, h5, h6, h7, g1, g2, g3, g4]
  have W : True := trivial
  go_enter Tryz.func43, Tryz.ntmps43
  go_upto_region 1 with fail
  go_cut [3] (fun s3 wc => s3 = .bool (k1 || k2 || k4 || k5) ∧ wc = w.alloc (.cells #[.int .i64 k, .int .i64 i, .int .i64 t, .string s, .slice A n c] 31))
  case first =>
    go_wp2_with fail
    all_goals
      go_meet
      exact ⟨by simp_all, rfl⟩
  case rest =>
  obtain ⟨rfl, rfl⟩ := hcut
  go_upto_region 2 with fail
  go_cut [4] (fun s4 wc => s4 = .bool (k3 || k6) ∧ wc = w.alloc (.cells #[.int .i64 k, .int .i64 i, .int .i64 t, .string s, .slice A n c] 31))
  case first =>
    go_wp2_with fail
    all_goals
      go_meet
      exact ⟨by simp_all, rfl⟩
  case rest =>
  obtain ⟨rfl, rfl⟩ := hcut
  obtain ⟨a1, e1⟩ : ∃ q, (k1 || k2 || k4 || k5) = q := ⟨_, rfl⟩
  obtain ⟨a2, e2⟩ : ∃ q, (k3 || k6) = q := ⟨_, rfl⟩
  rw [e1, e2]
  clear h1 h2 h3 h4 h6
  go_wp2_with fail
  all_goals
    go_ret
    exact ⟨by simp_all, (Below.refl _ _).alloc (Nat.le_refl _) _⟩

def outI (n a b : Int) : Bool := decide (n < a ∨ b < n)
/-- the error of the numbers of a value -/
def nuErr (k i t : Int) : Int :=
  if (k == 1) = true then (if outI i 0 1 = true then 2 else 0)
  else if (k == 2) = true then (if outI i (-1000000000) 1000000000 = true then 2 else 0)
  else if (k == 4) = true then (if outI i 0 100000 = true then 2 else 0)
  else if (k == 5) = true then (if (outI i 0 100000 || outI t 0 100000) = true then 2 else if t < i then 5 else 0)
  else 0

set_option maxHeartbeats 4000000 in
theorem checkNumbers_any (x : Vl × Value) (w : World) :
    Calls Tryz.prog 44 #[AV x] w fun e w' => e = .returned (.int .i64 (nuErr x.1.kind x.1.int_ x.1.to_)) ∧ Below w.heap.size w w' := by
  obtain ⟨⟨k, i, t, s, l⟩, v⟩ := x
  dsimp only [AV, Vl.kind, Vl.int_, Vl.to_, Vl.text, Vl.items]
  have HO : Hid (∀ n a b W, Calls Tryz.prog 42 #[.int .i64 n, .int .i64 a, .int .i64 b] W fun e w' => e = .returned (.bool (outI n a b)) ∧ w' = W) := fun n a b W => outsideP_any n a b W
  obtain ⟨k1, h1⟩ : ∃ q, (k == 1) = q := ⟨_, rfl⟩
  obtain ⟨k2, h2⟩ : ∃ q, (k == 2) = q := ⟨_, rfl⟩
  obtain ⟨k4, h4⟩ : ∃ q, (k == 4) = q := ⟨_, rfl⟩
  obtain ⟨k5, h5⟩ : ∃ q, (k == 5) = q := ⟨_, rfl⟩
  unfold nuErr
  rw [h1, h2, h4, h5]
  go_enter Tryz.func44, Tryz.ntmps44
  go_wp2_with (refine (HO.out _ _ _ _).mono ?_; rintro e w1 ⟨rfl, rfl⟩)
  all_goals
    first
      | (go_ret; exact ⟨rfl, (Below.refl _ _).alloc (Nat.le_refl _) _⟩)
      | (go_ret; exact ⟨by simp_all, (Below.refl _ _).alloc (Nat.le_refl _) _⟩)
      | skip
  all_goals fail
end Go.Proofs.YtinllchioeldbaaGreatDoor
namespace Go.Proofs.YtinllchioeldbaaGreatDoor
open Go.RowKit

def ctR (r : Nat) : Bool := decide (r < 32) || (r == 127)
theorem ctR_byte (c : UInt8) : ctR c.toNat = ctlB c := rfl
theorem ctR_far {r : Nat} (h : 128 ≤ r) : ctR r = false := by unfold ctR; simp; omega
theorem idxF_ctl (s : ByteArray) : ∀ f pos, s.size - pos ≤ f → ((0 ≤ Lib.idxFuncFrom ctR true s f pos) ↔ ∃ j, ∃ h : j < s.size, pos ≤ j ∧ ctlB s[j] = true)
  | 0, pos, hf => by
    unfold Lib.idxFuncFrom
    exact ⟨fun h => absurd h (by omega), fun ⟨j, h, h1, _⟩ => absurd h1 (by omega)⟩
  | f + 1, pos, hf => by
    unfold Lib.idxFuncFrom
    by_cases hp : pos < s.size
    · rw [if_pos hp]
      by_cases ha : (s[pos]).toNat < 128
      · rw [decode_ascii s pos hp ha]
        dsimp only
        cases hc : ctlB s[pos]
        · rw [if_neg (by rw [ctR_byte, hc]; decide), idxF_ctl s f (pos + 1) (by omega)]
          constructor
          · rintro ⟨j, h, h1, h2⟩
            exact ⟨j, h, by omega, h2⟩
          · rintro ⟨j, h, h1, h2⟩
            refine ⟨j, h, ?_, h2⟩
            rcases Nat.lt_or_ge pos j with g | g
            · exact g
            · obtain rfl : pos = j := by omega
              rw [hc] at h2; cases h2
        · rw [if_pos (by rw [ctR_byte, hc])]
          exact ⟨fun _ => ⟨pos, hp, Nat.le_refl _, hc⟩, fun _ => by omega⟩
      · obtain ⟨a1, a2, a3, a4, a5⟩ := decode_far hp (by omega)
        rw [if_neg (by rw [ctR_far a1]; decide), idxF_ctl s f _ (by omega)]
        constructor
        · rintro ⟨j, h, h1, h2⟩
          exact ⟨j, h, by omega, h2⟩
        · rintro ⟨j, h, h1, h2⟩
          refine ⟨j, h, ?_, h2⟩
          rcases Nat.lt_or_ge j (pos + (Utf8.decode s pos).2) with g | g
          · have := a5 j h h1 g
            exfalso
            unfold ctlB at h2
            simp at h2
            omega
          · exact g
    · rw [if_neg hp]
      exact ⟨fun h => absurd h (by omega), fun ⟨j, h, h1, _⟩ => absurd h1 (by omega)⟩
theorem ctl_iff (s : ByteArray) : (ctl s = true) ↔ ∃ j, ∃ h : j < s.size, ctlB s[j] = true := by
  constructor
  · intro h
    obtain ⟨c, hc, h2⟩ := List.any_eq_true.1 h
    obtain ⟨j, hj, rfl⟩ := List.mem_iff_getElem.1 hc
    have e : s.data.toList[j] = s[j]'(by simpa using hj) := by simp; rfl
    rw [e] at h2
    exact ⟨j, by simpa using hj, h2⟩
  · rintro ⟨j, h, h2⟩
    exact ctl_yes s j h h2
theorem idxF_is (s : ByteArray) : decide ((0 : Int) ≤ Lib.idxFunc ctR true s) = ctl s := by
  rw [Bool.eq_iff_iff, decide_eq_true_iff, ctl_iff]
  unfold Lib.idxFunc
  rw [idxF_ctl s s.size 0 (by omega)]
  exact ⟨fun ⟨j, h, _, h2⟩ => ⟨j, h, h2⟩, fun ⟨j, h, h2⟩ => ⟨j, h, Nat.zero_le _, h2⟩⟩
theorem ctrl_at (w : World) : PredAt Tryz.prog 66 #[] encR ctR w := fun W r _ => by
  unfold FnGives
  unfold ctR
  obtain ⟨q1, h1⟩ : ∃ q, q = decide (r < 32) := ⟨_, rfl⟩
  obtain ⟨q2, h2⟩ : ∃ q, q = (r == 127) := ⟨_, rfl⟩
  rw [← h1, ← h2]
  have z2 : ((r : Int) == 127) = q2 := by rw [h2, Bool.eq_iff_iff]; simp; omega
  clear h2
  cases q1
  · have z1 : ¬ (r : Int) < 32 := by have := of_decide_eq_false h1.symm; omega
    clear h1
    cases q2
    all_goals
      go_enter Tryz.func66, Tryz.ntmps66
      go_wp2
      go_ret
      exact ⟨rfl, 0, rfl⟩
  · have z1 : (r : Int) < 32 := by have := of_decide_eq_true h1.symm; omega
    clear h1
    go_enter Tryz.func66, Tryz.ntmps66
    go_wp2
    go_ret
    exact ⟨rfl, 0, rfl⟩
set_option maxHeartbeats 400000 in
theorem hasControlP_any (s : ByteArray) (w : World) :
    Calls Tryz.prog 57 #[.string s] w fun e w' => e = .returned (.bool (ctl s)) ∧ Below w.heap.size w w' := by
  have HC := Lib.hid (Tryz.strings_ContainsFunc 66 #[] (enters_of Tryz.func66 (by kernel_rfl) rfl) ctR s w (ctrl_at w))
  rw [idxF_is] at HC
  go_enter Tryz.func57, Tryz.ntmps57
  go_wp2_with fail
  refine HC.out.mono ?_
  rintro e w1 ⟨rfl, hb⟩
  have HB := Lib.hid hb
  clear hb
  go_wp2_with fail
  go_ret
  exact ⟨rfl, HB.out⟩

def lkS : ByteArray := ⟨#[91, 93, 124]⟩
theorem lkS_asc : Asc lkS := by
  intro i h
  have : i < 3 := h
  match i, this with
  | 0, _ => exact (by decide : (91 : UInt8).toNat < 128)
  | 1, _ => exact (by decide : (93 : UInt8).toNat < 128)
  | 2, _ => exact (by decide : (124 : UInt8).toNat < 128)
/-- has a text a byte that no title has -/
def lkAny (s : ByteArray) : Bool := decide (0 ≤ Lib.indexAny s.data.toList lkS.data.toList)
/-- a text that is no title -/
def lkBad (s : ByteArray) : Bool := s.toList.isEmpty || (bt s 0 == 32) || (bt s (s.size - 1) == 32) || lkAny s
/-- the error of the text of a value -/
def ttErr (k6 : Bool) (s : ByteArray) : Int :=
  if 2000 < s.size then 4 else if k6 = true ∧ 100 < s.size then 4 else if ctl s = true then 9 else if (k6 && lkBad s) = true then 1 else 0

set_option maxHeartbeats 4000000 in
theorem checkTextP_any (x : Vl × Value) (w : World) (hv : ∃ A n c, x.2 = .slice A n c) :
    Calls Tryz.prog 45 #[AV x] w fun e w' => e = .returned (.int .i64 (ttErr (x.1.kind == 6) x.1.text)) ∧ Below w.heap.size w w' := by
  obtain ⟨⟨k, i, t, s, l⟩, v⟩ := x
  obtain ⟨A, n, c, rfl⟩ := hv
  dsimp only [AV, Vl.kind, Vl.int_, Vl.to_, Vl.text, Vl.items]
  obtain ⟨k6, h6⟩ : ∃ q, (k == 6) = q := ⟨_, rfl⟩
  rw [h6]
  by_cases b1 : 2000 < s.size
  · have hv : ttErr k6 s = 4 := if_pos b1
    rw [hv]
    have b1' : (2000 : Int) < (s.size : Int) := by omega
    clear hv b1
    cases k6 <;>
    · go_enter Tryz.func45, Tryz.ntmps45
      go_wp2_with fail
      go_ret
      exact ⟨rfl, (Below.refl _ _).alloc (Nat.le_refl _) _⟩
  have b1' : ¬ (2000 : Int) < (s.size : Int) := by omega
  have HC := Lib.hid fun W => hasControlP_any s W
  have HA := Lib.hid fun W => containsAny_asc lkS lkS_asc (by decide) (by decide) s W (by omega)
  by_cases b2 : k6 = true ∧ 100 < s.size
  · have hv : ttErr k6 s = 4 := by unfold ttErr; rw [if_neg b1, if_pos b2]
    rw [hv]
    obtain ⟨rfl, b2⟩ := b2
    have b2' : (100 : Int) < (s.size : Int) := by omega
    clear hv b1 b2
    go_enter Tryz.func45, Tryz.ntmps45
    go_wp2_with fail
    go_ret
    exact ⟨rfl, (Below.refl _ _).alloc (Nat.le_refl _) _⟩
  have hv : ttErr k6 s = if ctl s = true then 9 else if (k6 && lkBad s) = true then 1 else 0 := by unfold ttErr; rw [if_neg b1, if_neg b2]
  rw [hv]
  clear hv
  obtain ⟨q, hq⟩ : ∃ q, q = ctl s := ⟨_, rfl⟩
  rw [← hq] at HC ⊢
  clear hq
  obtain ⟨lb, hlb⟩ : ∃ lb, lb = lkBad s := ⟨_, rfl⟩
  rw [← hlb]
  have HLB := Lib.hid hlb
  clear hlb
  cases k6
  case false =>
    go_enter Tryz.func45, Tryz.ntmps45
    go_wp2_with fail
    refine (HC.out _).mono ?_
    rintro e w1 ⟨rfl, hb⟩
    have hc := fun i => hb.cell (p := ⟨w.heap.size, i, none⟩) (by simp)
    have HB : Hid (Below w.heap.size w w1) := ((Below.refl _ _).alloc (Nat.le_refl _) _).trans (hb.mono (by simp))
    clear hb
    cases q
    · go_wp2_with fail
      go_ret
      exact ⟨rfl, HB.out⟩
    · go_wp2_with fail
      go_ret
      exact ⟨rfl, HB.out⟩
  case true =>
    have b2' : ¬ (100 : Int) < (s.size : Int) := fun h => b2 ⟨rfl, by omega⟩
    cases q
    case true =>
      go_enter Tryz.func45, Tryz.ntmps45
      go_wp2_with fail
      refine (HC.out _).mono ?_
      rintro e w1 ⟨rfl, hb⟩
      have hc := fun i => hb.cell (p := ⟨w.heap.size, i, none⟩) (by simp)
      have HB : Hid (Below w.heap.size w w1) := ((Below.refl _ _).alloc (Nat.le_refl _) _).trans (hb.mono (by simp))
      clear hb
      go_wp2_with fail
      go_ret
      exact ⟨rfl, HB.out⟩
    by_cases h0 : s.size = 0
    · obtain rfl : s = ⟨#[]⟩ := by cases s with | mk d => rw [show d = #[] from Array.eq_empty_of_size_eq_zero h0]
      have e : lb = true := by
        rw [HLB.out]
        unfold lkBad
        rw [show (⟨#[]⟩ : ByteArray).toList.isEmpty = true from by rw [ByteArray.toList_eq]; rfl]
        rfl
      rw [e]
      clear e h0
      go_enter Tryz.func45, Tryz.ntmps45
      go_wp2_with fail
      refine (HC.out _).mono ?_
      rintro e w1 ⟨rfl, hb⟩
      have hc := fun i => hb.cell (p := ⟨w.heap.size, i, none⟩) (by simp)
      have HB : Hid (Below w.heap.size w w1) := ((Below.refl _ _).alloc (Nat.le_refl _) _).trans (hb.mono (by simp))
      clear hb
      go_wp2_with fail
      go_ret
      exact ⟨rfl, HB.out⟩
    have hne := notEmpty_of (t := s) (by omega)
    have hz : 0 < s.size := by omega
    have hl : s.size - 1 < s.size := by omega
    have z1 : (1 : Int) ≤ (s.size : Int) := by omega
    have z0 : (0 : Int) ≤ (s.size : Int) - 1 := by omega
    have z2 : ((s.size : Int) - 1).toNat = s.size - 1 := by omega
    have hlk : lb = ((((s[0].toNat : Int) == 32) || ((s[s.size - 1].toNat : Int) == 32)) || lkAny s) := by rw [HLB.out]; unfold lkBad; rw [hne, bt_at hz, bt_at hl]; rfl
    obtain ⟨a1, e1⟩ : ∃ q, ((s[0].toNat : Int) == 32) = q := ⟨_, rfl⟩
    obtain ⟨a2, e2⟩ : ∃ q, ((s[s.size - 1].toNat : Int) == 32) = q := ⟨_, rfl⟩
    obtain ⟨a3, e3⟩ : ∃ q, lkAny s = q := ⟨_, rfl⟩
    rw [e1, e2, e3] at hlk
    have HA3 : Hid (∀ W, Calls Tryz.prog 58 #[.string s, .string ⟨#[91, 93, 124]⟩] W fun e w' => e = .returned (.bool a3) ∧ Below W.heap.size W w') := fun W => by rw [← e3]; exact HA.out W
    obtain ⟨V, hV⟩ : ∃ V : Int, V = (if false = true then 9 else if (true && lb) = true then 1 else 0) := ⟨_, rfl⟩
    rw [← hV]
    rw [hlk] at hV
    have HLK := Lib.hid hV
    clear hlk e3 h0 HA hV
    cases a1 <;> cases a2
    all_goals
      go_enter Tryz.func45, Tryz.ntmps45
      go_wp2_with fail
      refine (HC.out _).mono ?_
      rintro e w1 ⟨rfl, hb⟩
      have hc := fun i => hb.cell (p := ⟨w.heap.size, i, none⟩) (by simp)
      have HB : Hid (Below w.heap.size w w1) := ((Below.refl _ _).alloc (Nat.le_refl _) _).trans (hb.mono (by simp))
      clear hb
      go_wp2_with fail
    · refine (HA3.out _).mono ?_
      rintro e w2 ⟨rfl, hb⟩
      have HB2 : Hid (Below w.heap.size w w2) := HB.out.trans (hb.mono HB.out.size)
      clear hb
      cases a3
      · go_wp2_with fail
        go_ret
        exact ⟨by rw [HLK.out]; rfl, HB2.out⟩
      · go_wp2_with fail
        go_ret
        exact ⟨by rw [HLK.out]; rfl, HB2.out⟩
    all_goals
      go_ret
      exact ⟨by rw [HLK.out]; rfl, HB.out⟩
end Go.Proofs.YtinllchioeldbaaGreatDoor
