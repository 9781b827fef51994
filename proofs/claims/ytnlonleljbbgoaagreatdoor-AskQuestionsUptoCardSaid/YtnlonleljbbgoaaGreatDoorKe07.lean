/-
  DERIVED. Same values: the plain law; a value as an aggregate. Conditions: none.
  The walks of prop.usesForm and prop.checkNumbers. Conditions: sizes.
  The walks of text.hasControl and florref1.below: is there a byte below 32, or 127. Conditions: the length is within the form's reach.
  The walk of text.Check. Conditions: a length in reach.
  The reference's walk beside hasControl. Conditions: a length in reach.
  The walks of small functions of a base's check: inRange, the reference's TextError. Conditions: sizes.
  Properties in a row; a property, a block as an aggregate. Conditions: none.
  By an AI agent.
-/
import Derived.Test.YtnlonleljbbgoaaGreatDoorKe05
import Derived.WalkSpells
import Derived.Deep.QuietTactic
import Derived.BigQuiet
import Derived.Deep.LoopGhost
import Derived.Test.YtnlonleljbbgoaaGreatDoorChecked
import Derived.Deep.DeepCutAuto
import Derived.Test.YtnlonleljbbgoaaGreatDoorKe01
namespace Go.Proofs.YtnlonleljbbgoaaGreatDoor
open Go.RowKit

mutual
/-- the same value -/
def sameV : Vl → Vl → Bool
  | .mk k i t s l, .mk k' i' t' s' l' => (k == k') && (i == i') && (t == t') && decide (s = s') && sameL l l'
def sameL : List Vl → List Vl → Bool
  | [], [] => true
  | a :: l, b :: m => sameV a b && sameL l m
  | _, _ => false
end
theorem sameV_eq (a b : Vl) : sameV a b = ((a.kind == b.kind) && (a.int_ == b.int_) && (a.to_ == b.to_) && decide (a.text = b.text) && sameL a.items b.items) := by
  cases a; cases b; rw [sameV]; rfl
theorem sameL_len : ∀ {l m : List Vl}, sameL l m = true → l.length = m.length
  | [], [], _ => rfl
  | a :: l, b :: m, h => by
    rw [sameL, Bool.and_eq_true] at h
    simp only [List.length_cons, sameL_len h.2]
  | [], b :: m, h => by simp [sameL] at h
  | a :: l, [], h => by simp [sameL] at h
theorem sameL_at : ∀ {l m : List Vl} {k : Nat} {x y : Vl}, sameL l m = true → l[k]? = some x → m[k]? = some y → sameV x y = true
  | [], _, k, _, _, _, h1, _ => by simp at h1
  | _ :: _, [], k, _, _, _, _, h2 => by simp at h2
  | a :: l, b :: m, 0, x, y, h, h1, h2 => by
    rw [sameL, Bool.and_eq_true] at h
    obtain rfl : a = x := by simpa using h1
    obtain rfl : b = y := by simpa using h2
    exact h.1
  | a :: l, b :: m, k + 1, x, y, h, h1, h2 => by
    rw [sameL, Bool.and_eq_true] at h
    exact sameL_at h.2 (by simpa using h1) (by simpa using h2)
theorem sameL_of : ∀ {l m : List Vl}, l.length = m.length → (∀ (k : Nat) (x y : Vl), l[k]? = some x → m[k]? = some y → sameV x y = true) → sameL l m = true
  | [], [], _, _ => by rw [sameL]
  | a :: l, b :: m, h, H => by
    rw [sameL, Bool.and_eq_true]
    exact ⟨H 0 a b rfl rfl, sameL_of (by simpa using h) fun k x y h1 h2 => H (k + 1) x y (by rw [List.getElem?_cons_succ]; exact h1) (by rw [List.getElem?_cons_succ]; exact h2)⟩
  | [], b :: m, h, _ => by simp at h
  | a :: l, [], h, _ => by simp at h
mutual
theorem sameV_refl : ∀ a : Vl, sameV a a = true
  | .mk k i t s l => by rw [sameV, sameL_refl l, beq_self_eq_true, beq_self_eq_true, beq_self_eq_true, decide_eq_true (rfl : s = s)]; rfl
theorem sameL_refl : ∀ l : List Vl, sameL l l = true
  | [] => by rw [sameL]
  | a :: l => by rw [sameL, sameV_refl a, sameL_refl l]; rfl
end

theorem dec_toList (a b : ByteArray) : decide (a = b) = (a.toList == b.toList) := by
  cases h : a.toList == b.toList
  · refine decide_eq_false fun e => ?_
    rw [e, beq_self_eq_true] at h
    exact Bool.false_ne_true h.symm
  · have h := eq_of_beq h
    rw [ByteArray.toList_eq, ByteArray.toList_eq] at h
    exact decide_eq_true (by cases a with | mk x => cases b with | mk y => cases x; cases y; simp at h; rw [h])
/-- a value in memory, its items told apart -/
def AV (x : Vl × Value) : Value := .agg #[.int .i64 x.1.kind, .int .i64 x.1.int_, .int .i64 x.1.to_, .string x.1.text, x.2]

theorem RV.slice {w : World} {B : Nat} {v : Value} {l : List Vl} (h : RV w B v l) : ∃ A n c, v = .slice A n c := by
  obtain ⟨A, n, c, M, h1, h2, h3⟩ := h.open_
  exact ⟨A, n, c, h2⟩
end Go.Proofs.YtnlonleljbbgoaaGreatDoor
namespace Go.Proofs.YtnlonleljbbgoaaGreatDoor
open Go.RowKit

def hasI (k : Int) : Bool := (k == 1) || (k == 2) || (k == 4) || (k == 5)
def hasT (k : Int) : Bool := (k == 3) || (k == 6)
/-- a value has no field that its kind does not use -/
def ufB (x : Vl) : Bool := (hasI x.kind || x.int_ == 0) && ((x.kind == 5) || x.to_ == 0) && (hasT x.kind || x.text.toList.isEmpty) && ((x.kind == 7) || ((x.items.length : Int) == 0))

set_option maxHeartbeats 4000000 in
theorem usesForm_any (x : Vl) (A : Option Addr) (n c : Nat) (w : World) (hn : n = x.items.length) :
    Calls Tryz.prog 132 #[AV (x, .slice A n c)] w fun e w' => e = .returned (.bool (ufB x)) ∧ Below w.heap.size w w' := by
  obtain ⟨k, i, t, s, l⟩ := x
  dsimp only [AV, Vl.kind, Vl.int_, Vl.to_, Vl.text, Vl.items] at hn ⊢
  unfold ufB hasI hasT
  dsimp only [Vl.kind, Vl.int_, Vl.to_, Vl.text, Vl.items]
  rw [← hn]
  clear hn
  obtain ⟨k1, h1⟩ : ∃ q, (k == 1) = q := ⟨_, rfl⟩
  obtain ⟨k2, h2⟩ : ∃ q, (k == 2) = q := ⟨_, rfl⟩
  obtain ⟨k3, h3⟩ : ∃ q, (k == 3) = q := ⟨_, rfl⟩
  obtain ⟨k4, h4⟩ : ∃ q, (k == 4) = q := ⟨_, rfl⟩
  obtain ⟨k5, h5⟩ : ∃ q, (k == 5) = q := ⟨_, rfl⟩
  obtain ⟨k6, h6⟩ : ∃ q, (k == 6) = q := ⟨_, rfl⟩
  obtain ⟨k7, h7⟩ : ∃ q, (k == 7) = q := ⟨_, rfl⟩
  obtain ⟨z1, g1⟩ : ∃ q, (i == 0) = q := ⟨_, rfl⟩
  obtain ⟨z2, g2⟩ : ∃ q, (t == 0) = q := ⟨_, rfl⟩
  obtain ⟨z3, g3⟩ : ∃ q, s.toList.isEmpty = q := ⟨_, rfl⟩
  obtain ⟨z4, g4⟩ : ∃ q, ((n : Int) == 0) = q := ⟨_, rfl⟩
  rw [h1, h2, h3, h4, h5, h6, h7, g1, g2, g3, g4]
  have W : True := trivial
  go_enter Tryz.func132, Tryz.ntmps132
  go_upto_region 1 with fail
  go_cut [3] (fun s3 wc => s3 = .bool (k1 || k2 || k4 || k5) ∧ wc = w.alloc (.cells #[.int .i64 k, .int .i64 i, .int .i64 t, .string s, .slice A n c] 24))
  case first =>
    go_wp2_with fail
    all_goals
      go_meet
      exact ⟨by simp_all, rfl⟩
  case rest =>
  obtain ⟨rfl, rfl⟩ := hcut
  go_upto_region 2 with fail
  go_cut [4] (fun s4 wc => s4 = .bool (k3 || k6) ∧ wc = w.alloc (.cells #[.int .i64 k, .int .i64 i, .int .i64 t, .string s, .slice A n c] 24))
  case first =>
    go_wp2_with fail
    all_goals
      go_meet
      exact ⟨by simp_all, rfl⟩
  case rest =>
  obtain ⟨rfl, rfl⟩ := hcut
  obtain ⟨a1, e1⟩ : ∃ q, (k1 || k2 || k4 || k5) = q := ⟨_, rfl⟩
  obtain ⟨a2, e2⟩ : ∃ q, (k3 || k6) = q := ⟨_, rfl⟩
  rw [e1, e2]
  clear h1 h2 h3 h4 h6
  go_wp2_with fail
  all_goals
    go_ret
    exact ⟨by simp_all, (Below.refl _ _).alloc (Nat.le_refl _) _⟩

def outI (n a b : Int) : Bool := decide (n < a ∨ b < n)
/-- the error of the numbers of a value -/
def nuErr (k i t : Int) : Int :=
  if (k == 1) = true then (if outI i 0 1 = true then 2 else 0)
  else if (k == 2) = true then (if outI i (-1000000000) 1000000000 = true then 2 else 0)
  else if (k == 4) = true then (if outI i 0 100000 = true then 2 else 0)
  else if (k == 5) = true then (if (outI i 0 100000 || outI t 0 100000) = true then 2 else if t < i then 5 else 0)
  else 0

set_option maxHeartbeats 4000000 in
theorem checkNumbers_any (x : Vl × Value) (w : World) :
    Calls Tryz.prog 133 #[AV x] w fun e w' => e = .returned (.int .i64 (nuErr x.1.kind x.1.int_ x.1.to_)) ∧ Below w.heap.size w w' := by
  obtain ⟨⟨k, i, t, s, l⟩, v⟩ := x
  dsimp only [AV, Vl.kind, Vl.int_, Vl.to_, Vl.text, Vl.items]
  have HO : Hid (∀ n a b W, Calls Tryz.prog 131 #[.int .i64 n, .int .i64 a, .int .i64 b] W fun e w' => e = .returned (.bool (outI n a b)) ∧ w' = W) := fun n a b W => outsideP_any n a b W
  obtain ⟨k1, h1⟩ : ∃ q, (k == 1) = q := ⟨_, rfl⟩
  obtain ⟨k2, h2⟩ : ∃ q, (k == 2) = q := ⟨_, rfl⟩
  obtain ⟨k4, h4⟩ : ∃ q, (k == 4) = q := ⟨_, rfl⟩
  obtain ⟨k5, h5⟩ : ∃ q, (k == 5) = q := ⟨_, rfl⟩
  unfold nuErr
  rw [h1, h2, h4, h5]
  go_enter Tryz.func133, Tryz.ntmps133
  go_wp2_with (refine (HO.out _ _ _ _).mono ?_; rintro e w1 ⟨rfl, rfl⟩)
  all_goals
    first
      | (go_ret; exact ⟨rfl, (Below.refl _ _).alloc (Nat.le_refl _) _⟩)
      | (go_ret; exact ⟨by simp_all, (Below.refl _ _).alloc (Nat.le_refl _) _⟩)
      | skip
  all_goals fail
end Go.Proofs.YtnlonleljbbgoaaGreatDoor
namespace Go.Proofs.YtnlonleljbbgoaaGreatDoor
open Go.RowKit

theorem ctlB_low {c : UInt8} (h : (c.toNat : Int) < 32) : ctlB c = true := by unfold ctlB; simp; omega
theorem ctlB_del {c : UInt8} (h : ((c.toNat : Int) == 127) = true) : ctlB c = true := by unfold ctlB; simp at h ⊢; omega
theorem ctlB_not {c : UInt8} (h : (32 : Int) ≤ c.toNat) (h' : ((c.toNat : Int) == 127) = false) : ctlB c = false := by unfold ctlB; simp at h' ⊢; omega
theorem ctlB_ways (c : UInt8) : (c.toNat : Int) < 32 ∨ ((32 : Int) ≤ c.toNat ∧ ((c.toNat : Int) == 127) = true) ∨ ((32 : Int) ≤ c.toNat ∧ ((c.toNat : Int) == 127) = false) := by
  cases h : ((c.toNat : Int) == 127) <;> simp <;> omega

set_option maxHeartbeats 400000 in
theorem hasControl_any (s : ByteArray) (w : World) (hs : s.size ≤ 140737488351232) :
    Calls Tryz.prog 158 #[.string s] w fun e w' => e = .returned (.bool (ctl s)) ∧ w = w' := by
  go_enter Tryz.func158, Tryz.ntmps158
  go_wp2
  go_loop [6] (fun i => ∃ k : Nat, k ≤ s.size ∧ i = .int .i64 k ∧ ctlTo s k) (fun i => s.size - (intOf i).toNat)
  case atStart => exact ⟨0, Nat.zero_le _, rfl, fun j _ h => absurd h (by omega)⟩
  case round =>
    obtain ⟨k, hk, rfl, ht⟩ := hrel
    by_cases hlt : k < s.size
    · have H1 := Lib.hid (ctl_yes s k hlt)
      have H2 := Lib.hid (ctlTo_succ s k hlt ht)
      clear ht
      rcases ctlB_ways s[k] with g | ⟨g, g'⟩ | ⟨g, g'⟩
      · go_wp2
        go_ret
        exact ⟨ret_bool' (H1.out (ctlB_low g)).symm, rfl⟩
      · go_wp2
        go_ret
        exact ⟨ret_bool' (H1.out (ctlB_del g')).symm, rfl⟩
      · go_wp2
        go_round
        case rel => exact ⟨k + 1, by omega, by go_num, H2.out (ctlB_not g g')⟩
        case measure => simp [intOf]; omega
    · obtain rfl : k = s.size := by omega
      have H := Lib.hid (ctl_no s ht)
      clear ht
      go_wp2
      go_ret
      exact ⟨ret_bool' H.out.symm, rfl⟩

end Go.Proofs.YtnlonleljbbgoaaGreatDoor
namespace Go.Proofs.YtnlonleljbbgoaaGreatDoor
open Go.RowKit

def chkE (s : ByteArray) : Int := if 2000 < s.size then 4 else if ctl s = true then 9 else 0
set_option maxHeartbeats 400000 in
theorem check_any (s : ByteArray) (w : World) (hs : s.size ≤ 140737488351232) :
    Calls Tryz.prog 115 #[.string s] w fun e w' => e = .returned (.int .i64 (chkE s)) ∧ w = w' := by
  by_cases h : 2000 < s.size
  · have HV : Hid (chkE s = 4) := by show _ = _; unfold chkE; rw [if_pos h]
    have h' : (2000 : Int) < (s.size : Int) := by omega
    clear h
    go_enter Tryz.func115, Tryz.ntmps115
    go_wp2
    go_ret
    exact ⟨by rw [HV.out]; rfl, rfl⟩
  · have h' : ¬ (2000 : Int) < (s.size : Int) := by omega
    cases hc : ctl s
    · have HV : Hid (chkE s = 0) := by show _ = _; unfold chkE; rw [if_neg h, if_neg (by rw [hc]; decide)]
      clear h
      go_enter Tryz.func115, Tryz.ntmps115
      go_wp2_with fail
      refine (hasControl_any s _ hs).mono ?_
      rintro e w1 ⟨rfl, hw⟩
      rw [hc, ← hw]
      clear hw
      go_wp2
      go_ret
      exact ⟨by rw [HV.out]; rfl, rfl⟩
    · have HV : Hid (chkE s = 9) := by show _ = _; unfold chkE; rw [if_neg h, if_pos hc]
      clear h
      go_enter Tryz.func115, Tryz.ntmps115
      go_wp2_with fail
      refine (hasControl_any s _ hs).mono ?_
      rintro e w1 ⟨rfl, hw⟩
      rw [hc, ← hw]
      clear hw
      go_wp2
      go_ret
      exact ⟨by rw [HV.out]; rfl, rfl⟩
end Go.Proofs.YtnlonleljbbgoaaGreatDoor
namespace Go.Proofs.YtnlonleljbbgoaaGreatDoor
open Go.RowKit

set_option maxHeartbeats 400000 in
theorem below_any (s : ByteArray) (w : World) (hs : s.size ≤ 140737488351232) :
    Calls Tryz.prog 87 #[.string s] w fun e w' => e = .returned (.bool (ctl s)) ∧ w = w' := by
  go_enter Tryz.func87, Tryz.ntmps87
  go_wp2
  go_loop [3] (fun i => ∃ k : Nat, k ≤ s.size ∧ i = .int .i64 k ∧ ctlTo s k) (fun i => s.size - (intOf i).toNat)
  case atStart => exact ⟨0, Nat.zero_le _, rfl, fun j _ h => absurd h (by omega)⟩
  case round =>
    obtain ⟨k, hk, rfl, ht⟩ := hrel
    by_cases hlt : k < s.size
    · have H1 := Lib.hid (ctl_yes s k hlt)
      have H2 := Lib.hid (ctlTo_succ s k hlt ht)
      clear ht
      rcases ctlB_ways s[k] with g | ⟨g, g'⟩ | ⟨g, g'⟩
      · go_wp2
        go_ret
        exact ⟨ret_bool' (H1.out (ctlB_low g)).symm, rfl⟩
      · go_wp2
        go_ret
        exact ⟨ret_bool' (H1.out (ctlB_del g')).symm, rfl⟩
      · go_wp2
        go_round
        case rel => exact ⟨k + 1, by omega, by go_num, H2.out (ctlB_not g g')⟩
        case measure => simp [intOf]; omega
    · obtain rfl : k = s.size := by omega
      have H := Lib.hid (ctl_no s ht)
      clear ht
      go_wp2
      go_ret
      exact ⟨ret_bool' H.out.symm, rfl⟩

end Go.Proofs.YtnlonleljbbgoaaGreatDoor
namespace Go.Proofs.YtnlonleljbbgoaaGreatDoor
open Go.RowKit

set_option maxHeartbeats 400000 in
theorem inRange_any (n a b : Int) (w : World) :
    Calls Tryz.prog 24 #[.int .i64 n, .int .i64 a, .int .i64 b] w fun e w' => e = .returned (.bool (decide (a ≤ n ∧ n ≤ b))) ∧ w' = w := by
  by_cases h1 : a ≤ n
  · by_cases h2 : n ≤ b
    · rw [decide_eq_true ⟨h1, h2⟩]
      go_enter Tryz.func24, Tryz.ntmps24
      go_wp2
      go_ret
      exact ⟨rfl, rfl⟩
    · rw [decide_eq_false (fun h => h2 h.2)]
      go_enter Tryz.func24, Tryz.ntmps24
      go_wp2
      go_ret
      exact ⟨rfl, rfl⟩
  · rw [decide_eq_false (fun h => h1 h.1)]
    go_enter Tryz.func24, Tryz.ntmps24
    go_wp2
    go_ret
    exact ⟨rfl, rfl⟩
/-- text.Check, whatever the length -/
theorem checkT_any (s : ByteArray) (w : World) :
    Calls Tryz.prog 115 #[.string s] w fun e w' => e = .returned (.int .i64 (txErr s)) ∧ w' = w := by
  by_cases h : s.size ≤ 140737488351232
  · exact (check_any s w h).mono fun e w' ⟨h1, h2⟩ => ⟨h1, h2.symm⟩
  · have hv : txErr s = 4 := if_pos (by omega)
    rw [hv]
    have h' : (2000 : Int) < (s.size : Int) := by omega
    clear h hv
    go_enter Tryz.func115, Tryz.ntmps115
    go_wp2
    go_ret
    exact ⟨rfl, rfl⟩
end Go.Proofs.YtnlonleljbbgoaaGreatDoor
namespace Go.Proofs.YtnlonleljbbgoaaGreatDoor
open Go.RowKit

/-- a block in memory, its kids and properties told apart -/
def AB (x : Bl × Value × Value) : Value := .agg #[.int .i64 x.1.id, .int .i64 x.1.parent, x.2.1, .string x.1.text, x.2.2]

section
variable {w : World} {B : Nat} {A : Option Addr} {n c : Nat}
theorem RPr.len {l : List Pr} (h : RPr w B (.slice A n c) l) : n = l.length ∧ n ≤ c ∧ n * 80 ≤ 140737488351232 := by
  obtain ⟨A', n', c', M, h1, e, h2, h3, _⟩ := h
  injection e with e1 e2 e3
  subst e2 e3
  exact ⟨by rw [h2, ← h1, List.length_map], h3⟩
/-- a property in a row -/
theorem RPr.at_ {l : List Pr} (h : RPr w B (.slice A n c) l) {k : Nat} {x : Pr} (hk : l[k]? = some x) : ∃ b off Av nv cv, A = some ⟨b, off, none⟩ ∧ b < B ∧ w.cell? ⟨b, off + k * 6, none⟩ = some (.string x.name) ∧ w.cell? ⟨b, off + k * 6 + 1, none⟩ = some (.int .i64 x.val.kind) ∧ w.cell? ⟨b, off + k * 6 + 2, none⟩ = some (.int .i64 x.val.int_) ∧ w.cell? ⟨b, off + k * 6 + 3, none⟩ = some (.int .i64 x.val.to_) ∧ w.cell? ⟨b, off + k * 6 + 4, none⟩ = some (.string x.val.text) ∧ w.cell? ⟨b, off + k * 6 + 5, none⟩ = some (.slice Av nv cv) ∧ RV w B (.slice Av nv cv) x.val.items := by
  obtain ⟨A', n', c', M, h1, e, h2, h3, h4, h5⟩ := h
  injection e with e1 e2 e3
  subst e1 e2 e3
  obtain ⟨y, hy, rfl⟩ : ∃ y, M[k]? = some y ∧ y.1 = x := by
    rw [← h1, List.getElem?_map, Option.map_eq_some_iff] at hk
    exact hk
  obtain ⟨b, off, e, hb, hc⟩ := h4.plain_at (by omega) prV_len h2 hy
  have k1 := h5 y (List.mem_of_getElem? hy)
  obtain ⟨⟨nm, ⟨kx, ix, tx, sx, lx⟩⟩, v⟩ := y
  obtain ⟨Av, nv, cv, rfl⟩ := k1.slice
  exact ⟨b, off, Av, nv, cv, e, hb, hc 0 _ rfl, hc 1 _ rfl, hc 2 _ rfl, hc 3 _ rfl, hc 4 _ rfl, hc 5 _ rfl, k1⟩
end
end Go.Proofs.YtnlonleljbbgoaaGreatDoor
