/-
  DERIVED. An operation stored whole in a block of the call's own. Conditions: none.
  The walk of tree.checkForm. Conditions: sizes.
  What the reference's setProp makes, property by property, is setPr. Conditions: the properties rise by their names.
  The contract of the iterator that slices.Backward hands back, over ids of a base. Conditions: sizes.
  By an AI agent.
-/
import Derived.Test.YtmkicfjcgbfaaaaGreatTe18
import Derived.Test.YtmkicfjcgbfaaaaGreatTe25
import Derived.RangeFuncNested
import Derived.RangeFuncBound
import Derived.RangeFuncCalls
import Derived.RangeFuncLeaves
import Derived.RangeFuncBox
import Derived.Shelf.Abstract
import Derived.Shelf.RegionOpen
import Derived.WalkKit
import Derived.OwnWalkIn
import Derived.TacticsInMore
import Derived.LoopNIn
import Derived.LoopIn
namespace Go.Proofs.YtmkicfjcgbfaaaaGreat
open Go.RowKit

theorem Blk.setAll {t : TypeId} {g : Nat} : ∀ (vs : List Value) (o : Nat) (w : World) (cs : Array Value), Blk w g t cs → o + vs.length ≤ cs.size → Blk (w.setCells g o vs) g t (cs.toList.take o ++ vs ++ cs.toList.drop (o + vs.length)).toArray
  | [], o, w, cs, h, _ => by
    rw [List.append_nil, List.length_nil, Nat.add_zero, List.take_append_drop]
    exact h
  | v :: r, o, w, cs, h, hl => by
    rw [List.length_cons] at hl
    have h1 := Blk.setAll r (o + 1) (w.setCell ⟨g, o, none⟩ v) _ (h.set_ o v) (by rw [Array.size_setIfInBounds]; omega)
    have ho : o < cs.toList.length := by rw [Array.length_toList]; omega
    have e1 : (cs.setIfInBounds o v).toList.take (o + 1) = cs.toList.take o ++ [v] := by
      rw [Array.toList_setIfInBounds, List.take_set, List.take_succ_eq_append_getElem ho, List.set_append_right _ _ (by rw [List.length_take]; omega)]
      rw [List.length_take, Nat.min_eq_left (by omega), Nat.sub_self]; rfl
    have e2 : (cs.setIfInBounds o v).toList.drop (o + 1 + r.length) = cs.toList.drop (o + (v :: r).length) := by
      rw [Array.toList_setIfInBounds, List.drop_set_of_lt (by omega), List.length_cons]
      congr 1; omega
    rw [e1, e2] at h1
    have e3 : cs.toList.take o ++ [v] ++ r ++ cs.toList.drop (o + (v :: r).length) = cs.toList.take o ++ (v :: r) ++ cs.toList.drop (o + (v :: r).length) := by simp
    rw [e3] at h1
    exact h1
theorem Blk.whole {t : TypeId} {g : Nat} {w : World} {cs : Array Value} (vs : List Value) (h : Blk w g t cs) (hl : vs.length = cs.size) : Blk (w.setCells g 0 vs) g t vs.toArray := by
  have := Blk.setAll vs 0 w cs h (by omega)
  rw [List.take_zero, List.nil_append, List.drop_of_length_le (by rw [Array.length_toList]; omega), List.append_nil] at this
  exact this
theorem Below.setCells {B : Nat} {a : World} {g : Nat} (hg : B ≤ g) : ∀ (vs : List Value) (o : Nat) (w : World), Below B a w → Below B a (w.setCells g o vs)
  | [], _, _, h => h
  | v :: r, o, _, h => Below.setCells hg r (o + 1) _ (h.setCell (p := ⟨g, o, none⟩) hg v)
/-- the cells of an operation -/
theorem op_cells {W : World} {g : Nat} {t : TypeId} {a0 a1 a2 a3 a4 a5 a6 a7 a8 a9 a10 a11 a12 : Value} (h : Blk W g t #[a0, a1, a2, a3, a4, a5, a6, a7, a8, a9, a10, a11, a12]) :
    W.cell? ⟨g, 0, none⟩ = some a0 ∧ W.cell? ⟨g, 1, none⟩ = some a1 ∧ W.cell? ⟨g, 2, none⟩ = some a2 ∧ W.cell? ⟨g, 3, none⟩ = some a3 ∧ W.cell? ⟨g, 4, none⟩ = some a4 ∧ W.cell? ⟨g, 5, none⟩ = some a5 ∧ W.cell? ⟨g, 6, none⟩ = some a6 ∧ W.cell? ⟨g, 7, none⟩ = some a7 ∧ W.cell? ⟨g, 8, none⟩ = some a8 ∧ W.cell? ⟨g, 9, none⟩ = some a9 ∧ W.cell? ⟨g, 10, none⟩ = some a10 ∧ W.cell? ⟨g, 11, none⟩ = some a11 ∧ W.cell? ⟨g, 12, none⟩ = some a12 :=
  ⟨h.cell 0, h.cell 1, h.cell 2, h.cell 3, h.cell 4, h.cell 5, h.cell 6, h.cell 7, h.cell 8, h.cell 9, h.cell 10, h.cell 11, h.cell 12⟩
/-- an operation put into its block -/
def putO (W : World) (g : Nat) (a0 a1 a2 a3 a4 a5 a6 a7 a8 a9 a10 a11 a12 : Value) : World :=
  ((((((((((((W.setCell ⟨g, 0, none⟩ a0).setCell ⟨g, 1, none⟩ a1).setCell ⟨g, 2, none⟩ a2).setCell ⟨g, 3, none⟩ a3).setCell ⟨g, 4, none⟩ a4).setCell ⟨g, 5, none⟩ a5).setCell ⟨g, 6, none⟩ a6).setCell ⟨g, 7, none⟩ a7).setCell ⟨g, 8, none⟩ a8).setCell ⟨g, 9, none⟩ a9).setCell ⟨g, 10, none⟩ a10).setCell ⟨g, 11, none⟩ a11).setCell ⟨g, 12, none⟩ a12
theorem putO_eq (W : World) (g : Nat) (a0 a1 a2 a3 a4 a5 a6 a7 a8 a9 a10 a11 a12 : Value) : putO W g a0 a1 a2 a3 a4 a5 a6 a7 a8 a9 a10 a11 a12 = W.setCells g 0 [a0, a1, a2, a3, a4, a5, a6, a7, a8, a9, a10, a11, a12] := rfl
theorem putO_blk {W : World} {g : Nat} {t : TypeId} {cs : Array Value} (a0 a1 a2 a3 a4 a5 a6 a7 a8 a9 a10 a11 a12 : Value) (h : Blk W g t cs) (hs : cs.size = 13) : Blk (putO W g a0 a1 a2 a3 a4 a5 a6 a7 a8 a9 a10 a11 a12) g t #[a0, a1, a2, a3, a4, a5, a6, a7, a8, a9, a10, a11, a12] := by
  rw [putO_eq]
  exact h.whole [a0, a1, a2, a3, a4, a5, a6, a7, a8, a9, a10, a11, a12] (by rw [hs]; rfl)
theorem putO_below {W a : World} {B g : Nat} (a0 a1 a2 a3 a4 a5 a6 a7 a8 a9 a10 a11 a12 : Value) (h : Below B a W) (hg : B ≤ g) : Below B a (putO W g a0 a1 a2 a3 a4 a5 a6 a7 a8 a9 a10 a11 a12) := by
  rw [putO_eq]
  exact Below.setCells hg _ _ _ h
end Go.Proofs.YtmkicfjcgbfaaaaGreat
namespace Go.Proofs.YtmkicfjcgbfaaaaGreat
open Go.RowKit

/-- the error of an operation's form -/
def formE (o : Opn) : Int := if outI o.kind 1 5 = true then 10 else if usedB o = false then 1 else 0
set_option maxHeartbeats 2000000 in
theorem form1_any (id pa at_ fr to_ vk vi vt : Int) (tx nm vs : ByteArray) (A : Option Addr) (n c : Nat) (Q : Bool) (V : Int) (w : World)
    (hV : V = if ((fr == 0) && (to_ == 0) && nm.toList.isEmpty && Q) = false then 1 else 0)
    (hX : ∀ W, Below w.heap.size w W → Calls Tryz.prog 154 #[.agg #[.int .i64 vk, .int .i64 vi, .int .i64 vt, .string vs, .slice A n c]] W fun e w' => e = .returned (.bool Q) ∧ Below W.heap.size W w') :
    Calls Tryz.prog 120 #[.agg #[.int .i64 1, .int .i64 id, .int .i64 pa, .int .i64 at_, .int .i64 fr, .int .i64 to_, .string tx, .string nm, .int .i64 vk, .int .i64 vi, .int .i64 vt, .string vs, .slice A n c]] w fun e w' => e = .returned (.int .i64 V) ∧ Below w.heap.size w w' := by
  have HX := Lib.hid hX
  clear hX
  obtain ⟨b0, hb0⟩ : ∃ q, (fr == 0) = q := ⟨_, rfl⟩
  rw [hb0] at hV
  cases b0
  case false =>
    have HV : Hid (V = 1) := hV.trans (if_pos (by simp))
    clear hV
    have hnb0 : (fr != 0) = true := by simpa using hb0
    go_enter Tryz.func120, Tryz.ntmps120
    go_wp2_with fail
    go_ret
    exact ⟨by rw [HV.out]; rfl, (Below.refl _ _).alloc (Nat.le_refl _) _⟩
  have hnb0 : (fr != 0) = false := by simpa using hb0
  obtain ⟨b1, hb1⟩ : ∃ q, (to_ == 0) = q := ⟨_, rfl⟩
  rw [hb1] at hV
  cases b1
  case false =>
    have HV : Hid (V = 1) := hV.trans (if_pos (by simp))
    clear hV
    have hnb1 : (to_ != 0) = true := by simpa using hb1
    go_enter Tryz.func120, Tryz.ntmps120
    go_wp2_with fail
    go_ret
    exact ⟨by rw [HV.out]; rfl, (Below.refl _ _).alloc (Nat.le_refl _) _⟩
  have hnb1 : (to_ != 0) = false := by simpa using hb1
  obtain ⟨b2, hb2⟩ : ∃ q, nm.toList.isEmpty = q := ⟨_, rfl⟩
  rw [hb2] at hV
  cases b2
  case false =>
    have HV : Hid (V = 1) := hV.trans (if_pos (by simp))
    clear hV
    have hnb2 : (!nm.toList.isEmpty) = true := by rw [hb2]; rfl
    go_enter Tryz.func120, Tryz.ntmps120
    go_wp2_with fail
    go_ret
    exact ⟨by rw [HV.out]; rfl, (Below.refl _ _).alloc (Nat.le_refl _) _⟩
  have hnb2 : (!nm.toList.isEmpty) = false := by rw [hb2]; rfl
  obtain ⟨b3, hb3⟩ : ∃ q, Q = q := ⟨_, rfl⟩
  rw [hb3] at hV HX
  cases b3
  case false =>
    have HV : Hid (V = 1) := hV.trans (if_pos (by simp))
    clear hV
    go_enter Tryz.func120, Tryz.ntmps120
    go_wp2_with fail
    refine (HX.out _ ((Below.refl _ _).alloc (Nat.le_refl _) _)).mono ?_
    rintro e w2 ⟨rfl, hb⟩
    go_wp2_with fail
    go_ret
    exact ⟨by rw [HV.out]; rfl, ((Below.refl _ _).alloc (Nat.le_refl _) _).trans (hb.mono (by simp))⟩
  have HV : Hid (V = 0) := hV.trans (if_neg (by simp))
  clear hV
  go_enter Tryz.func120, Tryz.ntmps120
  go_wp2_with fail
  refine (HX.out _ ((Below.refl _ _).alloc (Nat.le_refl _) _)).mono ?_
  rintro e w2 ⟨rfl, hb⟩
  go_wp2_with fail
  go_ret
  exact ⟨by rw [HV.out]; rfl, ((Below.refl _ _).alloc (Nat.le_refl _) _).trans (hb.mono (by simp))⟩
set_option maxHeartbeats 2000000 in
theorem form2_any (id pa at_ fr to_ vk vi vt : Int) (tx nm vs : ByteArray) (A : Option Addr) (n c : Nat) (Q : Bool) (V : Int) (w : World)
    (hV : V = if ((pa == 0) && (at_ == 0) && (fr == 0) && (to_ == 0) && tx.toList.isEmpty && nm.toList.isEmpty && Q) = false then 1 else 0)
    (hX : ∀ W, Below w.heap.size w W → Calls Tryz.prog 154 #[.agg #[.int .i64 vk, .int .i64 vi, .int .i64 vt, .string vs, .slice A n c]] W fun e w' => e = .returned (.bool Q) ∧ Below W.heap.size W w') :
    Calls Tryz.prog 120 #[.agg #[.int .i64 2, .int .i64 id, .int .i64 pa, .int .i64 at_, .int .i64 fr, .int .i64 to_, .string tx, .string nm, .int .i64 vk, .int .i64 vi, .int .i64 vt, .string vs, .slice A n c]] w fun e w' => e = .returned (.int .i64 V) ∧ Below w.heap.size w w' := by
  have HX := Lib.hid hX
  clear hX
  obtain ⟨b0, hb0⟩ : ∃ q, (pa == 0) = q := ⟨_, rfl⟩
  rw [hb0] at hV
  cases b0
  case false =>
    have HV : Hid (V = 1) := hV.trans (if_pos (by simp))
    clear hV
    have hnb0 : (pa != 0) = true := by simpa using hb0
    go_enter Tryz.func120, Tryz.ntmps120
    go_wp2_with fail
    go_ret
    exact ⟨by rw [HV.out]; rfl, (Below.refl _ _).alloc (Nat.le_refl _) _⟩
  have hnb0 : (pa != 0) = false := by simpa using hb0
  obtain ⟨b1, hb1⟩ : ∃ q, (at_ == 0) = q := ⟨_, rfl⟩
  rw [hb1] at hV
  cases b1
  case false =>
    have HV : Hid (V = 1) := hV.trans (if_pos (by simp))
    clear hV
    have hnb1 : (at_ != 0) = true := by simpa using hb1
    go_enter Tryz.func120, Tryz.ntmps120
    go_wp2_with fail
    go_ret
    exact ⟨by rw [HV.out]; rfl, (Below.refl _ _).alloc (Nat.le_refl _) _⟩
  have hnb1 : (at_ != 0) = false := by simpa using hb1
  obtain ⟨b2, hb2⟩ : ∃ q, (fr == 0) = q := ⟨_, rfl⟩
  rw [hb2] at hV
  cases b2
  case false =>
    have HV : Hid (V = 1) := hV.trans (if_pos (by simp))
    clear hV
    have hnb2 : (fr != 0) = true := by simpa using hb2
    go_enter Tryz.func120, Tryz.ntmps120
    go_wp2_with fail
    go_ret
    exact ⟨by rw [HV.out]; rfl, (Below.refl _ _).alloc (Nat.le_refl _) _⟩
  have hnb2 : (fr != 0) = false := by simpa using hb2
  obtain ⟨b3, hb3⟩ : ∃ q, (to_ == 0) = q := ⟨_, rfl⟩
  rw [hb3] at hV
  cases b3
  case false =>
    have HV : Hid (V = 1) := hV.trans (if_pos (by simp))
    clear hV
    have hnb3 : (to_ != 0) = true := by simpa using hb3
    go_enter Tryz.func120, Tryz.ntmps120
    go_wp2_with fail
    go_ret
    exact ⟨by rw [HV.out]; rfl, (Below.refl _ _).alloc (Nat.le_refl _) _⟩
  have hnb3 : (to_ != 0) = false := by simpa using hb3
  obtain ⟨b4, hb4⟩ : ∃ q, tx.toList.isEmpty = q := ⟨_, rfl⟩
  rw [hb4] at hV
  cases b4
  case false =>
    have HV : Hid (V = 1) := hV.trans (if_pos (by simp))
    clear hV
    have hnb4 : (!tx.toList.isEmpty) = true := by rw [hb4]; rfl
    go_enter Tryz.func120, Tryz.ntmps120
    go_wp2_with fail
    go_ret
    exact ⟨by rw [HV.out]; rfl, (Below.refl _ _).alloc (Nat.le_refl _) _⟩
  have hnb4 : (!tx.toList.isEmpty) = false := by rw [hb4]; rfl
  obtain ⟨b5, hb5⟩ : ∃ q, nm.toList.isEmpty = q := ⟨_, rfl⟩
  rw [hb5] at hV
  cases b5
  case false =>
    have HV : Hid (V = 1) := hV.trans (if_pos (by simp))
    clear hV
    have hnb5 : (!nm.toList.isEmpty) = true := by rw [hb5]; rfl
    go_enter Tryz.func120, Tryz.ntmps120
    go_wp2_with fail
    go_ret
    exact ⟨by rw [HV.out]; rfl, (Below.refl _ _).alloc (Nat.le_refl _) _⟩
  have hnb5 : (!nm.toList.isEmpty) = false := by rw [hb5]; rfl
  obtain ⟨b6, hb6⟩ : ∃ q, Q = q := ⟨_, rfl⟩
  rw [hb6] at hV HX
  cases b6
  case false =>
    have HV : Hid (V = 1) := hV.trans (if_pos (by simp))
    clear hV
    go_enter Tryz.func120, Tryz.ntmps120
    go_wp2_with fail
    refine (HX.out _ ((Below.refl _ _).alloc (Nat.le_refl _) _)).mono ?_
    rintro e w2 ⟨rfl, hb⟩
    go_wp2_with fail
    go_ret
    exact ⟨by rw [HV.out]; rfl, ((Below.refl _ _).alloc (Nat.le_refl _) _).trans (hb.mono (by simp))⟩
  have HV : Hid (V = 0) := hV.trans (if_neg (by simp))
  clear hV
  go_enter Tryz.func120, Tryz.ntmps120
  go_wp2_with fail
  refine (HX.out _ ((Below.refl _ _).alloc (Nat.le_refl _) _)).mono ?_
  rintro e w2 ⟨rfl, hb⟩
  go_wp2_with fail
  go_ret
  exact ⟨by rw [HV.out]; rfl, ((Below.refl _ _).alloc (Nat.le_refl _) _).trans (hb.mono (by simp))⟩
set_option maxHeartbeats 2000000 in
theorem form3_any (id pa at_ fr to_ vk vi vt : Int) (tx nm vs : ByteArray) (A : Option Addr) (n c : Nat) (Q : Bool) (V : Int) (w : World)
    (hV : V = if ((fr == 0) && (to_ == 0) && tx.toList.isEmpty && nm.toList.isEmpty && Q) = false then 1 else 0)
    (hX : ∀ W, Below w.heap.size w W → Calls Tryz.prog 154 #[.agg #[.int .i64 vk, .int .i64 vi, .int .i64 vt, .string vs, .slice A n c]] W fun e w' => e = .returned (.bool Q) ∧ Below W.heap.size W w') :
    Calls Tryz.prog 120 #[.agg #[.int .i64 3, .int .i64 id, .int .i64 pa, .int .i64 at_, .int .i64 fr, .int .i64 to_, .string tx, .string nm, .int .i64 vk, .int .i64 vi, .int .i64 vt, .string vs, .slice A n c]] w fun e w' => e = .returned (.int .i64 V) ∧ Below w.heap.size w w' := by
  have HX := Lib.hid hX
  clear hX
  obtain ⟨b0, hb0⟩ : ∃ q, (fr == 0) = q := ⟨_, rfl⟩
  rw [hb0] at hV
  cases b0
  case false =>
    have HV : Hid (V = 1) := hV.trans (if_pos (by simp))
    clear hV
    have hnb0 : (fr != 0) = true := by simpa using hb0
    go_enter Tryz.func120, Tryz.ntmps120
    go_wp2_with fail
    go_ret
    exact ⟨by rw [HV.out]; rfl, (Below.refl _ _).alloc (Nat.le_refl _) _⟩
  have hnb0 : (fr != 0) = false := by simpa using hb0
  obtain ⟨b1, hb1⟩ : ∃ q, (to_ == 0) = q := ⟨_, rfl⟩
  rw [hb1] at hV
  cases b1
  case false =>
    have HV : Hid (V = 1) := hV.trans (if_pos (by simp))
    clear hV
    have hnb1 : (to_ != 0) = true := by simpa using hb1
    go_enter Tryz.func120, Tryz.ntmps120
    go_wp2_with fail
    go_ret
    exact ⟨by rw [HV.out]; rfl, (Below.refl _ _).alloc (Nat.le_refl _) _⟩
  have hnb1 : (to_ != 0) = false := by simpa using hb1
  obtain ⟨b2, hb2⟩ : ∃ q, tx.toList.isEmpty = q := ⟨_, rfl⟩
  rw [hb2] at hV
  cases b2
  case false =>
    have HV : Hid (V = 1) := hV.trans (if_pos (by simp))
    clear hV
    have hnb2 : (!tx.toList.isEmpty) = true := by rw [hb2]; rfl
    go_enter Tryz.func120, Tryz.ntmps120
    go_wp2_with fail
    go_ret
    exact ⟨by rw [HV.out]; rfl, (Below.refl _ _).alloc (Nat.le_refl _) _⟩
  have hnb2 : (!tx.toList.isEmpty) = false := by rw [hb2]; rfl
  obtain ⟨b3, hb3⟩ : ∃ q, nm.toList.isEmpty = q := ⟨_, rfl⟩
  rw [hb3] at hV
  cases b3
  case false =>
    have HV : Hid (V = 1) := hV.trans (if_pos (by simp))
    clear hV
    have hnb3 : (!nm.toList.isEmpty) = true := by rw [hb3]; rfl
    go_enter Tryz.func120, Tryz.ntmps120
    go_wp2_with fail
    go_ret
    exact ⟨by rw [HV.out]; rfl, (Below.refl _ _).alloc (Nat.le_refl _) _⟩
  have hnb3 : (!nm.toList.isEmpty) = false := by rw [hb3]; rfl
  obtain ⟨b4, hb4⟩ : ∃ q, Q = q := ⟨_, rfl⟩
  rw [hb4] at hV HX
  cases b4
  case false =>
    have HV : Hid (V = 1) := hV.trans (if_pos (by simp))
    clear hV
    go_enter Tryz.func120, Tryz.ntmps120
    go_wp2_with fail
    refine (HX.out _ ((Below.refl _ _).alloc (Nat.le_refl _) _)).mono ?_
    rintro e w2 ⟨rfl, hb⟩
    go_wp2_with fail
    go_ret
    exact ⟨by rw [HV.out]; rfl, ((Below.refl _ _).alloc (Nat.le_refl _) _).trans (hb.mono (by simp))⟩
  have HV : Hid (V = 0) := hV.trans (if_neg (by simp))
  clear hV
  go_enter Tryz.func120, Tryz.ntmps120
  go_wp2_with fail
  refine (HX.out _ ((Below.refl _ _).alloc (Nat.le_refl _) _)).mono ?_
  rintro e w2 ⟨rfl, hb⟩
  go_wp2_with fail
  go_ret
  exact ⟨by rw [HV.out]; rfl, ((Below.refl _ _).alloc (Nat.le_refl _) _).trans (hb.mono (by simp))⟩
set_option maxHeartbeats 2000000 in
theorem form4_any (id pa at_ fr to_ vk vi vt : Int) (tx nm vs : ByteArray) (A : Option Addr) (n c : Nat) (Q : Bool) (V : Int) (w : World)
    (hV : V = if ((pa == 0) && (at_ == 0) && nm.toList.isEmpty && Q) = false then 1 else 0)
    (hX : ∀ W, Below w.heap.size w W → Calls Tryz.prog 154 #[.agg #[.int .i64 vk, .int .i64 vi, .int .i64 vt, .string vs, .slice A n c]] W fun e w' => e = .returned (.bool Q) ∧ Below W.heap.size W w') :
    Calls Tryz.prog 120 #[.agg #[.int .i64 4, .int .i64 id, .int .i64 pa, .int .i64 at_, .int .i64 fr, .int .i64 to_, .string tx, .string nm, .int .i64 vk, .int .i64 vi, .int .i64 vt, .string vs, .slice A n c]] w fun e w' => e = .returned (.int .i64 V) ∧ Below w.heap.size w w' := by
  have HX := Lib.hid hX
  clear hX
  obtain ⟨b0, hb0⟩ : ∃ q, (pa == 0) = q := ⟨_, rfl⟩
  rw [hb0] at hV
  cases b0
  case false =>
    have HV : Hid (V = 1) := hV.trans (if_pos (by simp))
    clear hV
    have hnb0 : (pa != 0) = true := by simpa using hb0
    go_enter Tryz.func120, Tryz.ntmps120
    go_wp2_with fail
    go_ret
    exact ⟨by rw [HV.out]; rfl, (Below.refl _ _).alloc (Nat.le_refl _) _⟩
  have hnb0 : (pa != 0) = false := by simpa using hb0
  obtain ⟨b1, hb1⟩ : ∃ q, (at_ == 0) = q := ⟨_, rfl⟩
  rw [hb1] at hV
  cases b1
  case false =>
    have HV : Hid (V = 1) := hV.trans (if_pos (by simp))
    clear hV
    have hnb1 : (at_ != 0) = true := by simpa using hb1
    go_enter Tryz.func120, Tryz.ntmps120
    go_wp2_with fail
    go_ret
    exact ⟨by rw [HV.out]; rfl, (Below.refl _ _).alloc (Nat.le_refl _) _⟩
  have hnb1 : (at_ != 0) = false := by simpa using hb1
  obtain ⟨b2, hb2⟩ : ∃ q, nm.toList.isEmpty = q := ⟨_, rfl⟩
  rw [hb2] at hV
  cases b2
  case false =>
    have HV : Hid (V = 1) := hV.trans (if_pos (by simp))
    clear hV
    have hnb2 : (!nm.toList.isEmpty) = true := by rw [hb2]; rfl
    go_enter Tryz.func120, Tryz.ntmps120
    go_wp2_with fail
    go_ret
    exact ⟨by rw [HV.out]; rfl, (Below.refl _ _).alloc (Nat.le_refl _) _⟩
  have hnb2 : (!nm.toList.isEmpty) = false := by rw [hb2]; rfl
  obtain ⟨b3, hb3⟩ : ∃ q, Q = q := ⟨_, rfl⟩
  rw [hb3] at hV HX
  cases b3
  case false =>
    have HV : Hid (V = 1) := hV.trans (if_pos (by simp))
    clear hV
    go_enter Tryz.func120, Tryz.ntmps120
    go_wp2_with fail
    refine (HX.out _ ((Below.refl _ _).alloc (Nat.le_refl _) _)).mono ?_
    rintro e w2 ⟨rfl, hb⟩
    go_wp2_with fail
    go_ret
    exact ⟨by rw [HV.out]; rfl, ((Below.refl _ _).alloc (Nat.le_refl _) _).trans (hb.mono (by simp))⟩
  have HV : Hid (V = 0) := hV.trans (if_neg (by simp))
  clear hV
  go_enter Tryz.func120, Tryz.ntmps120
  go_wp2_with fail
  refine (HX.out _ ((Below.refl _ _).alloc (Nat.le_refl _) _)).mono ?_
  rintro e w2 ⟨rfl, hb⟩
  go_wp2_with fail
  go_ret
  exact ⟨by rw [HV.out]; rfl, ((Below.refl _ _).alloc (Nat.le_refl _) _).trans (hb.mono (by simp))⟩
set_option maxHeartbeats 2000000 in
theorem form5_any (id pa at_ fr to_ vk vi vt : Int) (tx nm vs : ByteArray) (A : Option Addr) (n c : Nat) (Q : Bool) (V : Int) (w : World)
    (hV : V = if ((pa == 0) && (at_ == 0) && (fr == 0) && (to_ == 0) && tx.toList.isEmpty) = false then 1 else 0)
    (hX : ∀ W, Below w.heap.size w W → Calls Tryz.prog 154 #[.agg #[.int .i64 vk, .int .i64 vi, .int .i64 vt, .string vs, .slice A n c]] W fun e w' => e = .returned (.bool Q) ∧ Below W.heap.size W w') :
    Calls Tryz.prog 120 #[.agg #[.int .i64 5, .int .i64 id, .int .i64 pa, .int .i64 at_, .int .i64 fr, .int .i64 to_, .string tx, .string nm, .int .i64 vk, .int .i64 vi, .int .i64 vt, .string vs, .slice A n c]] w fun e w' => e = .returned (.int .i64 V) ∧ Below w.heap.size w w' := by
  have HX := Lib.hid hX
  clear hX
  obtain ⟨b0, hb0⟩ : ∃ q, (pa == 0) = q := ⟨_, rfl⟩
  rw [hb0] at hV
  cases b0
  case false =>
    have HV : Hid (V = 1) := hV.trans (if_pos (by simp))
    clear hV
    have hnb0 : (pa != 0) = true := by simpa using hb0
    go_enter Tryz.func120, Tryz.ntmps120
    go_wp2_with fail
    go_ret
    exact ⟨by rw [HV.out]; rfl, (Below.refl _ _).alloc (Nat.le_refl _) _⟩
  have hnb0 : (pa != 0) = false := by simpa using hb0
  obtain ⟨b1, hb1⟩ : ∃ q, (at_ == 0) = q := ⟨_, rfl⟩
  rw [hb1] at hV
  cases b1
  case false =>
    have HV : Hid (V = 1) := hV.trans (if_pos (by simp))
    clear hV
    have hnb1 : (at_ != 0) = true := by simpa using hb1
    go_enter Tryz.func120, Tryz.ntmps120
    go_wp2_with fail
    go_ret
    exact ⟨by rw [HV.out]; rfl, (Below.refl _ _).alloc (Nat.le_refl _) _⟩
  have hnb1 : (at_ != 0) = false := by simpa using hb1
  obtain ⟨b2, hb2⟩ : ∃ q, (fr == 0) = q := ⟨_, rfl⟩
  rw [hb2] at hV
  cases b2
  case false =>
    have HV : Hid (V = 1) := hV.trans (if_pos (by simp))
    clear hV
    have hnb2 : (fr != 0) = true := by simpa using hb2
    go_enter Tryz.func120, Tryz.ntmps120
    go_wp2_with fail
    go_ret
    exact ⟨by rw [HV.out]; rfl, (Below.refl _ _).alloc (Nat.le_refl _) _⟩
  have hnb2 : (fr != 0) = false := by simpa using hb2
  obtain ⟨b3, hb3⟩ : ∃ q, (to_ == 0) = q := ⟨_, rfl⟩
  rw [hb3] at hV
  cases b3
  case false =>
    have HV : Hid (V = 1) := hV.trans (if_pos (by simp))
    clear hV
    have hnb3 : (to_ != 0) = true := by simpa using hb3
    go_enter Tryz.func120, Tryz.ntmps120
    go_wp2_with fail
    go_ret
    exact ⟨by rw [HV.out]; rfl, (Below.refl _ _).alloc (Nat.le_refl _) _⟩
  have hnb3 : (to_ != 0) = false := by simpa using hb3
  obtain ⟨b4, hb4⟩ : ∃ q, tx.toList.isEmpty = q := ⟨_, rfl⟩
  rw [hb4] at hV
  cases b4
  case false =>
    have HV : Hid (V = 1) := hV.trans (if_pos (by simp))
    clear hV
    have hnb4 : (!tx.toList.isEmpty) = true := by rw [hb4]; rfl
    go_enter Tryz.func120, Tryz.ntmps120
    go_wp2_with fail
    go_ret
    exact ⟨by rw [HV.out]; rfl, (Below.refl _ _).alloc (Nat.le_refl _) _⟩
  have hnb4 : (!tx.toList.isEmpty) = false := by rw [hb4]; rfl
  have HV : Hid (V = 0) := hV.trans (if_neg (by simp))
  clear hV
  go_enter Tryz.func120, Tryz.ntmps120
  go_wp2_with fail
  go_ret
  exact ⟨by rw [HV.out]; rfl, (Below.refl _ _).alloc (Nat.le_refl _) _⟩
set_option maxHeartbeats 2000000 in
/-- tree.checkForm -/
theorem checkForm_any (o : Opn) (A : Option Addr) (n c : Nat) (w : World) (B : Nat) (hB : B ≤ w.heap.size) (h : RV w B (.slice A n c) o.val.items) :
    Calls Tryz.prog 120 #[AO (o, .slice A n c)] w fun e w' => e = .returned (.int .i64 (formE o)) ∧ Below w.heap.size w w' := by
  have hX : ∀ W, Below w.heap.size w W → Calls _ _ #[AV (o.val, .slice A n c)] W _ := fun W hW => noValue_any o.val A n c W B (Nat.le_trans hB hW.size) (h.below (hW.mono hB))
  dsimp only [AV, AO] at hX ⊢
  obtain ⟨V, hV⟩ : ∃ V, V = formE o := ⟨_, rfl⟩
  rw [← hV]
  unfold formE at hV
  by_cases h1 : o.kind < 1
  · rw [if_pos (by unfold outI; exact decide_eq_true (.inl h1))] at hV
    subst hV
    clear h hX
    go_enter Tryz.func120, Tryz.ntmps120
    go_wp2_with fail
    go_ret
    exact ⟨rfl, (Below.refl _ _).alloc (Nat.le_refl _) _⟩
  by_cases h5 : 5 < o.kind
  · rw [if_pos (by unfold outI; exact decide_eq_true (.inr h5))] at hV
    subst hV
    clear h hX
    go_enter Tryz.func120, Tryz.ntmps120
    go_wp2_with fail
    go_ret
    exact ⟨rfl, (Below.refl _ _).alloc (Nat.le_refl _) _⟩
  rw [if_neg (by unfold outI; rw [decide_eq_true_iff]; omega)] at hV
  obtain ⟨Q, hQ⟩ : ∃ Q, Q = noV o.val := ⟨_, rfl⟩
  rw [← hQ] at hX
  unfold usedB at hV
  rw [← hQ] at hV
  have hk : o.kind = 1 ∨ o.kind = 2 ∨ o.kind = 3 ∨ o.kind = 4 ∨ o.kind = 5 := by omega
  rcases hk with hk | hk | hk | hk | hk
  all_goals rw [hk] at hV ⊢
  · refine form1_any _ _ _ _ _ _ _ _ _ _ _ _ _ _ Q V w (hV.trans ?_) hX
    simp [Bool.and_assoc]
  · refine form2_any _ _ _ _ _ _ _ _ _ _ _ _ _ _ Q V w (hV.trans ?_) hX
    simp [Bool.and_assoc]
  · refine form3_any _ _ _ _ _ _ _ _ _ _ _ _ _ _ Q V w (hV.trans ?_) hX
    simp [Bool.and_assoc]
  · refine form4_any _ _ _ _ _ _ _ _ _ _ _ _ _ _ Q V w (hV.trans ?_) hX
    simp [Bool.and_assoc]
  · refine form5_any _ _ _ _ _ _ _ _ _ _ _ _ _ _ Q V w (hV.trans ?_) hX
    simp [Bool.and_assoc]
end Go.Proofs.YtmkicfjcgbfaaaaGreat
namespace Go.Proofs.YtmkicfjcgbfaaaaGreat
open Go.RowKit

/-- one round of the reference's setProp -/
def spF (s : ByteArray) (v : Vl) (a : List Pr × Bool) (p : Pr) : List Pr × Bool :=
  ((if a.2 = false ∧ Op.bytesLess p.name.toList s.toList = false then a.1 ++ [⟨s, v⟩] else a.1) ++ (if p.name = s then [] else [p]), if a.2 = false ∧ Op.bytesLess p.name.toList s.toList = false then true else a.2)
/-- what stands behind some rounds -/
def spL (l : List Pr) (s : ByteArray) (v : Vl) : List Pr × Bool := l.foldl (spF s v) ([], v.kind == 0)
theorem spL_snoc {l : List Pr} {s : ByteArray} {v : Vl} {k : Nat} {p : Pr} (h : l[k]? = some p) : spL (l.take (k + 1)) s v = spF s v (spL (l.take k) s v) p := by
  unfold spL
  rw [List.take_add_one, h]
  show ((l.take k ++ [p]).foldl _ _) = _
  rw [List.foldl_append]; rfl
theorem spF_len (s : ByteArray) (v : Vl) (a : List Pr × Bool) (p : Pr) : (spF s v a p).1.length ≤ a.1.length + 2 := by
  unfold spF
  rw [List.length_append]
  split <;> split <;> simp
theorem spL_len (l : List Pr) (s : ByteArray) (v : Vl) (k : Nat) : (spL (l.take k) s v).1.length ≤ 2 * k := by
  induction k with
  | zero => simp [spL]
  | succ k ih =>
    cases h : l[k]? with
    | none =>
      have : l.take (k + 1) = l.take k := by rw [List.take_add_one, h]; simp
      rw [this]; omega
    | some p =>
      rw [spL_snoc h]
      have := spF_len s v (spL (l.take k) s v) p
      omega
theorem sp_true (s : ByteArray) (v : Vl) : ∀ (l : List Pr) (acc : List Pr), l.foldl (spF s v) (acc, true) = (acc ++ l.filter (fun p => !decide (p.name = s)), true)
  | [], acc => by simp
  | p :: l, acc => by
    rw [List.foldl_cons]
    have : spF s v (acc, true) p = (acc ++ (if p.name = s then [] else [p]), true) := by simp [spF]
    rw [this, sp_true s v l, List.append_assoc]
    by_cases h : p.name = s
    · simp [h]
    · simp [h]
theorem less_or {a b : ByteArray} (h : Op.bytesLess a.toList b.toList = false) (hn : a ≠ b) : Op.bytesLess b.toList a.toList = true := less_total _ _ h fun e => hn (tl_eq e)
theorem sp_false (s : ByteArray) (v : Vl) : ∀ (l : List Pr) (acc : List Pr), (l.Pairwise fun x y => blt x.name y.name) →
    (let r := l.foldl (spF s v) (acc, false); if r.2 = false then r.1 ++ [⟨s, v⟩] else r.1) = acc ++ ((l.filter fun p => Op.bytesLess p.name.toList s.toList) ++ ⟨s, v⟩ :: l.filter fun p => Op.bytesLess s.toList p.name.toList)
  | [], acc, _ => by simp
  | p :: l, acc, hs => by
    obtain ⟨h1, h2⟩ := List.pairwise_cons.1 hs
    rw [List.foldl_cons]
    by_cases hp : Op.bytesLess p.name.toList s.toList = true
    · have hne : p.name ≠ s := fun e => by rw [e, less_irr] at hp; cases hp
      have hnl : Op.bytesLess s.toList p.name.toList = false := less_asymm _ _ hp
      have : spF s v (acc, false) p = (acc ++ [p], false) := by simp [spF, hp, hne]
      rw [this, sp_false s v l _ h2]
      simp [hp, hnl]
    · have hp : Op.bytesLess p.name.toList s.toList = false := by simpa using hp
      have : spF s v (acc, false) p = (acc ++ [⟨s, v⟩] ++ (if p.name = s then [] else [p]), true) := by simp [spF, hp]
      rw [this, sp_true]
      have hgt : ∀ x ∈ l, Op.bytesLess s.toList x.name.toList = true := fun x hx => by
        have hpx : Op.bytesLess p.name.toList x.name.toList = true := h1 x hx
        by_cases e : p.name = s
        · rw [← e]; exact hpx
        · exact less_trans _ _ _ (less_or hp e) hpx
      have f1 : l.filter (fun p => Op.bytesLess p.name.toList s.toList) = [] := List.filter_eq_nil_iff.2 fun x hx => by rw [less_asymm _ _ (hgt x hx)]; simp
      have f2 : l.filter (fun p => Op.bytesLess s.toList p.name.toList) = l := List.filter_eq_self.2 hgt
      have f3 : l.filter (fun p => !decide (p.name = s)) = l := List.filter_eq_self.2 fun x hx => by
        have : x.name ≠ s := fun e => by have := hgt x hx; rw [e, less_irr] at this; cases this
        simp [this]
      rw [f3]
      by_cases e : p.name = s
      · have hnl : Op.bytesLess s.toList p.name.toList = false := by rw [e]; exact less_irr _
        simp [f1, f2, e, less_irr]
      · simp [hp, less_or hp e, f1, f2, e]
theorem sp_eq {l : List Pr} {s : ByteArray} {v : Vl} (h : cpErr l = 0) : (if (spL l s v).2 = false then (spL l s v).1 ++ [⟨s, v⟩] else (spL l s v).1) = setPr l s v := by
  obtain ⟨_, h2, _⟩ := cp_ok h
  unfold spL setPr
  by_cases hk : v.kind = 0
  · rw [if_pos hk]
    have : (v.kind == 0) = true := by simpa using hk
    rw [this, sp_true]
    simp only [List.nil_append]
    rw [if_neg (by simp)]
    refine List.filter_congr fun x _ => ?_
    by_cases e : x.name = s
    · simp [e]
    · have e' : x.name.toList ≠ s.toList := fun h => e (tl_eq h)
      have : (x.name.toList == s.toList) = false := by simpa using e'
      simp [e, this]
  · rw [if_neg hk]
    have : (v.kind == 0) = false := by simpa using hk
    rw [this]
    have := sp_false s v l [] h2
    simpa using this
end Go.Proofs.YtmkicfjcgbfaaaaGreat
namespace Go.Proofs.YtmkicfjcgbfaaaaGreat
open Go.RowKit Go.Shelf

attribute [local go_sem] Oper.semAt_some

/-- a number that is a block's id -/
abbrev IdOf (l : List Bl) := { x : Int // ∃ b ∈ l, b.id = x }
def encB {l : List Bl} (x : IdOf l × Nat) : Array Value := #[.int .i64 (x.2 : Int), .int .i64 x.1.1]
/-- what has come when the next place is j - 1 -/
def come {l : List Bl} (L : List (IdOf l)) (j : Nat) : List (IdOf l × Nat) := (L.zipIdx.drop j).reverse
theorem come_end {l : List Bl} (L : List (IdOf l)) : come L L.length = [] := by
  unfold come
  rw [List.drop_of_length_le (by rw [List.length_zipIdx]; exact Nat.le_refl _)]; rfl
theorem come_step {l : List Bl} {L : List (IdOf l)} {j : Nat} {x : IdOf l} (h : L[j]? = some x) : come L j = come L (j + 1) ++ [(x, j)] := by
  unfold come
  have hl := (List.getElem?_eq_some_iff.1 h).1
  have hz : j < L.zipIdx.length := by rw [List.length_zipIdx]; exact hl
  rw [List.drop_eq_getElem_cons hz, List.reverse_cons]
  congr 2
  have := (List.getElem?_eq_some_iff.1 h).2
  rw [List.getElem_zipIdx, this]; simp
theorem come_len {l : List Bl} (L : List (IdOf l)) (j : Nat) : (come L j).length = L.length - j := by
  unfold come
  rw [List.length_reverse, List.length_drop, List.length_zipIdx]
theorem come_ids {l : List Bl} (L : List (IdOf l)) : (come L 0).map Prod.fst = L.reverse := by
  unfold come
  rw [List.drop_zero, List.map_reverse, List.zipIdx_map_fst]
/-- two blocks are kept, and the heap does not shrink -/
structure K2 (a b : Nat) (W W' : World) : Prop where
  size : W.heap.size ≤ W'.heap.size
  fst : W'.heap[a]? = W.heap[a]?
  snd : W'.heap[b]? = W.heap[b]?
theorem K2.trans {a b : Nat} {A B C : World} (h : K2 a b A B) (k : K2 a b B C) : K2 a b A C := ⟨Nat.le_trans h.size k.size, k.fst.trans h.fst, k.snd.trans h.snd⟩
theorem K2.of_below {a b B : Nat} {W W' : World} (h : Below B W W') (ha : a < B) (hb : b < B) : K2 a b W W' := ⟨h.size, h.block a ha, h.block b hb⟩
theorem K2.put {a b : Nat} {w : World} (ha : a < w.heap.size) (hb : b < w.heap.size) (W : World) (l : Nat) (o o' : Obj) (hl : w.heap.size ≤ l) (_ : W.heap[l]? = some o) (_ : o.isCells = false) (_ : o.isWalk = false) : K2 a b W (W.putObj l o') :=
  ⟨by simp, World.putObj_heap_other (by omega), World.putObj_heap_other (by omega)⟩
theorem K2.cell1 {a b : Nat} {W W' : World} (h : K2 a b W W') (i : Nat) : W'.cell? ⟨a, i, none⟩ = W.cell? ⟨a, i, none⟩ := World.cell?_of_block (a := ⟨a, i, none⟩) h.fst
theorem K2.cell2 {a b : Nat} {W W' : World} (h : K2 a b W W') (i : Nat) : W'.cell? ⟨b, i, none⟩ = W.cell? ⟨b, i, none⟩ := World.cell?_of_block (a := ⟨b, i, none⟩) h.snd

set_option maxRecDepth 100000 in
set_option maxHeartbeats 4000000 in
theorem back1_in {bl : List Bl} (n : Nat) (hn : 1 ≤ n) (l Bs b off len cap : Nat) (zs : List (IdOf bl)) (hlen : len = zs.length) (hreach : len ≤ 100000) (J Jx : List (IdOf bl × Nat) → World → Prop)
    (hY : ∀ pre x W, J pre W → pre.length < len → YieldAt Fence.wide (n - 1) Tryz.prog l (encB x) W fun e W' =>
      (e = .returned (.bool true) ∧ J (pre ++ [x]) W' ∧ K2 Bs b W W') ∨ (e = .returned (.bool false) ∧ Jx (pre ++ [x]) W'))
    (W : World) (hBs : W.cell? ⟨Bs, 0, none⟩ = some (.slice (some ⟨b, off, none⟩) len cap)) (hc : ∀ j x, zs[j]? = some x → W.cell? ⟨b, off + j, none⟩ = some (.int .i64 x.1)) (h0 : J [] W) :
    CallsIn Fence.wide n Tryz.prog 168 #[.func (.yield l) #[] #[], .pointer (some ⟨Bs, 0, none⟩)] W fun e W' => (∃ v, e = .returned v) ∧
      ((∃ ys, ys = come zs 0 ∧ J ys W') ∨ (∃ pre, True ∧ Jx pre W')) := by
  have HC := Lib.hid hc
  have HL := Lib.hid hlen
  clear hc hlen
  refine callsIn_of_wp Tryz.func168 rfl trivial ?_ rfl
  simp only [Tryz.ntmps168, List.size_toArray, List.length_cons, List.length_nil, Nat.reduceAdd, Nat.reduceSub, Array.replicate_succ, Array.replicate_zero, List.push_toArray, List.append_toArray, List.nil_append, List.cons_append]
  gi_wp2
  gi_loopw [3] (fun p wr => ∃ (j : Nat) (t : Int), p = .int .i64 t ∧ t + 1 = (j : Int) ∧ j ≤ len ∧ J (come zs j) wr ∧ Hid (K2 Bs b W wr))
    (fun p _ => (intOf p + 1).toNat)
  case atStart => exact ⟨len, (len : Int) - 1, by go_num, by omega, Nat.le_refl _, by rw [HL.out, come_end]; exact h0, ⟨Nat.le_refl _, rfl, rfl⟩⟩
  case round =>
    obtain ⟨j, t, rfl, htj, hj, hJ, hk⟩ := hrel
    have hBs' := (hk.out.cell1 0).trans hBs
    rcases j with _ | j
    · obtain rfl : t = -1 := by omega
      gi_wp2
      go_end0
      exact ⟨⟨_, rfl⟩, .inl ⟨_, rfl, hJ⟩⟩
    · obtain rfl : t = (j : Int) := by omega
      obtain ⟨x, hx⟩ : ∃ x, zs[j]? = some x := ⟨_, List.getElem?_eq_getElem (by have := HL.out; omega)⟩
      have hcx := (hk.out.cell2 (off + j)).trans (HC.out j x hx)
      have j0 : (0 : Int) ≤ (j : Int) := by omega
      have j1 : (j : Int) < (len : Int) := by omega
      have hln : (come zs (j + 1)).length < len := by rw [come_len]; have := HL.out; omega
      have HX := Lib.hid hx
      clear htj hx
      obtain ⟨fn, tmps, assign, body, hy, hR⟩ := hY (come zs (j + 1)) (x, j) wr hJ hln
      dsimp only [encB] at hy
      gi_wp2
      refine hR.mono ?_
      rintro e W3 (⟨rfl, hJ3, hk3⟩ | ⟨rfl, hJx3⟩)
      · have HK3 : Hid (K2 Bs b W W3) := hk.out.trans hk3
        rw [← come_step HX.out] at hJ3
        gi_wp2
        go_roundw
        case rel => exact ⟨j, (j : Int) - 1, by go_num, by omega, by omega, hJ3, HK3⟩
        case measure => simp [intOf]
      · gi_wp2
        refine bodyPost_ret (results_none rfl _ _ _) rfl ?_
        exact ⟨⟨_, rfl⟩, .inr ⟨_, trivial, hJx3⟩⟩
theorem back_stops {bl : List Bl} (n : Nat) (hn : 1 ≤ n) (Bs b off len cap : Nat) (zs : List (IdOf bl)) (hlen : len = zs.length) (hreach : len ≤ 100000) (w : World) (hBs : Bs < w.heap.size) (hb : b < w.heap.size) (hs : w.cell? ⟨Bs, 0, none⟩ = some (.slice (some ⟨b, off, none⟩) len cap)) (hc : ∀ j x, zs[j]? = some x → w.cell? ⟨b, off + j, none⟩ = some (.int .i64 x.1)) :
    SeqStopsK Fence.wide n Tryz.prog 168 #[.pointer (some ⟨Bs, 0, none⟩)] encB (K2 Bs b) (fun ys => ys = come zs 0) (fun _ => True) len w := fun l J Jx W hW _ _ hY h0 =>
  back1_in n hn l Bs b off len cap zs hlen hreach J Jx hY W ((hW.cell (p := ⟨Bs, 0, none⟩) hBs).trans hs) (fun j x hx => (hW.cell (p := ⟨b, off + j, none⟩) hb).trans (hc j x hx)) h0
set_option maxHeartbeats 1000000 in
/-- slices.Backward at ints -/
theorem back_any (A : Option Addr) (n c : Nat) (w : World) :
    Calls Tryz.prog 146 #[.slice A n c] w fun e w' => e = .returned (.func (.func 168) #[] #[.pointer (some ⟨w.heap.size, 0, none⟩)]) ∧ w' = w.alloc (.cells #[.slice A n c] 34) := by
  go_enter Tryz.func146, Tryz.ntmps146
  go_wp2_with fail
  go_ret
  exact ⟨rfl, rfl⟩
end Go.Proofs.YtmkicfjcgbfaaaaGreat
