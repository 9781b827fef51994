/-
  DERIVED. Plain law: the sorts of bytes. Conditions: none.
  The walks of the functions that sort bytes. Conditions: a byte.
  Plain law: the byte at a place, the first place from which on a byte is of a sort; what the library's searches say in these words. Conditions: none.
  Plain law: the tokens of a text, as the code finds them. Conditions: none.
  The walk of text.escapeAt. Conditions: a place in the text.
  The walk of text.isTarget. Conditions: a length in reach.
  The walk of text.codeAt. Conditions: a place in the text.
  By an AI agent.
-/
import Derived.WalkKit
import Derived.Test.YtnlonleljbbgoaaGreatDoorKe01
import Derived.Test.YtnlonleljbbgoaaGreatDoorKe04
import Derived.Test.YtnlonleljbbgoaaGreatDoorChecked
import Derived.Lib.IndexAny
import Derived.Lib.Strings
import Derived.Lib.Bytealg
import Derived.WalkSpells
import Derived.Test.YtnlonleljbbgoaaGreatDoorKe02
namespace Go.Proofs.YtnlonleljbbgoaaGreatDoor
open Go.RowKit

theorem ret_boolS {a b : Bool} (h : a = b) : Ending.returned (.bool a) = .returned (.bool b) := by rw [h]
def letB (n : Int) : Bool := decide (97 ≤ n ∧ n ≤ 122 ∨ 65 ≤ n ∧ n ≤ 90 ∨ 128 ≤ n)
def digB (n : Int) : Bool := decide (48 ≤ n ∧ n ≤ 57)
def punB (n : Int) : Bool := decide (33 ≤ n ∧ n ≤ 47 ∨ 58 ≤ n ∧ n ≤ 64 ∨ 91 ≤ n ∧ n ≤ 96 ∨ 123 ≤ n ∧ n ≤ 126)
def tgtB (n : Int) : Bool := decide (32 ≤ n ∧ n ≠ 91 ∧ n ≠ 93 ∧ n ≠ 124 ∧ n ≠ 96)
def tagB (n : Int) : Bool := decide ((97 ≤ n ∧ n ≤ 122 ∨ 65 ≤ n ∧ n ≤ 90 ∨ 128 ≤ n) ∨ (48 ≤ n ∧ n ≤ 57) ∨ n = 95 ∨ n = 45 ∨ n = 47)
end Go.Proofs.YtnlonleljbbgoaaGreatDoor
namespace Go.Proofs.YtnlonleljbbgoaaGreatDoor
open Go.RowKit

set_option maxHeartbeats 400000 in
theorem isLetter_any (n : Int) (w : World) (_h0 : 0 ≤ n) (_h1 : n ≤ 255) : Calls Tryz.prog 304 #[.int .u8 n] w fun e w' => e = .returned (.bool (letB n)) ∧ w = w' := by
  go_enter Tryz.func304, Tryz.ntmps304
  go_wp2
  all_goals go_ret
  all_goals exact ⟨ret_boolS (by rw [Bool.eq_iff_iff]; simp [letB] <;> omega), rfl⟩

set_option maxHeartbeats 400000 in
theorem isDigit_any (n : Int) (w : World) (_h0 : 0 ≤ n) (_h1 : n ≤ 255) : Calls Tryz.prog 303 #[.int .u8 n] w fun e w' => e = .returned (.bool (digB n)) ∧ w = w' := by
  go_enter Tryz.func303, Tryz.ntmps303
  go_wp2
  all_goals go_ret
  all_goals exact ⟨ret_boolS (by rw [Bool.eq_iff_iff]; simp [digB] <;> omega), rfl⟩

set_option maxHeartbeats 400000 in
theorem isPunct_any (n : Int) (w : World) (_h0 : 0 ≤ n) (_h1 : n ≤ 255) : Calls Tryz.prog 302 #[.int .u8 n] w fun e w' => e = .returned (.bool (punB n)) ∧ w = w' := by
  go_enter Tryz.func302, Tryz.ntmps302
  go_wp2
  all_goals go_ret
  all_goals exact ⟨ret_boolS (by rw [Bool.eq_iff_iff]; simp [punB] <;> omega), rfl⟩

set_option maxHeartbeats 400000 in
theorem inTarget_any (n : Int) (w : World) (_h0 : 0 ≤ n) (_h1 : n ≤ 255) : Calls Tryz.prog 219 #[.int .u8 n] w fun e w' => e = .returned (.bool (tgtB n)) ∧ w = w' := by
  go_enter Tryz.func219, Tryz.ntmps219
  go_wp2
  all_goals go_ret
  all_goals exact ⟨ret_boolS (by rw [Bool.eq_iff_iff]; simp [tgtB] <;> omega), rfl⟩

set_option maxHeartbeats 400000 in
theorem rLetter_any (n : Int) (w : World) (_h0 : 0 ≤ n) (_h1 : n ≤ 255) : Calls Tryz.prog 135 #[.int .u8 n] w fun e w' => e = .returned (.bool (letB n)) ∧ w = w' := by
  go_enter Tryz.func135, Tryz.ntmps135
  go_wp2
  all_goals go_ret
  all_goals exact ⟨ret_boolS (by rw [Bool.eq_iff_iff]; simp [letB] <;> omega), rfl⟩

set_option maxHeartbeats 400000 in
theorem rDigit_any (n : Int) (w : World) (_h0 : 0 ≤ n) (_h1 : n ≤ 255) : Calls Tryz.prog 125 #[.int .u8 n] w fun e w' => e = .returned (.bool (digB n)) ∧ w = w' := by
  go_enter Tryz.func125, Tryz.ntmps125
  go_wp2
  all_goals go_ret
  all_goals exact ⟨ret_boolS (by rw [Bool.eq_iff_iff]; simp [digB] <;> omega), rfl⟩

end Go.Proofs.YtnlonleljbbgoaaGreatDoor
namespace Go.Proofs.YtnlonleljbbgoaaGreatDoor
open Go.RowKit





/-! ### the library's words -/




end Go.Proofs.YtnlonleljbbgoaaGreatDoor
namespace Go.Proofs.YtnlonleljbbgoaaGreatDoor
open Go.RowKit

/-- a span; the number of a reference is its decimal digits' -/
structure Sp where
  kind : Int
  frm : Nat
  to_ : Nat
  text : ByteArray
  show_ : ByteArray
  id : Int
  strong : Bool

def noB : ByteArray := ⟨#[]⟩
def spCells (x : Sp) : List Value := [.int .i64 x.kind, .int .i64 x.frm, .int .i64 x.to_, .string x.text, .string x.show_, .int .i64 x.id, .bool x.strong]
def spV (x : Sp) : Value := .agg #[.int .i64 x.kind, .int .i64 x.frm, .int .i64 x.to_, .string x.text, .string x.show_, .int .i64 x.id, .bool x.strong]
def spZ : Value := .agg #[.int .i64 0, .int .i64 0, .int .i64 0, .string ⟨#[]⟩, .string ⟨#[]⟩, .int .i64 0, .bool false]
/-- a token, or none -/
def tokV : Option Sp → Value
  | some x => .tuple #[spV x, .bool true]
  | none => .tuple #[spZ, .bool false]

def notB (p : Int → Bool) : Int → Bool := fun n => !p n

/-- Is it the target of a link? -/
def isTgt (t : ByteArray) : Bool := decide (0 < t.size) && decide (t.size ≤ 100) && !(bt t 0 == 32) && !(bt t (t.size - 1) == 32) && decide (upto (notB tgtB) t 0 = t.size)

def digVal (l : List UInt8) : Nat := l.foldl (fun n c => 10 * n + (c.toNat - 48)) 0

def tokE (s : ByteArray) (a : Nat) : Option Sp :=
  if bt s a = 92 ∧ punB (bt s (a + 1)) = true then some ⟨2, a, a + 2, s.extract (a + 1) (a + 2), noB, 0, false⟩ else none
def tokC (s : ByteArray) (a : Nat) : Option Sp :=
  let j := upto (isC 96) s (a + 1)
  if bt s a = 96 ∧ j < s.size ∧ a + 1 < j then some ⟨3, a, j + 1, s.extract (a + 1) j, noB, 0, false⟩ else none
def tokL (s : ByteArray) (a : Nat) : Option Sp :=
  let e := upto (notB tgtB) s (a + 2)
  let j := upto (isAny [91, 93]) s (e + 1)
  if bt s a = 91 ∧ bt s (a + 1) = 91 ∧ isTgt (s.extract (a + 2) e) = true then
    if bt s e = 93 ∧ bt s (e + 1) = 93 then some ⟨4, a, e + 2, s.extract (a + 2) e, noB, 0, false⟩
    else if bt s e = 124 ∧ j < s.size ∧ e + 1 < j ∧ bt s j = 93 ∧ bt s (j + 1) = 93 then some ⟨4, a, j + 2, s.extract (a + 2) e, s.extract (e + 1) j, 0, false⟩
    else none
  else none
def tokR (s : ByteArray) (a : Nat) : Option Sp :=
  let e := upto (notB digB) s (a + 2)
  if bt s a = 40 ∧ bt s (a + 1) = 40 ∧ a + 2 < e ∧ e ≤ a + 9 ∧ bt s (a + 2) ≠ 48 ∧ bt s e = 41 ∧ bt s (e + 1) = 41 ∧ digVal (s.extract (a + 2) e).data.toList ≤ 1000000 then
    some ⟨5, a, e + 2, s.extract (a + 2) e, noB, digVal (s.extract (a + 2) e).data.toList, false⟩
  else none
/-- may a tag begin behind this byte? (-1: at the beginning) -/
def preT (n : Int) : Bool := !(letB n || digB n || n == 35 || n == 38)
def tokT (s : ByteArray) (a : Nat) : Option Sp :=
  let e := upto (notB tagB) s (a + 1)
  if bt s a = 35 ∧ (a = 0 ∨ preT (bt s (a - 1)) = true) ∧ upto letB s (a + 1) < e ∧ e ≤ a + 101 ∧ bt s (a + 1) ≠ 47 ∧ bt s (e - 1) ≠ 47 then
    some ⟨6, a, e, s.extract (a + 1) e, noB, 0, false⟩
  else none
def tokB (s : ByteArray) (a : Nat) : Option Sp :=
  if bt s a = 42 ∧ bt s (a + 1) = 42 then some ⟨7, a, a + 2, ⟨#[42, 42]⟩, noB, 0, false⟩ else none
def plainAt (a : Nat) : Sp := ⟨1, a, a + 1, noB, noB, 0, false⟩
/-- what stands at a place -/
def tokA (s : ByteArray) (a : Nat) : Sp := ((tokE s a).or ((tokC s a).or ((tokL s a).or ((tokR s a).or ((tokT s a).or (tokB s a)))))).getD (plainAt a)

end Go.Proofs.YtnlonleljbbgoaaGreatDoor
namespace Go.Proofs.YtnlonleljbbgoaaGreatDoor
open Go.RowKit

set_option maxHeartbeats 1000000 in
theorem escapeAt_any (s : ByteArray) (a : Nat) (w : World) (hs : s.size ≤ 4294967280) (ha : a < s.size) :
    Calls Tryz.prog 294 #[.string s, .int .i64 a] w fun e w' => e = .returned (tokV (tokE s a)) ∧ Below w.heap.size w w' := by
  have hi0 : (0 : Int) ≤ (a : Int) := by omega
  have hi1 : (a : Int) < (s.size : Int) := by omega
  by_cases c1 : bt s a = 92
  · have g1 : ((s[a].toNat : Int) != 92) = false := by rw [bt_at ha] at c1; simpa using c1
    by_cases c2 : a + 1 < s.size
    · have e2 : ((a : Int) + 1 == (s.size : Int)) = false := beq_eq_false_iff_ne.2 (by omega)
      have hi2 : (a : Int) + 1 < (s.size : Int) := by omega
      have hb := bt_at c2
      have hc0 : (0 : Int) ≤ (s[a + 1].toNat : Int) := by omega
      have hc1 : (s[a + 1].toNat : Int) ≤ 255 := by have := (s[a + 1]).toNat_lt; omega
      cases c3 : punB (s[a + 1].toNat : Int)
      · have HV : Hid (Ending.returned (.tuple #[spZ, .bool false]) = .returned (tokV (tokE s a))) := by show _ = _; unfold tokE; rw [if_neg (by rw [hb, c3]; simp)]; rfl
        clear c1 hb
        go_enter Tryz.func294, Tryz.ntmps294
        go_wp2_with fail
        refine (isPunct_any _ _ hc0 hc1).mono ?_
        rintro e w1 ⟨rfl, hw1⟩
        rw [c3, ← hw1]
        clear hw1
        go_wp2
        refine bodyPost_ret (v := .tuple #[spZ, .bool false]) (by simp [results, Tryz.results294, go_sem, spZ]) rfl ⟨HV.out, (Below.refl _ _).alloc (Nat.le_refl _) _⟩
      · have HV : Hid (Ending.returned (.tuple #[.agg #[.int .i64 2, .int .i64 a, .int .i64 (a + 2), .string (s.extract (a + 1) (a + 2)), .string ⟨#[]⟩, .int .i64 0, .bool false], .bool true]) = .returned (tokV (tokE s a))) := by show _ = _; unfold tokE; rw [if_pos ⟨c1, by rw [hb, c3]⟩]; rfl
        clear c1 hb
        have hi3 : (a : Int) + 2 ≤ (s.size : Int) := by omega
        go_enter Tryz.func294, Tryz.ntmps294
        go_wp2_with fail
        refine (isPunct_any _ _ hc0 hc1).mono ?_
        rintro e w1 ⟨rfl, hw1⟩
        rw [c3, ← hw1]
        clear hw1
        go_wp2
        refine bodyPost_ret (v := .tuple #[.agg #[.int .i64 2, .int .i64 a, .int .i64 (a + 2), .string (s.extract (a + 1) (a + 2)), .string ⟨#[]⟩, .int .i64 0, .bool false], .bool true]) (by simp [results, Tryz.results294, go_sem]) rfl ⟨HV.out, (Below.refl _ _).alloc (Nat.le_refl _) _⟩
    · have e2 : ((a : Int) + 1 == (s.size : Int)) = true := beq_iff_eq.2 (by omega)
      have HV : Hid (Ending.returned (.tuple #[spZ, .bool false]) = .returned (tokV (tokE s a))) := by show _ = _; unfold tokE; rw [if_neg (by rw [bt_out (show s.size ≤ a + 1 by omega)]; simp [punB])]; rfl
      clear c1
      go_enter Tryz.func294, Tryz.ntmps294
      go_wp2
      refine bodyPost_ret (v := .tuple #[spZ, .bool false]) (by simp [results, Tryz.results294, go_sem, spZ]) rfl ⟨HV.out, (Below.refl _ _).alloc (Nat.le_refl _) _⟩
  · have g1 : ((s[a].toNat : Int) != 92) = true := by rw [bt_at ha] at c1; simpa using c1
    have HV : Hid (Ending.returned (.tuple #[spZ, .bool false]) = .returned (tokV (tokE s a))) := by show _ = _; unfold tokE; rw [if_neg (fun h => c1 h.1)]; rfl
    clear c1
    go_enter Tryz.func294, Tryz.ntmps294
    go_wp2
    refine bodyPost_ret (v := .tuple #[spZ, .bool false]) (by simp [results, Tryz.results294, go_sem, spZ]) rfl ⟨HV.out, (Below.refl _ _).alloc (Nat.le_refl _) _⟩
end Go.Proofs.YtnlonleljbbgoaaGreatDoor
namespace Go.Proofs.YtnlonleljbbgoaaGreatDoor
open Go.RowKit

theorem empty_of {t : ByteArray} (h : t.size = 0) : t = ⟨#[]⟩ := by
  obtain ⟨⟨l⟩⟩ := t
  have : l.length = 0 := h
  rw [List.length_eq_zero_iff.1 this]

set_option maxHeartbeats 2000000 in
theorem isTarget_any (t : ByteArray) (w : World) (hs : t.size ≤ 4294967280) :
    Calls Tryz.prog 194 #[.string t] w fun e w' => e = .returned (.bool (isTgt t)) ∧ w = w' := by
  by_cases c0 : t.size = 0
  · have HV : Hid (false = isTgt t) := by show _ = _; unfold isTgt; simp [c0]
    obtain rfl := empty_of c0
    clear c0
    go_enter Tryz.func194, Tryz.ntmps194
    go_wp2
    go_ret
    exact ⟨ret_boolS HV.out, rfl⟩
  have hp : 0 < t.size := by omega
  have hne := notEmpty_of hp
  clear c0
  by_cases c1 : t.size ≤ 100
  · have hlast : t.size - 1 < t.size := by omega
    have i1 : (0 : Int) ≤ (t.size : Int) - 1 := by omega
    have b0 := bt_at hp
    have b1 := bt_at hlast
    cases c2 : ((t[0].toNat : Int) == 32)
    · cases c3 : ((t[t.size - 1].toNat : Int) == 32)
      · have HP : Hid (isTgt t = decide (upto (notB tgtB) t 0 = t.size)) := by
          show _ = _
          unfold isTgt
          rw [b0, b1, c2, c3]
          simp [hp, c1]
        clear b0 b1
        go_enter Tryz.func194, Tryz.ntmps194
        go_wp2
        go_loop [26] (fun i => ∃ k : Nat, k ≤ t.size ∧ i = .int .i64 k ∧ Hid (upto (notB tgtB) t k = upto (notB tgtB) t 0)) (fun i => t.size - (intOf i).toNat)
        case atStart => exact ⟨0, Nat.zero_le _, rfl, rfl⟩
        case round =>
          obtain ⟨k, hk, rfl, hu⟩ := hrel
          by_cases hlt : k < t.size
          · have hb := bt_at hlt
            have hc0 : (0 : Int) ≤ (t[k].toNat : Int) := by omega
            have hc1 : (t[k].toNat : Int) ≤ 255 := by have := (t[k]).toNat_lt; omega
            cases c4 : tgtB (t[k].toNat : Int)
            · have HV : Hid (false = isTgt t) := by
                show _ = _
                rw [HP.out, ← hu.out, upto_stop (by rw [hb]; unfold notB; rw [c4]; rfl)]
                simp; omega
              clear hb
              go_wp2_with fail
              refine (inTarget_any _ _ hc0 hc1).mono ?_
              rintro e w1 ⟨rfl, rfl⟩
              rw [c4]
              go_wp2
              go_ret
              exact ⟨ret_boolS HV.out, rfl⟩
            · have HU : Hid (upto (notB tgtB) t (k + 1) = upto (notB tgtB) t 0) := (upto_go hlt (by rw [hb]; unfold notB; rw [c4]; rfl)).symm.trans hu.out
              clear hb
              go_wp2_with fail
              refine (inTarget_any _ _ hc0 hc1).mono ?_
              rintro e w1 ⟨rfl, rfl⟩
              rw [c4]
              go_wp2
              go_round
              case rel => exact ⟨k + 1, by omega, by go_num, HU⟩
              case measure => simp [intOf]; omega
          · obtain rfl : k = t.size := by omega
            have HV : Hid (true = isTgt t) := by
              show _ = _
              rw [HP.out, ← hu.out, upto_out (Nat.le_refl _)]
              simp
            go_wp2
            go_ret
            exact ⟨ret_boolS HV.out, rfl⟩
      · have HV : Hid (false = isTgt t) := by show _ = _; unfold isTgt; rw [b0, b1, c2, c3]; simp
        clear b0 b1
        go_enter Tryz.func194, Tryz.ntmps194
        go_wp2
        go_ret
        exact ⟨ret_boolS HV.out, rfl⟩
    · have HV : Hid (false = isTgt t) := by show _ = _; unfold isTgt; rw [b0, c2]; simp
      clear b0 b1
      go_enter Tryz.func194, Tryz.ntmps194
      go_wp2
      go_ret
      exact ⟨ret_boolS HV.out, rfl⟩
  · have HV : Hid (false = isTgt t) := by show _ = _; unfold isTgt; simp [c1]
    have c1' : (100 : Int) < (t.size : Int) := by omega
    clear c1
    go_enter Tryz.func194, Tryz.ntmps194
    go_wp2
    go_ret
    exact ⟨ret_boolS HV.out, rfl⟩
end Go.Proofs.YtnlonleljbbgoaaGreatDoor
namespace Go.Proofs.YtnlonleljbbgoaaGreatDoor
open Go.RowKit

theorem indexByte_ext (s : ByteArray) (a : Nat) (c : UInt8) : Lib.indexByte (s.extract a s.size).data.toList c = if upto (isC c.toNat) s a < s.size then (upto (isC c.toNat) s a : Int) - a else -1 := by
  rw [ext_list]; exact indexByte_upto s c _ a rfl

set_option maxHeartbeats 1000000 in
theorem codeAt_any (s : ByteArray) (a : Nat) (w : World) (hs : s.size ≤ 4294967280) (ha : a < s.size) :
    Calls Tryz.prog 295 #[.string s, .int .i64 a] w fun e w' => e = .returned (tokV (tokC s a)) ∧ Below w.heap.size w w' := by
  have hi0 : (0 : Int) ≤ (a : Int) := by omega
  have hi1 : (a : Int) < (s.size : Int) := by omega
  by_cases c1 : bt s a = 96
  · have g1 : ((s[a].toNat : Int) != 96) = false := by rw [bt_at ha] at c1; simpa using c1
    have hi2 : (a : Int) + 1 ≤ (s.size : Int) := by omega
    have hJ := upto_ge (isC 96) s (a + 1)
    have hJ2 := upto_le (stop := isC 96) (s := s) (i := a + 1) (by omega)
    have hx := indexByte_ext s (a + 1) 96
    rw [show isC (96 : UInt8).toNat = isC 96 from rfl] at hx
    by_cases c2 : upto (isC 96) s (a + 1) < s.size ∧ a + 1 < upto (isC 96) s (a + 1)
    · obtain ⟨m, hm⟩ : ∃ m : Nat, upto (isC 96) s (a + 1) = a + 1 + m := ⟨upto (isC 96) s (a + 1) - (a + 1), by omega⟩
      have hm1 : 1 ≤ m := by omega
      have hm2 : a + 1 + m < s.size := by omega
      have hxm : Lib.indexByte (s.extract (a + 1) s.size).data.toList 96 = (m : Int) := by rw [hx, if_pos (by omega), hm]; omega
      have HV : Hid (Ending.returned (.tuple #[.agg #[.int .i64 3, .int .i64 a, .int .i64 (a + m + 2), .string (s.extract (a + 1) (a + 1 + m)), .string ⟨#[]⟩, .int .i64 0, .bool false], .bool true]) = .returned (tokV (tokC s a))) := by
        show _ = _
        unfold tokC
        rw [if_pos ⟨c1, c2.1, c2.2⟩, hm]
        unfold tokV spV noB
        simp only
        rw [show ((a + 1 + m + 1 : Nat) : Int) = (a : Int) + m + 2 by omega]
      clear c1 c2 hJ hJ2 hx hm
      go_enter Tryz.func295, Tryz.ntmps295
      go_wp2_with fail
      refine (Tryz.strings_IndexByte _ _ _).mono ?_
      rintro e w1 ⟨rfl, rfl⟩
      rw [show ((96 : Int).toNat.toUInt8) = 96 from rfl, hxm]
      go_wp2
      refine bodyPost_ret (v := .tuple #[.agg #[.int .i64 3, .int .i64 a, .int .i64 (a + m + 2), .string (s.extract (a + 1) (a + 1 + m)), .string ⟨#[]⟩, .int .i64 0, .bool false], .bool true]) (by simp [results, Tryz.results295, go_sem]) rfl ⟨HV.out, (Below.refl _ _).alloc (Nat.le_refl _) _⟩
    · obtain ⟨x, hxx, hx0⟩ : ∃ x : Int, Lib.indexByte (s.extract (a + 1) s.size).data.toList 96 = x ∧ x < 1 := by
        refine ⟨_, rfl, ?_⟩
        rw [hx]
        split <;> omega
      have HV : Hid (Ending.returned (.tuple #[spZ, .bool false]) = .returned (tokV (tokC s a))) := by show _ = _; unfold tokC; rw [if_neg (fun h => c2 h.2)]; rfl
      clear c1 c2 hJ hJ2 hx
      go_enter Tryz.func295, Tryz.ntmps295
      go_wp2_with fail
      refine (Tryz.strings_IndexByte _ _ _).mono ?_
      rintro e w1 ⟨rfl, rfl⟩
      rw [show ((96 : Int).toNat.toUInt8) = 96 from rfl, hxx]
      clear hxx
      go_wp2
      refine bodyPost_ret (v := .tuple #[spZ, .bool false]) (by simp [results, Tryz.results295, go_sem, spZ]) rfl ⟨HV.out, (Below.refl _ _).alloc (Nat.le_refl _) _⟩
  · have g1 : ((s[a].toNat : Int) != 96) = true := by rw [bt_at ha] at c1; simpa using c1
    have HV : Hid (Ending.returned (.tuple #[spZ, .bool false]) = .returned (tokV (tokC s a))) := by show _ = _; unfold tokC; rw [if_neg (fun h => c1 h.1)]; rfl
    clear c1
    go_enter Tryz.func295, Tryz.ntmps295
    go_wp2
    refine bodyPost_ret (v := .tuple #[spZ, .bool false]) (by simp [results, Tryz.results295, go_sem, spZ]) rfl ⟨HV.out, (Below.refl _ _).alloc (Nat.le_refl _) _⟩
end Go.Proofs.YtnlonleljbbgoaaGreatDoor
