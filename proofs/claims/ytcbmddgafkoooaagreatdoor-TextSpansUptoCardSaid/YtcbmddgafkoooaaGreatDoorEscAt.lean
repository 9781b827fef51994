/-
  DERIVED. Plain law: the sorts of bytes. Conditions: none.
  The walks of the functions that sort bytes. Conditions: a byte.
  Plain law: the byte at a place, the first place from which on a byte is of a sort; what the library's searches say in these words. Conditions: none.
  Plain law: the tokens of a text, as the code finds them. Conditions: none.
  The walk of text.escapeAt. Conditions: a place in the text.
  The walk of text.isTarget. Conditions: a length in reach.
  By an AI agent.
-/
import Derived.WalkKit
import Derived.Test.YtcbmddgafkoooaaGreatDoorBase
import Derived.Test.YtcbmddgafkoooaaGreatDoorChecked
import Derived.Lib.IndexAny
import Derived.Lib.Strings
import Derived.Lib.Bytealg
import Derived.WalkSpells
namespace Go.Proofs.YtcbmddgafkoooaaGreatDoor
open Go.RowKit

theorem ret_boolS {a b : Bool} (h : a = b) : Ending.returned (.bool a) = .returned (.bool b) := by rw [h]
def letB (n : Int) : Bool := decide (97 ≤ n ∧ n ≤ 122 ∨ 65 ≤ n ∧ n ≤ 90 ∨ 128 ≤ n)
def digB (n : Int) : Bool := decide (48 ≤ n ∧ n ≤ 57)
def punB (n : Int) : Bool := decide (33 ≤ n ∧ n ≤ 47 ∨ 58 ≤ n ∧ n ≤ 64 ∨ 91 ≤ n ∧ n ≤ 96 ∨ 123 ≤ n ∧ n ≤ 126)
def tgtB (n : Int) : Bool := decide (32 ≤ n ∧ n ≠ 91 ∧ n ≠ 93 ∧ n ≠ 124 ∧ n ≠ 96)
def tagB (n : Int) : Bool := decide ((97 ≤ n ∧ n ≤ 122 ∨ 65 ≤ n ∧ n ≤ 90 ∨ 128 ≤ n) ∨ (48 ≤ n ∧ n ≤ 57) ∨ n = 95 ∨ n = 45 ∨ n = 47)
end Go.Proofs.YtcbmddgafkoooaaGreatDoor
namespace Go.Proofs.YtcbmddgafkoooaaGreatDoor
open Go.RowKit

set_option maxHeartbeats 400000 in
theorem isLetter_any (n : Int) (w : World) (_h0 : 0 ≤ n) (_h1 : n ≤ 255) : Calls Tryz.prog 94 #[.int .u8 n] w fun e w' => e = .returned (.bool (letB n)) ∧ w = w' := by
  go_enter Tryz.func94, Tryz.ntmps94
  go_wp2
  all_goals go_ret
  all_goals exact ⟨ret_boolS (by rw [Bool.eq_iff_iff]; simp [letB] <;> omega), rfl⟩

set_option maxHeartbeats 400000 in
theorem isDigit_any (n : Int) (w : World) (_h0 : 0 ≤ n) (_h1 : n ≤ 255) : Calls Tryz.prog 92 #[.int .u8 n] w fun e w' => e = .returned (.bool (digB n)) ∧ w = w' := by
  go_enter Tryz.func92, Tryz.ntmps92
  go_wp2
  all_goals go_ret
  all_goals exact ⟨ret_boolS (by rw [Bool.eq_iff_iff]; simp [digB] <;> omega), rfl⟩

set_option maxHeartbeats 400000 in
theorem isPunct_any (n : Int) (w : World) (_h0 : 0 ≤ n) (_h1 : n ≤ 255) : Calls Tryz.prog 89 #[.int .u8 n] w fun e w' => e = .returned (.bool (punB n)) ∧ w = w' := by
  go_enter Tryz.func89, Tryz.ntmps89
  go_wp2
  all_goals go_ret
  all_goals exact ⟨ret_boolS (by rw [Bool.eq_iff_iff]; simp [punB] <;> omega), rfl⟩

set_option maxHeartbeats 400000 in
theorem inTarget_any (n : Int) (w : World) (_h0 : 0 ≤ n) (_h1 : n ≤ 255) : Calls Tryz.prog 90 #[.int .u8 n] w fun e w' => e = .returned (.bool (tgtB n)) ∧ w = w' := by
  go_enter Tryz.func90, Tryz.ntmps90
  go_wp2
  all_goals go_ret
  all_goals exact ⟨ret_boolS (by rw [Bool.eq_iff_iff]; simp [tgtB] <;> omega), rfl⟩

set_option maxHeartbeats 400000 in
theorem rLetter_any (n : Int) (w : World) (_h0 : 0 ≤ n) (_h1 : n ≤ 255) : Calls Tryz.prog 58 #[.int .u8 n] w fun e w' => e = .returned (.bool (letB n)) ∧ w = w' := by
  go_enter Tryz.func58, Tryz.ntmps58
  go_wp2
  all_goals go_ret
  all_goals exact ⟨ret_boolS (by rw [Bool.eq_iff_iff]; simp [letB] <;> omega), rfl⟩

set_option maxHeartbeats 400000 in
theorem rDigit_any (n : Int) (w : World) (_h0 : 0 ≤ n) (_h1 : n ≤ 255) : Calls Tryz.prog 57 #[.int .u8 n] w fun e w' => e = .returned (.bool (digB n)) ∧ w = w' := by
  go_enter Tryz.func57, Tryz.ntmps57
  go_wp2
  all_goals go_ret
  all_goals exact ⟨ret_boolS (by rw [Bool.eq_iff_iff]; simp [digB] <;> omega), rfl⟩

set_option maxHeartbeats 400000 in
theorem rPunct_any (n : Int) (w : World) (_h0 : 0 ≤ n) (_h1 : n ≤ 255) : Calls Tryz.prog 52 #[.int .u8 n] w fun e w' => e = .returned (.bool (punB n)) ∧ w = w' := by
  go_enter Tryz.func52, Tryz.ntmps52
  go_wp2
  all_goals go_ret
  all_goals exact ⟨ret_boolS (by rw [Bool.eq_iff_iff]; simp [punB] <;> omega), rfl⟩

end Go.Proofs.YtcbmddgafkoooaaGreatDoor
namespace Go.Proofs.YtcbmddgafkoooaaGreatDoor
open Go.RowKit

/-- the byte at a place; -1 behind the end -/
def bt (s : ByteArray) (i : Nat) : Int := if h : i < s.size then ((s[i]'h).toNat : Int) else -1
theorem bt_at {s : ByteArray} {i : Nat} (h : i < s.size) : bt s i = (s[i].toNat : Int) := by unfold bt; rw [dif_pos h]
theorem bt_out {s : ByteArray} {i : Nat} (h : s.size ≤ i) : bt s i = -1 := by unfold bt; rw [dif_neg (by omega)]
theorem bt_lo (s : ByteArray) (i : Nat) : -1 ≤ bt s i := by unfold bt; split <;> omega
theorem bt_in {s : ByteArray} {i : Nat} (h : 0 ≤ bt s i) : i < s.size := by
  rcases Nat.lt_or_ge i s.size with h' | h'
  · exact h'
  · rw [bt_out h'] at h; omega
theorem bt_hi (s : ByteArray) (i : Nat) : bt s i ≤ 255 := by
  unfold bt; split
  · have := (s[i]).toNat_lt; omega
  · omega

def uptoN (stop : Int → Bool) (s : ByteArray) : Nat → Nat → Nat
  | 0, i => i
  | n + 1, i => if stop (bt s i) = true then i else uptoN stop s n (i + 1)
/-- the first place from i on at which the byte stops -/
def upto (stop : Int → Bool) (s : ByteArray) (i : Nat) : Nat := uptoN stop s (s.size - i) i

theorem upto_out {stop : Int → Bool} {s : ByteArray} {i : Nat} (h : s.size ≤ i) : upto stop s i = i := by unfold upto; rw [show s.size - i = 0 by omega]; rfl
theorem upto_go {stop : Int → Bool} {s : ByteArray} {i : Nat} (hi : i < s.size) (h : stop (bt s i) = false) : upto stop s i = upto stop s (i + 1) := by
  unfold upto
  obtain ⟨n, hn⟩ : ∃ n, s.size - i = n + 1 := ⟨s.size - i - 1, by omega⟩
  rw [hn, show s.size - (i + 1) = n by omega]
  simp [uptoN, h]
theorem upto_stop {stop : Int → Bool} {s : ByteArray} {i : Nat} (h : stop (bt s i) = true) : upto stop s i = i := by
  unfold upto
  cases s.size - i <;> simp [uptoN, h]

theorem upto_spec (stop : Int → Bool) (s : ByteArray) : ∀ n i, s.size - i = n → i ≤ upto stop s i ∧ (i ≤ s.size → upto stop s i ≤ s.size) ∧ (∀ j, i ≤ j → j < upto stop s i → stop (bt s j) = false) ∧ (upto stop s i < s.size → stop (bt s (upto stop s i)) = true)
  | 0, i, hn => by
    rw [upto_out (by omega)]
    exact ⟨Nat.le_refl _, fun h => h, fun j h1 h2 => by omega, fun h => by omega⟩
  | n + 1, i, hn => by
    cases h : stop (bt s i)
    · rw [upto_go (by omega) h]
      obtain ⟨h1, h2, h3, h4⟩ := upto_spec stop s n (i + 1) (by omega)
      refine ⟨by omega, fun _ => h2 (by omega), fun j hj hj' => ?_, h4⟩
      rcases Nat.lt_or_ge i j with g | g
      · exact h3 j g hj'
      · rw [show j = i by omega]; exact h
    · rw [upto_stop h]
      exact ⟨Nat.le_refl _, fun h => h, fun j h1 h2 => by omega, fun _ => h⟩
theorem upto_ge (stop : Int → Bool) (s : ByteArray) (i : Nat) : i ≤ upto stop s i := (upto_spec stop s _ i rfl).1
theorem upto_le {stop : Int → Bool} {s : ByteArray} {i : Nat} (h : i ≤ s.size) : upto stop s i ≤ s.size := (upto_spec stop s _ i rfl).2.1 h
theorem upto_mid {stop : Int → Bool} {s : ByteArray} {i j : Nat} (h : i ≤ j) (h' : j < upto stop s i) : stop (bt s j) = false := (upto_spec stop s _ i rfl).2.2.1 j h h'
theorem upto_at {stop : Int → Bool} {s : ByteArray} {i : Nat} (h : upto stop s i < s.size) : stop (bt s (upto stop s i)) = true := (upto_spec stop s _ i rfl).2.2.2 h
theorem upto_eq {stop : Int → Bool} {s : ByteArray} {i k : Nat} (hk : i ≤ k) (hs : k ≤ s.size) (hm : ∀ j, i ≤ j → j < k → stop (bt s j) = false) (he : k = s.size ∨ stop (bt s k) = true) : upto stop s i = k := by
  rcases Nat.lt_trichotomy (upto stop s i) k with h | h | h
  · have h1 := hm _ (upto_ge stop s i) h
    have h2 : stop (bt s (upto stop s i)) = true := upto_at (by omega)
    rw [h2] at h1
    cases h1
  · exact h
  · rcases he with rfl | he
    · have := upto_le (stop := stop) (s := s) (i := i) (by omega)
      omega
    · rw [upto_mid hk h] at he; cases he

/-! ### the library's words -/
theorem ext_list (s : ByteArray) (a : Nat) : (s.extract a s.size).data.toList = s.data.toList.drop a := by
  rw [ByteArray.data_extract, Array.toList_extract]
  simp [List.extract]
  rw [List.take_of_length_le (by simp)]

theorem drop_bt {s : ByteArray} {a : Nat} (h : a < s.size) : s.data.toList.drop a = s[a] :: s.data.toList.drop (a + 1) := by
  rw [List.drop_eq_getElem_cons (by simpa using h)]
  rfl
theorem drop_out {s : ByteArray} {a : Nat} (h : s.size ≤ a) : s.data.toList.drop a = [] := List.drop_eq_nil_of_le (by simpa using h)

def isC (c : Int) : Int → Bool := fun n => n == c
theorem indexByte_upto (s : ByteArray) (c : UInt8) : ∀ n a, s.size - a = n → Lib.indexByte (s.data.toList.drop a) c = if upto (isC c.toNat) s a < s.size then (upto (isC c.toNat) s a : Int) - a else -1
  | 0, a, hn => by rw [drop_out (by omega), upto_out (by omega), if_neg (by omega)]; rfl
  | n + 1, a, hn => by
    have ha : a < s.size := by omega
    rw [drop_bt ha]
    simp only [Lib.indexByte]
    by_cases h : s[a] = c
    · have : isC c.toNat (bt s a) = true := by rw [bt_at ha, h]; simp [isC]
      rw [upto_stop this, if_pos (by simp [h]), if_pos ha]
      omega
    · have : isC c.toNat (bt s a) = false := by
        rw [bt_at ha]; simp [isC]
        intro e; exact h (UInt8.toNat_inj.1 (by omega))
      rw [upto_go ha this, indexByte_upto s c n (a + 1) (by omega), if_neg (by simpa using h)]
      have := upto_ge (isC c.toNat) s (a + 1)
      split
      · rw [if_neg (by simp; omega)]; omega
      · rfl

/-- the first of some bytes -/
def isAny (l : List UInt8) : Int → Bool := fun n => l.any fun c => n == c.toNat
theorem isAny_byte (l : List UInt8) (b : UInt8) : isAny l (b.toNat : Int) = l.contains b := by
  unfold isAny
  induction l with
  | nil => rfl
  | cons c l ih =>
    simp only [List.any_cons, List.contains_cons, ih]
    congr 1
    rw [Bool.eq_iff_iff]
    simp
    constructor
    · intro h; exact UInt8.toNat_inj.1 (by omega)
    · intro h; rw [h]
theorem indexAny_upto (s : ByteArray) (l : List UInt8) : ∀ n a, s.size - a = n → Lib.indexAny (s.data.toList.drop a) l = if upto (isAny l) s a < s.size then (upto (isAny l) s a : Int) - a else -1
  | 0, a, hn => by rw [drop_out (by omega), upto_out (by omega), if_neg (by omega)]; rfl
  | n + 1, a, hn => by
    have ha : a < s.size := by omega
    rw [drop_bt ha]
    simp only [Lib.indexAny]
    have hb := isAny_byte l s[a]
    rw [← bt_at ha] at hb
    cases h : l.contains s[a]
    · rw [h] at hb
      rw [upto_go ha hb, indexAny_upto s l n (a + 1) (by omega), if_neg (by simp)]
      have := upto_ge (isAny l) s (a + 1)
      split
      · rw [if_neg (by simp; omega)]; omega
      · rfl
    · rw [h] at hb
      rw [upto_stop hb, if_pos rfl, if_pos ha]
      omega

theorem hasPrefix_two (s : ByteArray) (a : Nat) (c d : UInt8) : Lib.hasPrefix (s.extract a s.size).data.toList [c, d] = (bt s a == c.toNat && bt s (a + 1) == d.toNat) := by
  rw [ext_list]
  unfold Lib.hasPrefix
  have key : ∀ (x y : UInt8), (x == y) = ((y.toNat : Int) == (x.toNat : Int)) := fun x y => by
    rw [Bool.eq_iff_iff]; simp
    constructor
    · intro h; rw [h]
    · intro h; exact UInt8.toNat_inj.1 (by omega)
  by_cases h : a < s.size
  · rw [drop_bt h, bt_at h]
    by_cases h' : a + 1 < s.size
    · rw [drop_bt h', bt_at h']
      simp only [List.isPrefixOf, Bool.and_true, key]
    · rw [drop_out (by omega), bt_out (by omega)]
      simp [List.isPrefixOf]
  · rw [drop_out (by omega), bt_out (by omega)]
    simp [List.isPrefixOf]
theorem hasPrefix_one (s : ByteArray) (a : Nat) (c : UInt8) : Lib.hasPrefix (s.extract a s.size).data.toList [c] = (bt s a == c.toNat) := by
  rw [ext_list]
  unfold Lib.hasPrefix
  have key : ∀ (x y : UInt8), (x == y) = ((y.toNat : Int) == (x.toNat : Int)) := fun x y => by
    rw [Bool.eq_iff_iff]; simp
    constructor
    · intro h; rw [h]
    · intro h; exact UInt8.toNat_inj.1 (by omega)
  by_cases h : a < s.size
  · rw [drop_bt h, bt_at h]
    simp only [List.isPrefixOf, Bool.and_true, key]
  · rw [drop_out (by omega), bt_out (by omega)]
    simp [List.isPrefixOf]
end Go.Proofs.YtcbmddgafkoooaaGreatDoor
namespace Go.Proofs.YtcbmddgafkoooaaGreatDoor
open Go.RowKit

/-- a span; the number of a reference is its decimal digits' -/
structure Sp where
  kind : Int
  frm : Nat
  to_ : Nat
  text : ByteArray
  show_ : ByteArray
  id : Int
  strong : Bool

def noB : ByteArray := ⟨#[]⟩
def spCells (x : Sp) : List Value := [.int .i64 x.kind, .int .i64 x.frm, .int .i64 x.to_, .string x.text, .string x.show_, .int .i64 x.id, .bool x.strong]
def spV (x : Sp) : Value := .agg #[.int .i64 x.kind, .int .i64 x.frm, .int .i64 x.to_, .string x.text, .string x.show_, .int .i64 x.id, .bool x.strong]
def spZ : Value := .agg #[.int .i64 0, .int .i64 0, .int .i64 0, .string ⟨#[]⟩, .string ⟨#[]⟩, .int .i64 0, .bool false]
/-- a token, or none -/
def tokV : Option Sp → Value
  | some x => .tuple #[spV x, .bool true]
  | none => .tuple #[spZ, .bool false]

def notB (p : Int → Bool) : Int → Bool := fun n => !p n

/-- Is it the target of a link? -/
def isTgt (t : ByteArray) : Bool := decide (0 < t.size) && decide (t.size ≤ 100) && !(bt t 0 == 32) && !(bt t (t.size - 1) == 32) && decide (upto (notB tgtB) t 0 = t.size)

def digVal (l : List UInt8) : Nat := l.foldl (fun n c => 10 * n + (c.toNat - 48)) 0

def tokE (s : ByteArray) (a : Nat) : Option Sp :=
  if bt s a = 92 ∧ punB (bt s (a + 1)) = true then some ⟨2, a, a + 2, s.extract (a + 1) (a + 2), noB, 0, false⟩ else none
def tokC (s : ByteArray) (a : Nat) : Option Sp :=
  let j := upto (isC 96) s (a + 1)
  if bt s a = 96 ∧ j < s.size ∧ a + 1 < j then some ⟨3, a, j + 1, s.extract (a + 1) j, noB, 0, false⟩ else none
def tokL (s : ByteArray) (a : Nat) : Option Sp :=
  let e := upto (notB tgtB) s (a + 2)
  let j := upto (isAny [91, 93]) s (e + 1)
  if bt s a = 91 ∧ bt s (a + 1) = 91 ∧ isTgt (s.extract (a + 2) e) = true then
    if bt s e = 93 ∧ bt s (e + 1) = 93 then some ⟨4, a, e + 2, s.extract (a + 2) e, noB, 0, false⟩
    else if bt s e = 124 ∧ j < s.size ∧ e + 1 < j ∧ bt s j = 93 ∧ bt s (j + 1) = 93 then some ⟨4, a, j + 2, s.extract (a + 2) e, s.extract (e + 1) j, 0, false⟩
    else none
  else none
def tokR (s : ByteArray) (a : Nat) : Option Sp :=
  let e := upto (notB digB) s (a + 2)
  if bt s a = 40 ∧ bt s (a + 1) = 40 ∧ a + 2 < e ∧ e ≤ a + 9 ∧ bt s (a + 2) ≠ 48 ∧ bt s e = 41 ∧ bt s (e + 1) = 41 ∧ digVal (s.extract (a + 2) e).data.toList ≤ 1000000 then
    some ⟨5, a, e + 2, s.extract (a + 2) e, noB, digVal (s.extract (a + 2) e).data.toList, false⟩
  else none
/-- may a tag begin behind this byte? (-1: at the beginning) -/
def preT (n : Int) : Bool := !(letB n || digB n || n == 35 || n == 38)
def tokT (s : ByteArray) (a : Nat) : Option Sp :=
  let e := upto (notB tagB) s (a + 1)
  if bt s a = 35 ∧ (a = 0 ∨ preT (bt s (a - 1)) = true) ∧ upto letB s (a + 1) < e ∧ e ≤ a + 101 ∧ bt s (a + 1) ≠ 47 ∧ bt s (e - 1) ≠ 47 then
    some ⟨6, a, e, s.extract (a + 1) e, noB, 0, false⟩
  else none
def tokB (s : ByteArray) (a : Nat) : Option Sp :=
  if bt s a = 42 ∧ bt s (a + 1) = 42 then some ⟨7, a, a + 2, ⟨#[42, 42]⟩, noB, 0, false⟩ else none
def plainAt (a : Nat) : Sp := ⟨1, a, a + 1, noB, noB, 0, false⟩
/-- what stands at a place -/
def tokA (s : ByteArray) (a : Nat) : Sp := ((tokE s a).or ((tokC s a).or ((tokL s a).or ((tokR s a).or ((tokT s a).or (tokB s a)))))).getD (plainAt a)

end Go.Proofs.YtcbmddgafkoooaaGreatDoor
namespace Go.Proofs.YtcbmddgafkoooaaGreatDoor
open Go.RowKit

theorem ret_eq {a b : Value} (h : a = b) : Ending.returned a = .returned b := by rw [h]

set_option maxHeartbeats 1000000 in
theorem escapeAt_any (s : ByteArray) (a : Nat) (w : World) (hs : s.size ≤ 4294967280) (ha : a < s.size) :
    Calls Tryz.prog 72 #[.string s, .int .i64 a] w fun e w' => e = .returned (tokV (tokE s a)) ∧ Below w.heap.size w w' := by
  have hi0 : (0 : Int) ≤ (a : Int) := by omega
  have hi1 : (a : Int) < (s.size : Int) := by omega
  by_cases c1 : bt s a = 92
  · have g1 : ((s[a].toNat : Int) != 92) = false := by rw [bt_at ha] at c1; simpa using c1
    by_cases c2 : a + 1 < s.size
    · have e2 : ((a : Int) + 1 == (s.size : Int)) = false := beq_eq_false_iff_ne.2 (by omega)
      have hi2 : (a : Int) + 1 < (s.size : Int) := by omega
      have hb := bt_at c2
      have hc0 : (0 : Int) ≤ (s[a + 1].toNat : Int) := by omega
      have hc1 : (s[a + 1].toNat : Int) ≤ 255 := by have := (s[a + 1]).toNat_lt; omega
      cases c3 : punB (s[a + 1].toNat : Int)
      · have HV : Hid (Ending.returned (.tuple #[spZ, .bool false]) = .returned (tokV (tokE s a))) := by show _ = _; unfold tokE; rw [if_neg (by rw [hb, c3]; simp)]; rfl
        clear c1 hb
        go_enter Tryz.func72, Tryz.ntmps72
        go_wp2_with fail
        refine (isPunct_any _ _ hc0 hc1).mono ?_
        rintro e w1 ⟨rfl, hw1⟩
        rw [c3, ← hw1]
        clear hw1
        go_wp2
        refine bodyPost_ret (v := .tuple #[spZ, .bool false]) (by simp [results, Tryz.results72, go_sem, spZ]) rfl ⟨HV.out, (Below.refl _ _).alloc (Nat.le_refl _) _⟩
      · have HV : Hid (Ending.returned (.tuple #[.agg #[.int .i64 2, .int .i64 a, .int .i64 (a + 2), .string (s.extract (a + 1) (a + 2)), .string ⟨#[]⟩, .int .i64 0, .bool false], .bool true]) = .returned (tokV (tokE s a))) := by show _ = _; unfold tokE; rw [if_pos ⟨c1, by rw [hb, c3]⟩]; rfl
        clear c1 hb
        have hi3 : (a : Int) + 2 ≤ (s.size : Int) := by omega
        go_enter Tryz.func72, Tryz.ntmps72
        go_wp2_with fail
        refine (isPunct_any _ _ hc0 hc1).mono ?_
        rintro e w1 ⟨rfl, hw1⟩
        rw [c3, ← hw1]
        clear hw1
        go_wp2
        refine bodyPost_ret (v := .tuple #[.agg #[.int .i64 2, .int .i64 a, .int .i64 (a + 2), .string (s.extract (a + 1) (a + 2)), .string ⟨#[]⟩, .int .i64 0, .bool false], .bool true]) (by simp [results, Tryz.results72, go_sem]) rfl ⟨HV.out, (Below.refl _ _).alloc (Nat.le_refl _) _⟩
    · have e2 : ((a : Int) + 1 == (s.size : Int)) = true := beq_iff_eq.2 (by omega)
      have HV : Hid (Ending.returned (.tuple #[spZ, .bool false]) = .returned (tokV (tokE s a))) := by show _ = _; unfold tokE; rw [if_neg (by rw [bt_out (show s.size ≤ a + 1 by omega)]; simp [punB])]; rfl
      clear c1
      go_enter Tryz.func72, Tryz.ntmps72
      go_wp2
      refine bodyPost_ret (v := .tuple #[spZ, .bool false]) (by simp [results, Tryz.results72, go_sem, spZ]) rfl ⟨HV.out, (Below.refl _ _).alloc (Nat.le_refl _) _⟩
  · have g1 : ((s[a].toNat : Int) != 92) = true := by rw [bt_at ha] at c1; simpa using c1
    have HV : Hid (Ending.returned (.tuple #[spZ, .bool false]) = .returned (tokV (tokE s a))) := by show _ = _; unfold tokE; rw [if_neg (fun h => c1 h.1)]; rfl
    clear c1
    go_enter Tryz.func72, Tryz.ntmps72
    go_wp2
    refine bodyPost_ret (v := .tuple #[spZ, .bool false]) (by simp [results, Tryz.results72, go_sem, spZ]) rfl ⟨HV.out, (Below.refl _ _).alloc (Nat.le_refl _) _⟩
end Go.Proofs.YtcbmddgafkoooaaGreatDoor
namespace Go.Proofs.YtcbmddgafkoooaaGreatDoor
open Go.RowKit

theorem empty_of {t : ByteArray} (h : t.size = 0) : t = ⟨#[]⟩ := by
  obtain ⟨⟨l⟩⟩ := t
  have : l.length = 0 := h
  rw [List.length_eq_zero_iff.1 this]
theorem notEmpty_of {t : ByteArray} (h : 0 < t.size) : t.toList.isEmpty = false := by
  rw [ByteArray.toList_eq]
  obtain ⟨⟨l⟩⟩ := t
  cases l with
  | nil => cases h
  | cons a l => rfl

set_option maxHeartbeats 2000000 in
theorem isTarget_any (t : ByteArray) (w : World) (hs : t.size ≤ 4294967280) :
    Calls Tryz.prog 91 #[.string t] w fun e w' => e = .returned (.bool (isTgt t)) ∧ w = w' := by
  by_cases c0 : t.size = 0
  · have HV : Hid (false = isTgt t) := by show _ = _; unfold isTgt; simp [c0]
    obtain rfl := empty_of c0
    clear c0
    go_enter Tryz.func91, Tryz.ntmps91
    go_wp2
    go_ret
    exact ⟨ret_boolS HV.out, rfl⟩
  have hp : 0 < t.size := by omega
  have hne := notEmpty_of hp
  clear c0
  by_cases c1 : t.size ≤ 100
  · have hlast : t.size - 1 < t.size := by omega
    have i1 : (0 : Int) ≤ (t.size : Int) - 1 := by omega
    have b0 := bt_at hp
    have b1 := bt_at hlast
    cases c2 : ((t[0].toNat : Int) == 32)
    · cases c3 : ((t[t.size - 1].toNat : Int) == 32)
      · have HP : Hid (isTgt t = decide (upto (notB tgtB) t 0 = t.size)) := by
          show _ = _
          unfold isTgt
          rw [b0, b1, c2, c3]
          simp [hp, c1]
        clear b0 b1
        go_enter Tryz.func91, Tryz.ntmps91
        go_wp2
        go_loop [26] (fun i => ∃ k : Nat, k ≤ t.size ∧ i = .int .i64 k ∧ Hid (upto (notB tgtB) t k = upto (notB tgtB) t 0)) (fun i => t.size - (intOf i).toNat)
        case atStart => exact ⟨0, Nat.zero_le _, rfl, rfl⟩
        case round =>
          obtain ⟨k, hk, rfl, hu⟩ := hrel
          by_cases hlt : k < t.size
          · have hb := bt_at hlt
            have hc0 : (0 : Int) ≤ (t[k].toNat : Int) := by omega
            have hc1 : (t[k].toNat : Int) ≤ 255 := by have := (t[k]).toNat_lt; omega
            cases c4 : tgtB (t[k].toNat : Int)
            · have HV : Hid (false = isTgt t) := by
                show _ = _
                rw [HP.out, ← hu.out, upto_stop (by rw [hb]; unfold notB; rw [c4]; rfl)]
                simp; omega
              clear hb
              go_wp2_with fail
              refine (inTarget_any _ _ hc0 hc1).mono ?_
              rintro e w1 ⟨rfl, rfl⟩
              rw [c4]
              go_wp2
              go_ret
              exact ⟨ret_boolS HV.out, rfl⟩
            · have HU : Hid (upto (notB tgtB) t (k + 1) = upto (notB tgtB) t 0) := (upto_go hlt (by rw [hb]; unfold notB; rw [c4]; rfl)).symm.trans hu.out
              clear hb
              go_wp2_with fail
              refine (inTarget_any _ _ hc0 hc1).mono ?_
              rintro e w1 ⟨rfl, rfl⟩
              rw [c4]
              go_wp2
              go_round
              case rel => exact ⟨k + 1, by omega, by go_num, HU⟩
              case measure => simp [intOf]; omega
          · obtain rfl : k = t.size := by omega
            have HV : Hid (true = isTgt t) := by
              show _ = _
              rw [HP.out, ← hu.out, upto_out (Nat.le_refl _)]
              simp
            go_wp2
            go_ret
            exact ⟨ret_boolS HV.out, rfl⟩
      · have HV : Hid (false = isTgt t) := by show _ = _; unfold isTgt; rw [b0, b1, c2, c3]; simp
        clear b0 b1
        go_enter Tryz.func91, Tryz.ntmps91
        go_wp2
        go_ret
        exact ⟨ret_boolS HV.out, rfl⟩
    · have HV : Hid (false = isTgt t) := by show _ = _; unfold isTgt; rw [b0, c2]; simp
      clear b0 b1
      go_enter Tryz.func91, Tryz.ntmps91
      go_wp2
      go_ret
      exact ⟨ret_boolS HV.out, rfl⟩
  · have HV : Hid (false = isTgt t) := by show _ = _; unfold isTgt; simp [c1]
    have c1' : (100 : Int) < (t.size : Int) := by omega
    clear c1
    go_enter Tryz.func91, Tryz.ntmps91
    go_wp2
    go_ret
    exact ⟨ret_boolS HV.out, rfl⟩
end Go.Proofs.YtcbmddgafkoooaaGreatDoor
