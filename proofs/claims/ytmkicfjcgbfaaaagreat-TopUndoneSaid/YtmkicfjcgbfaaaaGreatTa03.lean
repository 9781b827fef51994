/-
  DERIVED. The walks of prop.usesForm and prop.checkNumbers. Conditions: sizes.
  Bytes of a text at places, the library's searches in them. Conditions: none.
  DERIVED: THE SHELF's CONTRACTS AT THIS DUMP, IN PLAIN WORDS (tools/lay-plain.mjs out of 'TryShelf.lean', which tools/lay-shelf.mjs wrote): THE SAME DECLARATIONS UNDER THE SAME NAMES: 'import', 'namespace', 'open', 'def', 'theorem' AND NOTHING ELSE: no command of the shelf's: FOR A HAND-IN. Each laying: the table of numbers ('.._ren') and one theorem, a field a fact of the dump's own or the kernel's comparison; each contract: ONE APPLICATION.
  strings.IndexRune at a text of ASCII bytes, of a rune beyond ASCII; strings.IndexAny and ContainsAny at ASCII bytes, of every text. Conditions: a length in reach.
  By an AI agent.
-/
import Derived.Test.YtmkicfjcgbfaaaaGreatTa02
import Derived.WalkSpells
import Derived.Deep.QuietTactic
import Derived.BigQuiet
import Derived.Deep.LoopGhost
import Derived.Test.YtmkicfjcgbfaaaaGreatChecked
import Derived.Deep.DeepCutAuto
import Derived.WalkKit
import Derived.Lib.IndexAny
import Derived.Lib.Strings
import Derived.Lib.Bytealg
import Derived.Shelf.Small.Utf8
import Derived.Shelf.Small.Strs
import Derived.Shelf.Strings.Search1
import Derived.Shelf.GgClosure.StringsIndexFunc
import Derived.Shelf.GgClosure.StringsIndexFuncTop
import Derived.Shelf.Strings.Runes
import Derived.Shelf.Strings.IndexAny
import Derived.Shelf.Strings.AsciiSet
import Derived.Shelf.Strings.IndexAnyAll
import Derived.Test.YtmkicfjcgbfaaaaGreatProg
import Derived.Test.YtmkicfjcgbfaaaaGreatTa01
import Derived.Laws.Runes
import Derived.Lib.OthersKept
import Derived.Lib.DecodeN
import Derived.Laws.Externs
namespace Go.Proofs.YtmkicfjcgbfaaaaGreat
open Go.RowKit

def hasI (k : Int) : Bool := (k == 1) || (k == 2) || (k == 4) || (k == 5)
def hasT (k : Int) : Bool := (k == 3) || (k == 6)
/-- a value has no field that its kind does not use -/
def ufB (x : Vl) : Bool := (hasI x.kind || x.int_ == 0) && ((x.kind == 5) || x.to_ == 0) && (hasT x.kind || x.text.toList.isEmpty) && ((x.kind == 7) || ((x.items.length : Int) == 0))

set_option maxHeartbeats 4000000 in
theorem usesForm_any (x : Vl) (A : Option Addr) (n c : Nat) (w : World) (hn : n = x.items.length) :
    Calls Tryz.prog 138 #[AV (x, .slice A n c)] w fun e w' => e = .returned (.bool (ufB x)) ∧ Below w.heap.size w w' := by
  obtain ⟨k, i, t, s, l⟩ := x
  dsimp only [AV, Vl.kind, Vl.int_, Vl.to_, Vl.text, Vl.items] at hn ⊢
  unfold ufB hasI hasT
  dsimp only [Vl.kind, Vl.int_, Vl.to_, Vl.text, Vl.items]
  rw [← hn]
  clear hn
  obtain ⟨k1, h1⟩ : ∃ q, (k == 1) = q := ⟨_, rfl⟩
  obtain ⟨k2, h2⟩ : ∃ q, (k == 2) = q := ⟨_, rfl⟩
  obtain ⟨k3, h3⟩ : ∃ q, (k == 3) = q := ⟨_, rfl⟩
  obtain ⟨k4, h4⟩ : ∃ q, (k == 4) = q := ⟨_, rfl⟩
  obtain ⟨k5, h5⟩ : ∃ q, (k == 5) = q := ⟨_, rfl⟩
  obtain ⟨k6, h6⟩ : ∃ q, (k == 6) = q := ⟨_, rfl⟩
  obtain ⟨k7, h7⟩ : ∃ q, (k == 7) = q := ⟨_, rfl⟩
  obtain ⟨z1, g1⟩ : ∃ q, (i == 0) = q := ⟨_, rfl⟩
  obtain ⟨z2, g2⟩ : ∃ q, (t == 0) = q := ⟨_, rfl⟩
  obtain ⟨z3, g3⟩ : ∃ q, s.toList.isEmpty = q := ⟨_, rfl⟩
  obtain ⟨z4, g4⟩ : ∃ q, ((n : Int) == 0) = q := ⟨_, rfl⟩
  rw [h1, h2, h3, h4, h5, h6, h7, g1, g2, g3, g4]
  have W : True := trivial
  go_enter Tryz.func138, Tryz.ntmps138
  go_upto_region 1 with fail
  go_cut [3] (fun s3 wc => s3 = .bool (k1 || k2 || k4 || k5) ∧ wc = w.alloc (.cells #[.int .i64 k, .int .i64 i, .int .i64 t, .string s, .slice A n c] 29))
  case first =>
    go_wp2_with fail
    all_goals
      go_meet
      exact ⟨by simp_all, rfl⟩
  case rest =>
  obtain ⟨rfl, rfl⟩ := hcut
  go_upto_region 2 with fail
  go_cut [4] (fun s4 wc => s4 = .bool (k3 || k6) ∧ wc = w.alloc (.cells #[.int .i64 k, .int .i64 i, .int .i64 t, .string s, .slice A n c] 29))
  case first =>
    go_wp2_with fail
    all_goals
      go_meet
      exact ⟨by simp_all, rfl⟩
  case rest =>
  obtain ⟨rfl, rfl⟩ := hcut
  obtain ⟨a1, e1⟩ : ∃ q, (k1 || k2 || k4 || k5) = q := ⟨_, rfl⟩
  obtain ⟨a2, e2⟩ : ∃ q, (k3 || k6) = q := ⟨_, rfl⟩
  rw [e1, e2]
  clear h1 h2 h3 h4 h6
  go_wp2_with fail
  all_goals
    go_ret
    exact ⟨by simp_all, (Below.refl _ _).alloc (Nat.le_refl _) _⟩

def outI (n a b : Int) : Bool := decide (n < a ∨ b < n)
/-- the error of the numbers of a value -/
def nuErr (k i t : Int) : Int :=
  if (k == 1) = true then (if outI i 0 1 = true then 2 else 0)
  else if (k == 2) = true then (if outI i (-1000000000) 1000000000 = true then 2 else 0)
  else if (k == 4) = true then (if outI i 0 100000 = true then 2 else 0)
  else if (k == 5) = true then (if (outI i 0 100000 || outI t 0 100000) = true then 2 else if t < i then 5 else 0)
  else 0

set_option maxHeartbeats 4000000 in
theorem checkNumbers_any (x : Vl × Value) (w : World) :
    Calls Tryz.prog 139 #[AV x] w fun e w' => e = .returned (.int .i64 (nuErr x.1.kind x.1.int_ x.1.to_)) ∧ Below w.heap.size w w' := by
  obtain ⟨⟨k, i, t, s, l⟩, v⟩ := x
  dsimp only [AV, Vl.kind, Vl.int_, Vl.to_, Vl.text, Vl.items]
  have HO : Hid (∀ n a b W, Calls Tryz.prog 137 #[.int .i64 n, .int .i64 a, .int .i64 b] W fun e w' => e = .returned (.bool (outI n a b)) ∧ w' = W) := fun n a b W => outsideP_any n a b W
  obtain ⟨k1, h1⟩ : ∃ q, (k == 1) = q := ⟨_, rfl⟩
  obtain ⟨k2, h2⟩ : ∃ q, (k == 2) = q := ⟨_, rfl⟩
  obtain ⟨k4, h4⟩ : ∃ q, (k == 4) = q := ⟨_, rfl⟩
  obtain ⟨k5, h5⟩ : ∃ q, (k == 5) = q := ⟨_, rfl⟩
  unfold nuErr
  rw [h1, h2, h4, h5]
  go_enter Tryz.func139, Tryz.ntmps139
  go_wp2_with (refine (HO.out _ _ _ _).mono ?_; rintro e w1 ⟨rfl, rfl⟩)
  all_goals
    first
      | (go_ret; exact ⟨rfl, (Below.refl _ _).alloc (Nat.le_refl _) _⟩)
      | (go_ret; exact ⟨by simp_all, (Below.refl _ _).alloc (Nat.le_refl _) _⟩)
      | skip
  all_goals fail
end Go.Proofs.YtmkicfjcgbfaaaaGreat
namespace Go.Proofs.YtmkicfjcgbfaaaaGreat
open Go.RowKit

/-- the byte at a place; -1 behind the end -/
def bt (s : ByteArray) (i : Nat) : Int := if h : i < s.size then ((s[i]'h).toNat : Int) else -1
theorem bt_at {s : ByteArray} {i : Nat} (h : i < s.size) : bt s i = (s[i].toNat : Int) := by unfold bt; rw [dif_pos h]
theorem bt_out {s : ByteArray} {i : Nat} (h : s.size ≤ i) : bt s i = -1 := by unfold bt; rw [dif_neg (by omega)]
theorem bt_lo (s : ByteArray) (i : Nat) : -1 ≤ bt s i := by unfold bt; split <;> omega
theorem bt_in {s : ByteArray} {i : Nat} (h : 0 ≤ bt s i) : i < s.size := by
  rcases Nat.lt_or_ge i s.size with h' | h'
  · exact h'
  · rw [bt_out h'] at h; omega
theorem bt_hi (s : ByteArray) (i : Nat) : bt s i ≤ 255 := by
  unfold bt; split
  · have := (s[i]).toNat_lt; omega
  · omega

def uptoN (stop : Int → Bool) (s : ByteArray) : Nat → Nat → Nat
  | 0, i => i
  | n + 1, i => if stop (bt s i) = true then i else uptoN stop s n (i + 1)
/-- the first place from i on at which the byte stops -/
def upto (stop : Int → Bool) (s : ByteArray) (i : Nat) : Nat := uptoN stop s (s.size - i) i

theorem upto_out {stop : Int → Bool} {s : ByteArray} {i : Nat} (h : s.size ≤ i) : upto stop s i = i := by unfold upto; rw [show s.size - i = 0 by omega]; rfl
theorem upto_go {stop : Int → Bool} {s : ByteArray} {i : Nat} (hi : i < s.size) (h : stop (bt s i) = false) : upto stop s i = upto stop s (i + 1) := by
  unfold upto
  obtain ⟨n, hn⟩ : ∃ n, s.size - i = n + 1 := ⟨s.size - i - 1, by omega⟩
  rw [hn, show s.size - (i + 1) = n by omega]
  simp [uptoN, h]
theorem upto_stop {stop : Int → Bool} {s : ByteArray} {i : Nat} (h : stop (bt s i) = true) : upto stop s i = i := by
  unfold upto
  cases s.size - i <;> simp [uptoN, h]

theorem upto_spec (stop : Int → Bool) (s : ByteArray) : ∀ n i, s.size - i = n → i ≤ upto stop s i ∧ (i ≤ s.size → upto stop s i ≤ s.size) ∧ (∀ j, i ≤ j → j < upto stop s i → stop (bt s j) = false) ∧ (upto stop s i < s.size → stop (bt s (upto stop s i)) = true)
  | 0, i, hn => by
    rw [upto_out (by omega)]
    exact ⟨Nat.le_refl _, fun h => h, fun j h1 h2 => by omega, fun h => by omega⟩
  | n + 1, i, hn => by
    cases h : stop (bt s i)
    · rw [upto_go (by omega) h]
      obtain ⟨h1, h2, h3, h4⟩ := upto_spec stop s n (i + 1) (by omega)
      refine ⟨by omega, fun _ => h2 (by omega), fun j hj hj' => ?_, h4⟩
      rcases Nat.lt_or_ge i j with g | g
      · exact h3 j g hj'
      · rw [show j = i by omega]; exact h
    · rw [upto_stop h]
      exact ⟨Nat.le_refl _, fun h => h, fun j h1 h2 => by omega, fun _ => h⟩
theorem upto_ge (stop : Int → Bool) (s : ByteArray) (i : Nat) : i ≤ upto stop s i := (upto_spec stop s _ i rfl).1
theorem upto_le {stop : Int → Bool} {s : ByteArray} {i : Nat} (h : i ≤ s.size) : upto stop s i ≤ s.size := (upto_spec stop s _ i rfl).2.1 h
theorem upto_mid {stop : Int → Bool} {s : ByteArray} {i j : Nat} (h : i ≤ j) (h' : j < upto stop s i) : stop (bt s j) = false := (upto_spec stop s _ i rfl).2.2.1 j h h'
theorem upto_at {stop : Int → Bool} {s : ByteArray} {i : Nat} (h : upto stop s i < s.size) : stop (bt s (upto stop s i)) = true := (upto_spec stop s _ i rfl).2.2.2 h
theorem upto_eq {stop : Int → Bool} {s : ByteArray} {i k : Nat} (hk : i ≤ k) (hs : k ≤ s.size) (hm : ∀ j, i ≤ j → j < k → stop (bt s j) = false) (he : k = s.size ∨ stop (bt s k) = true) : upto stop s i = k := by
  rcases Nat.lt_trichotomy (upto stop s i) k with h | h | h
  · have h1 := hm _ (upto_ge stop s i) h
    have h2 : stop (bt s (upto stop s i)) = true := upto_at (by omega)
    rw [h2] at h1
    cases h1
  · exact h
  · rcases he with rfl | he
    · have := upto_le (stop := stop) (s := s) (i := i) (by omega)
      omega
    · rw [upto_mid hk h] at he; cases he

/-! ### the library's words -/
theorem ext_list (s : ByteArray) (a : Nat) : (s.extract a s.size).data.toList = s.data.toList.drop a := by
  rw [ByteArray.data_extract, Array.toList_extract]
  simp [List.extract]
  rw [List.take_of_length_le (by simp)]

theorem drop_bt {s : ByteArray} {a : Nat} (h : a < s.size) : s.data.toList.drop a = s[a] :: s.data.toList.drop (a + 1) := by
  rw [List.drop_eq_getElem_cons (by simpa using h)]
  rfl
theorem drop_out {s : ByteArray} {a : Nat} (h : s.size ≤ a) : s.data.toList.drop a = [] := List.drop_eq_nil_of_le (by simpa using h)

def isC (c : Int) : Int → Bool := fun n => n == c
theorem indexByte_upto (s : ByteArray) (c : UInt8) : ∀ n a, s.size - a = n → Lib.indexByte (s.data.toList.drop a) c = if upto (isC c.toNat) s a < s.size then (upto (isC c.toNat) s a : Int) - a else -1
  | 0, a, hn => by rw [drop_out (by omega), upto_out (by omega), if_neg (by omega)]; rfl
  | n + 1, a, hn => by
    have ha : a < s.size := by omega
    rw [drop_bt ha]
    simp only [Lib.indexByte]
    by_cases h : s[a] = c
    · have : isC c.toNat (bt s a) = true := by rw [bt_at ha, h]; simp [isC]
      rw [upto_stop this, if_pos (by simp [h]), if_pos ha]
      omega
    · have : isC c.toNat (bt s a) = false := by
        rw [bt_at ha]; simp [isC]
        intro e; exact h (UInt8.toNat_inj.1 (by omega))
      rw [upto_go ha this, indexByte_upto s c n (a + 1) (by omega), if_neg (by simpa using h)]
      have := upto_ge (isC c.toNat) s (a + 1)
      split
      · rw [if_neg (by simp; omega)]; omega
      · rfl

/-- the first of some bytes -/
def isAny (l : List UInt8) : Int → Bool := fun n => l.any fun c => n == c.toNat
theorem isAny_byte (l : List UInt8) (b : UInt8) : isAny l (b.toNat : Int) = l.contains b := by
  unfold isAny
  induction l with
  | nil => rfl
  | cons c l ih =>
    simp only [List.any_cons, List.contains_cons, ih]
    congr 1
    rw [Bool.eq_iff_iff]
    simp
    constructor
    · intro h; exact UInt8.toNat_inj.1 (by omega)
    · intro h; rw [h]
theorem indexAny_upto (s : ByteArray) (l : List UInt8) : ∀ n a, s.size - a = n → Lib.indexAny (s.data.toList.drop a) l = if upto (isAny l) s a < s.size then (upto (isAny l) s a : Int) - a else -1
  | 0, a, hn => by rw [drop_out (by omega), upto_out (by omega), if_neg (by omega)]; rfl
  | n + 1, a, hn => by
    have ha : a < s.size := by omega
    rw [drop_bt ha]
    simp only [Lib.indexAny]
    have hb := isAny_byte l s[a]
    rw [← bt_at ha] at hb
    cases h : l.contains s[a]
    · rw [h] at hb
      rw [upto_go ha hb, indexAny_upto s l n (a + 1) (by omega), if_neg (by simp)]
      have := upto_ge (isAny l) s (a + 1)
      split
      · rw [if_neg (by simp; omega)]; omega
      · rfl
    · rw [h] at hb
      rw [upto_stop hb, if_pos rfl, if_pos ha]
      omega

theorem hasPrefix_two (s : ByteArray) (a : Nat) (c d : UInt8) : Lib.hasPrefix (s.extract a s.size).data.toList [c, d] = (bt s a == c.toNat && bt s (a + 1) == d.toNat) := by
  rw [ext_list]
  unfold Lib.hasPrefix
  have key : ∀ (x y : UInt8), (x == y) = ((y.toNat : Int) == (x.toNat : Int)) := fun x y => by
    rw [Bool.eq_iff_iff]; simp
    constructor
    · intro h; rw [h]
    · intro h; exact UInt8.toNat_inj.1 (by omega)
  by_cases h : a < s.size
  · rw [drop_bt h, bt_at h]
    by_cases h' : a + 1 < s.size
    · rw [drop_bt h', bt_at h']
      simp only [List.isPrefixOf, Bool.and_true, key]
    · rw [drop_out (by omega), bt_out (by omega)]
      simp [List.isPrefixOf]
  · rw [drop_out (by omega), bt_out (by omega)]
    simp [List.isPrefixOf]
theorem hasPrefix_one (s : ByteArray) (a : Nat) (c : UInt8) : Lib.hasPrefix (s.extract a s.size).data.toList [c] = (bt s a == c.toNat) := by
  rw [ext_list]
  unfold Lib.hasPrefix
  have key : ∀ (x y : UInt8), (x == y) = ((y.toNat : Int) == (x.toNat : Int)) := fun x y => by
    rw [Bool.eq_iff_iff]; simp
    constructor
    · intro h; rw [h]
    · intro h; exact UInt8.toNat_inj.1 (by omega)
  by_cases h : a < s.size
  · rw [drop_bt h, bt_at h]
    simp only [List.isPrefixOf, Bool.and_true, key]
  · rw [drop_out (by omega), bt_out (by omega)]
    simp [List.isPrefixOf]
theorem hasPrefix_three (s : ByteArray) (a : Nat) (c d e : UInt8) : Lib.hasPrefix (s.extract a s.size).data.toList [c, d, e] = (bt s a == c.toNat && bt s (a + 1) == d.toNat && bt s (a + 2) == e.toNat) := by
  rw [ext_list]
  unfold Lib.hasPrefix
  have key : ∀ (x y : UInt8), (x == y) = ((y.toNat : Int) == (x.toNat : Int)) := fun x y => by
    rw [Bool.eq_iff_iff]; simp
    constructor
    · intro h; rw [h]
    · intro h; exact UInt8.toNat_inj.1 (by omega)
  by_cases h : a < s.size
  · rw [drop_bt h, bt_at h]
    by_cases h' : a + 1 < s.size
    · rw [drop_bt h', bt_at h']
      by_cases h2 : a + 2 < s.size
      · rw [drop_bt h2, bt_at h2]
        simp only [List.isPrefixOf, Bool.and_true, key, Bool.and_assoc]
      · rw [drop_out (by omega), bt_out (by omega)]
        simp [List.isPrefixOf]
    · rw [drop_out (by omega), bt_out (by omega)]
      simp [List.isPrefixOf]
  · rw [drop_out (by omega), bt_out (by omega)]
    simp [List.isPrefixOf]
theorem bt_app (a b : ByteArray) (i : Nat) : bt (a ++ b) i = if i < a.size then bt a i else bt b (i - a.size) := by
  by_cases h : i < a.size
  · rw [if_pos h, bt_at h, bt_at (by rw [ByteArray.size_append]; omega)]
    congr 2
    exact ByteArray.getElem_append_left h
  · rw [if_neg h]
    by_cases h2 : i - a.size < b.size
    · rw [bt_at h2, bt_at (by rw [ByteArray.size_append]; omega)]
      congr 2
      exact ByteArray.getElem_append_right (by omega)
    · rw [bt_out (s := a ++ b) (by rw [ByteArray.size_append]; omega), bt_out (s := b) (by omega)]
end Go.Proofs.YtmkicfjcgbfaaaaGreat
namespace Go.Proofs
open Go.Shelf
def Tryz.lays137_ren : Go.Shelf.Ren := ⟨fun | 137 => 211 | 217 => 220 | 266 => 222 | n => n, fun | 9 => 9 | 5 => 5 | 3 => 3 | n => n, fun | n => n⟩
theorem Tryz.lays137 : Go.Proofs.Lays.n137 Tryz.prog Tryz.lays137_ren := {
  mixed := by kernel_rfl
  f137 := Tryz.func211.trans (congrArg some (by kernel_rfl))
  f217 := Tryz.func220.trans (congrArg some (by kernel_rfl))
  f266 := Tryz.func222.trans (congrArg some (by kernel_rfl))
  t3 := Tryz.underlying3
  a3 := Tryz.isAgg3
  z3 := Tryz.sizeOf3
  v3 := Tryz.zeroValue3
  t5 := Tryz.underlying5
  a5 := Tryz.isAgg5
  z5 := Tryz.sizeOf5
  v5 := Tryz.zeroValue5
  t9 := Tryz.underlying9
  a9 := Tryz.isAgg9
  z9 := Tryz.sizeOf9
  v9 := Tryz.zeroValue9 }
open Go.RowKit in
theorem Tryz.strings_IndexByte (s : ByteArray) (c : Int) (w : World) :
    Calls Tryz.prog 211 #[.string s, .int .u8 c] w fun e w' => e = .returned (.int .i64 (Lib.indexByte s.data.toList c.toNat.toUInt8)) ∧ w' = w := Any.strings_IndexByte Tryz.lays137 s c w
def Tryz.laysGw17_ren : Go.Shelf.Ren := ⟨fun | 17 => 183 | 15 => 194 | 20 => 210 | n => n, fun | 9 => 9 | 23 => 193 | 4 => 4 | 3 => 3 | 0 => 0 | 21 => 21 | n => n, fun | n => n⟩
theorem Tryz.laysGw17 : Go.Proofs.LaysGw.n17 Tryz.prog Tryz.laysGw17_ren := {
  mixed := by kernel_rfl
  f15 := Tryz.func194.trans (congrArg some (by kernel_rfl))
  f17 := Tryz.func183.trans (congrArg some (by kernel_rfl))
  f20 := Tryz.func210.trans (congrArg some (by kernel_rfl))
  t0 := Tryz.underlying0
  a0 := Tryz.isAgg0
  z0 := Tryz.sizeOf0
  v0 := Tryz.zeroValue0
  i0 := by kernel_rfl
  t3 := Tryz.underlying3
  a3 := Tryz.isAgg3
  z3 := Tryz.sizeOf3
  v3 := Tryz.zeroValue3
  i3 := by kernel_rfl
  t4 := Tryz.underlying4
  a4 := Tryz.isAgg4
  z4 := Tryz.sizeOf4
  v4 := Tryz.zeroValue4
  i4 := by kernel_rfl
  t9 := Tryz.underlying9
  a9 := Tryz.isAgg9
  z9 := Tryz.sizeOf9
  v9 := Tryz.zeroValue9
  i9 := by kernel_rfl
  t21 := Tryz.underlying21
  a21 := Tryz.isAgg21
  z21 := Tryz.sizeOf21
  v21 := Tryz.zeroValue21
  i21 := by kernel_rfl
  t23 := Tryz.underlying193
  a23 := Tryz.isAgg193
  z23 := Tryz.sizeOf193
  v23 := Tryz.zeroValue193
  i23 := by kernel_rfl }
open Go.RowKit Go.Lib in
theorem Tryz.strings_ContainsFunc (g : Nat) (lb : Array Value) (eg : ∀ args w, (callFunc g args).run Tryz.prog w = .ok (.enter g args) w) (p : Nat → Bool) (s : ByteArray) (w : World) (hp : PredAt Tryz.prog g lb encR p w) :
    Calls Tryz.prog 183 #[.string s, .func (.func g) #[] lb] w fun e w' => e = .returned (.bool (decide (0 ≤ Lib.idxFunc p true s))) ∧ Below w.heap.size w w' := Any.strings_ContainsFunc Tryz.laysGw17 g lb eg p s w hp
def Tryz.lays152_ren : Go.Shelf.Ren := ⟨fun | 152 => 195 | 137 => 211 | 119 => 212 | 224 => 213 | 225 => 214 | 217 => 220 | 266 => 222 | n => n, fun | 9 => 9 | 21 => 21 | 3 => 3 | 4 => 4 | 5 => 5 | 0 => 0 | 46 => 164 | n => n, fun | n => n⟩
theorem Tryz.lays152 : Go.Proofs.Lays.n152 Tryz.prog Tryz.lays152_ren := {
  mixed := by kernel_rfl
  f119 := Tryz.func212.trans (congrArg some (by kernel_rfl))
  f137 := Tryz.func211.trans (congrArg some (by kernel_rfl))
  f152 := Tryz.func195.trans (congrArg some (by kernel_rfl))
  f217 := Tryz.func220.trans (congrArg some (by kernel_rfl))
  f224 := Tryz.func213.trans (congrArg some (by kernel_rfl))
  f225 := Tryz.func214.trans (congrArg some (by kernel_rfl))
  f266 := Tryz.func222.trans (congrArg some (by kernel_rfl))
  t0 := Tryz.underlying0
  a0 := Tryz.isAgg0
  z0 := Tryz.sizeOf0
  v0 := Tryz.zeroValue0
  t3 := Tryz.underlying3
  a3 := Tryz.isAgg3
  z3 := Tryz.sizeOf3
  v3 := Tryz.zeroValue3
  t4 := Tryz.underlying4
  a4 := Tryz.isAgg4
  z4 := Tryz.sizeOf4
  v4 := Tryz.zeroValue4
  t5 := Tryz.underlying5
  a5 := Tryz.isAgg5
  z5 := Tryz.sizeOf5
  v5 := Tryz.zeroValue5
  t9 := Tryz.underlying9
  a9 := Tryz.isAgg9
  z9 := Tryz.sizeOf9
  v9 := Tryz.zeroValue9
  t21 := Tryz.underlying21
  a21 := Tryz.isAgg21
  z21 := Tryz.sizeOf21
  v21 := Tryz.zeroValue21
  t46 := Tryz.underlying164
  a46 := Tryz.isAgg164
  z46 := Tryz.sizeOf164
  v46 := Tryz.zeroValue164 }
open Go.RowKit Go.Lib in
theorem Tryz.strings_IndexRune_ascii (s : ByteArray) (r : Int) (w : World) (h0 : 0 ≤ r) (h1 : r < 128) :
    Calls Tryz.prog 195 #[.string s, .int .i32 r] w fun e w' => e = .returned (.int .i64 (Lib.indexByte s.data.toList r.toNat.toUInt8)) ∧ w' = w := Any.strings_IndexRune_ascii Tryz.lays152 s r w h0 h1
def Tryz.lays153_ren : Go.Shelf.Ren := ⟨fun | 153 => 185 | 152 => 195 | 226 => 196 | 227 => 197 | 228 => 198 | 137 => 211 | 119 => 212 | 224 => 213 | 225 => 214 | 217 => 220 | 266 => 222 | n => n, fun | 9 => 9 | 3 => 3 | 4 => 4 | 5 => 5 | 21 => 21 | 117 => 203 | 116 => 202 | 0 => 0 | 46 => 164 | 124 => 218 | n => n, fun | n => n⟩
theorem Tryz.lays153 : Go.Proofs.Lays.n153 Tryz.prog Tryz.lays153_ren := {
  mixed := by kernel_rfl
  f119 := Tryz.func212.trans (congrArg some (by kernel_rfl))
  f137 := Tryz.func211.trans (congrArg some (by kernel_rfl))
  f152 := Tryz.func195.trans (congrArg some (by kernel_rfl))
  f153 := Tryz.func185.trans (congrArg some (by kernel_rfl))
  f217 := Tryz.func220.trans (congrArg some (by kernel_rfl))
  f224 := Tryz.func213.trans (congrArg some (by kernel_rfl))
  f225 := Tryz.func214.trans (congrArg some (by kernel_rfl))
  f226 := Tryz.func196.trans (congrArg some (by kernel_rfl))
  f227 := Tryz.func197.trans (congrArg some (by kernel_rfl))
  f228 := Tryz.func198.trans (congrArg some (by kernel_rfl))
  f266 := Tryz.func222.trans (congrArg some (by kernel_rfl))
  t0 := Tryz.underlying0
  a0 := Tryz.isAgg0
  z0 := Tryz.sizeOf0
  v0 := Tryz.zeroValue0
  t3 := Tryz.underlying3
  a3 := Tryz.isAgg3
  z3 := Tryz.sizeOf3
  v3 := Tryz.zeroValue3
  t4 := Tryz.underlying4
  a4 := Tryz.isAgg4
  z4 := Tryz.sizeOf4
  v4 := Tryz.zeroValue4
  t5 := Tryz.underlying5
  a5 := Tryz.isAgg5
  z5 := Tryz.sizeOf5
  v5 := Tryz.zeroValue5
  t9 := Tryz.underlying9
  a9 := Tryz.isAgg9
  z9 := Tryz.sizeOf9
  v9 := Tryz.zeroValue9
  t21 := Tryz.underlying21
  a21 := Tryz.isAgg21
  z21 := Tryz.sizeOf21
  v21 := Tryz.zeroValue21
  t46 := Tryz.underlying164
  a46 := Tryz.isAgg164
  z46 := Tryz.sizeOf164
  v46 := Tryz.zeroValue164
  t116 := Tryz.underlying202
  a116 := Tryz.isAgg202
  z116 := Tryz.sizeOf202
  t117 := Tryz.underlying203
  a117 := Tryz.isAgg203
  z117 := Tryz.sizeOf203
  v117 := Tryz.zeroValue203
  t124 := Tryz.underlying218
  a124 := Tryz.isAgg218
  z124 := Tryz.sizeOf218
  v124 := Tryz.zeroValue218 }
open Go.RowKit Go.Lib in
theorem Tryz.strings_IndexAny_long (hv116 : ∀ w, (zeroValue 202).run Tryz.prog w = .ok (.agg (Array.replicate 256 (.bool false))) w) (s chars : ByteArray) (w : World) (h2 : 2 ≤ chars.size) (h8 : 8 < s.size) (hs : s.size < 4294967281) (hcs : chars.size < 4294967281) (hascii : ∀ (j : Nat) b, chars.data.toList[j]? = some b → b.toNat < 128) :
    Calls Tryz.prog 185 #[.string s, .string chars] w fun e w' => e = .returned (.int .i64 (Lib.indexAny s.data.toList chars.data.toList)) ∧ w' = ((w.alloc (.cells (Lib.setCells chars.data.toList) 202)).alloc (.cells (Lib.setCells chars.data.toList) 202)) := Any.strings_IndexAny_long Tryz.lays153 hv116 (by kernel_rfl) s chars w h2 h8 hs hcs hascii
end Go.Proofs
namespace Go.Proofs.YtmkicfjcgbfaaaaGreat
open Go.RowKit

theorem notEmpty_of {t : ByteArray} (h : 0 < t.size) : t.toList.isEmpty = false := by
  rw [ByteArray.toList_eq]
  obtain ⟨⟨l⟩⟩ := t
  cases l with
  | nil => cases h
  | cons a l => rfl

set_option maxHeartbeats 1000000 in
theorem validRune_any (r : Int) (w : World) (h : (0 ≤ r ∧ r < 55296) ∨ (57343 < r ∧ r ≤ 1114111)) : Calls Tryz.prog 212 #[.int .i32 r] w fun e w' => e = .returned (.bool true) ∧ w = w' := by
  rcases h with ⟨h1, h2⟩ | ⟨h1, h2⟩
  · go_enter Tryz.func212, Tryz.ntmps212
    go_wp2
    go_ret
    exact ⟨rfl, rfl⟩
  · have h3 : (0 : Int) ≤ r := by omega
    have h4 : ¬ r < 55296 := by omega
    go_enter Tryz.func212, Tryz.ntmps212
    go_wp2
    go_ret
    exact ⟨rfl, rfl⟩

/-- what is decoded from a byte beyond ASCII on -/
theorem decodeN_far (n b0 b1 b2 b3 : Nat) (h0 : 128 ≤ b0) :
    128 ≤ (Lib.decodeN n b0 b1 b2 b3).1 ∧ ((Lib.decodeN n b0 b1 b2 b3).1 < 55296 ∨ 57343 < (Lib.decodeN n b0 b1 b2 b3).1 ∧ (Lib.decodeN n b0 b1 b2 b3).1 ≤ 1114111) ∧
    ((Lib.decodeN n b0 b1 b2 b3).2 = 1 ∨ ((Lib.decodeN n b0 b1 b2 b3).2 = 2 ∧ 1 < n ∧ 128 ≤ b1) ∨ ((Lib.decodeN n b0 b1 b2 b3).2 = 3 ∧ 2 < n ∧ 128 ≤ b1 ∧ 128 ≤ b2) ∨ ((Lib.decodeN n b0 b1 b2 b3).2 = 4 ∧ 3 < n ∧ 128 ≤ b1 ∧ 128 ≤ b2 ∧ 128 ≤ b3)) := by
  unfold Lib.decodeN
  repeat' split
  all_goals (refine ⟨?_, ?_, ?_⟩ <;> dsimp only <;> omega)

theorem get!_bt {s : ByteArray} {i : Nat} (h : i < s.size) : s.get! i = s[i] := by
  cases s with
  | mk d =>
    show d[i]! = d[i]
    rw [getElem!_pos d i h]
theorem decode_far {s : ByteArray} {i : Nat} (h : i < s.size) (h0 : 128 ≤ (s[i]).toNat) :
    128 ≤ (Utf8.decode s i).1 ∧ ((Utf8.decode s i).1 < 55296 ∨ 57343 < (Utf8.decode s i).1 ∧ (Utf8.decode s i).1 ≤ 1114111) ∧ 1 ≤ (Utf8.decode s i).2 ∧ i + (Utf8.decode s i).2 ≤ s.size ∧
    ∀ j (hj : j < s.size), i ≤ j → j < i + (Utf8.decode s i).2 → 128 ≤ (s[j]).toNat := by
  rw [Lib.decode_at]
  obtain ⟨a1, a2, a3⟩ := decodeN_far (s.size - i) (s.get! i).toNat (s.get! (i + 1)).toNat (s.get! (i + 2)).toNat (s.get! (i + 3)).toNat (by rw [get!_bt h]; exact h0)
  refine ⟨a1, a2, by omega, by omega, fun j hj h1 h2 => ?_⟩
  rcases Nat.lt_or_ge j (i + 1) with g | g
  · obtain rfl : j = i := by omega
    exact h0
  · rcases Nat.lt_or_ge j (i + 2) with g2 | g2
    · obtain rfl : j = i + 1 := by omega
      rw [← get!_bt hj]; omega
    · rcases Nat.lt_or_ge j (i + 3) with g3 | g3
      · obtain rfl : j = i + 2 := by omega
        rw [← get!_bt hj]; omega
      · obtain rfl : j = i + 3 := by omega
        rw [← get!_bt hj]; omega

/-- ASCII bytes alone -/
def Asc (L : ByteArray) : Prop := ∀ i (h : i < L.size), (L[i]).toNat < 128
theorem Asc.drop_noByte {L : ByteArray} (hL : Asc L) (a : Nat) (x : UInt8) (hx : 128 ≤ x.toNat) : Lib.indexByte (L.data.toList.drop a) x = -1 := by
  have key : ∀ n a, L.size - a = n → Lib.indexByte (L.data.toList.drop a) x = -1 := by
    intro n
    induction n with
    | zero => intro a h; rw [drop_out (by omega)]; rfl
    | succ n ih =>
      intro a h
      have ha : a < L.size := by omega
      rw [drop_bt ha]
      simp only [Lib.indexByte]
      have := hL a ha
      rw [if_neg (by simp; intro e; rw [e] at this; omega), ih (a + 1) (by omega)]
      rfl
  exact key _ a rfl

set_option maxHeartbeats 2000000 in
set_option maxRecDepth 100000 in
theorem indexRune_asc (L : ByteArray) (hL : Asc L) (_hsz : L.size ≤ 64) (r : Int) (w : World) (h1 : 128 ≤ r) (hv : (0 ≤ r ∧ r < 55296) ∨ (57343 < r ∧ r ≤ 1114111)) :
    Calls Tryz.prog 195 #[.string L, .int .i32 r] w fun e w' => e = .returned (.int .i64 (-1)) ∧ Below w.heap.size w w' := by
  have h0 : (0 : Int) ≤ r := by omega
  have hr : r ≤ 1114111 := by omega
  have hn : ¬ r < 128 := by omega
  have HV := Lib.hid hv
  have HL := Lib.hid hL
  clear hL
  have hval : Utf8.valid r = true := by unfold Utf8.valid; simp; omega
  obtain ⟨e1, e2, e3⟩ := encode_facts r hval h1
  obtain ⟨T, hT⟩ : ∃ T, T = Utf8.encode r := ⟨_, rfl⟩
  rw [← hT] at e1 e2 e3
  have HT := Lib.hid hT
  clear hv hval hT
  by_cases hE : r = 65533
  · subst hE
    go_enter Tryz.func195, Tryz.ntmps195
    clear HT e1 e2 e3 HV
    go_wp2_with fail
    go_loopg [5, 6] L.size (fun g _ _ wx => ∃ i : Nat, i + g = L.size ∧ wx = w.iter L i)
    case atStart => exact ⟨0, by omega, rfl⟩
    case round =>
      obtain ⟨i, hig, rfl⟩ := hrel
      by_cases hi : i < L.size
      · have hlt := HL.out i hi
        have hnx := fun ty => run_next_ascii (P := Tryz.prog) w L i ty hi hlt
        have hne : (((L[i]).toNat : Int) == 65533) = false := by simp; omega
        go_wp2
        go_roundg (L.size - (i + 1))
        case measure => omega
        case rel => exact ⟨i + 1, by omega, rfl⟩
      · obtain rfl : i = L.size := by omega
        have hnx := run_next_end (P := Tryz.prog) w L L.size
        go_wp2
        go_ret
        exact ⟨rfl, (Below.refl _ _).alloc (Nat.le_refl _) _⟩
  · have hE' : (r == 65533) = false := by simpa using hE
    clear hE
    go_enter Tryz.func195, Tryz.ntmps195
    go_wp2_with fail
    refine (validRune_any r _ HV.out).mono ?_
    rintro e w1 ⟨rfl, hw⟩
    rw [← hw]
    clear hw
    have hT' := HT.out.symm
    have HB : Hid (∀ (a : Nat) (x : UInt8) w, 128 ≤ x.toNat → Calls Tryz.prog 211 #[.string (L.extract a L.size), .int .u8 x.toNat] w fun e w' => e = .returned (.int .i64 (-1)) ∧ w' = w) := fun a x w hx => by
      have := Tryz.strings_IndexByte (L.extract a L.size) x.toNat w
      rw [ext_list, show ((x.toNat : Int)).toNat.toUInt8 = x by simp, HL.out.drop_noByte a x hx] at this
      exact this
    obtain ⟨q, hq⟩ : ∃ q : Nat, T.size = q + 1 := ⟨T.size - 1, by omega⟩
    obtain ⟨i2, h3⟩ : ∃ h : q < T.size, 128 ≤ (T[q]'h).toNat := by
      refine ⟨by omega, ?_⟩
      have := e3 (by omega)
      have h4 : T[q]'(by omega) = T[T.size - 1]'(by omega) := by congr 1; omega
      rw [h4]; exact this
    have hq1 : (1 : Int) ≤ (q : Int) := by omega
    have hq3 : (q : Int) ≤ 3 := by omega
    have hqi : ((T.size : Int) - 1) = (q : Int) := by omega
    have HQ := Lib.hid hqi
    have i3 : (q : Int) < (T.size : Int) := by omega
    have i0 : (0 : Int) ≤ (q : Int) := by omega
    have ts1 : (2 : Int) ≤ (T.size : Int) := by omega
    have ts2 : (T.size : Int) ≤ 4 := by omega
    clear hq e1 e2 e3 hqi
    by_cases hin : q < L.size
    · have hl := HL.out q hin
      have hne : (((L[q]).toNat : Int) != ((T[q]'i2).toNat : Int)) = true := by simp; omega
      have i1 : (q : Int) < (L.size : Int) := by omega
      go_wp2_with fail
      go_step3
      go_wp2_with fail
      rw [HQ.out]
      go_loopg [9, 10] 0 (fun g s9 s10 wr => s9 = .int .i64 q ∧ s10 = .int .i64 0 ∧ wr = w)
      case atStart => exact ⟨rfl, rfl, rfl⟩
      case round =>
        obtain ⟨rfl, rfl, rfl⟩ := hrel
        go_wp2_with fail
        go_step3
        go_wp2_with fail
        go_quiet (fail)
        go_wp2_with fail
        have hwr : IntKind.i64.wrap ((q : Int) + 1) = (q : Int) + 1 := IntWalk.i64_in _ (by omega)
        go_quiet (refine (HB.out _ _ _ h3).mono (fun _ _ h => ⟨h.1, _, h.2⟩))
        go_wp2_with fail
        rw [Exit.noGoto_ret]
        simp only [Exit.inBlock, Exit.then]
        rw [Exit.noGoto_ret]
        go_ret
        exact ⟨rfl, bdrew (Below.refl _ _) _⟩
    · have i1 : (L.size : Int) ≤ (q : Int) := by omega
      go_wp2_with fail
      go_step3
      go_wp2_with fail
      rw [HQ.out]
      go_loopg [9, 10] 0 (fun g s9 s10 wr => s9 = .int .i64 q ∧ s10 = .int .i64 0 ∧ wr = w)
      case atStart => exact ⟨rfl, rfl, rfl⟩
      case round =>
        obtain ⟨rfl, rfl, rfl⟩ := hrel
        go_wp2_with fail
        try rw [Exit.noGoto_ret]
        go_ret
        exact ⟨rfl, Below.refl _ _⟩

theorem noAny_moreG {L s : ByteArray} (hL : Asc L) {i k : Nat} (h : Lib.NoAny s.data.toList L.data.toList i) (hm : ∀ j (hj : j < s.size), i ≤ j → j < k → 128 ≤ (s[j]).toNat) : Lib.NoAny s.data.toList L.data.toList k := by
  intro j b hj hb
  rcases Nat.lt_or_ge j i with g | g
  · exact h j b g hb
  · obtain ⟨hjs, e⟩ := List.getElem?_eq_some_iff.1 hb
    have hjs' : j < s.size := by simpa using hjs
    have := hm j hjs' g hj
    have e2 : s[j] = b := by rw [← e]; rfl
    rw [e2] at this
    cases hc : L.data.toList.contains b with
    | false => rfl
    | true =>
      obtain ⟨q, hq, eq⟩ := List.mem_iff_getElem.1 (by simpa using hc : b ∈ L.data.toList)
      have := hL q hq
      have e3 : L[q]'hq = b := eq
      rw [e3] at this
      omega

set_option maxHeartbeats 2000000 in
set_option maxRecDepth 100000 in
theorem indexAny_shortG (L : ByteArray) (hL : Asc L) (hL2 : 2 ≤ L.size) (hLs : L.size ≤ 64) (s : ByteArray) (w : World) (hs : s.size ≤ 8) :
    Calls Tryz.prog 185 #[.string s, .string L] w fun e w' => e = .returned (.int .i64 (Lib.indexAny s.data.toList L.data.toList)) ∧ Below w.heap.size w w' := by
  have hemp : L.toList.isEmpty = false := notEmpty_of (by omega)
  have HAL := Lib.hid hL
  clear hL
  have k2 : (2 : Int) ≤ (L.size : Int) := by omega
  have k1 : ((L.size : Int) == 1) = false := by simp; omega
  have h8z : ¬ ((8 : Int) < (s.size : Int)) := by omega
  go_enter Tryz.func185, Tryz.ntmps185
  go_wp2_with (first | (go_at_call 196; go_in))
  go_loopg [9, 10] s.size (fun g _ _ wx => ∃ i : Nat, i ≤ s.size ∧ s.size - i ≤ g ∧ wx.heap[w.heap.size]? = some (.stringIter s i) ∧ Below w.heap.size w wx ∧ Lib.NoAny s.data.toList L.data.toList i)
  case atStart => exact ⟨0, Nat.zero_le _, by omega, World.iter_heap w s 0, (Below.refl _ _).alloc (Nat.le_refl _) _, Lib.NoAny.zero _ _⟩
  case round =>
    obtain ⟨i, hi, hig, hit, hbel, hno⟩ := hrel
    have HN := Lib.hid hno
    have HB := Lib.hid hbel
    have hsz := hbel.size
    have hkz : w.heap.size < wr.heap.size := by
      rcases Nat.lt_or_ge w.heap.size wr.heap.size with h' | h'
      · exact h'
      · simp [Array.getElem?_eq_none h'] at hit
    clear hno hbel
    by_cases his : i < s.size
    · have hxl : s.data.toList[i]? = some s[i] := Lib.data_getElem? s i his
      have HX := Lib.hid hxl
      clear hxl
      by_cases hx128 : (s[i]).toNat < 128
      · have hnx := fun ty => Lib.run_next_ascii_at (P := Tryz.prog) wr w.heap.size s i ty hit his hx128
        have hit2 := Lib.iterAt_heap wr w.heap.size s i (i + 1) hit
        have hbel2 := Lib.below_iterAt HB.out (Nat.le_refl _) s (i + 1)
        obtain ⟨x, hx⟩ : ∃ x : UInt8, s[i] = x := ⟨_, rfl⟩
        rw [hx] at hnx hx128 HX
        obtain ⟨W, hW⟩ : ∃ W, W = wr.iterAt w.heap.size s (i + 1) := ⟨_, rfl⟩
        rw [← hW] at hnx hit2 hbel2
        have HW := Lib.hid (And.intro hit2 hbel2)
        have hxi : (x.toNat : Int) < 128 := by omega
        have hcon := Lib.contains_iff_indexByte L.data.toList x
        have hback : ((x.toNat : Int)).toNat.toUInt8 = x := by simp
        have HBK := Lib.hid hback
        clear hit hx hW hit2 hbel2 hback
        cases hin : L.data.toList.contains x
        · rw [hin] at hcon
          have hlt : ¬ ((0 : Int) ≤ Lib.indexByte L.data.toList x) := of_decide_eq_false hcon.symm
          have HN2 := Lib.hid (HN.out.succ HX.out hin)
          clear hcon hin
          go_wp2_with fail
          refine (Tryz.strings_IndexRune_ascii _ _ _ (by omega) hxi).mono ?_
          rintro e w1 ⟨rfl, hw⟩
          rw [hw, HBK.out]
          clear hw
          go_wp2
          go_roundg (s.size - (i + 1))
          case measure => omega
          case rel => exact ⟨i + 1, by omega, by omega, HW.out.1, HW.out.2, HN2.out⟩
        · rw [hin] at hcon
          have hge : (0 : Int) ≤ Lib.indexByte L.data.toList x := of_decide_eq_true hcon.symm
          have HR : Hid (Lib.indexAny s.data.toList L.data.toList = (i : Int)) := Lib.indexAny_hit HN.out HX.out hin
          clear hcon hin
          go_wp2_with fail
          refine (Tryz.strings_IndexRune_ascii _ _ _ (by omega) hxi).mono ?_
          rintro e w1 ⟨rfl, hw⟩
          rw [hw, HBK.out]
          clear hw
          go_wp2
          go_ret
          exact ⟨by rw [HR.out]; rfl, HW.out.2⟩
      · obtain ⟨f1, f2, f3, f4, f5⟩ := decode_far his (by omega)
        have hnx := fun ty => Lib.run_next_any_at (P := Tryz.prog) wr w.heap.size s i ty hit his
        obtain ⟨r, hr⟩ : ∃ r, r = (Utf8.decode s i).1 := ⟨_, rfl⟩
        obtain ⟨d, hd⟩ : ∃ d, d = (Utf8.decode s i).2 := ⟨_, rfl⟩
        rw [← hr] at f1 f2 hnx
        rw [← hd] at f3 f4 f5 hnx
        have hit2 := Lib.iterAt_heap wr w.heap.size s i (i + d) hit
        have hbel2 := Lib.below_iterAt HB.out (Nat.le_refl _) s (i + d)
        have HN2 := Lib.hid (noAny_moreG HAL.out HN.out f5)
        obtain ⟨W, hW⟩ : ∃ W, W = wr.iterAt w.heap.size s (i + d) := ⟨_, rfl⟩
        have hWz : W.heap.size = wr.heap.size := by rw [hW]; exact Lib.iterAt_size _ _ _ _
        rw [← hW] at hnx hit2 hbel2
        have HW := Lib.hid (And.intro hit2 hbel2)
        clear hit hW hit2 hbel2 hr hd f5 hx128
        go_wp2_with fail
        refine (indexRune_asc L HAL.out hLs (r : Int) _ (by omega) (by omega)).mono ?_
        rintro e w1 ⟨rfl, hb1⟩
        have HW1 := Lib.hid (And.intro ((hb1.block w.heap.size (by omega)).trans HW.out.1) (HW.out.2.trans (hb1.mono (by omega))))
        clear hb1
        go_wp2
        go_roundg (s.size - (i + d))
        case measure => omega
        case rel => exact ⟨i + d, by omega, by omega, HW1.out.1, HW1.out.2, HN2.out⟩
    · obtain rfl : i = s.size := by omega
      have hnx := fun ty => Lib.run_next_end_at (P := Tryz.prog) wr w.heap.size s s.size ty hit his
      go_wp2
      go_ret
      exact ⟨by rw [Lib.indexAny_none (by rw [← Lib.size_eq]; exact HN.out)]; rfl, HB.out⟩

theorem set_info : (Tryz.prog.info? 202).map (fun i => (i.zero, i.size)) = some (some (.agg (Array.replicate 256 (.bool false))), 256) := by kernel_rfl
theorem indexAny_asc (L : ByteArray) (hL : Asc L) (hL2 : 2 ≤ L.size) (hLs : L.size ≤ 64) (s : ByteArray) (w : World) (hs : s.size ≤ 4294967280) :
    Calls Tryz.prog 185 #[.string s, .string L] w fun e w' => e = .returned (.int .i64 (Lib.indexAny s.data.toList L.data.toList)) ∧ Below w.heap.size w w' := by
  by_cases h8 : s.size ≤ 8
  · exact indexAny_shortG L hL hL2 hLs s w h8
  · refine (Tryz.strings_IndexAny_long (zero_of_info set_info).1 s L w hL2 (by omega) (by omega) (by omega) (fun j b hb => ?_)).mono fun e w' ⟨h1, h2⟩ => ⟨h1, ?_⟩
    · obtain ⟨hjs, e⟩ := List.getElem?_eq_some_iff.1 hb
      have := hL j hjs
      have e2 : L[j]'hjs = b := e
      rw [e2] at this
      exact this
    · rw [h2]
      exact ((Below.refl _ _).alloc (Nat.le_refl _) _).alloc (by simp) _

set_option maxHeartbeats 1000000 in
theorem containsAny_asc (L : ByteArray) (hL : Asc L) (hL2 : 2 ≤ L.size) (hLs : L.size ≤ 64) (s : ByteArray) (w : World) (hs : s.size ≤ 4294967280) :
    Calls Tryz.prog 165 #[.string s, .string L] w fun e w' => e = .returned (.bool (decide (0 ≤ Lib.indexAny s.data.toList L.data.toList))) ∧ Below w.heap.size w w' := by
  obtain ⟨v, hvv⟩ : ∃ v, v = Lib.indexAny s.data.toList L.data.toList := ⟨_, rfl⟩
  rw [← hvv]
  have HVV := Lib.hid hvv
  have HL := Lib.hid hL
  clear hvv hL
  go_enter Tryz.func165, Tryz.ntmps165
  go_wp2_with fail
  refine (indexAny_asc L HL.out hL2 hLs s _ hs).mono ?_
  rintro e w1 ⟨rfl, hb⟩
  rw [← HVV.out]
  have HB := Lib.hid hb
  clear hb
  go_wp2
  go_ret
  exact ⟨rfl, HB.out⟩
end Go.Proofs.YtmkicfjcgbfaaaaGreat
