/-
  DERIVED. Plain law: the calendar: the days before a year, the days before a month, dates one after the other, weeks. Conditions: none.
  Plain law: a number's digits and their value; words joined by a byte and cut at it again. Conditions: none.
  Plain law: a day's date as a text. Conditions: none.
  Plain law: a text with a backslash ahead of each quotation mark and backslash. Conditions: none.
  DERIVED: THE SHELF's CONTRACTS AT THIS DUMP, IN PLAIN WORDS (tools/lay-plain.mjs out of 'CtShelf.lean', which tools/lay-shelf.mjs wrote): THE SAME DECLARATIONS UNDER THE SAME NAMES: 'import', 'namespace', 'open', 'def', 'theorem' AND NOTHING ELSE: no command of the shelf's: FOR A HAND-IN. Each laying: the table of numbers ('.._ren') and one theorem, a field a fact of the dump's own or the kernel's comparison; each contract: ONE APPLICATION.
  DERIVED: THE SHELF's CONTRACTS AT THIS DUMP, IN PLAIN WORDS (tools/lay-plain.mjs out of 'TryShelf.lean', which tools/lay-shelf.mjs wrote): THE SAME DECLARATIONS UNDER THE SAME NAMES: 'import', 'namespace', 'open', 'def', 'theorem' AND NOTHING ELSE: no command of the shelf's: FOR A HAND-IN. Each laying: the table of numbers ('.._ren') and one theorem, a field a fact of the dump's own or the kernel's comparison; each contract: ONE APPLICATION.
  By an AI agent.
-/
import Derived.WalkKit
import Derived.Lib.ItoaNum
import Derived.Lib.Atoi
import Derived.Lib.Split
import Derived.Lib.IndexBytes
import Derived.Lib.Join
import Derived.Lib.Strings
import Derived.Lib.SlTrimSet
import Derived.Lib.Repeat
import Derived.Lib.Bytealg
import Derived.Shelf.Strings.Search1
import Derived.Shelf.Strings.Search2
import Derived.Shelf.Strings.Search3
import Derived.Shelf.Strings.Count
import Derived.Test.YtinllchioeldbaaGreatDoorProg
import Derived.Shelf.Small.Utf8
import Derived.Shelf.Small.Strs
import Derived.Shelf.GgClosure.StringsIndexFunc
import Derived.Shelf.GgClosure.StringsIndexFuncTop
import Derived.Shelf.Strings.Runes
import Derived.Shelf.Strings.IndexAny
import Derived.Shelf.Strings.AsciiSet
import Derived.Shelf.Strings.IndexAnyAll
namespace Go.Proofs.YtinllchioeldbaaGreatDoor.cal

def bef (y : Int) : Int := 365 * (y - 2001) + (y - 1) / 4 - 500 - (y - 1) / 100 + 20 + (y - 1) / 400 - 5
def lp (y : Int) : Int := if y % 4 = 0 ∧ (y % 100 ≠ 0 ∨ y % 400 = 0) then 1 else 0
theorem lp_01 (y : Int) : lp y = 0 ∨ lp y = 1 := by unfold lp; split <;> simp
theorem bef_succ (y : Int) : bef (y + 1) = bef y + 365 + lp y := by unfold bef lp; split <;> omega
theorem bef_mono {a b : Int} (h : a ≤ b) : bef a ≤ bef b := by unfold bef; omega
theorem bef_lo {y : Int} (h : 2001 ≤ y) : 0 ≤ bef y := by unfold bef; omega
theorem bef_hi {y d : Int} (h : bef y ≤ d) (hd : d ≤ 200000) : y ≤ 2600 := by unfold bef at h; omega
theorem bef_guess {d : Int} (h : 0 ≤ d) (hd : d ≤ 200000) : bef (2001 + d / 366) ≤ d := by unfold bef; omega
theorem bef_uniq {y y' d : Int} (h : bef y ≤ d) (h1 : d < bef (y + 1)) (h' : bef y' ≤ d) (h1' : d < bef (y' + 1)) : y = y' := by
  rcases Int.lt_trichotomy y y' with h2 | h2 | h2
  · have := bef_mono (show y + 1 ≤ y' by omega); omega
  · exact h2
  · have := bef_mono (show y' + 1 ≤ y by omega); omega

def ml (y m : Int) : Int := if m = 2 then 28 + lp y else if m = 4 ∨ m = 6 ∨ m = 9 ∨ m = 11 then 30 else 31
def cum (y m : Int) : Int :=
  if m = 1 then 0 else if m = 2 then 31 else if m = 3 then 59 + lp y else if m = 4 then 90 + lp y else if m = 5 then 120 + lp y else if m = 6 then 151 + lp y else if m = 7 then 181 + lp y
  else if m = 8 then 212 + lp y else if m = 9 then 243 + lp y else if m = 10 then 273 + lp y else if m = 11 then 304 + lp y else if m = 12 then 334 + lp y else 365 + lp y

theorem month_cases {m : Int} (h : 1 ≤ m) (h' : m ≤ 12) : m = 1 ∨ m = 2 ∨ m = 3 ∨ m = 4 ∨ m = 5 ∨ m = 6 ∨ m = 7 ∨ m = 8 ∨ m = 9 ∨ m = 10 ∨ m = 11 ∨ m = 12 := by omega
theorem cum_succ (y : Int) {m : Int} (h : 1 ≤ m) (h' : m ≤ 12) : cum y (m + 1) = cum y m + ml y m := by
  rcases month_cases h h' with rfl | rfl | rfl | rfl | rfl | rfl | rfl | rfl | rfl | rfl | rfl | rfl <;> simp [cum, ml] <;> omega
theorem cum_13 (y : Int) : cum y 13 = 365 + lp y := by simp [cum]
theorem ml_lo (y m : Int) : 28 ≤ ml y m := by have := lp_01 y; unfold ml; repeat' split
                                              all_goals omega
theorem ml_hi (y m : Int) : ml y m ≤ 31 := by have := lp_01 y; unfold ml; repeat' split
                                              all_goals omega
theorem cum_bd (y : Int) {m : Int} (h : 1 ≤ m) (h' : m ≤ 13) : 0 ≤ cum y m ∧ cum y m ≤ 366 := by
  have := lp_01 y
  have hm : m = 1 ∨ m = 2 ∨ m = 3 ∨ m = 4 ∨ m = 5 ∨ m = 6 ∨ m = 7 ∨ m = 8 ∨ m = 9 ∨ m = 10 ∨ m = 11 ∨ m = 12 ∨ m = 13 := by omega
  rcases hm with rfl | rfl | rfl | rfl | rfl | rfl | rfl | rfl | rfl | rfl | rfl | rfl | rfl <;> simp [cum] <;> omega
/-- the days before a month go up -/
theorem cum_mono (y : Int) {m m' : Int} (h : 1 ≤ m) (h' : m' ≤ 13) (hm : m < m') : cum y m + ml y m ≤ cum y m' := by
  have key : ∀ n : Nat, ∀ m' : Int, m' = m + 1 + n → m' ≤ 13 → cum y m + ml y m ≤ cum y m' := by
    intro n
    induction n with
    | zero => intro m' e hm'; rw [show m' = m + 1 by omega, cum_succ y h (by omega)]; exact Int.le_refl _
    | succ n ih =>
      intro m' e hm'
      have := ih (m' - 1) (by omega) (by omega)
      have h2 := cum_succ y (m := m' - 1) (by omega) (by omega)
      have := ml_lo y (m' - 1)
      rw [show m' - 1 + 1 = m' by omega] at h2
      omega
  exact key (m' - m - 1).toNat m' (by omega) h'

structure IsDate (d y m k : Int) : Prop where
  y0 : 2001 ≤ y
  b0 : bef y ≤ d
  b1 : d < bef (y + 1)
  m0 : 1 ≤ m
  m1 : m ≤ 12
  k0 : 1 ≤ k
  k1 : k ≤ ml y m
  eq : d = bef y + cum y m + k - 1

end Go.Proofs.YtinllchioeldbaaGreatDoor.cal
namespace Go.Proofs.YtinllchioeldbaaGreatDoor

theorem dd_small {u : Nat} (h : u < 10) : Lib.decDigits u = [UInt8.ofNat (48 + u)] := by rw [Lib.decDigits, dif_pos h]
theorem dd_big {u : Nat} (h : ¬ u < 10) : Lib.decDigits u = Lib.decDigits (u / 10) ++ [UInt8.ofNat (48 + u % 10)] := by rw [Lib.decDigits, dif_neg h]
theorem dd_len : ∀ (k u : Nat), u < 10 ^ (k + 1) → (Lib.decDigits u).length ≤ k + 1
  | 0, u, h => by rw [dd_small (by simpa using h)]; simp
  | k + 1, u, h => by
    by_cases h1 : u < 10
    · rw [dd_small h1]; simp
    · rw [dd_big h1, List.length_append, List.length_singleton]
      have := dd_len k (u / 10) (by rw [Nat.pow_succ] at h; omega)
      omega
theorem itoa_len {n : Int} (h : n.natAbs < 10 ^ 7) : (Lib.itoa n).length ≤ 8 := by
  have := dd_len 6 n.natAbs h
  unfold Lib.itoa
  split
  · rw [List.length_cons]; omega
  · rw [show n.toNat = n.natAbs by omega]; omega
end Go.Proofs.YtinllchioeldbaaGreatDoor
namespace Go.Proofs.YtinllchioeldbaaGreatDoor
open cal

theorem date_uniq {d y m k y' m' k' : Int} (h : IsDate d y m k) (h' : IsDate d y' m' k') : y = y' ∧ m = m' ∧ k = k' := by
  obtain ⟨a0, a1, a2, a3, a4, a5, a6, a7⟩ := h
  obtain ⟨c0, c1, c2, c3, c4, c5, c6, c7⟩ := h'
  obtain rfl : y = y' := bef_uniq a1 a2 c1 c2
  rcases Int.lt_trichotomy m m' with h2 | h2 | h2
  · have := cum_mono y a3 (by omega) h2
    omega
  · subst h2
    exact ⟨rfl, rfl, by omega⟩
  · have := cum_mono y c3 (by omega) h2
    omega
open Classical in
/-- the date of a day -/
noncomputable def ymd (d : Int) : Int × Int × Int := if h : ∃ p : Int × Int × Int, IsDate d p.1 p.2.1 p.2.2 then h.choose else (0, 0, 0)
theorem ymd_is {d y m k : Int} (h : IsDate d y m k) : ymd d = (y, m, k) := by
  have hx : ∃ p : Int × Int × Int, IsDate d p.1 p.2.1 p.2.2 := ⟨(y, m, k), h⟩
  unfold ymd
  rw [dif_pos hx]
  obtain ⟨h1, h2, h3⟩ := date_uniq hx.choose_spec h
  exact Prod.ext h1 (Prod.ext h2 h3)
/-- a number with zeros ahead -/
def padL (n g : Int) : List UInt8 := List.replicate (g - ((Lib.itoa n).length : Int)).toNat 48 ++ Lib.itoa n
noncomputable def datL (d : Int) : List UInt8 := padL (ymd d).1 4 ++ [45] ++ padL (ymd d).2.1 2 ++ [45] ++ padL (ymd d).2.2 2
theorem rep_list (c : Nat) : Lib.repeatL [48] c = List.replicate c 48 := by
  induction c with
  | zero => rfl
  | succ c ih =>
    rw [List.replicate_succ, ← ih]
    rfl
theorem padL_len (n g : Int) : (padL n g).length ≤ g.toNat + (Lib.itoa n).length := by
  unfold padL
  rw [List.length_append, List.length_replicate]
  omega
end Go.Proofs.YtinllchioeldbaaGreatDoor
namespace Go.Proofs.YtinllchioeldbaaGreatDoor

/-- what a byte is written as -/
def escB (c : UInt8) : List UInt8 := if c = 34 then [92, 34] else if c = 92 then [92, 92] else [c]
def escL (l : List UInt8) : List UInt8 := l.flatMap escB
theorem escB_34 : escB 34 = [92, 34] := rfl
theorem escB_92 : escB 92 = [92, 92] := rfl
theorem escB_other {c : UInt8} (h : c ≠ 34) (h' : c ≠ 92) : escB c = [c] := by unfold escB; rw [if_neg h, if_neg h']
theorem escB_len (c : UInt8) : (escB c).length = 1 + (if c == 34 then 1 else 0) + (if c == 92 then 1 else 0) := by
  unfold escB
  by_cases h : c = 34
  · subst h; rfl
  · by_cases h' : c = 92
    · subst h'; rfl
    · simp [h, h']
theorem escL_nil : escL [] = [] := rfl
theorem escL_cons (c : UInt8) (l : List UInt8) : escL (c :: l) = escB c ++ escL l := rfl
theorem escL_app (l r : List UInt8) : escL (l ++ r) = escL l ++ escL r := List.flatMap_append
theorem escL_len (l : List UInt8) : (escL l).length = l.length + Lib.countByte l 34 + Lib.countByte l 92 := by
  unfold Lib.countByte
  induction l with
  | nil => rfl
  | cons c l ih =>
    rw [escL_cons, List.length_append, ih, escB_len, List.count_cons, List.count_cons, List.length_cons]
    omega
theorem escL_le (l : List UInt8) : (escL l).length ≤ 2 * l.length := by
  induction l with
  | nil => exact Nat.le_refl _
  | cons c l ih =>
    have := escB_len c
    rw [escL_cons, List.length_append, List.length_cons]
    have h1 : (if c == 34 then 1 else 0 : Nat) + (if c == 92 then 1 else 0) ≤ 1 := by
      by_cases h : c = 34
      · subst h; decide
      · simp [h]; split <;> omega
    omega
theorem escL_same {l : List UInt8} (h : Lib.countByte l 34 = 0) (h' : Lib.countByte l 92 = 0) : escL l = l := by
  unfold Lib.countByte at h h'
  induction l with
  | nil => rfl
  | cons c l ih =>
    rw [List.count_cons] at h h'
    have n1 : c ≠ 34 := by rintro rfl; simp at h
    have n2 : c ≠ 92 := by rintro rfl; simp at h'
    rw [escL_cons, escB_other n1 n2, ih (by omega) (by omega)]
    rfl
theorem escL_take {l : List UInt8} {k : Nat} (h : k < l.length) : escL (l.take (k + 1)) = escL (l.take k) ++ escB l[k] := by
  rw [← List.take_append_getElem h, escL_app]
  rw [show escL [l[k]] = escB l[k] from by rw [escL_cons, escL_nil, List.append_nil]]
theorem count_take {l : List UInt8} {k : Nat} (c : UInt8) (h : k < l.length) : Lib.countByte (l.take (k + 1)) c = Lib.countByte (l.take k) c + (if l[k] = c then 1 else 0) := by
  unfold Lib.countByte
  rw [← List.take_append_getElem h, List.count_append]
  congr 1
  by_cases e : l[k] = c
  · rw [if_pos e, e]; simp
  · rw [if_neg e]; simp [e]
theorem escL_grows {l : List UInt8} {k : Nat} (h : k < l.length) : (escL (l.take k)).length + (escB l[k]).length ≤ (escL l).length := by
  rw [← List.length_append, ← escL_take h]
  conv => rhs; rw [← List.take_append_drop (k + 1) l, escL_app, List.length_append]
  omega
/-- the text, written between quotation marks -/
def quoS (s : ByteArray) : ByteArray := ⟨(34 :: escL s.data.toList ++ [34]).toArray⟩
def escS (s : ByteArray) : ByteArray := ⟨(escL s.data.toList).toArray⟩
theorem escS_size (s : ByteArray) : (escS s).size ≤ 2 * s.size := by
  have := escL_le s.data.toList
  show (escL s.data.toList).toArray.size ≤ 2 * s.data.size
  simpa using this
theorem quoS_eq (s : ByteArray) : (⟨#[34]⟩ : ByteArray) ++ escS s ++ ⟨#[34]⟩ = quoS s := by
  apply ByteArray.ext
  simp [quoS, escS]
theorem quoS_size (s : ByteArray) : (quoS s).size ≤ 2 * s.size + 2 := by
  have := escS_size s
  rw [← quoS_eq, ByteArray.size_append, ByteArray.size_append]
  show 1 + _ + 1 ≤ _
  omega
end Go.Proofs.YtinllchioeldbaaGreatDoor
namespace Go.Proofs
open Go.Shelf

def Tryz.lays138_ren : Go.Shelf.Ren := ⟨fun | 138 => 165 | 195 => 166 | 218 => 167 | 143 => 168 | 219 => 169 | 217 => 108 | 225 => 92 | 224 => 91 | 267 => 170 | 266 => 121 | 314 => 171 | n => n, fun | 9 => 9 | 3 => 3 | 4 => 4 | 5 => 5 | 0 => 0 | 46 => 133 | 146 => 173 | 51 => 93 | n => n, fun | 1 => 1 | n => n⟩
theorem Tryz.lays138 : Go.Proofs.Lays.n138 Tryz.prog Tryz.lays138_ren := {
  mixed := by kernel_rfl
  f138 := Tryz.func165.trans (congrArg some (by kernel_rfl))
  f143 := Tryz.func168.trans (congrArg some (by kernel_rfl))
  f195 := Tryz.func166.trans (congrArg some (by kernel_rfl))
  f217 := Tryz.func108.trans (congrArg some (by kernel_rfl))
  f218 := Tryz.func167.trans (congrArg some (by kernel_rfl))
  f219 := Tryz.func169.trans (congrArg some (by kernel_rfl))
  f224 := Tryz.func91.trans (congrArg some (by kernel_rfl))
  f225 := Tryz.func92.trans (congrArg some (by kernel_rfl))
  f266 := Tryz.func121.trans (congrArg some (by kernel_rfl))
  f267 := Tryz.func170.trans (congrArg some (by kernel_rfl))
  f314 := Tryz.func171.trans (congrArg some (by kernel_rfl))
  t0 := Tryz.underlying0
  a0 := Tryz.isAgg0
  z0 := Tryz.sizeOf0
  v0 := Tryz.zeroValue0
  t3 := Tryz.underlying3
  a3 := Tryz.isAgg3
  z3 := Tryz.sizeOf3
  v3 := Tryz.zeroValue3
  t4 := Tryz.underlying4
  a4 := Tryz.isAgg4
  z4 := Tryz.sizeOf4
  v4 := Tryz.zeroValue4
  t5 := Tryz.underlying5
  a5 := Tryz.isAgg5
  z5 := Tryz.sizeOf5
  v5 := Tryz.zeroValue5
  t9 := Tryz.underlying9
  a9 := Tryz.isAgg9
  z9 := Tryz.sizeOf9
  v9 := Tryz.zeroValue9
  t46 := Tryz.underlying133
  a46 := Tryz.isAgg133
  z46 := Tryz.sizeOf133
  v46 := Tryz.zeroValue133
  t51 := Tryz.underlying93
  a51 := Tryz.isAgg93
  z51 := Tryz.sizeOf93
  v51 := Tryz.zeroValue93
  t146 := Tryz.underlying173
  a146 := Tryz.isAgg173
  z146 := Tryz.sizeOf173
  v146 := Tryz.zeroValue173
  g1 := by kernel_rfl }
open Go.RowKit Go.Lib in
theorem Tryz.strings_Count_one (s : ByteArray) (c : UInt8) (w : World) :
    Calls Tryz.prog 165 #[.string s, .string ⟨#[c]⟩] w fun e w' => e = .returned (.int .i64 (Lib.countByte s.data.toList c)) ∧ w' = w := Any.strings_Count_one Tryz.lays138 s c w
end Go.Proofs
namespace Go.Proofs
open Go.Shelf
def Tryz.lays137_ren : Go.Shelf.Ren := ⟨fun | 137 => 89 | 217 => 108 | 266 => 121 | n => n, fun | 9 => 9 | 5 => 5 | 3 => 3 | n => n, fun | n => n⟩
theorem Tryz.lays137 : Go.Proofs.Lays.n137 Tryz.prog Tryz.lays137_ren := {
  mixed := by kernel_rfl
  f137 := Tryz.func89.trans (congrArg some (by kernel_rfl))
  f217 := Tryz.func108.trans (congrArg some (by kernel_rfl))
  f266 := Tryz.func121.trans (congrArg some (by kernel_rfl))
  t3 := Tryz.underlying3
  a3 := Tryz.isAgg3
  z3 := Tryz.sizeOf3
  v3 := Tryz.zeroValue3
  t5 := Tryz.underlying5
  a5 := Tryz.isAgg5
  z5 := Tryz.sizeOf5
  v5 := Tryz.zeroValue5
  t9 := Tryz.underlying9
  a9 := Tryz.isAgg9
  z9 := Tryz.sizeOf9
  v9 := Tryz.zeroValue9 }
open Go.RowKit in
theorem Tryz.strings_IndexByte (s : ByteArray) (c : Int) (w : World) :
    Calls Tryz.prog 89 #[.string s, .int .u8 c] w fun e w' => e = .returned (.int .i64 (Lib.indexByte s.data.toList c.toNat.toUInt8)) ∧ w' = w := Any.strings_IndexByte Tryz.lays137 s c w
def Tryz.laysGw17_ren : Go.Shelf.Ren := ⟨fun | 17 => 65 | 15 => 74 | 20 => 88 | n => n, fun | 9 => 9 | 23 => 87 | 4 => 4 | 3 => 3 | 0 => 0 | 21 => 21 | n => n, fun | n => n⟩
theorem Tryz.laysGw17 : Go.Proofs.LaysGw.n17 Tryz.prog Tryz.laysGw17_ren := {
  mixed := by kernel_rfl
  f15 := Tryz.func74.trans (congrArg some (by kernel_rfl))
  f17 := Tryz.func65.trans (congrArg some (by kernel_rfl))
  f20 := Tryz.func88.trans (congrArg some (by kernel_rfl))
  t0 := Tryz.underlying0
  a0 := Tryz.isAgg0
  z0 := Tryz.sizeOf0
  v0 := Tryz.zeroValue0
  i0 := by kernel_rfl
  t3 := Tryz.underlying3
  a3 := Tryz.isAgg3
  z3 := Tryz.sizeOf3
  v3 := Tryz.zeroValue3
  i3 := by kernel_rfl
  t4 := Tryz.underlying4
  a4 := Tryz.isAgg4
  z4 := Tryz.sizeOf4
  v4 := Tryz.zeroValue4
  i4 := by kernel_rfl
  t9 := Tryz.underlying9
  a9 := Tryz.isAgg9
  z9 := Tryz.sizeOf9
  v9 := Tryz.zeroValue9
  i9 := by kernel_rfl
  t21 := Tryz.underlying21
  a21 := Tryz.isAgg21
  z21 := Tryz.sizeOf21
  v21 := Tryz.zeroValue21
  i21 := by kernel_rfl
  t23 := Tryz.underlying87
  a23 := Tryz.isAgg87
  z23 := Tryz.sizeOf87
  v23 := Tryz.zeroValue87
  i23 := by kernel_rfl }
open Go.RowKit Go.Lib in
theorem Tryz.strings_ContainsFunc (g : Nat) (lb : Array Value) (eg : ∀ args w, (callFunc g args).run Tryz.prog w = .ok (.enter g args) w) (p : Nat → Bool) (s : ByteArray) (w : World) (hp : PredAt Tryz.prog g lb encR p w) :
    Calls Tryz.prog 65 #[.string s, .func (.func g) #[] lb] w fun e w' => e = .returned (.bool (decide (0 ≤ Lib.idxFunc p true s))) ∧ Below w.heap.size w w' := Any.strings_ContainsFunc Tryz.laysGw17 g lb eg p s w hp
def Tryz.lays152_ren : Go.Shelf.Ren := ⟨fun | 152 => 75 | 137 => 89 | 119 => 90 | 224 => 91 | 225 => 92 | 217 => 108 | 266 => 121 | n => n, fun | 9 => 9 | 21 => 21 | 3 => 3 | 4 => 4 | 5 => 5 | 0 => 0 | 46 => 133 | n => n, fun | n => n⟩
theorem Tryz.lays152 : Go.Proofs.Lays.n152 Tryz.prog Tryz.lays152_ren := {
  mixed := by kernel_rfl
  f119 := Tryz.func90.trans (congrArg some (by kernel_rfl))
  f137 := Tryz.func89.trans (congrArg some (by kernel_rfl))
  f152 := Tryz.func75.trans (congrArg some (by kernel_rfl))
  f217 := Tryz.func108.trans (congrArg some (by kernel_rfl))
  f224 := Tryz.func91.trans (congrArg some (by kernel_rfl))
  f225 := Tryz.func92.trans (congrArg some (by kernel_rfl))
  f266 := Tryz.func121.trans (congrArg some (by kernel_rfl))
  t0 := Tryz.underlying0
  a0 := Tryz.isAgg0
  z0 := Tryz.sizeOf0
  v0 := Tryz.zeroValue0
  t3 := Tryz.underlying3
  a3 := Tryz.isAgg3
  z3 := Tryz.sizeOf3
  v3 := Tryz.zeroValue3
  t4 := Tryz.underlying4
  a4 := Tryz.isAgg4
  z4 := Tryz.sizeOf4
  v4 := Tryz.zeroValue4
  t5 := Tryz.underlying5
  a5 := Tryz.isAgg5
  z5 := Tryz.sizeOf5
  v5 := Tryz.zeroValue5
  t9 := Tryz.underlying9
  a9 := Tryz.isAgg9
  z9 := Tryz.sizeOf9
  v9 := Tryz.zeroValue9
  t21 := Tryz.underlying21
  a21 := Tryz.isAgg21
  z21 := Tryz.sizeOf21
  v21 := Tryz.zeroValue21
  t46 := Tryz.underlying133
  a46 := Tryz.isAgg133
  z46 := Tryz.sizeOf133
  v46 := Tryz.zeroValue133 }
open Go.RowKit Go.Lib in
theorem Tryz.strings_IndexRune_ascii (s : ByteArray) (r : Int) (w : World) (h0 : 0 ≤ r) (h1 : r < 128) :
    Calls Tryz.prog 75 #[.string s, .int .i32 r] w fun e w' => e = .returned (.int .i64 (Lib.indexByte s.data.toList r.toNat.toUInt8)) ∧ w' = w := Any.strings_IndexRune_ascii Tryz.lays152 s r w h0 h1
def Tryz.lays153_ren : Go.Shelf.Ren := ⟨fun | 153 => 67 | 152 => 75 | 226 => 76 | 227 => 77 | 228 => 78 | 137 => 89 | 119 => 90 | 224 => 91 | 225 => 92 | 217 => 108 | 266 => 121 | n => n, fun | 9 => 9 | 3 => 3 | 4 => 4 | 5 => 5 | 21 => 21 | 117 => 115 | 116 => 114 | 0 => 0 | 46 => 133 | 124 => 134 | n => n, fun | n => n⟩
theorem Tryz.lays153 : Go.Proofs.Lays.n153 Tryz.prog Tryz.lays153_ren := {
  mixed := by kernel_rfl
  f119 := Tryz.func90.trans (congrArg some (by kernel_rfl))
  f137 := Tryz.func89.trans (congrArg some (by kernel_rfl))
  f152 := Tryz.func75.trans (congrArg some (by kernel_rfl))
  f153 := Tryz.func67.trans (congrArg some (by kernel_rfl))
  f217 := Tryz.func108.trans (congrArg some (by kernel_rfl))
  f224 := Tryz.func91.trans (congrArg some (by kernel_rfl))
  f225 := Tryz.func92.trans (congrArg some (by kernel_rfl))
  f226 := Tryz.func76.trans (congrArg some (by kernel_rfl))
  f227 := Tryz.func77.trans (congrArg some (by kernel_rfl))
  f228 := Tryz.func78.trans (congrArg some (by kernel_rfl))
  f266 := Tryz.func121.trans (congrArg some (by kernel_rfl))
  t0 := Tryz.underlying0
  a0 := Tryz.isAgg0
  z0 := Tryz.sizeOf0
  v0 := Tryz.zeroValue0
  t3 := Tryz.underlying3
  a3 := Tryz.isAgg3
  z3 := Tryz.sizeOf3
  v3 := Tryz.zeroValue3
  t4 := Tryz.underlying4
  a4 := Tryz.isAgg4
  z4 := Tryz.sizeOf4
  v4 := Tryz.zeroValue4
  t5 := Tryz.underlying5
  a5 := Tryz.isAgg5
  z5 := Tryz.sizeOf5
  v5 := Tryz.zeroValue5
  t9 := Tryz.underlying9
  a9 := Tryz.isAgg9
  z9 := Tryz.sizeOf9
  v9 := Tryz.zeroValue9
  t21 := Tryz.underlying21
  a21 := Tryz.isAgg21
  z21 := Tryz.sizeOf21
  v21 := Tryz.zeroValue21
  t46 := Tryz.underlying133
  a46 := Tryz.isAgg133
  z46 := Tryz.sizeOf133
  v46 := Tryz.zeroValue133
  t116 := Tryz.underlying114
  a116 := Tryz.isAgg114
  z116 := Tryz.sizeOf114
  t117 := Tryz.underlying115
  a117 := Tryz.isAgg115
  z117 := Tryz.sizeOf115
  v117 := Tryz.zeroValue115
  t124 := Tryz.underlying134
  a124 := Tryz.isAgg134
  z124 := Tryz.sizeOf134
  v124 := Tryz.zeroValue134 }
open Go.RowKit Go.Lib in
theorem Tryz.strings_IndexAny_long (hv116 : ∀ w, (zeroValue 114).run Tryz.prog w = .ok (.agg (Array.replicate 256 (.bool false))) w) (s chars : ByteArray) (w : World) (h2 : 2 ≤ chars.size) (h8 : 8 < s.size) (hs : s.size < 4294967281) (hcs : chars.size < 4294967281) (hascii : ∀ (j : Nat) b, chars.data.toList[j]? = some b → b.toNat < 128) :
    Calls Tryz.prog 67 #[.string s, .string chars] w fun e w' => e = .returned (.int .i64 (Lib.indexAny s.data.toList chars.data.toList)) ∧ w' = ((w.alloc (.cells (Lib.setCells chars.data.toList) 114)).alloc (.cells (Lib.setCells chars.data.toList) 114)) := Any.strings_IndexAny_long Tryz.lays153 hv116 (by kernel_rfl) s chars w h2 h8 hs hcs hascii
end Go.Proofs
