/-
  DERIVED. DERIVED: THE SHELF's CONTRACTS AT THIS DUMP, IN PLAIN WORDS (tools/lay-plain.mjs out of 'TryShelf.lean', which tools/lay-shelf.mjs wrote): THE SAME DECLARATIONS UNDER THE SAME NAMES: 'import', 'namespace', 'open', 'def', 'theorem' AND NOTHING ELSE: no command of the shelf's: FOR A HAND-IN. Each laying: the table of numbers ('.._ren') and one theorem, a field a fact of the dump's own or the kernel's comparison; each contract: ONE APPLICATION.
  Plain law: the calendar: the days before a year, the days before a month, dates one after the other, weeks. Conditions: none.
  Plain law: a number's digits and their value; words joined by a byte and cut at it again. Conditions: none.
  Plain law: a day's date as a text. Conditions: none.
  DERIVED: THE SHELF's CONTRACT OF strconv.Itoa AT THIS DUMP, IN PLAIN WORDS (tools/lay-plain.mjs out of a laid shelf text).
  DERIVED: THE SHELF's CONTRACTS AT THIS DUMP, IN PLAIN WORDS (tools/lay-plain.mjs out of 'TrydShelf.lean', which tools/lay-shelf.mjs wrote): THE SAME DECLARATIONS UNDER THE SAME NAMES: 'import', 'namespace', 'open', 'def', 'theorem' AND NOTHING ELSE: no command of the shelf's: FOR A HAND-IN. Each laying: the table of numbers ('.._ren') and one theorem, a field a fact of the dump's own or the kernel's comparison; each contract: ONE APPLICATION.
  By an AI agent.
-/
import Derived.Shelf.Strings.Builder1
import Derived.Shelf.Strings.Builder2
import Derived.Shelf.Strings.OnBuilder
import Derived.Shelf.Small.Strs
import Derived.Shelf.Strings.BuilderF
import Derived.Test.YtdabgfjglkoadaaGreatDoorProg
import Derived.WalkKit
import Derived.Lib.ItoaNum
import Derived.Lib.Atoi
import Derived.Lib.Split
import Derived.Lib.IndexBytes
import Derived.Lib.Join
import Derived.Lib.Strings
import Derived.Lib.SlTrimSet
import Derived.Lib.Repeat
import Derived.Shelf.Strconv.Itoa0
import Derived.Shelf.Strconv.Itoa1
import Derived.Shelf.LaysM
import Derived.Shelf.Strconv.Itoa2
import Derived.Shelf.Strconv.Itoa3
import Derived.Shelf.Strings.Prefix
import Derived.Shelf.Bits.Mul64
import Derived.Shelf.Strings.Repeat
import Derived.Shelf.Strings.BuilderCap
namespace Go.Proofs
open Go.Shelf

def Tryz.lays156_ren : Go.Shelf.Ren := ⟨fun | 156 => 21 | 165 => 45 | 166 => 46 | 169 => 47 | 240 => 67 | 241 => 68 | 276 => 77 | 277 => 78 | n => n, fun | 31 => 47 | 9 => 9 | 3 => 3 | 4 => 4 | 0 => 0 | 20 => 20 | 72 => 63 | 76 => 67 | 70 => 60 | 37 => 61 | 75 => 66 | 127 => 82 | 164 => 104 | 5 => 5 | 80 => 69 | n => n, fun | n => n⟩
theorem Tryz.lays156 : Go.Proofs.Lays.n156 Tryz.prog Tryz.lays156_ren := {
  mixed := by kernel_rfl
  f156 := Tryz.func21.trans (congrArg some (by kernel_rfl))
  f165 := Tryz.func45.trans (congrArg some (by kernel_rfl))
  f166 := Tryz.func46.trans (congrArg some (by kernel_rfl))
  f169 := Tryz.func47.trans (congrArg some (by kernel_rfl))
  f240 := Tryz.func67.trans (congrArg some (by kernel_rfl))
  f241 := Tryz.func68.trans (congrArg some (by kernel_rfl))
  f276 := Tryz.func77.trans (congrArg some (by kernel_rfl))
  f277 := Tryz.func78.trans (congrArg some (by kernel_rfl))
  t0 := Tryz.underlying0
  a0 := Tryz.isAgg0
  z0 := Tryz.sizeOf0
  v0 := Tryz.zeroValue0
  t3 := Tryz.underlying3
  a3 := Tryz.isAgg3
  z3 := Tryz.sizeOf3
  v3 := Tryz.zeroValue3
  t4 := Tryz.underlying4
  a4 := Tryz.isAgg4
  z4 := Tryz.sizeOf4
  v4 := Tryz.zeroValue4
  t9 := Tryz.underlying9
  a9 := Tryz.isAgg9
  z9 := Tryz.sizeOf9
  v9 := Tryz.zeroValue9
  t20 := Tryz.underlying20
  a20 := Tryz.isAgg20
  z20 := Tryz.sizeOf20
  v20 := Tryz.zeroValue20
  t31 := Tryz.underlying47
  a31 := Tryz.isAgg47
  z31 := Tryz.sizeOf47
  v31 := Tryz.zeroValue47
  t37 := Tryz.underlying61
  a37 := Tryz.isAgg61
  z37 := Tryz.sizeOf61
  v37 := Tryz.zeroValue61
  t70 := Tryz.underlying60
  a70 := Tryz.isAgg60
  z70 := Tryz.sizeOf60
  v70 := Tryz.zeroValue60
  t72 := Tryz.underlying63
  a72 := Tryz.isAgg63
  z72 := Tryz.sizeOf63
  v72 := Tryz.zeroValue63
  t75 := Tryz.underlying66
  a75 := Tryz.isAgg66
  z75 := Tryz.sizeOf66
  v75 := Tryz.zeroValue66
  t76 := Tryz.underlying67
  a76 := Tryz.isAgg67
  z76 := Tryz.sizeOf67
  v76 := Tryz.zeroValue67
  t127 := Tryz.underlying82
  a127 := Tryz.isAgg82
  z127 := Tryz.sizeOf82
  v127 := Tryz.zeroValue82
  t164 := Tryz.underlying104
  a164 := Tryz.isAgg104
  z164 := Tryz.sizeOf104
  v164 := Tryz.zeroValue104 }
theorem Tryz.Builder_Extra_156 : Builder.Extra Tryz.prog Tryz.lays156_ren := {
  sizeBuilder := by kernel_rfl
  liesBuilder := by kernel_rfl
  t5 := Tryz.underlying5
  a5 := Tryz.isAgg5
  z5 := Tryz.sizeOf5
  v5 := Tryz.zeroValue5
  infoByte := by kernel_rfl
  cellsByte := by kernel_rfl
  sizeByte := by kernel_rfl
  neB5 := by decide }
open Go.RowKit in
theorem Tryz.strings_Join_none (a : Option Addr) (c : Nat) (sep : ByteArray) (w : World) :
    Calls Tryz.prog 21 #[.slice a 0 c, .string sep] w fun e w' => e = .returned (.string ⟨#[]⟩) ∧ w' = w := Any.strings_Join_none Tryz.lays156 Tryz.Builder_Extra_156 a c sep w
open Go.RowKit in
theorem Tryz.strings_Join (bk o c : Nat) (xs : List ByteArray) (sep : ByteArray) (w : World) (hcells : ∀ (j : Nat) x, xs[j]? = some x → w.cell? ⟨bk, o + j, none⟩ = some (.string x)) (hbk : bk < w.heap.size) (hN : xs.length ≤ 140737488355328) (hcap : xs.length ≤ c) (hlen : (Lib.join (xs.map (·.data.toList)) sep.data.toList).length ≤ 140737488355328) :
    Calls Tryz.prog 21 #[.slice (some ⟨bk, o, none⟩) xs.length c, .string sep] w fun e w' => e = .returned (.string ⟨(Lib.join (xs.map (·.data.toList)) sep.data.toList).toArray⟩) ∧ Below w.heap.size w w' := Any.strings_Join Tryz.lays156 Tryz.Builder_Extra_156 bk o c xs sep w hcells hbk hN hcap hlen
end Go.Proofs
namespace Go.Proofs.YtdabgfjglkoadaaGreatDoor.cal

def bef (y : Int) : Int := 365 * (y - 2001) + (y - 1) / 4 - 500 - (y - 1) / 100 + 20 + (y - 1) / 400 - 5
def lp (y : Int) : Int := if y % 4 = 0 ∧ (y % 100 ≠ 0 ∨ y % 400 = 0) then 1 else 0
theorem lp_01 (y : Int) : lp y = 0 ∨ lp y = 1 := by unfold lp; split <;> simp
theorem bef_succ (y : Int) : bef (y + 1) = bef y + 365 + lp y := by unfold bef lp; split <;> omega
theorem bef_mono {a b : Int} (h : a ≤ b) : bef a ≤ bef b := by unfold bef; omega
theorem bef_lo {y : Int} (h : 2001 ≤ y) : 0 ≤ bef y := by unfold bef; omega
theorem bef_hi {y d : Int} (h : bef y ≤ d) (hd : d ≤ 200000) : y ≤ 2600 := by unfold bef at h; omega
theorem bef_guess {d : Int} (h : 0 ≤ d) (hd : d ≤ 200000) : bef (2001 + d / 366) ≤ d := by unfold bef; omega
theorem bef_uniq {y y' d : Int} (h : bef y ≤ d) (h1 : d < bef (y + 1)) (h' : bef y' ≤ d) (h1' : d < bef (y' + 1)) : y = y' := by
  rcases Int.lt_trichotomy y y' with h2 | h2 | h2
  · have := bef_mono (show y + 1 ≤ y' by omega); omega
  · exact h2
  · have := bef_mono (show y' + 1 ≤ y by omega); omega

def ml (y m : Int) : Int := if m = 2 then 28 + lp y else if m = 4 ∨ m = 6 ∨ m = 9 ∨ m = 11 then 30 else 31
def cum (y m : Int) : Int :=
  if m = 1 then 0 else if m = 2 then 31 else if m = 3 then 59 + lp y else if m = 4 then 90 + lp y else if m = 5 then 120 + lp y else if m = 6 then 151 + lp y else if m = 7 then 181 + lp y
  else if m = 8 then 212 + lp y else if m = 9 then 243 + lp y else if m = 10 then 273 + lp y else if m = 11 then 304 + lp y else if m = 12 then 334 + lp y else 365 + lp y

theorem month_cases {m : Int} (h : 1 ≤ m) (h' : m ≤ 12) : m = 1 ∨ m = 2 ∨ m = 3 ∨ m = 4 ∨ m = 5 ∨ m = 6 ∨ m = 7 ∨ m = 8 ∨ m = 9 ∨ m = 10 ∨ m = 11 ∨ m = 12 := by omega
theorem cum_succ (y : Int) {m : Int} (h : 1 ≤ m) (h' : m ≤ 12) : cum y (m + 1) = cum y m + ml y m := by
  rcases month_cases h h' with rfl | rfl | rfl | rfl | rfl | rfl | rfl | rfl | rfl | rfl | rfl | rfl <;> simp [cum, ml] <;> omega
theorem cum_13 (y : Int) : cum y 13 = 365 + lp y := by simp [cum]
theorem ml_lo (y m : Int) : 28 ≤ ml y m := by have := lp_01 y; unfold ml; repeat' split
                                              all_goals omega
theorem ml_hi (y m : Int) : ml y m ≤ 31 := by have := lp_01 y; unfold ml; repeat' split
                                              all_goals omega
theorem cum_bd (y : Int) {m : Int} (h : 1 ≤ m) (h' : m ≤ 13) : 0 ≤ cum y m ∧ cum y m ≤ 366 := by
  have := lp_01 y
  have hm : m = 1 ∨ m = 2 ∨ m = 3 ∨ m = 4 ∨ m = 5 ∨ m = 6 ∨ m = 7 ∨ m = 8 ∨ m = 9 ∨ m = 10 ∨ m = 11 ∨ m = 12 ∨ m = 13 := by omega
  rcases hm with rfl | rfl | rfl | rfl | rfl | rfl | rfl | rfl | rfl | rfl | rfl | rfl | rfl <;> simp [cum] <;> omega
/-- the days before a month go up -/
theorem cum_mono (y : Int) {m m' : Int} (h : 1 ≤ m) (h' : m' ≤ 13) (hm : m < m') : cum y m + ml y m ≤ cum y m' := by
  have key : ∀ n : Nat, ∀ m' : Int, m' = m + 1 + n → m' ≤ 13 → cum y m + ml y m ≤ cum y m' := by
    intro n
    induction n with
    | zero => intro m' e hm'; rw [show m' = m + 1 by omega, cum_succ y h (by omega)]; exact Int.le_refl _
    | succ n ih =>
      intro m' e hm'
      have := ih (m' - 1) (by omega) (by omega)
      have h2 := cum_succ y (m := m' - 1) (by omega) (by omega)
      have := ml_lo y (m' - 1)
      rw [show m' - 1 + 1 = m' by omega] at h2
      omega
  exact key (m' - m - 1).toNat m' (by omega) h'

structure IsDate (d y m k : Int) : Prop where
  y0 : 2001 ≤ y
  b0 : bef y ≤ d
  b1 : d < bef (y + 1)
  m0 : 1 ≤ m
  m1 : m ≤ 12
  k0 : 1 ≤ k
  k1 : k ≤ ml y m
  eq : d = bef y + cum y m + k - 1

end Go.Proofs.YtdabgfjglkoadaaGreatDoor.cal
namespace Go.Proofs.YtdabgfjglkoadaaGreatDoor

theorem dd_small {u : Nat} (h : u < 10) : Lib.decDigits u = [UInt8.ofNat (48 + u)] := by rw [Lib.decDigits, dif_pos h]
theorem dd_big {u : Nat} (h : ¬ u < 10) : Lib.decDigits u = Lib.decDigits (u / 10) ++ [UInt8.ofNat (48 + u % 10)] := by rw [Lib.decDigits, dif_neg h]
theorem dd_len : ∀ (k u : Nat), u < 10 ^ (k + 1) → (Lib.decDigits u).length ≤ k + 1
  | 0, u, h => by rw [dd_small (by simpa using h)]; simp
  | k + 1, u, h => by
    by_cases h1 : u < 10
    · rw [dd_small h1]; simp
    · rw [dd_big h1, List.length_append, List.length_singleton]
      have := dd_len k (u / 10) (by rw [Nat.pow_succ] at h; omega)
      omega
theorem itoa_len {n : Int} (h : n.natAbs < 10 ^ 7) : (Lib.itoa n).length ≤ 8 := by
  have := dd_len 6 n.natAbs h
  unfold Lib.itoa
  split
  · rw [List.length_cons]; omega
  · rw [show n.toNat = n.natAbs by omega]; omega
end Go.Proofs.YtdabgfjglkoadaaGreatDoor
namespace Go.Proofs.YtdabgfjglkoadaaGreatDoor
open cal

theorem date_uniq {d y m k y' m' k' : Int} (h : IsDate d y m k) (h' : IsDate d y' m' k') : y = y' ∧ m = m' ∧ k = k' := by
  obtain ⟨a0, a1, a2, a3, a4, a5, a6, a7⟩ := h
  obtain ⟨c0, c1, c2, c3, c4, c5, c6, c7⟩ := h'
  obtain rfl : y = y' := bef_uniq a1 a2 c1 c2
  rcases Int.lt_trichotomy m m' with h2 | h2 | h2
  · have := cum_mono y a3 (by omega) h2
    omega
  · subst h2
    exact ⟨rfl, rfl, by omega⟩
  · have := cum_mono y c3 (by omega) h2
    omega
open Classical in
/-- the date of a day -/
noncomputable def ymd (d : Int) : Int × Int × Int := if h : ∃ p : Int × Int × Int, IsDate d p.1 p.2.1 p.2.2 then h.choose else (0, 0, 0)
theorem ymd_is {d y m k : Int} (h : IsDate d y m k) : ymd d = (y, m, k) := by
  have hx : ∃ p : Int × Int × Int, IsDate d p.1 p.2.1 p.2.2 := ⟨(y, m, k), h⟩
  unfold ymd
  rw [dif_pos hx]
  obtain ⟨h1, h2, h3⟩ := date_uniq hx.choose_spec h
  exact Prod.ext h1 (Prod.ext h2 h3)
/-- a number with zeros ahead -/
def padL (n g : Int) : List UInt8 := List.replicate (g - ((Lib.itoa n).length : Int)).toNat 48 ++ Lib.itoa n
noncomputable def datL (d : Int) : List UInt8 := padL (ymd d).1 4 ++ [45] ++ padL (ymd d).2.1 2 ++ [45] ++ padL (ymd d).2.2 2
theorem rep_list (c : Nat) : Lib.repeatL [48] c = List.replicate c 48 := by
  induction c with
  | zero => rfl
  | succ c ih =>
    rw [List.replicate_succ, ← ih]
    rfl
theorem padL_len (n g : Int) : (padL n g).length ≤ g.toNat + (Lib.itoa n).length := by
  unfold padL
  rw [List.length_append, List.length_replicate]
  omega
end Go.Proofs.YtdabgfjglkoadaaGreatDoor
namespace Go.Proofs
open Go.Shelf

def Tryz.laysM171_ren : Go.Shelf.Ren := ⟨fun | 171 => 30 | 243 => 49 | 246 => 70 | 283 => 81 | 284 => 82 | 285 => 83 | 286 => 84 | 129 => 100 | 317 => 99 | 318 => 101 | 319 => 102 | 320 => 103 | 337 => 121 | 338 => 122 | n => n, fun | 3 => 3 | 9 => 9 | 2 => 2 | 4 => 4 | 171 => 110 | 0 => 0 | 53 => 111 | 37 => 61 | 5 => 5 | 173 => 114 | 212 => 136 | 51 => 89 | 20 => 20 | 213 => 137 | 46 => 138 | 232 => 186 | 233 => 187 | n => n, fun | 17 => 1 | 18 => 2 | 19 => 3 | n => n⟩
theorem Tryz.laysM171 : Go.Proofs.LaysM.n171 Tryz.prog Tryz.laysM171_ren := {
  mixed := by kernel_rfl
  f129 := Tryz.func100.trans (congrArg some (by kernel_rfl))
  f171 := Tryz.func30.trans (congrArg some (by kernel_rfl))
  f243 := Tryz.func49.trans (congrArg some (by kernel_rfl))
  f246 := Tryz.func70.trans (congrArg some (by kernel_rfl))
  f283 := Tryz.func81.trans (congrArg some (by kernel_rfl))
  f284 := Tryz.func82.trans (congrArg some (by kernel_rfl))
  f285 := Tryz.func83.trans (congrArg some (by kernel_rfl))
  f286 := Tryz.func84.trans (congrArg some (by kernel_rfl))
  f317 := Tryz.func99.trans (congrArg some (by kernel_rfl))
  f318 := Tryz.func101.trans (congrArg some (by kernel_rfl))
  f319 := Tryz.func102.trans (congrArg some (by kernel_rfl))
  f320 := Tryz.func103.trans (congrArg some (by kernel_rfl))
  f337 := Tryz.func121.trans (congrArg some (by kernel_rfl))
  f338 := Tryz.func122.trans (congrArg some (by kernel_rfl))
  t0 := Tryz.underlying0
  a0 := Tryz.isAgg0
  z0 := Tryz.sizeOf0
  v0 := Tryz.zeroValue0
  t2 := Tryz.underlying2
  a2 := Tryz.isAgg2
  z2 := Tryz.sizeOf2
  v2 := Tryz.zeroValue2
  t3 := Tryz.underlying3
  a3 := Tryz.isAgg3
  z3 := Tryz.sizeOf3
  v3 := Tryz.zeroValue3
  t4 := Tryz.underlying4
  a4 := Tryz.isAgg4
  z4 := Tryz.sizeOf4
  v4 := Tryz.zeroValue4
  t5 := Tryz.underlying5
  a5 := Tryz.isAgg5
  z5 := Tryz.sizeOf5
  v5 := Tryz.zeroValue5
  t9 := Tryz.underlying9
  a9 := Tryz.isAgg9
  z9 := Tryz.sizeOf9
  v9 := Tryz.zeroValue9
  t20 := Tryz.underlying20
  a20 := Tryz.isAgg20
  z20 := Tryz.sizeOf20
  v20 := Tryz.zeroValue20
  t37 := Tryz.underlying61
  a37 := Tryz.isAgg61
  z37 := Tryz.sizeOf61
  v37 := Tryz.zeroValue61
  t46 := Tryz.underlying138
  a46 := Tryz.isAgg138
  z46 := Tryz.sizeOf138
  v46 := Tryz.zeroValue138
  t51 := Tryz.underlying89
  a51 := Tryz.isAgg89
  z51 := Tryz.sizeOf89
  v51 := Tryz.zeroValue89
  t53 := Tryz.underlying111
  a53 := Tryz.isAgg111
  z53 := Tryz.sizeOf111
  v53 := Tryz.zeroValue111
  t171 := Tryz.underlying110
  a171 := Tryz.isAgg110
  z171 := Tryz.sizeOf110
  v171 := Tryz.zeroValue110
  t173 := Tryz.underlying114
  a173 := Tryz.isAgg114
  z173 := Tryz.sizeOf114
  v173 := Tryz.zeroValue114
  t212 := Tryz.underlying136
  a212 := Tryz.isAgg136
  z212 := Tryz.sizeOf136
  v212 := Tryz.zeroValue136
  t213 := Tryz.underlying137
  a213 := Tryz.isAgg137
  z213 := Tryz.sizeOf137
  t232 := Tryz.underlying186
  a232 := Tryz.isAgg186
  z232 := Tryz.sizeOf186
  v232 := Tryz.zeroValue186
  t233 := Tryz.underlying187
  a233 := Tryz.isAgg187
  z233 := Tryz.sizeOf187
  v233 := Tryz.zeroValue187
  g17 := by kernel_rfl
  g18 := by kernel_rfl
  g19 := by kernel_rfl
  i0 := by kernel_rfl
  i2 := by kernel_rfl
  i3 := by kernel_rfl
  i4 := by kernel_rfl
  i5 := by kernel_rfl
  i9 := by kernel_rfl
  i20 := by kernel_rfl
  i37 := by kernel_rfl
  i46 := by kernel_rfl
  i51 := by kernel_rfl
  i53 := by kernel_rfl
  i171 := by kernel_rfl
  i173 := by kernel_rfl
  i212 := by kernel_rfl
  i232 := by kernel_rfl
  i233 := by kernel_rfl
  m17 := by kernel_rfl
  m18 := by kernel_rfl
  m19 := by kernel_rfl }
open Go.RowKit Go.Sort Go.Lib in
theorem Tryz.strconv_Itoa (n : Int) (h0 : -9223372036854775808 ≤ n) (h1 : n ≤ 9223372036854775807) (w : World) (htab : Lib.TabIs Tryz.prog w "internal/strconv.uint64pow10" .u64 Lib.pow10Tab) :
    Calls Tryz.prog 30 #[.int .i64 n] w fun e w' => e = .returned (.string ⟨(Lib.itoa n).toArray⟩) ∧ ∃ k os, w' = grow (w.drewN k) os := Any.strconv_Itoa Tryz.laysM171 n h0 h1 w htab
end Go.Proofs
namespace Go.Proofs
open Go.Shelf

def Tryz.lays105_ren : Go.Shelf.Ren := ⟨fun | 105 => 98 | 212 => 118 | 99 => 119 | 165 => 45 | 166 => 46 | 170 => 120 | 169 => 47 | 263 => 134 | 264 => 135 | 206 => 136 | 240 => 67 | 241 => 68 | 276 => 77 | 277 => 78 | n => n, fun | 9 => 9 | 3 => 3 | 4 => 4 | 20 => 20 | 0 => 0 | 46 => 138 | 109 => 162 | 5 => 5 | 72 => 63 | 76 => 67 | 51 => 89 | 146 => 182 | 53 => 111 | 148 => 184 | 70 => 60 | 37 => 61 | 75 => 66 | 127 => 82 | 164 => 104 | 80 => 69 | n => n, fun | n => n⟩
theorem Tryz.lays105 : Go.Proofs.Lays.n105 Tryz.prog Tryz.lays105_ren := {
  mixed := by kernel_rfl
  f99 := Tryz.func119.trans (congrArg some (by kernel_rfl))
  f105 := Tryz.func98.trans (congrArg some (by kernel_rfl))
  f165 := Tryz.func45.trans (congrArg some (by kernel_rfl))
  f166 := Tryz.func46.trans (congrArg some (by kernel_rfl))
  f169 := Tryz.func47.trans (congrArg some (by kernel_rfl))
  f170 := Tryz.func120.trans (congrArg some (by kernel_rfl))
  f206 := Tryz.func136.trans (congrArg some (by kernel_rfl))
  f212 := Tryz.func118.trans (congrArg some (by kernel_rfl))
  f240 := Tryz.func67.trans (congrArg some (by kernel_rfl))
  f241 := Tryz.func68.trans (congrArg some (by kernel_rfl))
  f263 := Tryz.func134.trans (congrArg some (by kernel_rfl))
  f264 := Tryz.func135.trans (congrArg some (by kernel_rfl))
  f276 := Tryz.func77.trans (congrArg some (by kernel_rfl))
  f277 := Tryz.func78.trans (congrArg some (by kernel_rfl))
  t0 := Tryz.underlying0
  a0 := Tryz.isAgg0
  z0 := Tryz.sizeOf0
  v0 := Tryz.zeroValue0
  t3 := Tryz.underlying3
  a3 := Tryz.isAgg3
  z3 := Tryz.sizeOf3
  v3 := Tryz.zeroValue3
  t4 := Tryz.underlying4
  a4 := Tryz.isAgg4
  z4 := Tryz.sizeOf4
  v4 := Tryz.zeroValue4
  t5 := Tryz.underlying5
  a5 := Tryz.isAgg5
  z5 := Tryz.sizeOf5
  v5 := Tryz.zeroValue5
  t9 := Tryz.underlying9
  a9 := Tryz.isAgg9
  z9 := Tryz.sizeOf9
  v9 := Tryz.zeroValue9
  t20 := Tryz.underlying20
  a20 := Tryz.isAgg20
  z20 := Tryz.sizeOf20
  v20 := Tryz.zeroValue20
  t37 := Tryz.underlying61
  a37 := Tryz.isAgg61
  z37 := Tryz.sizeOf61
  v37 := Tryz.zeroValue61
  t46 := Tryz.underlying138
  a46 := Tryz.isAgg138
  z46 := Tryz.sizeOf138
  v46 := Tryz.zeroValue138
  t51 := Tryz.underlying89
  a51 := Tryz.isAgg89
  z51 := Tryz.sizeOf89
  v51 := Tryz.zeroValue89
  t53 := Tryz.underlying111
  a53 := Tryz.isAgg111
  z53 := Tryz.sizeOf111
  v53 := Tryz.zeroValue111
  t70 := Tryz.underlying60
  a70 := Tryz.isAgg60
  z70 := Tryz.sizeOf60
  v70 := Tryz.zeroValue60
  t72 := Tryz.underlying63
  a72 := Tryz.isAgg63
  z72 := Tryz.sizeOf63
  v72 := Tryz.zeroValue63
  t75 := Tryz.underlying66
  a75 := Tryz.isAgg66
  z75 := Tryz.sizeOf66
  v75 := Tryz.zeroValue66
  t76 := Tryz.underlying67
  a76 := Tryz.isAgg67
  z76 := Tryz.sizeOf67
  v76 := Tryz.zeroValue67
  t109 := Tryz.underlying162
  a109 := Tryz.isAgg162
  z109 := Tryz.sizeOf162
  v109 := Tryz.zeroValue162
  t127 := Tryz.underlying82
  a127 := Tryz.isAgg82
  z127 := Tryz.sizeOf82
  v127 := Tryz.zeroValue82
  t146 := Tryz.underlying182
  a146 := Tryz.isAgg182
  z146 := Tryz.sizeOf182
  v146 := Tryz.zeroValue182
  t148 := Tryz.underlying184
  a148 := Tryz.isAgg184
  z148 := Tryz.sizeOf184
  v148 := Tryz.zeroValue184
  t164 := Tryz.underlying104
  a164 := Tryz.isAgg104
  z164 := Tryz.sizeOf104
  v164 := Tryz.zeroValue104 }
theorem Tryz.Builder_Extra_105 : Builder.Extra Tryz.prog Tryz.lays105_ren := {
  sizeBuilder := by kernel_rfl
  liesBuilder := by kernel_rfl
  t5 := Tryz.underlying5
  a5 := Tryz.isAgg5
  z5 := Tryz.sizeOf5
  v5 := Tryz.zeroValue5
  infoByte := by kernel_rfl
  cellsByte := by kernel_rfl
  sizeByte := by kernel_rfl
  neB5 := by decide }
open Go.RowKit Go.Lib in
theorem Tryz.strings_Repeat (s : ByteArray) (c : Nat) (w : World) (hc : c ≤ 9223372036854775807) (hlen : s.size * c ≤ 140737488355328) :
    Calls Tryz.prog 98 #[.string s, .int .i64 c] w fun e w' => e = .returned (.string ⟨(Lib.repeatL s.data.toList c).toArray⟩) ∧ Below w.heap.size w w' := Any.strings_Repeat Tryz.lays105 Tryz.Builder_Extra_105 s c w hc hlen
end Go.Proofs
