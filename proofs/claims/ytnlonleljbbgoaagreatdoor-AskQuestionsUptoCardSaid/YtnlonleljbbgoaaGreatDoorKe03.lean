/-
  DERIVED. Plain law: the calendar: the days before a year, the days before a month, dates one after the other, weeks. Conditions: none.
  Plain law: a number's digits and their value; words joined by a byte and cut at it again. Conditions: none.
  Plain law: a day's date as a text. Conditions: none.
  DERIVED: THE SHELF's CONTRACT OF strconv.Itoa AT THIS DUMP, IN PLAIN WORDS (tools/lay-plain.mjs out of a laid shelf text).
  DERIVED: THE SHELF's CONTRACTS AT THIS DUMP, IN PLAIN WORDS (tools/lay-plain.mjs out of 'TrydShelf.lean', which tools/lay-shelf.mjs wrote): THE SAME DECLARATIONS UNDER THE SAME NAMES: 'import', 'namespace', 'open', 'def', 'theorem' AND NOTHING ELSE: no command of the shelf's: FOR A HAND-IN. Each laying: the table of numbers ('.._ren') and one theorem, a field a fact of the dump's own or the kernel's comparison; each contract: ONE APPLICATION.
  By an AI agent.
-/
import Derived.WalkKit
import Derived.Lib.ItoaNum
import Derived.Lib.Atoi
import Derived.Lib.Split
import Derived.Lib.IndexBytes
import Derived.Lib.Join
import Derived.Lib.Strings
import Derived.Lib.SlTrimSet
import Derived.Lib.Repeat
import Derived.Shelf.Strconv.Itoa0
import Derived.Shelf.Strconv.Itoa1
import Derived.Shelf.LaysM
import Derived.Shelf.Strconv.Itoa2
import Derived.Shelf.Strconv.Itoa3
import Derived.Test.YtnlonleljbbgoaaGreatDoorProg
import Derived.Shelf.Strings.Builder2
import Derived.Shelf.Strings.BuilderF
import Derived.Shelf.Strings.Prefix
import Derived.Shelf.Bits.Mul64
import Derived.Shelf.Strings.Repeat
import Derived.Shelf.Strings.BuilderCap
namespace Go.Proofs.YtnlonleljbbgoaaGreatDoor.cal

def bef (y : Int) : Int := 365 * (y - 2001) + (y - 1) / 4 - 500 - (y - 1) / 100 + 20 + (y - 1) / 400 - 5
def lp (y : Int) : Int := if y % 4 = 0 ∧ (y % 100 ≠ 0 ∨ y % 400 = 0) then 1 else 0
theorem lp_01 (y : Int) : lp y = 0 ∨ lp y = 1 := by unfold lp; split <;> simp
theorem bef_succ (y : Int) : bef (y + 1) = bef y + 365 + lp y := by unfold bef lp; split <;> omega
theorem bef_mono {a b : Int} (h : a ≤ b) : bef a ≤ bef b := by unfold bef; omega
theorem bef_lo {y : Int} (h : 2001 ≤ y) : 0 ≤ bef y := by unfold bef; omega
theorem bef_hi {y d : Int} (h : bef y ≤ d) (hd : d ≤ 200000) : y ≤ 2600 := by unfold bef at h; omega
theorem bef_guess {d : Int} (h : 0 ≤ d) (hd : d ≤ 200000) : bef (2001 + d / 366) ≤ d := by unfold bef; omega
theorem bef_uniq {y y' d : Int} (h : bef y ≤ d) (h1 : d < bef (y + 1)) (h' : bef y' ≤ d) (h1' : d < bef (y' + 1)) : y = y' := by
  rcases Int.lt_trichotomy y y' with h2 | h2 | h2
  · have := bef_mono (show y + 1 ≤ y' by omega); omega
  · exact h2
  · have := bef_mono (show y' + 1 ≤ y by omega); omega

def ml (y m : Int) : Int := if m = 2 then 28 + lp y else if m = 4 ∨ m = 6 ∨ m = 9 ∨ m = 11 then 30 else 31
def cum (y m : Int) : Int :=
  if m = 1 then 0 else if m = 2 then 31 else if m = 3 then 59 + lp y else if m = 4 then 90 + lp y else if m = 5 then 120 + lp y else if m = 6 then 151 + lp y else if m = 7 then 181 + lp y
  else if m = 8 then 212 + lp y else if m = 9 then 243 + lp y else if m = 10 then 273 + lp y else if m = 11 then 304 + lp y else if m = 12 then 334 + lp y else 365 + lp y

theorem month_cases {m : Int} (h : 1 ≤ m) (h' : m ≤ 12) : m = 1 ∨ m = 2 ∨ m = 3 ∨ m = 4 ∨ m = 5 ∨ m = 6 ∨ m = 7 ∨ m = 8 ∨ m = 9 ∨ m = 10 ∨ m = 11 ∨ m = 12 := by omega
theorem cum_succ (y : Int) {m : Int} (h : 1 ≤ m) (h' : m ≤ 12) : cum y (m + 1) = cum y m + ml y m := by
  rcases month_cases h h' with rfl | rfl | rfl | rfl | rfl | rfl | rfl | rfl | rfl | rfl | rfl | rfl <;> simp [cum, ml] <;> omega
theorem cum_13 (y : Int) : cum y 13 = 365 + lp y := by simp [cum]
theorem ml_lo (y m : Int) : 28 ≤ ml y m := by have := lp_01 y; unfold ml; repeat' split
                                              all_goals omega
theorem ml_hi (y m : Int) : ml y m ≤ 31 := by have := lp_01 y; unfold ml; repeat' split
                                              all_goals omega
theorem cum_bd (y : Int) {m : Int} (h : 1 ≤ m) (h' : m ≤ 13) : 0 ≤ cum y m ∧ cum y m ≤ 366 := by
  have := lp_01 y
  have hm : m = 1 ∨ m = 2 ∨ m = 3 ∨ m = 4 ∨ m = 5 ∨ m = 6 ∨ m = 7 ∨ m = 8 ∨ m = 9 ∨ m = 10 ∨ m = 11 ∨ m = 12 ∨ m = 13 := by omega
  rcases hm with rfl | rfl | rfl | rfl | rfl | rfl | rfl | rfl | rfl | rfl | rfl | rfl | rfl <;> simp [cum] <;> omega
/-- the days before a month go up -/
theorem cum_mono (y : Int) {m m' : Int} (h : 1 ≤ m) (h' : m' ≤ 13) (hm : m < m') : cum y m + ml y m ≤ cum y m' := by
  have key : ∀ n : Nat, ∀ m' : Int, m' = m + 1 + n → m' ≤ 13 → cum y m + ml y m ≤ cum y m' := by
    intro n
    induction n with
    | zero => intro m' e hm'; rw [show m' = m + 1 by omega, cum_succ y h (by omega)]; exact Int.le_refl _
    | succ n ih =>
      intro m' e hm'
      have := ih (m' - 1) (by omega) (by omega)
      have h2 := cum_succ y (m := m' - 1) (by omega) (by omega)
      have := ml_lo y (m' - 1)
      rw [show m' - 1 + 1 = m' by omega] at h2
      omega
  exact key (m' - m - 1).toNat m' (by omega) h'

structure IsDate (d y m k : Int) : Prop where
  y0 : 2001 ≤ y
  b0 : bef y ≤ d
  b1 : d < bef (y + 1)
  m0 : 1 ≤ m
  m1 : m ≤ 12
  k0 : 1 ≤ k
  k1 : k ≤ ml y m
  eq : d = bef y + cum y m + k - 1

end Go.Proofs.YtnlonleljbbgoaaGreatDoor.cal
namespace Go.Proofs.YtnlonleljbbgoaaGreatDoor

theorem dd_small {u : Nat} (h : u < 10) : Lib.decDigits u = [UInt8.ofNat (48 + u)] := by rw [Lib.decDigits, dif_pos h]
theorem dd_big {u : Nat} (h : ¬ u < 10) : Lib.decDigits u = Lib.decDigits (u / 10) ++ [UInt8.ofNat (48 + u % 10)] := by rw [Lib.decDigits, dif_neg h]
theorem dig_of {d : Nat} (h : d < 10) : (UInt8.ofNat (48 + d)).toNat = 48 + d := by
  rw [UInt8.toNat_ofNat']; omega
theorem dig_val {d : Nat} (h : d < 10) : Lib.digitVal (UInt8.ofNat (48 + d)) = some d := by
  unfold Lib.digitVal
  rw [dig_of h, if_pos (by omega)]
  congr 1; omega
theorem dd_all (u : Nat) : ∀ b ∈ Lib.decDigits u, 48 ≤ b.toNat ∧ b.toNat ≤ 57 := by
  induction u using Nat.strongRecOn with
  | _ u ih =>
    intro b hb
    by_cases h : u < 10
    · rw [dd_small h, List.mem_singleton] at hb
      subst hb; rw [dig_of h]; omega
    · rw [dd_big h] at hb
      rcases List.mem_append.1 hb with hb | hb
      · exact ih (u / 10) (by omega) b hb
      · rw [List.mem_singleton] at hb
        subst hb; rw [dig_of (by omega)]; omega
theorem dd_ne (u : Nat) : Lib.decDigits u ≠ [] := by
  by_cases h : u < 10
  · rw [dd_small h]; simp
  · rw [dd_big h]; simp
theorem dd_len : ∀ (k u : Nat), u < 10 ^ (k + 1) → (Lib.decDigits u).length ≤ k + 1
  | 0, u, h => by rw [dd_small (by simpa using h)]; simp
  | k + 1, u, h => by
    by_cases h1 : u < 10
    · rw [dd_small h1]; simp
    · rw [dd_big h1, List.length_append, List.length_singleton]
      have := dd_len k (u / 10) (by rw [Nat.pow_succ] at h; omega)
      omega
theorem decFrom_app : ∀ (l r : List UInt8) (acc : Nat), Lib.decFrom acc (l ++ r) = (Lib.decFrom acc l).bind fun a => Lib.decFrom a r
  | [], r, acc => rfl
  | b :: l, r, acc => by
    rw [List.cons_append]
    simp only [Lib.decFrom]
    cases Lib.digitVal b with
    | none => rfl
    | some d => exact decFrom_app l r _
theorem dd_val (u : Nat) : Lib.decFrom 0 (Lib.decDigits u) = some u := by
  induction u using Nat.strongRecOn with
  | _ u ih =>
    by_cases h : u < 10
    · rw [dd_small h]
      simp only [Lib.decFrom]
      rw [dig_val h]; simp
    · rw [dd_big h, decFrom_app, ih (u / 10) (by omega)]
      show Lib.decFrom (u / 10) [_] = _
      simp only [Lib.decFrom]
      rw [dig_val (by omega)]
      simp only
      congr 1; omega
theorem dd_nat (u : Nat) : Lib.decNat (Lib.decDigits u) = some u := by
  unfold Lib.decNat
  rw [if_neg (by simpa using dd_ne u), dd_val]
theorem atoi_itoa (n : Int) : Lib.atoi (Lib.itoa n) = some n := by
  unfold Lib.itoa
  by_cases h : n < 0
  · rw [if_pos h]
    simp only [Lib.atoi]
    rw [if_pos (by decide), dd_nat]
    simp only [Option.map_some]
    congr 1; omega
  · rw [if_neg h]
    rcases hd : Lib.decDigits n.toNat with _ | ⟨b, r⟩
    · exact absurd hd (dd_ne _)
    · have hb := dd_all n.toNat b (by rw [hd]; simp)
      simp only [Lib.atoi]
      have n1 : (b == 45) = false := by
        cases hh : b == 45
        · rfl
        · rw [beq_iff_eq] at hh; subst hh; exact absurd hb.1 (by decide)
      have n2 : (b == 43) = false := by
        cases hh : b == 43
        · rfl
        · rw [beq_iff_eq] at hh; subst hh; exact absurd hb.1 (by decide)
      rw [n1, n2, ← hd, dd_nat]
      simp only [Bool.false_eq_true, if_false, Option.map_some]
      congr 1; omega
/-- the digits behind the sign -/
theorem itoa_digits (n : Int) : Lib.trimPrefix (Lib.itoa n) [45] = Lib.decDigits n.natAbs := by
  unfold Lib.itoa
  by_cases h : n < 0
  · rw [if_pos h]
    unfold Lib.trimPrefix Lib.hasPrefix
    rw [if_pos (by simp)]
    rfl
  · rw [if_neg h, show n.toNat = n.natAbs by omega]
    rcases hd : Lib.decDigits n.natAbs with _ | ⟨b, r⟩
    · exact absurd hd (dd_ne _)
    · have hb := dd_all n.natAbs b (by rw [hd]; simp)
      unfold Lib.trimPrefix Lib.hasPrefix
      rw [if_neg]
      intro hp
      rw [List.isPrefixOf_iff_prefix] at hp
      obtain ⟨t, ht⟩ := hp
      simp at ht
      rw [← ht.1] at hb
      exact absurd hb.1 (by decide)
theorem itoa_len {n : Int} (h : n.natAbs < 10 ^ 7) : (Lib.itoa n).length ≤ 8 := by
  have := dd_len 6 n.natAbs h
  unfold Lib.itoa
  split
  · rw [List.length_cons]; omega
  · rw [show n.toNat = n.natAbs by omega]; omega
end Go.Proofs.YtnlonleljbbgoaaGreatDoor
namespace Go.Proofs.YtnlonleljbbgoaaGreatDoor
open cal

theorem date_uniq {d y m k y' m' k' : Int} (h : IsDate d y m k) (h' : IsDate d y' m' k') : y = y' ∧ m = m' ∧ k = k' := by
  obtain ⟨a0, a1, a2, a3, a4, a5, a6, a7⟩ := h
  obtain ⟨c0, c1, c2, c3, c4, c5, c6, c7⟩ := h'
  obtain rfl : y = y' := bef_uniq a1 a2 c1 c2
  rcases Int.lt_trichotomy m m' with h2 | h2 | h2
  · have := cum_mono y a3 (by omega) h2
    omega
  · subst h2
    exact ⟨rfl, rfl, by omega⟩
  · have := cum_mono y c3 (by omega) h2
    omega
open Classical in
/-- the date of a day -/
noncomputable def ymd (d : Int) : Int × Int × Int := if h : ∃ p : Int × Int × Int, IsDate d p.1 p.2.1 p.2.2 then h.choose else (0, 0, 0)
theorem ymd_is {d y m k : Int} (h : IsDate d y m k) : ymd d = (y, m, k) := by
  have hx : ∃ p : Int × Int × Int, IsDate d p.1 p.2.1 p.2.2 := ⟨(y, m, k), h⟩
  unfold ymd
  rw [dif_pos hx]
  obtain ⟨h1, h2, h3⟩ := date_uniq hx.choose_spec h
  exact Prod.ext h1 (Prod.ext h2 h3)
/-- a number with zeros ahead -/
def padL (n g : Int) : List UInt8 := List.replicate (g - ((Lib.itoa n).length : Int)).toNat 48 ++ Lib.itoa n
noncomputable def datL (d : Int) : List UInt8 := padL (ymd d).1 4 ++ [45] ++ padL (ymd d).2.1 2 ++ [45] ++ padL (ymd d).2.2 2
theorem rep_list (c : Nat) : Lib.repeatL [48] c = List.replicate c 48 := by
  induction c with
  | zero => rfl
  | succ c ih =>
    rw [List.replicate_succ, ← ih]
    rfl
theorem padL_len (n g : Int) : (padL n g).length ≤ g.toNat + (Lib.itoa n).length := by
  unfold padL
  rw [List.length_append, List.length_replicate]
  omega
end Go.Proofs.YtnlonleljbbgoaaGreatDoor
namespace Go.Proofs
open Go.Shelf

def Tryz.laysM171_ren : Go.Shelf.Ren := ⟨fun | 171 => 26 | 243 => 65 | 246 => 113 | 283 => 152 | 284 => 153 | 285 => 154 | 286 => 155 | 129 => 190 | 317 => 189 | 318 => 191 | 319 => 192 | 320 => 193 | 337 => 217 | 338 => 218 | n => n, fun | 3 => 3 | 9 => 9 | 2 => 2 | 4 => 4 | 171 => 186 | 0 => 0 | 53 => 187 | 37 => 103 | 5 => 5 | 173 => 190 | 212 => 221 | 51 => 171 | 20 => 20 | 213 => 222 | 46 => 208 | 232 => 279 | 233 => 280 | n => n, fun | 17 => 1 | 18 => 2 | 19 => 3 | n => n⟩
theorem Tryz.laysM171 : Go.Proofs.LaysM.n171 Tryz.prog Tryz.laysM171_ren := {
  mixed := by kernel_rfl
  f129 := Tryz.func190.trans (congrArg some (by kernel_rfl))
  f171 := Tryz.func26.trans (congrArg some (by kernel_rfl))
  f243 := Tryz.func65.trans (congrArg some (by kernel_rfl))
  f246 := Tryz.func113.trans (congrArg some (by kernel_rfl))
  f283 := Tryz.func152.trans (congrArg some (by kernel_rfl))
  f284 := Tryz.func153.trans (congrArg some (by kernel_rfl))
  f285 := Tryz.func154.trans (congrArg some (by kernel_rfl))
  f286 := Tryz.func155.trans (congrArg some (by kernel_rfl))
  f317 := Tryz.func189.trans (congrArg some (by kernel_rfl))
  f318 := Tryz.func191.trans (congrArg some (by kernel_rfl))
  f319 := Tryz.func192.trans (congrArg some (by kernel_rfl))
  f320 := Tryz.func193.trans (congrArg some (by kernel_rfl))
  f337 := Tryz.func217.trans (congrArg some (by kernel_rfl))
  f338 := Tryz.func218.trans (congrArg some (by kernel_rfl))
  t0 := Tryz.underlying0
  a0 := Tryz.isAgg0
  z0 := Tryz.sizeOf0
  v0 := Tryz.zeroValue0
  t2 := Tryz.underlying2
  a2 := Tryz.isAgg2
  z2 := Tryz.sizeOf2
  v2 := Tryz.zeroValue2
  t3 := Tryz.underlying3
  a3 := Tryz.isAgg3
  z3 := Tryz.sizeOf3
  v3 := Tryz.zeroValue3
  t4 := Tryz.underlying4
  a4 := Tryz.isAgg4
  z4 := Tryz.sizeOf4
  v4 := Tryz.zeroValue4
  t5 := Tryz.underlying5
  a5 := Tryz.isAgg5
  z5 := Tryz.sizeOf5
  v5 := Tryz.zeroValue5
  t9 := Tryz.underlying9
  a9 := Tryz.isAgg9
  z9 := Tryz.sizeOf9
  v9 := Tryz.zeroValue9
  t20 := Tryz.underlying20
  a20 := Tryz.isAgg20
  z20 := Tryz.sizeOf20
  v20 := Tryz.zeroValue20
  t37 := Tryz.underlying103
  a37 := Tryz.isAgg103
  z37 := Tryz.sizeOf103
  v37 := Tryz.zeroValue103
  t46 := Tryz.underlying208
  a46 := Tryz.isAgg208
  z46 := Tryz.sizeOf208
  v46 := Tryz.zeroValue208
  t51 := Tryz.underlying171
  a51 := Tryz.isAgg171
  z51 := Tryz.sizeOf171
  v51 := Tryz.zeroValue171
  t53 := Tryz.underlying187
  a53 := Tryz.isAgg187
  z53 := Tryz.sizeOf187
  v53 := Tryz.zeroValue187
  t171 := Tryz.underlying186
  a171 := Tryz.isAgg186
  z171 := Tryz.sizeOf186
  v171 := Tryz.zeroValue186
  t173 := Tryz.underlying190
  a173 := Tryz.isAgg190
  z173 := Tryz.sizeOf190
  v173 := Tryz.zeroValue190
  t212 := Tryz.underlying221
  a212 := Tryz.isAgg221
  z212 := Tryz.sizeOf221
  v212 := Tryz.zeroValue221
  t213 := Tryz.underlying222
  a213 := Tryz.isAgg222
  z213 := Tryz.sizeOf222
  t232 := Tryz.underlying279
  a232 := Tryz.isAgg279
  z232 := Tryz.sizeOf279
  v232 := Tryz.zeroValue279
  t233 := Tryz.underlying280
  a233 := Tryz.isAgg280
  z233 := Tryz.sizeOf280
  v233 := Tryz.zeroValue280
  g17 := by kernel_rfl
  g18 := by kernel_rfl
  g19 := by kernel_rfl
  i0 := by kernel_rfl
  i2 := by kernel_rfl
  i3 := by kernel_rfl
  i4 := by kernel_rfl
  i5 := by kernel_rfl
  i9 := by kernel_rfl
  i20 := by kernel_rfl
  i37 := by kernel_rfl
  i46 := by kernel_rfl
  i51 := by kernel_rfl
  i53 := by kernel_rfl
  i171 := by kernel_rfl
  i173 := by kernel_rfl
  i212 := by kernel_rfl
  i232 := by kernel_rfl
  i233 := by kernel_rfl
  m17 := by kernel_rfl
  m18 := by kernel_rfl
  m19 := by kernel_rfl }
open Go.RowKit Go.Sort Go.Lib in
theorem Tryz.strconv_Itoa (n : Int) (h0 : -9223372036854775808 ≤ n) (h1 : n ≤ 9223372036854775807) (w : World) (htab : Lib.TabIs Tryz.prog w "internal/strconv.uint64pow10" .u64 Lib.pow10Tab) :
    Calls Tryz.prog 26 #[.int .i64 n] w fun e w' => e = .returned (.string ⟨(Lib.itoa n).toArray⟩) ∧ ∃ k os, w' = grow (w.drewN k) os := Any.strconv_Itoa Tryz.laysM171 n h0 h1 w htab
end Go.Proofs
namespace Go.Proofs
open Go.Shelf

def Tryz.lays105_ren : Go.Shelf.Ren := ⟨fun | 105 => 216 | 212 => 241 | 99 => 57 | 165 => 107 | 166 => 108 | 170 => 242 | 169 => 109 | 263 => 269 | 264 => 270 | 206 => 102 | 240 => 147 | 241 => 148 | 276 => 182 | 277 => 183 | n => n, fun | 9 => 9 | 3 => 3 | 4 => 4 | 20 => 20 | 0 => 0 | 46 => 208 | 109 => 277 | 5 => 5 | 72 => 144 | 76 => 148 | 51 => 171 | 146 => 229 | 53 => 187 | 148 => 303 | 70 => 142 | 37 => 103 | 75 => 147 | 127 => 167 | 164 => 211 | 80 => 108 | n => n, fun | n => n⟩
theorem Tryz.lays105 : Go.Proofs.Lays.n105 Tryz.prog Tryz.lays105_ren := {
  mixed := by kernel_rfl
  f99 := Tryz.func57.trans (congrArg some (by kernel_rfl))
  f105 := Tryz.func216.trans (congrArg some (by kernel_rfl))
  f165 := Tryz.func107.trans (congrArg some (by kernel_rfl))
  f166 := Tryz.func108.trans (congrArg some (by kernel_rfl))
  f169 := Tryz.func109.trans (congrArg some (by kernel_rfl))
  f170 := Tryz.func242.trans (congrArg some (by kernel_rfl))
  f206 := Tryz.func102.trans (congrArg some (by kernel_rfl))
  f212 := Tryz.func241.trans (congrArg some (by kernel_rfl))
  f240 := Tryz.func147.trans (congrArg some (by kernel_rfl))
  f241 := Tryz.func148.trans (congrArg some (by kernel_rfl))
  f263 := Tryz.func269.trans (congrArg some (by kernel_rfl))
  f264 := Tryz.func270.trans (congrArg some (by kernel_rfl))
  f276 := Tryz.func182.trans (congrArg some (by kernel_rfl))
  f277 := Tryz.func183.trans (congrArg some (by kernel_rfl))
  t0 := Tryz.underlying0
  a0 := Tryz.isAgg0
  z0 := Tryz.sizeOf0
  v0 := Tryz.zeroValue0
  t3 := Tryz.underlying3
  a3 := Tryz.isAgg3
  z3 := Tryz.sizeOf3
  v3 := Tryz.zeroValue3
  t4 := Tryz.underlying4
  a4 := Tryz.isAgg4
  z4 := Tryz.sizeOf4
  v4 := Tryz.zeroValue4
  t5 := Tryz.underlying5
  a5 := Tryz.isAgg5
  z5 := Tryz.sizeOf5
  v5 := Tryz.zeroValue5
  t9 := Tryz.underlying9
  a9 := Tryz.isAgg9
  z9 := Tryz.sizeOf9
  v9 := Tryz.zeroValue9
  t20 := Tryz.underlying20
  a20 := Tryz.isAgg20
  z20 := Tryz.sizeOf20
  v20 := Tryz.zeroValue20
  t37 := Tryz.underlying103
  a37 := Tryz.isAgg103
  z37 := Tryz.sizeOf103
  v37 := Tryz.zeroValue103
  t46 := Tryz.underlying208
  a46 := Tryz.isAgg208
  z46 := Tryz.sizeOf208
  v46 := Tryz.zeroValue208
  t51 := Tryz.underlying171
  a51 := Tryz.isAgg171
  z51 := Tryz.sizeOf171
  v51 := Tryz.zeroValue171
  t53 := Tryz.underlying187
  a53 := Tryz.isAgg187
  z53 := Tryz.sizeOf187
  v53 := Tryz.zeroValue187
  t70 := Tryz.underlying142
  a70 := Tryz.isAgg142
  z70 := Tryz.sizeOf142
  v70 := Tryz.zeroValue142
  t72 := Tryz.underlying144
  a72 := Tryz.isAgg144
  z72 := Tryz.sizeOf144
  v72 := Tryz.zeroValue144
  t75 := Tryz.underlying147
  a75 := Tryz.isAgg147
  z75 := Tryz.sizeOf147
  v75 := Tryz.zeroValue147
  t76 := Tryz.underlying148
  a76 := Tryz.isAgg148
  z76 := Tryz.sizeOf148
  v76 := Tryz.zeroValue148
  t109 := Tryz.underlying277
  a109 := Tryz.isAgg277
  z109 := Tryz.sizeOf277
  v109 := Tryz.zeroValue277
  t127 := Tryz.underlying167
  a127 := Tryz.isAgg167
  z127 := Tryz.sizeOf167
  v127 := Tryz.zeroValue167
  t146 := Tryz.underlying229
  a146 := Tryz.isAgg229
  z146 := Tryz.sizeOf229
  v146 := Tryz.zeroValue229
  t148 := Tryz.underlying303
  a148 := Tryz.isAgg303
  z148 := Tryz.sizeOf303
  v148 := Tryz.zeroValue303
  t164 := Tryz.underlying211
  a164 := Tryz.isAgg211
  z164 := Tryz.sizeOf211
  v164 := Tryz.zeroValue211 }
theorem Tryz.Builder_Extra_105 : Builder.Extra Tryz.prog Tryz.lays105_ren := {
  sizeBuilder := by kernel_rfl
  liesBuilder := by kernel_rfl
  t5 := Tryz.underlying5
  a5 := Tryz.isAgg5
  z5 := Tryz.sizeOf5
  v5 := Tryz.zeroValue5
  infoByte := by kernel_rfl
  cellsByte := by kernel_rfl
  sizeByte := by kernel_rfl
  neB5 := by decide }
open Go.RowKit Go.Lib in
theorem Tryz.strings_Repeat (s : ByteArray) (c : Nat) (w : World) (hc : c ≤ 9223372036854775807) (hlen : s.size * c ≤ 140737488355328) :
    Calls Tryz.prog 216 #[.string s, .int .i64 c] w fun e w' => e = .returned (.string ⟨(Lib.repeatL s.data.toList c).toArray⟩) ∧ Below w.heap.size w w' := Any.strings_Repeat Tryz.lays105 Tryz.Builder_Extra_105 s c w hc hlen
end Go.Proofs
