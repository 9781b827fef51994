/-
  DERIVED. DERIVED: THE SHELF's CONTRACTS AT THIS DUMP, IN PLAIN WORDS (tools/lay-plain.mjs out of 'TryShelf.lean', which tools/lay-shelf.mjs wrote): THE SAME DECLARATIONS UNDER THE SAME NAMES: 'import', 'namespace', 'open', 'def', 'theorem' AND NOTHING ELSE: no command of the shelf's: FOR A HAND-IN. Each laying: the table of numbers ('.._ren') and one theorem, a field a fact of the dump's own or the kernel's comparison; each contract: ONE APPLICATION.
  The walks of prop.outside, prop.before, prop.leap, prop.lengths. Conditions: years from 2001 to 2700.
  The walk of prop.dateAt. Conditions: days from 0 to 200000.
  The walks of prop.padded and prop.DateText, to the byte. Conditions: the table of powers of ten is laid; days of the calendar.
  By an AI agent.
-/
import Derived.Shelf.Strings.Builder1
import Derived.Shelf.Strings.Builder2
import Derived.Shelf.Strings.OnBuilder
import Derived.Shelf.Small.Strs
import Derived.Shelf.Strings.BuilderF
import Derived.Test.YtnlonleljbbgoaaGreatDoorProg
import Derived.Test.YtnlonleljbbgoaaGreatDoorKe01
import Derived.Test.YtnlonleljbbgoaaGreatDoorKe03
import Derived.Test.YtnlonleljbbgoaaGreatDoorChecked
import Derived.Deep.LoopGhost
import Derived.Lib.SmallJoins
import Derived.Lib.AppendIntMem
namespace Go.Proofs
open Go.Shelf

def Tryz.lays156_ren : Go.Shelf.Ren := ⟨fun | 156 => 62 | 165 => 107 | 166 => 108 | 169 => 109 | 240 => 147 | 241 => 148 | 276 => 182 | 277 => 183 | n => n, fun | 31 => 92 | 9 => 9 | 3 => 3 | 4 => 4 | 0 => 0 | 20 => 20 | 72 => 144 | 76 => 148 | 70 => 142 | 37 => 103 | 75 => 147 | 127 => 167 | 164 => 211 | 5 => 5 | 80 => 108 | n => n, fun | n => n⟩
theorem Tryz.lays156 : Go.Proofs.Lays.n156 Tryz.prog Tryz.lays156_ren := {
  mixed := by kernel_rfl
  f156 := Tryz.func62.trans (congrArg some (by kernel_rfl))
  f165 := Tryz.func107.trans (congrArg some (by kernel_rfl))
  f166 := Tryz.func108.trans (congrArg some (by kernel_rfl))
  f169 := Tryz.func109.trans (congrArg some (by kernel_rfl))
  f240 := Tryz.func147.trans (congrArg some (by kernel_rfl))
  f241 := Tryz.func148.trans (congrArg some (by kernel_rfl))
  f276 := Tryz.func182.trans (congrArg some (by kernel_rfl))
  f277 := Tryz.func183.trans (congrArg some (by kernel_rfl))
  t0 := Tryz.underlying0
  a0 := Tryz.isAgg0
  z0 := Tryz.sizeOf0
  v0 := Tryz.zeroValue0
  t3 := Tryz.underlying3
  a3 := Tryz.isAgg3
  z3 := Tryz.sizeOf3
  v3 := Tryz.zeroValue3
  t4 := Tryz.underlying4
  a4 := Tryz.isAgg4
  z4 := Tryz.sizeOf4
  v4 := Tryz.zeroValue4
  t9 := Tryz.underlying9
  a9 := Tryz.isAgg9
  z9 := Tryz.sizeOf9
  v9 := Tryz.zeroValue9
  t20 := Tryz.underlying20
  a20 := Tryz.isAgg20
  z20 := Tryz.sizeOf20
  v20 := Tryz.zeroValue20
  t31 := Tryz.underlying92
  a31 := Tryz.isAgg92
  z31 := Tryz.sizeOf92
  v31 := Tryz.zeroValue92
  t37 := Tryz.underlying103
  a37 := Tryz.isAgg103
  z37 := Tryz.sizeOf103
  v37 := Tryz.zeroValue103
  t70 := Tryz.underlying142
  a70 := Tryz.isAgg142
  z70 := Tryz.sizeOf142
  v70 := Tryz.zeroValue142
  t72 := Tryz.underlying144
  a72 := Tryz.isAgg144
  z72 := Tryz.sizeOf144
  v72 := Tryz.zeroValue144
  t75 := Tryz.underlying147
  a75 := Tryz.isAgg147
  z75 := Tryz.sizeOf147
  v75 := Tryz.zeroValue147
  t76 := Tryz.underlying148
  a76 := Tryz.isAgg148
  z76 := Tryz.sizeOf148
  v76 := Tryz.zeroValue148
  t127 := Tryz.underlying167
  a127 := Tryz.isAgg167
  z127 := Tryz.sizeOf167
  v127 := Tryz.zeroValue167
  t164 := Tryz.underlying211
  a164 := Tryz.isAgg211
  z164 := Tryz.sizeOf211
  v164 := Tryz.zeroValue211 }
theorem Tryz.Builder_Extra_156 : Builder.Extra Tryz.prog Tryz.lays156_ren := {
  sizeBuilder := by kernel_rfl
  liesBuilder := by kernel_rfl
  t5 := Tryz.underlying5
  a5 := Tryz.isAgg5
  z5 := Tryz.sizeOf5
  v5 := Tryz.zeroValue5
  infoByte := by kernel_rfl
  cellsByte := by kernel_rfl
  sizeByte := by kernel_rfl
  neB5 := by decide }
open Go.RowKit in
theorem Tryz.strings_Join_none (a : Option Addr) (c : Nat) (sep : ByteArray) (w : World) :
    Calls Tryz.prog 62 #[.slice a 0 c, .string sep] w fun e w' => e = .returned (.string ⟨#[]⟩) ∧ w' = w := Any.strings_Join_none Tryz.lays156 Tryz.Builder_Extra_156 a c sep w
open Go.RowKit in
theorem Tryz.strings_Join (bk o c : Nat) (xs : List ByteArray) (sep : ByteArray) (w : World) (hcells : ∀ (j : Nat) x, xs[j]? = some x → w.cell? ⟨bk, o + j, none⟩ = some (.string x)) (hbk : bk < w.heap.size) (hN : xs.length ≤ 140737488355328) (hcap : xs.length ≤ c) (hlen : (Lib.join (xs.map (·.data.toList)) sep.data.toList).length ≤ 140737488355328) :
    Calls Tryz.prog 62 #[.slice (some ⟨bk, o, none⟩) xs.length c, .string sep] w fun e w' => e = .returned (.string ⟨(Lib.join (xs.map (·.data.toList)) sep.data.toList).toArray⟩) ∧ Below w.heap.size w w' := Any.strings_Join Tryz.lays156 Tryz.Builder_Extra_156 bk o c xs sep w hcells hbk hN hcap hlen
end Go.Proofs
namespace Go.Proofs.YtnlonleljbbgoaaGreatDoor
open Go.RowKit cal

set_option maxHeartbeats 400000 in
theorem outside_no (n a b : Int) (w : World) (h : a ≤ n) (h' : n ≤ b) :
    Calls Tryz.prog 131 #[.int .i64 n, .int .i64 a, .int .i64 b] w fun e w' => e = .returned (.bool false) ∧ w = w' := by
  have h1 : decide (n < a) = false := by simp; omega
  have h2 : decide (b < n) = false := by simp; omega
  go_enter Tryz.func131, Tryz.ntmps131
  go_wp2
  go_ret
  exact ⟨rfl, rfl⟩
set_option maxHeartbeats 400000 in
theorem outside_yes (n a b : Int) (w : World) (h : n < a ∨ b < n) :
    Calls Tryz.prog 131 #[.int .i64 n, .int .i64 a, .int .i64 b] w fun e w' => e = .returned (.bool true) ∧ w = w' := by
  by_cases h1 : n < a
  · clear h
    go_enter Tryz.func131, Tryz.ntmps131
    go_wp2
    go_ret
    exact ⟨rfl, rfl⟩
  · have h2 : b < n := by omega
    have h3 : a ≤ n := by omega
    clear h h1
    go_enter Tryz.func131, Tryz.ntmps131
    go_wp2
    go_ret
    exact ⟨rfl, rfl⟩

set_option maxHeartbeats 400000 in
theorem before_any (y : Int) (w : World) (h : 2001 ≤ y) (h' : y ≤ 10000) :
    Calls Tryz.prog 239 #[.int .i64 y] w fun e w' => e = .returned (.int .i64 (bef y)) ∧ w = w' := by
  go_enter Tryz.func239, Tryz.ntmps239
  go_wp2
  go_ret
  refine ⟨?_, rfl⟩
  show Ending.returned (.int .i64 _) = _
  rw [show bef y = 365 * (y - 1 - 2000) + (y - 1) / 4 - 500 - (y - 1) / 100 + 20 + (y - 1) / 400 - 5 by unfold bef; omega]

/-- is it a leap year -/
def lpB (y : Int) : Bool := lp y == 1
set_option maxHeartbeats 400000 in
theorem leap_any (y : Int) (w : World) (h : 2001 ≤ y) (h' : y ≤ 10000) :
    Calls Tryz.prog 268 #[.int .i64 y] w fun e w' => e = .returned (.bool (lpB y)) ∧ w = w' := by
  have hc : ∃ v, lpB y = v ∧ (y % 4 ≠ 0 ∧ v = false ∨ y % 4 = 0 ∧ y % 100 ≠ 0 ∧ v = true ∨ y % 4 = 0 ∧ y % 100 = 0 ∧ y % 400 = 0 ∧ v = true ∨ y % 4 = 0 ∧ y % 100 = 0 ∧ y % 400 ≠ 0 ∧ v = false) := by
    refine ⟨_, rfl, ?_⟩
    unfold lpB lp
    by_cases h1 : y % 4 = 0 <;> by_cases h2 : y % 100 = 0 <;> by_cases h3 : y % 400 = 0 <;> simp [h1, h2, h3]
  obtain ⟨v, hv, hc⟩ := hc
  rw [hv]
  clear hv
  rcases hc with ⟨h1, rfl⟩ | ⟨h1, h2, rfl⟩ | ⟨h1, h2, h3, rfl⟩ | ⟨h1, h2, h3, rfl⟩
  · have g1 : (y % 4 == 0) = false := by simpa using h1
    clear h1
    go_enter Tryz.func268, Tryz.ntmps268
    go_wp2
    go_ret
    exact ⟨rfl, rfl⟩
  · have g1 : (y % 4 == 0) = true := by simpa using h1
    have g2 : (y % 100 != 0) = true := by simpa using h2
    clear h1 h2
    go_enter Tryz.func268, Tryz.ntmps268
    go_wp2
    go_ret
    exact ⟨rfl, rfl⟩
  · have g1 : (y % 4 == 0) = true := by simpa using h1
    have g2 : (y % 100 != 0) = false := by simpa using h2
    have g3 : (y % 400 == 0) = true := by simpa using h3
    clear h1 h2 h3
    go_enter Tryz.func268, Tryz.ntmps268
    go_wp2
    go_ret
    exact ⟨rfl, rfl⟩
  · have g1 : (y % 4 == 0) = true := by simpa using h1
    have g2 : (y % 100 != 0) = false := by simpa using h2
    have g3 : (y % 400 == 0) = false := by simpa using h3
    clear h1 h2 h3
    go_enter Tryz.func268, Tryz.ntmps268
    go_wp2
    go_ret
    exact ⟨rfl, rfl⟩

def lenL (y : Int) : List Value := [.int .i64 31, .int .i64 (28 + lp y), .int .i64 31, .int .i64 30, .int .i64 31, .int .i64 30, .int .i64 31, .int .i64 31, .int .i64 30, .int .i64 31, .int .i64 30, .int .i64 31]

set_option maxHeartbeats 1000000 in
theorem lengths_any (y : Int) (w : World) (h : 2001 ≤ y) (h' : y ≤ 10000) :
    Calls Tryz.prog 240 #[.int .i64 y] w fun e w' => e = .returned (.agg (lenL y).toArray) ∧ Below w.heap.size w w' := by
  rcases lp_01 y with hl | hl
  · have hb : lpB y = false := by unfold lpB; rw [hl]; rfl
    have HL := Lib.hid hl
    clear hl
    go_enter Tryz.func240, Tryz.ntmps240
    go_wp2_with (go_at_call 268; refine (leap_any y _ h h').mono ?_; rintro e w1 ⟨rfl, rfl⟩)
    refine bodyPost_ret (v := .agg #[.int .i64 31, .int .i64 28, .int .i64 31, .int .i64 30, .int .i64 31, .int .i64 30, .int .i64 31, .int .i64 31, .int .i64 30, .int .i64 31, .int .i64 30, .int .i64 31]) (by simp [results, Tryz.results240, go_sem]) rfl ⟨?_, ?_⟩
    · unfold lenL
      rw [HL.out]
      rfl
    · exact ((Below.refl _ _).alloc (Nat.le_refl _) _).alloc (by simp) _
  · have hb : lpB y = true := by unfold lpB; rw [hl]; rfl
    have HL := Lib.hid hl
    clear hl
    go_enter Tryz.func240, Tryz.ntmps240
    go_wp2_with (go_at_call 268; refine (leap_any y _ h h').mono ?_; rintro e w1 ⟨rfl, rfl⟩)
    refine bodyPost_ret (v := .agg #[.int .i64 31, .int .i64 29, .int .i64 31, .int .i64 30, .int .i64 31, .int .i64 30, .int .i64 31, .int .i64 31, .int .i64 30, .int .i64 31, .int .i64 30, .int .i64 31]) (by simp [results, Tryz.results240, go_sem]) rfl ⟨?_, ?_⟩
    · unfold lenL
      rw [HL.out]
      rfl
    · exact ((Below.refl _ _).alloc (Nat.le_refl _) _).alloc (by simp) _
end Go.Proofs.YtnlonleljbbgoaaGreatDoor
namespace Go.Proofs.YtnlonleljbbgoaaGreatDoor
open Go.RowKit cal

theorem index_len (y : Int) (j : Nat) (hj : j < 12) (w : World) : (Instr.index 275 (.agg (lenL y).toArray) (.int .i64 (j : Int))).run Tryz.prog w = .ok (.int .i64 (ml y (j + 1))) w := by
  have h : j = 0 ∨ j = 1 ∨ j = 2 ∨ j = 3 ∨ j = 4 ∨ j = 5 ∨ j = 6 ∨ j = 7 ∨ j = 8 ∨ j = 9 ∨ j = 10 ∨ j = 11 := by omega
  rcases h with rfl | rfl | rfl | rfl | rfl | rfl | rfl | rfl | rfl | rfl | rfl | rfl
  all_goals exact (show _ = Result.ok _ w from by kernel_rfl)

set_option maxHeartbeats 2000000 in
theorem dateAt_any (d : Int) (w : World) (h0 : 0 ≤ d) (h1 : d ≤ 200000) :
    Calls Tryz.prog 215 #[.int .i64 d] w fun e w' => ∃ y m k, e = .returned (.tuple #[.int .i64 y, .int .i64 m, .int .i64 k]) ∧ IsDate d y m k ∧ Below w.heap.size w w' := by
  have hg := bef_guess h0 h1
  go_enter Tryz.func215, Tryz.ntmps215
  go_wp2
  go_loop [2] (fun v => ∃ y : Int, v = .int .i64 y ∧ 2001 ≤ y ∧ y ≤ 2600 ∧ bef y ≤ d) (fun v => (2600 - intOf v).toNat)
  case atStart => exact ⟨_, rfl, by omega, bef_hi hg h1, hg⟩
  case round =>
    clear hg
    obtain ⟨y, rfl, hy0, hy1, hb⟩ := hrel
    by_cases hn : bef (y + 1) ≤ d
    · have hy2 := bef_hi hn h1
      go_wp2_with (go_at_call 239; refine (before_any (y + 1) _ (by omega) (by omega)).mono ?_; rintro e w1 ⟨rfl, rfl⟩)
      go_round
      case rel => exact ⟨y + 1, rfl, by omega, by omega, hn⟩
      case measure => simp [intOf]; omega
    · have hn' : d < bef (y + 1) := by omega
      clear hn
      go_wp2_with fail
      refine (before_any (y + 1) _ (by omega) (by omega)).mono ?_
      rintro e w1 ⟨rfl, rfl⟩
      go_wp2_with fail
      refine (before_any y _ (by omega) (by omega)).mono ?_
      rintro e w1 ⟨rfl, rfl⟩
      have hlo := bef_lo hy0
      go_wp2_with fail
      refine (lengths_any y _ (by omega) (by omega)).mono ?_
      rintro e w1 ⟨rfl, hb1⟩
      go_wp2
      obtain ⟨R, hR⟩ : ∃ R, R = d - bef y := ⟨_, rfl⟩
      have hR0 : 0 ≤ R := by omega
      have hR1 : R < 365 + lp y := by have := bef_succ y; omega
      have hlp := lp_01 y
      rw [← hR]
      have HR := Lib.hid hR
      clear hR
      go_loop [3, 5, 24] (fun m r i => ∃ (j : Nat) (c : Int), j < 12 ∧ i = .int .i64 j ∧ m = .int .i64 (j + 1) ∧ c = cum y (j + 1) ∧ r = .int .i64 (R - c) ∧ c ≤ R) (fun _ _ i => 12 - (intOf i).toNat)
      case atStart => exact ⟨0, 0, by omega, rfl, rfl, rfl, by simp, hR0⟩
      case round =>
        obtain ⟨j, c, hj, rfl, rfl, hc, rfl, hcR⟩ := hrel
        have hix := fun W => index_len y j hj W
        have hb0 := cum_bd y (m := (j : Int) + 1) (by omega) (by omega)
        have hs0 := cum_succ y (m := (j : Int) + 1) (by omega) (by omega)
        have hl0 := ml_lo y ((j : Int) + 1)
        have hl1 := ml_hi y ((j : Int) + 1)
        have hbc : 0 ≤ c ∧ c ≤ 366 := by rw [hc]; exact hb0
        have HC := Lib.hid hc
        have HS := Lib.hid hs0
        have HL0 := Lib.hid hl0
        obtain ⟨hbc0, hbc1⟩ := hbc
        clear hc hs0 hb0
        by_cases hlt : R - c < ml y ((j : Int) + 1)
        · go_wp2
          go_ret3
          refine ⟨y, (j : Int) + 1, R - c + 1, rfl, ⟨hy0, hb, hn', by omega, by omega, by omega, by omega, ?_⟩, hb1⟩
          rw [← HC.out]
          have := HR.out
          omega
        · have hj' : j + 1 < 12 := by
            rcases Nat.lt_or_ge (j + 1) 12 with h | h
            · exact h
            · exfalso
              obtain rfl : j = 11 := by omega
              have h1 := HC.out
              have h2 := HS.out
              rw [← h1] at h2
              have h3 : cum y (((11 : Nat) : Int) + 1 + 1) = 365 + lp y := cum_13 y
              omega
          go_wp2
          go_round
          case rel => exact ⟨j + 1, c + ml y ((j : Int) + 1), hj', by go_num, by go_num, by have := HS.out; rw [← HC.out] at this; rw [← this]; congr 1, by go_num, by omega⟩
          case measure => simp [intOf]; omega
end Go.Proofs.YtnlonleljbbgoaaGreatDoor
namespace Go.Proofs.YtnlonleljbbgoaaGreatDoor
open Go.RowKit cal

set_option maxHeartbeats 1000000 in
theorem dateOf_any (d : Int) (w : World) (h0 : 0 ≤ d) (h1 : d ≤ 100000) :
    Calls Tryz.prog 187 #[.int .i64 d] w fun e w' => ∃ y m k, e = .returned (.tuple #[.int .i64 y, .int .i64 m, .int .i64 k, .int .i64 0]) ∧ IsDate d y m k ∧ Below w.heap.size w w' := by
  go_enter Tryz.func187, Tryz.ntmps187
  go_wp2_with fail
  refine (outside_no d 0 100000 _ h0 h1).mono ?_
  rintro e w1 ⟨rfl, rfl⟩
  go_wp2_with fail
  refine (dateAt_any d _ h0 (by omega)).mono ?_
  rintro e w1 ⟨y, m, k, rfl, hd, hb⟩
  go_wp2
  exact bodyPost_ret (v := .tuple #[.int .i64 y, .int .i64 m, .int .i64 k, .int .i64 0]) (by simp [results, Tryz.results187, go_sem]) rfl ⟨y, m, k, rfl, hd, hb⟩
/-- the table of powers of ten lies in its variable -/
def Pow (w : World) : Prop := Lib.TabIs Tryz.prog w "internal/strconv.uint64pow10" .u64 Lib.pow10Tab
theorem Pow.below {w w' : World} (h : Pow w) (hb : Below w.heap.size w w') : Pow w' :=
  Go.Joins.tab_stays (g := 1) (by kernel_rfl) h hb (Nat.le_refl _)
/-- a number's word -/
def wd (n : Int) : ByteArray := ⟨(Lib.itoa n).toArray⟩
theorem wd_size {n : Int} (h : n.natAbs < 10 ^ 7) : (wd n).size ≤ 8 := by
  show (Lib.itoa n).toArray.size ≤ 8
  simpa using itoa_len h
theorem itoaN_any (n : Int) (h0 : -9223372036854775808 ≤ n) (h1 : n ≤ 9223372036854775807) (w : World) (hP : Pow w) :
    Calls Tryz.prog 26 #[.int .i64 n] w fun e w' => e = .returned (.string (wd n)) ∧ Below w.heap.size w w' := by
  refine (Tryz.strconv_Itoa n h0 h1 w hP).mono ?_
  rintro e w' ⟨rfl, k, os, rfl⟩
  exact ⟨rfl, Lib.below_grow _ _ (Nat.le_refl _) _ _⟩

def padS (n g : Int) : ByteArray := ⟨(padL n g).toArray⟩
noncomputable def dtS (d : Int) : ByteArray := ⟨(datL d).toArray⟩
theorem wd_len (n : Int) : (wd n).size = (Lib.itoa n).length := by
  show (Lib.itoa n).toArray.size = _
  simp
theorem rep_size (c : Nat) : (⟨(Lib.repeatL [48] c).toArray⟩ : ByteArray).size = c := by
  show (Lib.repeatL [48] c).toArray.size = c
  rw [rep_list]
  simp
theorem padS_size {n g : Int} (h : n.natAbs < 10 ^ 7) (hg : g ≤ 4) : (padS n g).size ≤ 20 := by
  have h1 := padL_len n g
  have h2 := itoa_len h
  show (padL n g).toArray.size ≤ 20
  simp
  omega

set_option maxHeartbeats 1000000 in
theorem padded_any (n g : Int) (h0 : 0 ≤ n) (h1 : n ≤ 100000) (hg : g = 2 ∨ g = 4) (w : World) (hP : Pow w) :
    Calls Tryz.prog 188 #[.int .i64 n, .int .i64 g] w fun e w' => e = .returned (.string (padS n g)) ∧ Below w.heap.size w w' := by
  have hz := wd_size (n := n) (by omega)
  have hps : ∀ q : Nat, max 0 (g - ((wd n).size : Int)) = (q : Int) → (⟨(Lib.repeatL [48] q).toArray⟩ : ByteArray) ++ wd n = padS n g := by
    intro q hq
    rw [wd_len] at hq
    have hq' : (g - ((Lib.itoa n).length : Int)).toNat = q := by omega
    apply ByteArray.ext
    unfold padS padL
    rw [hq', rep_list]
    simp [wd]
  have HPS := Lib.hid hps
  have HI := Lib.hid (itoaN_any n (by omega) (by omega) w hP)
  obtain ⟨s, hs⟩ : ∃ s, s = wd n := ⟨_, rfl⟩
  rw [← hs] at hz HI HPS
  clear hs hP hps
  go_enter Tryz.func188, Tryz.ntmps188
  go_wp2_with fail
  refine HI.out.mono ?_
  rintro e w1 ⟨rfl, hb1⟩
  have HB := Lib.hid hb1
  clear hb1 HI
  go_wp2_with fail
  obtain ⟨q, hq, hq4⟩ : ∃ q : Nat, max 0 (g - (s.size : Int)) = (q : Int) ∧ q ≤ 4 := ⟨(max 0 (g - (s.size : Int))).toNat, by omega, by omega⟩
  have HQ := Lib.hid (HPS.out q hq)
  rw [hq]
  have hrz : (⟨(Lib.repeatL [48] q).toArray⟩ : ByteArray).size = q := rep_size q
  refine (Tryz.strings_Repeat ⟨#[48]⟩ q w1 (by omega) (by show 1 * q ≤ _; omega)).mono ?_
  rintro e w2 ⟨rfl, hb2⟩
  rw [show (⟨#[48]⟩ : ByteArray).data.toList = [48] from rfl]
  have HB2 : Hid (Below w.heap.size w w2) := HB.out.trans (hb2.mono HB.out.size)
  obtain ⟨t, ht⟩ : ∃ t, t = (⟨(Lib.repeatL [48] q).toArray⟩ : ByteArray) := ⟨_, rfl⟩
  rw [← ht] at hrz HQ ⊢
  clear hb2 hq ht HPS
  go_wp2_with fail
  go_ret
  exact ⟨by rw [← HQ.out]; rfl, HB2.out⟩

theorem isDate_small {d y m k : Int} (h : IsDate d y m k) (h0 : 0 ≤ d) (h1 : d ≤ 100000) : 2001 ≤ y ∧ y ≤ 2600 ∧ 1 ≤ m ∧ m ≤ 12 ∧ 1 ≤ k ∧ k ≤ 31 := by
  obtain ⟨a0, a1, a2, a3, a4, a5, a6, a7⟩ := h
  have := bef_hi a1 (by omega)
  have := ml_hi y m
  omega

set_option maxHeartbeats 1000000 in
theorem dateText_any (d : Int) (w : World) (hd0 : 0 ≤ d) (hd1 : d ≤ 100000) (hP : Pow w) :
    Calls Tryz.prog 151 #[.int .i64 d] w fun e w' => e = .returned (.tuple #[.string (dtS d), .int .i64 0]) ∧ (dtS d).size ≤ 100 ∧ Below w.heap.size w w' := by
  have HD := Lib.hid (dateOf_any d w hd0 hd1)
  have HPW := Lib.hid hP
  obtain ⟨S, hS⟩ : ∃ S, S = dtS d := ⟨_, rfl⟩
  rw [← hS]
  have HS := Lib.hid hS
  clear hP hS
  go_enter Tryz.func151, Tryz.ntmps151
  go_wp2_with fail
  refine HD.out.mono ?_
  rintro e w1 ⟨y, m, k, rfl, hdt, hb1⟩
  obtain ⟨b0, b1, b2, b3, b4, b5⟩ := isDate_small hdt hd0 hd1
  have HS2 : Hid (S = padS y 4 ++ ⟨#[45]⟩ ++ padS m 2 ++ ⟨#[45]⟩ ++ padS k 2) := by
    show _ = _
    rw [HS.out]
    unfold dtS datL
    rw [ymd_is hdt]
    apply ByteArray.ext
    simp [padS]
  have s1 := padS_size (n := y) (g := 4) (by omega) (by omega)
  have s2 := padS_size (n := m) (g := 2) (by omega) (by omega)
  have s3 := padS_size (n := k) (g := 2) (by omega) (by omega)
  have HB1 := Lib.hid hb1
  have HP1 := Lib.hid (HPW.out.below hb1)
  have A1 := Lib.hid fun w hP => padded_any y 4 (by omega) (by omega) (.inr rfl) w hP
  have A2 := Lib.hid fun w hP => padded_any m 2 (by omega) (by omega) (.inl rfl) w hP
  have A3 := Lib.hid fun w hP => padded_any k 2 (by omega) (by omega) (.inl rfl) w hP
  obtain ⟨S1, hS1⟩ : ∃ S, S = padS y 4 := ⟨_, rfl⟩
  obtain ⟨S2, hS2⟩ : ∃ S, S = padS m 2 := ⟨_, rfl⟩
  obtain ⟨S3, hS3⟩ : ∃ S, S = padS k 2 := ⟨_, rfl⟩
  rw [← hS1] at s1 A1 HS2
  rw [← hS2] at s2 A2 HS2
  rw [← hS3] at s3 A3 HS2
  clear hb1 hdt HD HPW hS1 hS2 hS3 HS
  go_wp2_with fail
  refine (A1.out w1 HP1.out).mono ?_
  rintro e w2 ⟨rfl, hb2⟩
  have HB2 := Lib.hid (HB1.out.trans (hb2.mono HB1.out.size))
  have HP2 := Lib.hid (HP1.out.below hb2)
  clear hb2 HP1 HB1
  go_wp2_with fail
  refine (A2.out w2 HP2.out).mono ?_
  rintro e w3 ⟨rfl, hb3⟩
  have HB3 := Lib.hid (HB2.out.trans (hb3.mono HB2.out.size))
  have HP3 := Lib.hid (HP2.out.below hb3)
  clear hb3 HP2 HB2
  go_wp2_with fail
  refine (A3.out w3 HP3.out).mono ?_
  rintro e w4 ⟨rfl, hb4⟩
  have HB4 := Lib.hid (HB3.out.trans (hb4.mono HB3.out.size))
  clear hb4 HP3 HB3
  go_wp2_with fail
  go_ret2
  refine ⟨by rw [HS2.out]; rfl, ?_, HB4.out⟩
  rw [HS2.out]
  simp only [ByteArray.size_append]
  show _ + 1 + _ + 1 + _ ≤ 100
  omega
end Go.Proofs.YtnlonleljbbgoaaGreatDoor
