/-
  DERIVED. DERIVED: THE SHELF's CONTRACTS AT THIS DUMP, IN PLAIN WORDS (tools/lay-plain.mjs out of 'TryShelf.lean', which tools/lay-shelf.mjs wrote): THE SAME DECLARATIONS UNDER THE SAME NAMES: 'import', 'namespace', 'open', 'def', 'theorem' AND NOTHING ELSE: no command of the shelf's: FOR A HAND-IN. Each laying: the table of numbers ('.._ren') and one theorem, a field a fact of the dump's own or the kernel's comparison; each contract: ONE APPLICATION.
  The walk of prop.dateAt. Conditions: days from 0 to 200000.
  DERIVED: THE SHELF's CONTRACT OF strconv.Itoa AT THIS DUMP, IN PLAIN WORDS (tools/lay-plain.mjs out of a laid shelf text).
  The walks of prop.padded and prop.DateText, to the byte. Conditions: the table of powers of ten is laid; days of the calendar.
  What a region that draws wants where it is walked by hand: a take with its slot named; S made stronger midway.
  By an AI agent.
-/
import Derived.Shelf.Strings.Builder1
import Derived.Shelf.Strings.Builder2
import Derived.Shelf.Strings.OnBuilder
import Derived.Shelf.Small.Strs
import Derived.Shelf.Strings.BuilderF
import Derived.Test.YtinllchioeldbaaGreatDoorProg
import Derived.Test.YtinllchioeldbaaGreatDoorCa04
import Derived.Deep.LoopGhost
import Derived.Shelf.Strconv.Itoa0
import Derived.Shelf.Strconv.Itoa1
import Derived.Shelf.LaysM
import Derived.Shelf.Strconv.Itoa2
import Derived.Shelf.Strconv.Itoa3
import Derived.Test.YtinllchioeldbaaGreatDoorCa02
import Derived.Lib.SmallJoins
import Derived.Lib.AppendIntMem
import Derived.Test.YtinllchioeldbaaGreatDoorChecked
import Derived.Deep.RegionHeld3
namespace Go.Proofs
open Go.Shelf

def Tryz.lays156_ren : Go.Shelf.Ren := ⟨fun | 156 => 35 | 165 => 54 | 166 => 27 | 169 => 30 | 240 => 47 | 241 => 64 | 276 => 59 | 277 => 73 | n => n, fun | 31 => 62 | 9 => 9 | 3 => 3 | 4 => 4 | 0 => 0 | 20 => 20 | 72 => 54 | 76 => 57 | 70 => 51 | 37 => 52 | 75 => 56 | 127 => 76 | 164 => 81 | 5 => 5 | 80 => 61 | n => n, fun | n => n⟩
theorem Tryz.lays156 : Go.Proofs.Lays.n156 Tryz.prog Tryz.lays156_ren := {
  mixed := by kernel_rfl
  f156 := Tryz.func35.trans (congrArg some (by kernel_rfl))
  f165 := Tryz.func54.trans (congrArg some (by kernel_rfl))
  f166 := Tryz.func27.trans (congrArg some (by kernel_rfl))
  f169 := Tryz.func30.trans (congrArg some (by kernel_rfl))
  f240 := Tryz.func47.trans (congrArg some (by kernel_rfl))
  f241 := Tryz.func64.trans (congrArg some (by kernel_rfl))
  f276 := Tryz.func59.trans (congrArg some (by kernel_rfl))
  f277 := Tryz.func73.trans (congrArg some (by kernel_rfl))
  t0 := Tryz.underlying0
  a0 := Tryz.isAgg0
  z0 := Tryz.sizeOf0
  v0 := Tryz.zeroValue0
  t3 := Tryz.underlying3
  a3 := Tryz.isAgg3
  z3 := Tryz.sizeOf3
  v3 := Tryz.zeroValue3
  t4 := Tryz.underlying4
  a4 := Tryz.isAgg4
  z4 := Tryz.sizeOf4
  v4 := Tryz.zeroValue4
  t9 := Tryz.underlying9
  a9 := Tryz.isAgg9
  z9 := Tryz.sizeOf9
  v9 := Tryz.zeroValue9
  t20 := Tryz.underlying20
  a20 := Tryz.isAgg20
  z20 := Tryz.sizeOf20
  v20 := Tryz.zeroValue20
  t31 := Tryz.underlying62
  a31 := Tryz.isAgg62
  z31 := Tryz.sizeOf62
  v31 := Tryz.zeroValue62
  t37 := Tryz.underlying52
  a37 := Tryz.isAgg52
  z37 := Tryz.sizeOf52
  v37 := Tryz.zeroValue52
  t70 := Tryz.underlying51
  a70 := Tryz.isAgg51
  z70 := Tryz.sizeOf51
  v70 := Tryz.zeroValue51
  t72 := Tryz.underlying54
  a72 := Tryz.isAgg54
  z72 := Tryz.sizeOf54
  v72 := Tryz.zeroValue54
  t75 := Tryz.underlying56
  a75 := Tryz.isAgg56
  z75 := Tryz.sizeOf56
  v75 := Tryz.zeroValue56
  t76 := Tryz.underlying57
  a76 := Tryz.isAgg57
  z76 := Tryz.sizeOf57
  v76 := Tryz.zeroValue57
  t127 := Tryz.underlying76
  a127 := Tryz.isAgg76
  z127 := Tryz.sizeOf76
  v127 := Tryz.zeroValue76
  t164 := Tryz.underlying81
  a164 := Tryz.isAgg81
  z164 := Tryz.sizeOf81
  v164 := Tryz.zeroValue81 }
theorem Tryz.Builder_Extra_156 : Builder.Extra Tryz.prog Tryz.lays156_ren := {
  sizeBuilder := by kernel_rfl
  liesBuilder := by kernel_rfl
  t5 := Tryz.underlying5
  a5 := Tryz.isAgg5
  z5 := Tryz.sizeOf5
  v5 := Tryz.zeroValue5
  infoByte := by kernel_rfl
  cellsByte := by kernel_rfl
  sizeByte := by kernel_rfl
  neB5 := by decide }
open Go.RowKit in
theorem Tryz.strings_Join_none (a : Option Addr) (c : Nat) (sep : ByteArray) (w : World) :
    Calls Tryz.prog 35 #[.slice a 0 c, .string sep] w fun e w' => e = .returned (.string ⟨#[]⟩) ∧ w' = w := Any.strings_Join_none Tryz.lays156 Tryz.Builder_Extra_156 a c sep w
open Go.RowKit in
theorem Tryz.strings_Join (bk o c : Nat) (xs : List ByteArray) (sep : ByteArray) (w : World) (hcells : ∀ (j : Nat) x, xs[j]? = some x → w.cell? ⟨bk, o + j, none⟩ = some (.string x)) (hbk : bk < w.heap.size) (hN : xs.length ≤ 140737488355328) (hcap : xs.length ≤ c) (hlen : (Lib.join (xs.map (·.data.toList)) sep.data.toList).length ≤ 140737488355328) :
    Calls Tryz.prog 35 #[.slice (some ⟨bk, o, none⟩) xs.length c, .string sep] w fun e w' => e = .returned (.string ⟨(Lib.join (xs.map (·.data.toList)) sep.data.toList).toArray⟩) ∧ Below w.heap.size w w' := Any.strings_Join Tryz.lays156 Tryz.Builder_Extra_156 bk o c xs sep w hcells hbk hN hcap hlen
end Go.Proofs
namespace Go.Proofs.YtinllchioeldbaaGreatDoor
open Go.RowKit cal

theorem index_len (y : Int) (j : Nat) (hj : j < 12) (w : World) : (Instr.index 154 (.agg (lenL y).toArray) (.int .i64 (j : Int))).run Tryz.prog w = .ok (.int .i64 (ml y (j + 1))) w := by
  have h : j = 0 ∨ j = 1 ∨ j = 2 ∨ j = 3 ∨ j = 4 ∨ j = 5 ∨ j = 6 ∨ j = 7 ∨ j = 8 ∨ j = 9 ∨ j = 10 ∨ j = 11 := by omega
  rcases h with rfl | rfl | rfl | rfl | rfl | rfl | rfl | rfl | rfl | rfl | rfl | rfl
  all_goals exact (show _ = Result.ok _ w from by kernel_rfl)

set_option maxHeartbeats 2000000 in
theorem dateAt_any (d : Int) (w : World) (h0 : 0 ≤ d) (h1 : d ≤ 200000) :
    Calls Tryz.prog 86 #[.int .i64 d] w fun e w' => ∃ y m k, e = .returned (.tuple #[.int .i64 y, .int .i64 m, .int .i64 k]) ∧ IsDate d y m k ∧ Below w.heap.size w w' := by
  have hg := bef_guess h0 h1
  go_enter Tryz.func86, Tryz.ntmps86
  go_wp2
  go_loop [2] (fun v => ∃ y : Int, v = .int .i64 y ∧ 2001 ≤ y ∧ y ≤ 2600 ∧ bef y ≤ d) (fun v => (2600 - intOf v).toNat)
  case atStart => exact ⟨_, rfl, by omega, bef_hi hg h1, hg⟩
  case round =>
    clear hg
    obtain ⟨y, rfl, hy0, hy1, hb⟩ := hrel
    by_cases hn : bef (y + 1) ≤ d
    · have hy2 := bef_hi hn h1
      go_wp2_with (go_at_call 104; refine (before_any (y + 1) _ (by omega) (by omega)).mono ?_; rintro e w1 ⟨rfl, rfl⟩)
      go_round
      case rel => exact ⟨y + 1, rfl, by omega, by omega, hn⟩
      case measure => simp [intOf]; omega
    · have hn' : d < bef (y + 1) := by omega
      clear hn
      go_wp2_with fail
      refine (before_any (y + 1) _ (by omega) (by omega)).mono ?_
      rintro e w1 ⟨rfl, rfl⟩
      go_wp2_with fail
      refine (before_any y _ (by omega) (by omega)).mono ?_
      rintro e w1 ⟨rfl, rfl⟩
      have hlo := bef_lo hy0
      go_wp2_with fail
      refine (lengths_any y _ (by omega) (by omega)).mono ?_
      rintro e w1 ⟨rfl, hb1⟩
      go_wp2
      obtain ⟨R, hR⟩ : ∃ R, R = d - bef y := ⟨_, rfl⟩
      have hR0 : 0 ≤ R := by omega
      have hR1 : R < 365 + lp y := by have := bef_succ y; omega
      have hlp := lp_01 y
      rw [← hR]
      have HR := Lib.hid hR
      clear hR
      go_loop [3, 5, 24] (fun m r i => ∃ (j : Nat) (c : Int), j < 12 ∧ i = .int .i64 j ∧ m = .int .i64 (j + 1) ∧ c = cum y (j + 1) ∧ r = .int .i64 (R - c) ∧ c ≤ R) (fun _ _ i => 12 - (intOf i).toNat)
      case atStart => exact ⟨0, 0, by omega, rfl, rfl, rfl, by simp, hR0⟩
      case round =>
        obtain ⟨j, c, hj, rfl, rfl, hc, rfl, hcR⟩ := hrel
        have hix := fun W => index_len y j hj W
        have hb0 := cum_bd y (m := (j : Int) + 1) (by omega) (by omega)
        have hs0 := cum_succ y (m := (j : Int) + 1) (by omega) (by omega)
        have hl0 := ml_lo y ((j : Int) + 1)
        have hl1 := ml_hi y ((j : Int) + 1)
        have hbc : 0 ≤ c ∧ c ≤ 366 := by rw [hc]; exact hb0
        have HC := Lib.hid hc
        have HS := Lib.hid hs0
        have HL0 := Lib.hid hl0
        obtain ⟨hbc0, hbc1⟩ := hbc
        clear hc hs0 hb0
        by_cases hlt : R - c < ml y ((j : Int) + 1)
        · go_wp2
          go_ret3
          refine ⟨y, (j : Int) + 1, R - c + 1, rfl, ⟨hy0, hb, hn', by omega, by omega, by omega, by omega, ?_⟩, hb1⟩
          rw [← HC.out]
          have := HR.out
          omega
        · have hj' : j + 1 < 12 := by
            rcases Nat.lt_or_ge (j + 1) 12 with h | h
            · exact h
            · exfalso
              obtain rfl : j = 11 := by omega
              have h1 := HC.out
              have h2 := HS.out
              rw [← h1] at h2
              have h3 : cum y (((11 : Nat) : Int) + 1 + 1) = 365 + lp y := cum_13 y
              omega
          go_wp2
          go_round
          case rel => exact ⟨j + 1, c + ml y ((j : Int) + 1), hj', by go_num, by go_num, by have := HS.out; rw [← HC.out] at this; rw [← this]; congr 1, by go_num, by omega⟩
          case measure => simp [intOf]; omega
end Go.Proofs.YtinllchioeldbaaGreatDoor
namespace Go.Proofs
open Go.Shelf

def Tryz.laysM171_ren : Go.Shelf.Ren := ⟨fun | 171 => 48 | 243 => 60 | 246 => 68 | 283 => 79 | 284 => 80 | 285 => 81 | 286 => 82 | 129 => 94 | 317 => 93 | 318 => 95 | 319 => 96 | 320 => 97 | 337 => 109 | 338 => 110 | n => n, fun | 3 => 3 | 9 => 9 | 2 => 2 | 4 => 4 | 171 => 118 | 0 => 0 | 53 => 119 | 37 => 52 | 5 => 5 | 173 => 122 | 212 => 136 | 51 => 93 | 20 => 20 | 213 => 137 | 46 => 133 | 232 => 177 | 233 => 178 | n => n, fun | 17 => 2 | 18 => 3 | 19 => 4 | n => n⟩
theorem Tryz.laysM171 : Go.Proofs.LaysM.n171 Tryz.prog Tryz.laysM171_ren := {
  mixed := by kernel_rfl
  f129 := Tryz.func94.trans (congrArg some (by kernel_rfl))
  f171 := Tryz.func48.trans (congrArg some (by kernel_rfl))
  f243 := Tryz.func60.trans (congrArg some (by kernel_rfl))
  f246 := Tryz.func68.trans (congrArg some (by kernel_rfl))
  f283 := Tryz.func79.trans (congrArg some (by kernel_rfl))
  f284 := Tryz.func80.trans (congrArg some (by kernel_rfl))
  f285 := Tryz.func81.trans (congrArg some (by kernel_rfl))
  f286 := Tryz.func82.trans (congrArg some (by kernel_rfl))
  f317 := Tryz.func93.trans (congrArg some (by kernel_rfl))
  f318 := Tryz.func95.trans (congrArg some (by kernel_rfl))
  f319 := Tryz.func96.trans (congrArg some (by kernel_rfl))
  f320 := Tryz.func97.trans (congrArg some (by kernel_rfl))
  f337 := Tryz.func109.trans (congrArg some (by kernel_rfl))
  f338 := Tryz.func110.trans (congrArg some (by kernel_rfl))
  t0 := Tryz.underlying0
  a0 := Tryz.isAgg0
  z0 := Tryz.sizeOf0
  v0 := Tryz.zeroValue0
  t2 := Tryz.underlying2
  a2 := Tryz.isAgg2
  z2 := Tryz.sizeOf2
  v2 := Tryz.zeroValue2
  t3 := Tryz.underlying3
  a3 := Tryz.isAgg3
  z3 := Tryz.sizeOf3
  v3 := Tryz.zeroValue3
  t4 := Tryz.underlying4
  a4 := Tryz.isAgg4
  z4 := Tryz.sizeOf4
  v4 := Tryz.zeroValue4
  t5 := Tryz.underlying5
  a5 := Tryz.isAgg5
  z5 := Tryz.sizeOf5
  v5 := Tryz.zeroValue5
  t9 := Tryz.underlying9
  a9 := Tryz.isAgg9
  z9 := Tryz.sizeOf9
  v9 := Tryz.zeroValue9
  t20 := Tryz.underlying20
  a20 := Tryz.isAgg20
  z20 := Tryz.sizeOf20
  v20 := Tryz.zeroValue20
  t37 := Tryz.underlying52
  a37 := Tryz.isAgg52
  z37 := Tryz.sizeOf52
  v37 := Tryz.zeroValue52
  t46 := Tryz.underlying133
  a46 := Tryz.isAgg133
  z46 := Tryz.sizeOf133
  v46 := Tryz.zeroValue133
  t51 := Tryz.underlying93
  a51 := Tryz.isAgg93
  z51 := Tryz.sizeOf93
  v51 := Tryz.zeroValue93
  t53 := Tryz.underlying119
  a53 := Tryz.isAgg119
  z53 := Tryz.sizeOf119
  v53 := Tryz.zeroValue119
  t171 := Tryz.underlying118
  a171 := Tryz.isAgg118
  z171 := Tryz.sizeOf118
  v171 := Tryz.zeroValue118
  t173 := Tryz.underlying122
  a173 := Tryz.isAgg122
  z173 := Tryz.sizeOf122
  v173 := Tryz.zeroValue122
  t212 := Tryz.underlying136
  a212 := Tryz.isAgg136
  z212 := Tryz.sizeOf136
  v212 := Tryz.zeroValue136
  t213 := Tryz.underlying137
  a213 := Tryz.isAgg137
  z213 := Tryz.sizeOf137
  t232 := Tryz.underlying177
  a232 := Tryz.isAgg177
  z232 := Tryz.sizeOf177
  v232 := Tryz.zeroValue177
  t233 := Tryz.underlying178
  a233 := Tryz.isAgg178
  z233 := Tryz.sizeOf178
  v233 := Tryz.zeroValue178
  g17 := by kernel_rfl
  g18 := by kernel_rfl
  g19 := by kernel_rfl
  i0 := by kernel_rfl
  i2 := by kernel_rfl
  i3 := by kernel_rfl
  i4 := by kernel_rfl
  i5 := by kernel_rfl
  i9 := by kernel_rfl
  i20 := by kernel_rfl
  i37 := by kernel_rfl
  i46 := by kernel_rfl
  i51 := by kernel_rfl
  i53 := by kernel_rfl
  i171 := by kernel_rfl
  i173 := by kernel_rfl
  i212 := by kernel_rfl
  i232 := by kernel_rfl
  i233 := by kernel_rfl
  m17 := by kernel_rfl
  m18 := by kernel_rfl
  m19 := by kernel_rfl }
open Go.RowKit Go.Sort Go.Lib in
theorem Tryz.strconv_Itoa (n : Int) (h0 : -9223372036854775808 ≤ n) (h1 : n ≤ 9223372036854775807) (w : World) (htab : Lib.TabIs Tryz.prog w "internal/strconv.uint64pow10" .u64 Lib.pow10Tab) :
    Calls Tryz.prog 48 #[.int .i64 n] w fun e w' => e = .returned (.string ⟨(Lib.itoa n).toArray⟩) ∧ ∃ k os, w' = grow (w.drewN k) os := Any.strconv_Itoa Tryz.laysM171 n h0 h1 w htab
end Go.Proofs
namespace Go.Proofs.YtinllchioeldbaaGreatDoor
open Go.RowKit cal

set_option maxHeartbeats 1000000 in
theorem dateOf_any (d : Int) (w : World) (h0 : 0 ≤ d) (h1 : d ≤ 100000) :
    Calls Tryz.prog 71 #[.int .i64 d] w fun e w' => ∃ y m k, e = .returned (.tuple #[.int .i64 y, .int .i64 m, .int .i64 k, .int .i64 0]) ∧ IsDate d y m k ∧ Below w.heap.size w w' := by
  go_enter Tryz.func71, Tryz.ntmps71
  go_wp2_with fail
  refine (outside_no d 0 100000 _ h0 h1).mono ?_
  rintro e w1 ⟨rfl, rfl⟩
  go_wp2_with fail
  refine (dateAt_any d _ h0 (by omega)).mono ?_
  rintro e w1 ⟨y, m, k, rfl, hd, hb⟩
  go_wp2
  exact bodyPost_ret (v := .tuple #[.int .i64 y, .int .i64 m, .int .i64 k, .int .i64 0]) (by simp [results, Tryz.results71, go_sem]) rfl ⟨y, m, k, rfl, hd, hb⟩
/-- the table of powers of ten lies in its variable -/
def Pow (w : World) : Prop := Lib.TabIs Tryz.prog w "internal/strconv.uint64pow10" .u64 Lib.pow10Tab
theorem Pow.below {w w' : World} (h : Pow w) (hb : Below w.heap.size w w') : Pow w' :=
  Go.Joins.tab_stays (g := 2) (by kernel_rfl) h hb (Nat.le_refl _)
/-- a number's word -/
def wd (n : Int) : ByteArray := ⟨(Lib.itoa n).toArray⟩
theorem wd_size {n : Int} (h : n.natAbs < 10 ^ 7) : (wd n).size ≤ 8 := by
  show (Lib.itoa n).toArray.size ≤ 8
  simpa using itoa_len h
theorem itoaN_any (n : Int) (h0 : -9223372036854775808 ≤ n) (h1 : n ≤ 9223372036854775807) (w : World) (hP : Pow w) :
    Calls Tryz.prog 48 #[.int .i64 n] w fun e w' => e = .returned (.string (wd n)) ∧ Below w.heap.size w w' := by
  refine (Tryz.strconv_Itoa n h0 h1 w hP).mono ?_
  rintro e w' ⟨rfl, k, os, rfl⟩
  exact ⟨rfl, Lib.below_grow _ _ (Nat.le_refl _) _ _⟩

def padS (n g : Int) : ByteArray := ⟨(padL n g).toArray⟩
noncomputable def dtS (d : Int) : ByteArray := ⟨(datL d).toArray⟩
theorem wd_len (n : Int) : (wd n).size = (Lib.itoa n).length := by
  show (Lib.itoa n).toArray.size = _
  simp
theorem rep_size (c : Nat) : (⟨(Lib.repeatL [48] c).toArray⟩ : ByteArray).size = c := by
  show (Lib.repeatL [48] c).toArray.size = c
  rw [rep_list]
  simp
theorem padS_size {n g : Int} (h : n.natAbs < 10 ^ 7) (hg : g ≤ 4) : (padS n g).size ≤ 20 := by
  have h1 := padL_len n g
  have h2 := itoa_len h
  show (padL n g).toArray.size ≤ 20
  simp
  omega

set_option maxHeartbeats 1000000 in
theorem padded_any (n g : Int) (h0 : 0 ≤ n) (h1 : n ≤ 100000) (hg : g = 2 ∨ g = 4) (w : World) (hP : Pow w) :
    Calls Tryz.prog 72 #[.int .i64 n, .int .i64 g] w fun e w' => e = .returned (.string (padS n g)) ∧ Below w.heap.size w w' := by
  have hz := wd_size (n := n) (by omega)
  have hps : ∀ q : Nat, max 0 (g - ((wd n).size : Int)) = (q : Int) → (⟨(Lib.repeatL [48] q).toArray⟩ : ByteArray) ++ wd n = padS n g := by
    intro q hq
    rw [wd_len] at hq
    have hq' : (g - ((Lib.itoa n).length : Int)).toNat = q := by omega
    apply ByteArray.ext
    unfold padS padL
    rw [hq', rep_list]
    simp [wd]
  have HPS := Lib.hid hps
  have HI := Lib.hid (itoaN_any n (by omega) (by omega) w hP)
  obtain ⟨s, hs⟩ : ∃ s, s = wd n := ⟨_, rfl⟩
  rw [← hs] at hz HI HPS
  clear hs hP hps
  go_enter Tryz.func72, Tryz.ntmps72
  go_wp2_with fail
  refine HI.out.mono ?_
  rintro e w1 ⟨rfl, hb1⟩
  have HB := Lib.hid hb1
  clear hb1 HI
  go_wp2_with fail
  obtain ⟨q, hq, hq4⟩ : ∃ q : Nat, max 0 (g - (s.size : Int)) = (q : Int) ∧ q ≤ 4 := ⟨(max 0 (g - (s.size : Int))).toNat, by omega, by omega⟩
  have HQ := Lib.hid (HPS.out q hq)
  rw [hq]
  have hrz : (⟨(Lib.repeatL [48] q).toArray⟩ : ByteArray).size = q := rep_size q
  refine (Tryz.strings_Repeat ⟨#[48]⟩ q w1 (by omega) (by show 1 * q ≤ _; omega)).mono ?_
  rintro e w2 ⟨rfl, hb2⟩
  rw [show (⟨#[48]⟩ : ByteArray).data.toList = [48] from rfl]
  have HB2 : Hid (Below w.heap.size w w2) := HB.out.trans (hb2.mono HB.out.size)
  obtain ⟨t, ht⟩ : ∃ t, t = (⟨(Lib.repeatL [48] q).toArray⟩ : ByteArray) := ⟨_, rfl⟩
  rw [← ht] at hrz HQ ⊢
  clear hb2 hq ht HPS
  go_wp2_with fail
  go_ret
  exact ⟨by rw [← HQ.out]; rfl, HB2.out⟩

theorem isDate_small {d y m k : Int} (h : IsDate d y m k) (h0 : 0 ≤ d) (h1 : d ≤ 100000) : 2001 ≤ y ∧ y ≤ 2600 ∧ 1 ≤ m ∧ m ≤ 12 ∧ 1 ≤ k ∧ k ≤ 31 := by
  obtain ⟨a0, a1, a2, a3, a4, a5, a6, a7⟩ := h
  have := bef_hi a1 (by omega)
  have := ml_hi y m
  omega

set_option maxHeartbeats 1000000 in
theorem dateText_any (d : Int) (w : World) (hd0 : 0 ≤ d) (hd1 : d ≤ 100000) (hP : Pow w) :
    Calls Tryz.prog 63 #[.int .i64 d] w fun e w' => e = .returned (.tuple #[.string (dtS d), .int .i64 0]) ∧ (dtS d).size ≤ 100 ∧ Below w.heap.size w w' := by
  have HD := Lib.hid (dateOf_any d w hd0 hd1)
  have HPW := Lib.hid hP
  obtain ⟨S, hS⟩ : ∃ S, S = dtS d := ⟨_, rfl⟩
  rw [← hS]
  have HS := Lib.hid hS
  clear hP hS
  go_enter Tryz.func63, Tryz.ntmps63
  go_wp2_with fail
  refine HD.out.mono ?_
  rintro e w1 ⟨y, m, k, rfl, hdt, hb1⟩
  obtain ⟨b0, b1, b2, b3, b4, b5⟩ := isDate_small hdt hd0 hd1
  have HS2 : Hid (S = padS y 4 ++ ⟨#[45]⟩ ++ padS m 2 ++ ⟨#[45]⟩ ++ padS k 2) := by
    show _ = _
    rw [HS.out]
    unfold dtS datL
    rw [ymd_is hdt]
    apply ByteArray.ext
    simp [padS]
  have s1 := padS_size (n := y) (g := 4) (by omega) (by omega)
  have s2 := padS_size (n := m) (g := 2) (by omega) (by omega)
  have s3 := padS_size (n := k) (g := 2) (by omega) (by omega)
  have HB1 := Lib.hid hb1
  have HP1 := Lib.hid (HPW.out.below hb1)
  have A1 := Lib.hid fun w hP => padded_any y 4 (by omega) (by omega) (.inr rfl) w hP
  have A2 := Lib.hid fun w hP => padded_any m 2 (by omega) (by omega) (.inl rfl) w hP
  have A3 := Lib.hid fun w hP => padded_any k 2 (by omega) (by omega) (.inl rfl) w hP
  obtain ⟨S1, hS1⟩ : ∃ S, S = padS y 4 := ⟨_, rfl⟩
  obtain ⟨S2, hS2⟩ : ∃ S, S = padS m 2 := ⟨_, rfl⟩
  obtain ⟨S3, hS3⟩ : ∃ S, S = padS k 2 := ⟨_, rfl⟩
  rw [← hS1] at s1 A1 HS2
  rw [← hS2] at s2 A2 HS2
  rw [← hS3] at s3 A3 HS2
  clear hb1 hdt HD HPW hS1 hS2 hS3 HS
  go_wp2_with fail
  refine (A1.out w1 HP1.out).mono ?_
  rintro e w2 ⟨rfl, hb2⟩
  have HB2 := Lib.hid (HB1.out.trans (hb2.mono HB1.out.size))
  have HP2 := Lib.hid (HP1.out.below hb2)
  clear hb2 HP1 HB1
  go_wp2_with fail
  refine (A2.out w2 HP2.out).mono ?_
  rintro e w3 ⟨rfl, hb3⟩
  have HB3 := Lib.hid (HB2.out.trans (hb3.mono HB2.out.size))
  have HP3 := Lib.hid (HP2.out.below hb3)
  clear hb3 HP2 HB2
  go_wp2_with fail
  refine (A3.out w3 HP3.out).mono ?_
  rintro e w4 ⟨rfl, hb4⟩
  have HB4 := Lib.hid (HB3.out.trans (hb4.mono HB3.out.size))
  clear hb4 HP3 HB3
  go_wp2_with fail
  go_ret2
  refine ⟨by rw [HS2.out]; rfl, ?_, HB4.out⟩
  rw [HS2.out]
  simp only [ByteArray.size_append]
  show _ + 1 + _ + 1 + _ ≤ 100
  omega
end Go.Proofs.YtinllchioeldbaaGreatDoor
namespace Go.Proofs.YtinllchioeldbaaGreatDoor
open Go

/-- a take, its slot named -/
theorem handTake {P : Program} {md : Region.Mode} {ops : Array Oper} {Q : Exit → Act → World → Prop} {S : World → Prop} {i d : Nat} {oi : Oper} {v : Value} {fuel : Nat} {listed : Array Bool} {a : Act} {w : World} (hi : ops[i]? = some oi) (hd : oi.dst = some d)
    (hs : Region.noSelect ops = true) (hf : Region.free md ops listed i = true) (hr : (Region.ready md ops listed).contains i = true)
    (hQ : ∀ c a w, Q (.panic c) (a.put oi.dst v) w → Q (.panic c) a w) (hy : YieldsIf P ops S oi v a) (hS : S w)
    (h : wpAnyH P md ops Q S fuel (listed.setIfInBounds i true) { a with tmps := a.tmps.setIfInBounds d v } w) : wpAnyH P md ops Q S (fuel + 1) listed a w :=
  wpAnyH_take hi hs hf hr hQ hy hS (by rw [hd]; exact h)

/-- what holds behind every operation may be said stronger from here on -/
theorem handMono {P : Program} {md : Region.Mode} {ops : Array Oper} {Q : Exit → Act → World → Prop} {S S' : World → Prop} (hS : ∀ w, S' w → S w) :
    ∀ (fuel : Nat) (listed : Array Bool) (a : Act) (w : World), wpAnyH P md ops Q S' fuel listed a w → wpAnyH P md ops Q S fuel listed a w
  | 0, _, _, _, h => h
  | fuel + 1, _, _, _, h => ⟨h.1, fun i hi => wpOp_mono (fun _ w' h' => ⟨hS w' h'.1, handMono hS fuel _ _ _ h'.2⟩) (h.2 i hi)⟩
end Go.Proofs.YtinllchioeldbaaGreatDoor
