/-
  DERIVED. The walks of prop.outside, prop.before, prop.leap, prop.lengths. Conditions: years from 2001 to 2700.
  The walk of prop.dateAt. Conditions: days from 0 to 200000.
  strings.IndexRune at a text of ASCII bytes, of a rune beyond ASCII; strings.IndexAny and ContainsAny at ASCII bytes, of every text. Conditions: a length in reach.
  How a law's row closes: what the arguments weigh, part by part; the arguments read behind the call as before it. Conditions: none.
  By an AI agent.
-/
import Derived.Test.YtbdcimakdiegnaaGreatDoorVa01
import Derived.Test.YtbdcimakdiegnaaGreatDoorVa02
import Derived.Test.YtbdcimakdiegnaaGreatDoorChecked
import Derived.Deep.LoopGhost
import Derived.Deep.QuietTactic
import Derived.BigQuiet
import Derived.Laws.Runes
import Derived.Lib.OthersKept
import Derived.Lib.DecodeN
import Derived.Laws.Externs
import Derived.Test.YtbdcimakdiegnaaGreatDoorRows
import Derived.ProofKit
import Derived.SizedLaws
import Derived.OpenShut
import Derived.Lib.SmallJoins
import Derived.Deep.Slices
namespace Go.Proofs.YtbdcimakdiegnaaGreatDoor
open Go.RowKit cal

set_option maxHeartbeats 400000 in
theorem outside_no (n a b : Int) (w : World) (h : a ≤ n) (h' : n ≤ b) :
    Calls Tryz.prog 42 #[.int .i64 n, .int .i64 a, .int .i64 b] w fun e w' => e = .returned (.bool false) ∧ w = w' := by
  have h1 : decide (n < a) = false := by simp; omega
  have h2 : decide (b < n) = false := by simp; omega
  go_enter Tryz.func42, Tryz.ntmps42
  go_wp2
  go_ret
  exact ⟨rfl, rfl⟩
set_option maxHeartbeats 400000 in
theorem outside_yes (n a b : Int) (w : World) (h : n < a ∨ b < n) :
    Calls Tryz.prog 42 #[.int .i64 n, .int .i64 a, .int .i64 b] w fun e w' => e = .returned (.bool true) ∧ w = w' := by
  by_cases h1 : n < a
  · clear h
    go_enter Tryz.func42, Tryz.ntmps42
    go_wp2
    go_ret
    exact ⟨rfl, rfl⟩
  · have h2 : b < n := by omega
    have h3 : a ≤ n := by omega
    clear h h1
    go_enter Tryz.func42, Tryz.ntmps42
    go_wp2
    go_ret
    exact ⟨rfl, rfl⟩

set_option maxHeartbeats 400000 in
theorem before_any (y : Int) (w : World) (h : 2001 ≤ y) (h' : y ≤ 10000) :
    Calls Tryz.prog 82 #[.int .i64 y] w fun e w' => e = .returned (.int .i64 (bef y)) ∧ w = w' := by
  go_enter Tryz.func82, Tryz.ntmps82
  go_wp2
  go_ret
  refine ⟨?_, rfl⟩
  show Ending.returned (.int .i64 _) = _
  rw [show bef y = 365 * (y - 1 - 2000) + (y - 1) / 4 - 500 - (y - 1) / 100 + 20 + (y - 1) / 400 - 5 by unfold bef; omega]

/-- is it a leap year -/
def lpB (y : Int) : Bool := lp y == 1
set_option maxHeartbeats 400000 in
theorem leap_any (y : Int) (w : World) (h : 2001 ≤ y) (h' : y ≤ 10000) :
    Calls Tryz.prog 110 #[.int .i64 y] w fun e w' => e = .returned (.bool (lpB y)) ∧ w = w' := by
  have hc : ∃ v, lpB y = v ∧ (y % 4 ≠ 0 ∧ v = false ∨ y % 4 = 0 ∧ y % 100 ≠ 0 ∧ v = true ∨ y % 4 = 0 ∧ y % 100 = 0 ∧ y % 400 = 0 ∧ v = true ∨ y % 4 = 0 ∧ y % 100 = 0 ∧ y % 400 ≠ 0 ∧ v = false) := by
    refine ⟨_, rfl, ?_⟩
    unfold lpB lp
    by_cases h1 : y % 4 = 0 <;> by_cases h2 : y % 100 = 0 <;> by_cases h3 : y % 400 = 0 <;> simp [h1, h2, h3]
  obtain ⟨v, hv, hc⟩ := hc
  rw [hv]
  clear hv
  rcases hc with ⟨h1, rfl⟩ | ⟨h1, h2, rfl⟩ | ⟨h1, h2, h3, rfl⟩ | ⟨h1, h2, h3, rfl⟩
  · have g1 : (y % 4 == 0) = false := by simpa using h1
    clear h1
    go_enter Tryz.func110, Tryz.ntmps110
    go_wp2
    go_ret
    exact ⟨rfl, rfl⟩
  · have g1 : (y % 4 == 0) = true := by simpa using h1
    have g2 : (y % 100 != 0) = true := by simpa using h2
    clear h1 h2
    go_enter Tryz.func110, Tryz.ntmps110
    go_wp2
    go_ret
    exact ⟨rfl, rfl⟩
  · have g1 : (y % 4 == 0) = true := by simpa using h1
    have g2 : (y % 100 != 0) = false := by simpa using h2
    have g3 : (y % 400 == 0) = true := by simpa using h3
    clear h1 h2 h3
    go_enter Tryz.func110, Tryz.ntmps110
    go_wp2
    go_ret
    exact ⟨rfl, rfl⟩
  · have g1 : (y % 4 == 0) = true := by simpa using h1
    have g2 : (y % 100 != 0) = false := by simpa using h2
    have g3 : (y % 400 == 0) = false := by simpa using h3
    clear h1 h2 h3
    go_enter Tryz.func110, Tryz.ntmps110
    go_wp2
    go_ret
    exact ⟨rfl, rfl⟩

def lenL (y : Int) : List Value := [.int .i64 31, .int .i64 (28 + lp y), .int .i64 31, .int .i64 30, .int .i64 31, .int .i64 30, .int .i64 31, .int .i64 31, .int .i64 30, .int .i64 31, .int .i64 30, .int .i64 31]

set_option maxHeartbeats 1000000 in
theorem lengths_any (y : Int) (w : World) (h : 2001 ≤ y) (h' : y ≤ 10000) :
    Calls Tryz.prog 81 #[.int .i64 y] w fun e w' => e = .returned (.agg (lenL y).toArray) ∧ Below w.heap.size w w' := by
  rcases lp_01 y with hl | hl
  · have hb : lpB y = false := by unfold lpB; rw [hl]; rfl
    have HL := Lib.hid hl
    clear hl
    go_enter Tryz.func81, Tryz.ntmps81
    go_wp2_with (go_at_call 110; refine (leap_any y _ h h').mono ?_; rintro e w1 ⟨rfl, rfl⟩)
    refine bodyPost_ret (v := .agg #[.int .i64 31, .int .i64 28, .int .i64 31, .int .i64 30, .int .i64 31, .int .i64 30, .int .i64 31, .int .i64 31, .int .i64 30, .int .i64 31, .int .i64 30, .int .i64 31]) (by simp [results, Tryz.results81, go_sem]) rfl ⟨?_, ?_⟩
    · unfold lenL
      rw [HL.out]
      rfl
    · exact ((Below.refl _ _).alloc (Nat.le_refl _) _).alloc (by simp) _
  · have hb : lpB y = true := by unfold lpB; rw [hl]; rfl
    have HL := Lib.hid hl
    clear hl
    go_enter Tryz.func81, Tryz.ntmps81
    go_wp2_with (go_at_call 110; refine (leap_any y _ h h').mono ?_; rintro e w1 ⟨rfl, rfl⟩)
    refine bodyPost_ret (v := .agg #[.int .i64 31, .int .i64 29, .int .i64 31, .int .i64 30, .int .i64 31, .int .i64 30, .int .i64 31, .int .i64 31, .int .i64 30, .int .i64 31, .int .i64 30, .int .i64 31]) (by simp [results, Tryz.results81, go_sem]) rfl ⟨?_, ?_⟩
    · unfold lenL
      rw [HL.out]
      rfl
    · exact ((Below.refl _ _).alloc (Nat.le_refl _) _).alloc (by simp) _
end Go.Proofs.YtbdcimakdiegnaaGreatDoor
namespace Go.Proofs.YtbdcimakdiegnaaGreatDoor
open Go.RowKit cal

theorem index_len (y : Int) (j : Nat) (hj : j < 12) (w : World) : (Instr.index 110 (.agg (lenL y).toArray) (.int .i64 (j : Int))).run Tryz.prog w = .ok (.int .i64 (ml y (j + 1))) w := by
  have h : j = 0 ∨ j = 1 ∨ j = 2 ∨ j = 3 ∨ j = 4 ∨ j = 5 ∨ j = 6 ∨ j = 7 ∨ j = 8 ∨ j = 9 ∨ j = 10 ∨ j = 11 := by omega
  rcases h with rfl | rfl | rfl | rfl | rfl | rfl | rfl | rfl | rfl | rfl | rfl | rfl
  all_goals exact (show _ = Result.ok _ w from by kernel_rfl)

set_option maxHeartbeats 2000000 in
theorem dateAt_any (d : Int) (w : World) (h0 : 0 ≤ d) (h1 : d ≤ 200000) :
    Calls Tryz.prog 97 #[.int .i64 d] w fun e w' => ∃ y m k, e = .returned (.tuple #[.int .i64 y, .int .i64 m, .int .i64 k]) ∧ IsDate d y m k ∧ Below w.heap.size w w' := by
  have hg := bef_guess h0 h1
  go_enter Tryz.func97, Tryz.ntmps97
  go_wp2
  go_loop [2] (fun v => ∃ y : Int, v = .int .i64 y ∧ 2001 ≤ y ∧ y ≤ 2600 ∧ bef y ≤ d) (fun v => (2600 - intOf v).toNat)
  case atStart => exact ⟨_, rfl, by omega, bef_hi hg h1, hg⟩
  case round =>
    clear hg
    obtain ⟨y, rfl, hy0, hy1, hb⟩ := hrel
    by_cases hn : bef (y + 1) ≤ d
    · have hy2 := bef_hi hn h1
      go_wp2_with (go_at_call 82; refine (before_any (y + 1) _ (by omega) (by omega)).mono ?_; rintro e w1 ⟨rfl, rfl⟩)
      go_round
      case rel => exact ⟨y + 1, rfl, by omega, by omega, hn⟩
      case measure => simp [intOf]; omega
    · have hn' : d < bef (y + 1) := by omega
      clear hn
      go_wp2_with fail
      refine (before_any (y + 1) _ (by omega) (by omega)).mono ?_
      rintro e w1 ⟨rfl, rfl⟩
      go_wp2_with fail
      refine (before_any y _ (by omega) (by omega)).mono ?_
      rintro e w1 ⟨rfl, rfl⟩
      have hlo := bef_lo hy0
      go_wp2_with fail
      refine (lengths_any y _ (by omega) (by omega)).mono ?_
      rintro e w1 ⟨rfl, hb1⟩
      go_wp2
      obtain ⟨R, hR⟩ : ∃ R, R = d - bef y := ⟨_, rfl⟩
      have hR0 : 0 ≤ R := by omega
      have hR1 : R < 365 + lp y := by have := bef_succ y; omega
      have hlp := lp_01 y
      rw [← hR]
      have HR := Lib.hid hR
      clear hR
      go_loop [3, 5, 24] (fun m r i => ∃ (j : Nat) (c : Int), j < 12 ∧ i = .int .i64 j ∧ m = .int .i64 (j + 1) ∧ c = cum y (j + 1) ∧ r = .int .i64 (R - c) ∧ c ≤ R) (fun _ _ i => 12 - (intOf i).toNat)
      case atStart => exact ⟨0, 0, by omega, rfl, rfl, rfl, by simp, hR0⟩
      case round =>
        obtain ⟨j, c, hj, rfl, rfl, hc, rfl, hcR⟩ := hrel
        have hix := fun W => index_len y j hj W
        have hb0 := cum_bd y (m := (j : Int) + 1) (by omega) (by omega)
        have hs0 := cum_succ y (m := (j : Int) + 1) (by omega) (by omega)
        have hl0 := ml_lo y ((j : Int) + 1)
        have hl1 := ml_hi y ((j : Int) + 1)
        have hbc : 0 ≤ c ∧ c ≤ 366 := by rw [hc]; exact hb0
        have HC := Lib.hid hc
        have HS := Lib.hid hs0
        have HL0 := Lib.hid hl0
        obtain ⟨hbc0, hbc1⟩ := hbc
        clear hc hs0 hb0
        by_cases hlt : R - c < ml y ((j : Int) + 1)
        · go_wp2
          go_ret3
          refine ⟨y, (j : Int) + 1, R - c + 1, rfl, ⟨hy0, hb, hn', by omega, by omega, by omega, by omega, ?_⟩, hb1⟩
          rw [← HC.out]
          have := HR.out
          omega
        · have hj' : j + 1 < 12 := by
            rcases Nat.lt_or_ge (j + 1) 12 with h | h
            · exact h
            · exfalso
              obtain rfl : j = 11 := by omega
              have h1 := HC.out
              have h2 := HS.out
              rw [← h1] at h2
              have h3 : cum y (((11 : Nat) : Int) + 1 + 1) = 365 + lp y := cum_13 y
              omega
          go_wp2
          go_round
          case rel => exact ⟨j + 1, c + ml y ((j : Int) + 1), hj', by go_num, by go_num, by have := HS.out; rw [← HC.out] at this; rw [← this]; congr 1, by go_num, by omega⟩
          case measure => simp [intOf]; omega
end Go.Proofs.YtbdcimakdiegnaaGreatDoor
namespace Go.Proofs.YtbdcimakdiegnaaGreatDoor
open Go.RowKit

theorem notEmpty_of {t : ByteArray} (h : 0 < t.size) : t.toList.isEmpty = false := by
  rw [ByteArray.toList_eq]
  obtain ⟨⟨l⟩⟩ := t
  cases l with
  | nil => cases h
  | cons a l => rfl

set_option maxHeartbeats 1000000 in
theorem validRune_any (r : Int) (w : World) (h : (0 ≤ r ∧ r < 55296) ∨ (57343 < r ∧ r ≤ 1114111)) : Calls Tryz.prog 176 #[.int .i32 r] w fun e w' => e = .returned (.bool true) ∧ w = w' := by
  rcases h with ⟨h1, h2⟩ | ⟨h1, h2⟩
  · go_enter Tryz.func176, Tryz.ntmps176
    go_wp2
    go_ret
    exact ⟨rfl, rfl⟩
  · have h3 : (0 : Int) ≤ r := by omega
    have h4 : ¬ r < 55296 := by omega
    go_enter Tryz.func176, Tryz.ntmps176
    go_wp2
    go_ret
    exact ⟨rfl, rfl⟩

/-- what is decoded from a byte beyond ASCII on -/
theorem decodeN_far (n b0 b1 b2 b3 : Nat) (h0 : 128 ≤ b0) :
    128 ≤ (Lib.decodeN n b0 b1 b2 b3).1 ∧ ((Lib.decodeN n b0 b1 b2 b3).1 < 55296 ∨ 57343 < (Lib.decodeN n b0 b1 b2 b3).1 ∧ (Lib.decodeN n b0 b1 b2 b3).1 ≤ 1114111) ∧
    ((Lib.decodeN n b0 b1 b2 b3).2 = 1 ∨ ((Lib.decodeN n b0 b1 b2 b3).2 = 2 ∧ 1 < n ∧ 128 ≤ b1) ∨ ((Lib.decodeN n b0 b1 b2 b3).2 = 3 ∧ 2 < n ∧ 128 ≤ b1 ∧ 128 ≤ b2) ∨ ((Lib.decodeN n b0 b1 b2 b3).2 = 4 ∧ 3 < n ∧ 128 ≤ b1 ∧ 128 ≤ b2 ∧ 128 ≤ b3)) := by
  unfold Lib.decodeN
  repeat' split
  all_goals (refine ⟨?_, ?_, ?_⟩ <;> dsimp only <;> omega)

theorem get!_bt {s : ByteArray} {i : Nat} (h : i < s.size) : s.get! i = s[i] := by
  cases s with
  | mk d =>
    show d[i]! = d[i]
    rw [getElem!_pos d i h]
theorem decode_far {s : ByteArray} {i : Nat} (h : i < s.size) (h0 : 128 ≤ (s[i]).toNat) :
    128 ≤ (Utf8.decode s i).1 ∧ ((Utf8.decode s i).1 < 55296 ∨ 57343 < (Utf8.decode s i).1 ∧ (Utf8.decode s i).1 ≤ 1114111) ∧ 1 ≤ (Utf8.decode s i).2 ∧ i + (Utf8.decode s i).2 ≤ s.size ∧
    ∀ j (hj : j < s.size), i ≤ j → j < i + (Utf8.decode s i).2 → 128 ≤ (s[j]).toNat := by
  rw [Lib.decode_at]
  obtain ⟨a1, a2, a3⟩ := decodeN_far (s.size - i) (s.get! i).toNat (s.get! (i + 1)).toNat (s.get! (i + 2)).toNat (s.get! (i + 3)).toNat (by rw [get!_bt h]; exact h0)
  refine ⟨a1, a2, by omega, by omega, fun j hj h1 h2 => ?_⟩
  rcases Nat.lt_or_ge j (i + 1) with g | g
  · obtain rfl : j = i := by omega
    exact h0
  · rcases Nat.lt_or_ge j (i + 2) with g2 | g2
    · obtain rfl : j = i + 1 := by omega
      rw [← get!_bt hj]; omega
    · rcases Nat.lt_or_ge j (i + 3) with g3 | g3
      · obtain rfl : j = i + 2 := by omega
        rw [← get!_bt hj]; omega
      · obtain rfl : j = i + 3 := by omega
        rw [← get!_bt hj]; omega

/-- ASCII bytes alone -/
def Asc (L : ByteArray) : Prop := ∀ i (h : i < L.size), (L[i]).toNat < 128
theorem Asc.drop_noByte {L : ByteArray} (hL : Asc L) (a : Nat) (x : UInt8) (hx : 128 ≤ x.toNat) : Lib.indexByte (L.data.toList.drop a) x = -1 := by
  have key : ∀ n a, L.size - a = n → Lib.indexByte (L.data.toList.drop a) x = -1 := by
    intro n
    induction n with
    | zero => intro a h; rw [drop_out (by omega)]; rfl
    | succ n ih =>
      intro a h
      have ha : a < L.size := by omega
      rw [drop_bt ha]
      simp only [Lib.indexByte]
      have := hL a ha
      rw [if_neg (by simp; intro e; rw [e] at this; omega), ih (a + 1) (by omega)]
      rfl
  exact key _ a rfl

set_option maxHeartbeats 2000000 in
set_option maxRecDepth 100000 in
theorem indexRune_asc (L : ByteArray) (hL : Asc L) (_hsz : L.size ≤ 64) (r : Int) (w : World) (h1 : 128 ≤ r) (hv : (0 ≤ r ∧ r < 55296) ∨ (57343 < r ∧ r ≤ 1114111)) :
    Calls Tryz.prog 147 #[.string L, .int .i32 r] w fun e w' => e = .returned (.int .i64 (-1)) ∧ Below w.heap.size w w' := by
  have h0 : (0 : Int) ≤ r := by omega
  have hr : r ≤ 1114111 := by omega
  have hn : ¬ r < 128 := by omega
  have HV := Lib.hid hv
  have HL := Lib.hid hL
  clear hL
  have hval : Utf8.valid r = true := by unfold Utf8.valid; simp; omega
  obtain ⟨e1, e2, e3⟩ := encode_facts r hval h1
  obtain ⟨T, hT⟩ : ∃ T, T = Utf8.encode r := ⟨_, rfl⟩
  rw [← hT] at e1 e2 e3
  have HT := Lib.hid hT
  clear hv hval hT
  by_cases hE : r = 65533
  · subst hE
    go_enter Tryz.func147, Tryz.ntmps147
    clear HT e1 e2 e3 HV
    go_wp2_with fail
    go_loopg [5, 6] L.size (fun g _ _ wx => ∃ i : Nat, i + g = L.size ∧ wx = w.iter L i)
    case atStart => exact ⟨0, by omega, rfl⟩
    case round =>
      obtain ⟨i, hig, rfl⟩ := hrel
      by_cases hi : i < L.size
      · have hlt := HL.out i hi
        have hnx := fun ty => run_next_ascii (P := Tryz.prog) w L i ty hi hlt
        have hne : (((L[i]).toNat : Int) == 65533) = false := by simp; omega
        go_wp2
        go_roundg (L.size - (i + 1))
        case measure => omega
        case rel => exact ⟨i + 1, by omega, rfl⟩
      · obtain rfl : i = L.size := by omega
        have hnx := run_next_end (P := Tryz.prog) w L L.size
        go_wp2
        go_ret
        exact ⟨rfl, (Below.refl _ _).alloc (Nat.le_refl _) _⟩
  · have hE' : (r == 65533) = false := by simpa using hE
    clear hE
    go_enter Tryz.func147, Tryz.ntmps147
    go_wp2_with fail
    refine (validRune_any r _ HV.out).mono ?_
    rintro e w1 ⟨rfl, hw⟩
    rw [← hw]
    clear hw
    have hT' := HT.out.symm
    have HB : Hid (∀ (a : Nat) (x : UInt8) w, 128 ≤ x.toNat → Calls Tryz.prog 175 #[.string (L.extract a L.size), .int .u8 x.toNat] w fun e w' => e = .returned (.int .i64 (-1)) ∧ w' = w) := fun a x w hx => by
      have := Tryz.strings_IndexByte (L.extract a L.size) x.toNat w
      rw [ext_list, show ((x.toNat : Int)).toNat.toUInt8 = x by simp, HL.out.drop_noByte a x hx] at this
      exact this
    obtain ⟨q, hq⟩ : ∃ q : Nat, T.size = q + 1 := ⟨T.size - 1, by omega⟩
    obtain ⟨i2, h3⟩ : ∃ h : q < T.size, 128 ≤ (T[q]'h).toNat := by
      refine ⟨by omega, ?_⟩
      have := e3 (by omega)
      have h4 : T[q]'(by omega) = T[T.size - 1]'(by omega) := by congr 1; omega
      rw [h4]; exact this
    have hq1 : (1 : Int) ≤ (q : Int) := by omega
    have hq3 : (q : Int) ≤ 3 := by omega
    have hqi : ((T.size : Int) - 1) = (q : Int) := by omega
    have HQ := Lib.hid hqi
    have i3 : (q : Int) < (T.size : Int) := by omega
    have i0 : (0 : Int) ≤ (q : Int) := by omega
    have ts1 : (2 : Int) ≤ (T.size : Int) := by omega
    have ts2 : (T.size : Int) ≤ 4 := by omega
    clear hq e1 e2 e3 hqi
    by_cases hin : q < L.size
    · have hl := HL.out q hin
      have hne : (((L[q]).toNat : Int) != ((T[q]'i2).toNat : Int)) = true := by simp; omega
      have i1 : (q : Int) < (L.size : Int) := by omega
      go_wp2_with fail
      go_step3
      go_wp2_with fail
      rw [HQ.out]
      go_loopg [9, 10] 0 (fun g s9 s10 wr => s9 = .int .i64 q ∧ s10 = .int .i64 0 ∧ wr = w)
      case atStart => exact ⟨rfl, rfl, rfl⟩
      case round =>
        obtain ⟨rfl, rfl, rfl⟩ := hrel
        go_wp2_with fail
        go_step3
        go_wp2_with fail
        go_quiet (fail)
        go_wp2_with fail
        have hwr : IntKind.i64.wrap ((q : Int) + 1) = (q : Int) + 1 := IntWalk.i64_in _ (by omega)
        go_quiet (refine (HB.out _ _ _ h3).mono (fun _ _ h => ⟨h.1, _, h.2⟩))
        go_wp2_with fail
        rw [Exit.noGoto_ret]
        simp only [Exit.inBlock, Exit.then]
        rw [Exit.noGoto_ret]
        go_ret
        exact ⟨rfl, bdrew (Below.refl _ _) _⟩
    · have i1 : (L.size : Int) ≤ (q : Int) := by omega
      go_wp2_with fail
      go_step3
      go_wp2_with fail
      rw [HQ.out]
      go_loopg [9, 10] 0 (fun g s9 s10 wr => s9 = .int .i64 q ∧ s10 = .int .i64 0 ∧ wr = w)
      case atStart => exact ⟨rfl, rfl, rfl⟩
      case round =>
        obtain ⟨rfl, rfl, rfl⟩ := hrel
        go_wp2_with fail
        try rw [Exit.noGoto_ret]
        go_ret
        exact ⟨rfl, Below.refl _ _⟩

theorem noAny_moreG {L s : ByteArray} (hL : Asc L) {i k : Nat} (h : Lib.NoAny s.data.toList L.data.toList i) (hm : ∀ j (hj : j < s.size), i ≤ j → j < k → 128 ≤ (s[j]).toNat) : Lib.NoAny s.data.toList L.data.toList k := by
  intro j b hj hb
  rcases Nat.lt_or_ge j i with g | g
  · exact h j b g hb
  · obtain ⟨hjs, e⟩ := List.getElem?_eq_some_iff.1 hb
    have hjs' : j < s.size := by simpa using hjs
    have := hm j hjs' g hj
    have e2 : s[j] = b := by rw [← e]; rfl
    rw [e2] at this
    cases hc : L.data.toList.contains b with
    | false => rfl
    | true =>
      obtain ⟨q, hq, eq⟩ := List.mem_iff_getElem.1 (by simpa using hc : b ∈ L.data.toList)
      have := hL q hq
      have e3 : L[q]'hq = b := eq
      rw [e3] at this
      omega

set_option maxHeartbeats 2000000 in
set_option maxRecDepth 100000 in
theorem indexAny_shortG (L : ByteArray) (hL : Asc L) (hL2 : 2 ≤ L.size) (hLs : L.size ≤ 64) (s : ByteArray) (w : World) (hs : s.size ≤ 8) :
    Calls Tryz.prog 113 #[.string s, .string L] w fun e w' => e = .returned (.int .i64 (Lib.indexAny s.data.toList L.data.toList)) ∧ Below w.heap.size w w' := by
  have hemp : L.toList.isEmpty = false := notEmpty_of (by omega)
  have HAL := Lib.hid hL
  clear hL
  have k2 : (2 : Int) ≤ (L.size : Int) := by omega
  have k1 : ((L.size : Int) == 1) = false := by simp; omega
  have h8z : ¬ ((8 : Int) < (s.size : Int)) := by omega
  go_enter Tryz.func113, Tryz.ntmps113
  go_wp2_with (first | (go_at_call 148; go_in))
  go_loopg [9, 10] s.size (fun g _ _ wx => ∃ i : Nat, i ≤ s.size ∧ s.size - i ≤ g ∧ wx.heap[w.heap.size]? = some (.stringIter s i) ∧ Below w.heap.size w wx ∧ Lib.NoAny s.data.toList L.data.toList i)
  case atStart => exact ⟨0, Nat.zero_le _, by omega, World.iter_heap w s 0, (Below.refl _ _).alloc (Nat.le_refl _) _, Lib.NoAny.zero _ _⟩
  case round =>
    obtain ⟨i, hi, hig, hit, hbel, hno⟩ := hrel
    have HN := Lib.hid hno
    have HB := Lib.hid hbel
    have hsz := hbel.size
    have hkz : w.heap.size < wr.heap.size := by
      rcases Nat.lt_or_ge w.heap.size wr.heap.size with h' | h'
      · exact h'
      · simp [Array.getElem?_eq_none h'] at hit
    clear hno hbel
    by_cases his : i < s.size
    · have hxl : s.data.toList[i]? = some s[i] := Lib.data_getElem? s i his
      have HX := Lib.hid hxl
      clear hxl
      by_cases hx128 : (s[i]).toNat < 128
      · have hnx := fun ty => Lib.run_next_ascii_at (P := Tryz.prog) wr w.heap.size s i ty hit his hx128
        have hit2 := Lib.iterAt_heap wr w.heap.size s i (i + 1) hit
        have hbel2 := Lib.below_iterAt HB.out (Nat.le_refl _) s (i + 1)
        obtain ⟨x, hx⟩ : ∃ x : UInt8, s[i] = x := ⟨_, rfl⟩
        rw [hx] at hnx hx128 HX
        obtain ⟨W, hW⟩ : ∃ W, W = wr.iterAt w.heap.size s (i + 1) := ⟨_, rfl⟩
        rw [← hW] at hnx hit2 hbel2
        have HW := Lib.hid (And.intro hit2 hbel2)
        have hxi : (x.toNat : Int) < 128 := by omega
        have hcon := Lib.contains_iff_indexByte L.data.toList x
        have hback : ((x.toNat : Int)).toNat.toUInt8 = x := by simp
        have HBK := Lib.hid hback
        clear hit hx hW hit2 hbel2 hback
        cases hin : L.data.toList.contains x
        · rw [hin] at hcon
          have hlt : ¬ ((0 : Int) ≤ Lib.indexByte L.data.toList x) := of_decide_eq_false hcon.symm
          have HN2 := Lib.hid (HN.out.succ HX.out hin)
          clear hcon hin
          go_wp2_with fail
          refine (Tryz.strings_IndexRune_ascii _ _ _ (by omega) hxi).mono ?_
          rintro e w1 ⟨rfl, hw⟩
          rw [hw, HBK.out]
          clear hw
          go_wp2
          go_roundg (s.size - (i + 1))
          case measure => omega
          case rel => exact ⟨i + 1, by omega, by omega, HW.out.1, HW.out.2, HN2.out⟩
        · rw [hin] at hcon
          have hge : (0 : Int) ≤ Lib.indexByte L.data.toList x := of_decide_eq_true hcon.symm
          have HR : Hid (Lib.indexAny s.data.toList L.data.toList = (i : Int)) := Lib.indexAny_hit HN.out HX.out hin
          clear hcon hin
          go_wp2_with fail
          refine (Tryz.strings_IndexRune_ascii _ _ _ (by omega) hxi).mono ?_
          rintro e w1 ⟨rfl, hw⟩
          rw [hw, HBK.out]
          clear hw
          go_wp2
          go_ret
          exact ⟨by rw [HR.out]; rfl, HW.out.2⟩
      · obtain ⟨f1, f2, f3, f4, f5⟩ := decode_far his (by omega)
        have hnx := fun ty => Lib.run_next_any_at (P := Tryz.prog) wr w.heap.size s i ty hit his
        obtain ⟨r, hr⟩ : ∃ r, r = (Utf8.decode s i).1 := ⟨_, rfl⟩
        obtain ⟨d, hd⟩ : ∃ d, d = (Utf8.decode s i).2 := ⟨_, rfl⟩
        rw [← hr] at f1 f2 hnx
        rw [← hd] at f3 f4 f5 hnx
        have hit2 := Lib.iterAt_heap wr w.heap.size s i (i + d) hit
        have hbel2 := Lib.below_iterAt HB.out (Nat.le_refl _) s (i + d)
        have HN2 := Lib.hid (noAny_moreG HAL.out HN.out f5)
        obtain ⟨W, hW⟩ : ∃ W, W = wr.iterAt w.heap.size s (i + d) := ⟨_, rfl⟩
        have hWz : W.heap.size = wr.heap.size := by rw [hW]; exact Lib.iterAt_size _ _ _ _
        rw [← hW] at hnx hit2 hbel2
        have HW := Lib.hid (And.intro hit2 hbel2)
        clear hit hW hit2 hbel2 hr hd f5 hx128
        go_wp2_with fail
        refine (indexRune_asc L HAL.out hLs (r : Int) _ (by omega) (by omega)).mono ?_
        rintro e w1 ⟨rfl, hb1⟩
        have HW1 := Lib.hid (And.intro ((hb1.block w.heap.size (by omega)).trans HW.out.1) (HW.out.2.trans (hb1.mono (by omega))))
        clear hb1
        go_wp2
        go_roundg (s.size - (i + d))
        case measure => omega
        case rel => exact ⟨i + d, by omega, by omega, HW1.out.1, HW1.out.2, HN2.out⟩
    · obtain rfl : i = s.size := by omega
      have hnx := fun ty => Lib.run_next_end_at (P := Tryz.prog) wr w.heap.size s s.size ty hit his
      go_wp2
      go_ret
      exact ⟨by rw [Lib.indexAny_none (by rw [← Lib.size_eq]; exact HN.out)]; rfl, HB.out⟩

theorem set_info : (Tryz.prog.info? 163).map (fun i => (i.zero, i.size)) = some (some (.agg (Array.replicate 256 (.bool false))), 256) := by kernel_rfl
theorem indexAny_asc (L : ByteArray) (hL : Asc L) (hL2 : 2 ≤ L.size) (hLs : L.size ≤ 64) (s : ByteArray) (w : World) (hs : s.size ≤ 4294967280) :
    Calls Tryz.prog 113 #[.string s, .string L] w fun e w' => e = .returned (.int .i64 (Lib.indexAny s.data.toList L.data.toList)) ∧ Below w.heap.size w w' := by
  by_cases h8 : s.size ≤ 8
  · exact indexAny_shortG L hL hL2 hLs s w h8
  · refine (Tryz.strings_IndexAny_long (zero_of_info set_info).1 s L w hL2 (by omega) (by omega) (by omega) (fun j b hb => ?_)).mono fun e w' ⟨h1, h2⟩ => ⟨h1, ?_⟩
    · obtain ⟨hjs, e⟩ := List.getElem?_eq_some_iff.1 hb
      have := hL j hjs
      have e2 : L[j]'hjs = b := e
      rw [e2] at this
      exact this
    · rw [h2]
      exact ((Below.refl _ _).alloc (Nat.le_refl _) _).alloc (by simp) _

set_option maxHeartbeats 1000000 in
theorem containsAny_asc (L : ByteArray) (hL : Asc L) (hL2 : 2 ≤ L.size) (hLs : L.size ≤ 64) (s : ByteArray) (w : World) (hs : s.size ≤ 4294967280) :
    Calls Tryz.prog 84 #[.string s, .string L] w fun e w' => e = .returned (.bool (decide (0 ≤ Lib.indexAny s.data.toList L.data.toList))) ∧ Below w.heap.size w w' := by
  obtain ⟨v, hvv⟩ : ∃ v, v = Lib.indexAny s.data.toList L.data.toList := ⟨_, rfl⟩
  rw [← hvv]
  have HVV := Lib.hid hvv
  have HL := Lib.hid hL
  clear hvv hL
  go_enter Tryz.func84, Tryz.ntmps84
  go_wp2_with fail
  refine (indexAny_asc L HL.out hL2 hLs s _ hs).mono ?_
  rintro e w1 ⟨rfl, hb⟩
  rw [← HVV.out]
  have HB := Lib.hid hb
  clear hb
  go_wp2
  go_ret
  exact ⟨rfl, HB.out⟩
end Go.Proofs.YtbdcimakdiegnaaGreatDoor
namespace Go.Proofs.YtbdcimakdiegnaaGreatDoor
open Go.ChangeShapes Go.WideShapes Go.ChangeAt Go.RowKit

theorem Tryz.own : ownKnob Tryz.prog.godebug = none := by kernel_rfl
theorem Tryz.laidOut : laidOutB Tryz.prog = true := by kernel_rfl

/-- what a reading weighs is within the form's reach -/
def Fits {H : Type} (P : Program) (t : TypeId) (d : DataW H) : Prop := ∀ n ∈ d.weights P t, n ≤ reachBytes

section
variable {H : Type} {P : Program} {ts : List TypeId} {ds : List (DataW H)}
theorem fits_at (h : (DataW.weightsEach P ts ds).all (· ≤ reachBytes) = true) {j : Nat} {t : TypeId} {d : DataW H} (ht : ts[j]? = some t) (hd : ds[j]? = some d) : Fits P t d := fun n hn => by
  simpa using List.all_eq_true.1 h n (DataW.weights_mem_each ht hd n hn)

theorem Fits.part {t : TypeId} {fs : Array Field} {parts : List (DataW H)} (h : Fits P t (.agg parts)) (hu : P.underlying t = some (.struct fs)) {j : Nat} {f : Field} {d : DataW H} (hf : fs[j]? = some f) (hd : parts[j]? = some d) : Fits P f.type d := fun n hn =>
  h n (by
    simp only [DataW.weights, hu]
    exact DataW.weights_mem_each (by rw [List.getElem?_map, Array.getElem?_toList, hf]; rfl) hd n hn)

theorem weights_mem_all {e : TypeId} : ∀ {ds : List (DataW H)} {d : DataW H}, d ∈ ds → ∀ n ∈ d.weights P e, n ∈ DataW.weightsAll P e ds
  | d0 :: ds, d, hd, n, hn => by
    simp only [DataW.weightsAll, List.mem_append]
    rcases List.mem_cons.1 hd with rfl | hd
    · exact .inl hn
    · exact .inr (weights_mem_all hd n hn)

theorem Fits.elem {t e : TypeId} {elems spare : List (DataW H)} (h : Fits P t (.slice elems spare)) (hu : P.underlying t = some (.slice e)) {d : DataW H} (hd : d ∈ elems) : Fits P e d := fun n hn =>
  h n (by
    simp only [DataW.weights, hu]
    exact List.mem_cons_of_mem _ (List.mem_append_left _ (weights_mem_all hd n hn)))

theorem Fits.slice {t e : TypeId} {elems spare : List (DataW H)} (h : Fits P t (.slice elems spare)) (hu : P.underlying t = some (.slice e)) : (elems.length + spare.length) * P.bytesOf e ≤ 140737488351232 := by
  have := h ((elems.length + spare.length) * P.bytesOf e) (by simp only [DataW.weights, hu]; exact List.mem_cons_self ..)
  simpa [reachBytes] using this

theorem Fits.string {t : TypeId} {s : ByteArray} (h : Fits (H := H) P t (.lit (.string s.data.toList))) : s.size ≤ 140737488351232 := by
  have := h s.data.toList.length (by simp [DataW.weights])
  simpa [reachBytes] using this
end

theorem i64_bounds {n : Int} (h : (Lit.int .i64 n).wf = true) : -9223372036854775808 ≤ n ∧ n ≤ 9223372036854775807 := by
  have h1 : IntKind.i64.min = -9223372036854775808 := rfl
  have h2 : IntKind.i64.max = 9223372036854775807 := rfl
  simpa [Lit.wf, h1, h2] using h

/-- a slice of ints that came in -/
theorem reads_ints {H : Type} {enc : TypeId × Value → H} {P : Program} {W : World} {r : Reach} {b0 : Nat} {t e : TypeId} {v : Value} {d : DataW H} {p : List MemPlace} (ht : P.underlying t = some (.slice e)) (he : P.underlying e = some (.int .i64))
    (hc : P.cellsOf e = 1) (hby : P.bytesOf e = 8) (hv : Value.okWide P W r b0 t v) (h : DataW.Trod enc P W 0 (fun _ => true) true t v d p) (hp : ∀ x ∈ p, x.block < W.heap.size) (hfit : Fits P t d) :
    ∃ A len cap, ∃ zs : List Int, v = .slice A len cap ∧ Reads W W.heap.size 1 A len (zs.map (.int .i64)) ∧ len * 8 ≤ 140737488351232 ∧ ∀ z ∈ zs, (Lit.int .i64 z).wf = true := by
  obtain ⟨a0, len, cap, rfl⟩ := okWide_slice ht hv
  obtain ⟨fuel, hf⟩ := h
  rcases open_ints ht he hc hf with ⟨hcs, hx⟩ | ⟨a, len', cap', zs, hcs, _, hl, hm, hz, hx, hcell, hwz⟩
  · simp [Value.cells] at hcs
    obtain ⟨rfl, rfl, rfl⟩ := hcs
    exact ⟨none, 0, 0, [], rfl, Reads.none_, by omega, by simp⟩
  · simp [Value.cells] at hcs
    obtain ⟨rfl, rfl, rfl⟩ := hcs
    simp only [Prod.mk.injEq] at hx
    obtain ⟨rfl, rfl⟩ := hx
    simp only [if_true] at hz
    have hs := hfit.slice ht
    rw [hby] at hs
    simp only [lits, List.length_map, List.length_take, List.length_drop] at hs
    refine ⟨some a, len, cap, zs.take len, rfl, ⟨by simp; omega, fun hn => ⟨a, rfl, ?_, ?_⟩⟩, by omega, fun z hz => hwz z (List.mem_of_mem_take hz)⟩
    · exact hp (.cell a.block a.off) (by simp only [MemPlace.mem_row]; exact ⟨0, by omega, by simp⟩)
    · intro j u hu
      rw [List.getElem?_map] at hu
      have hj : j < len := by
        rcases Nat.lt_or_ge j len with h | h
        · exact h
        · rw [List.getElem?_eq_none (by simp; omega)] at hu; cases hu
      rw [List.getElem?_take_of_lt hj] at hu
      have := hcell j (by omega)
      rw [List.getD_eq_getElem?_getD] at this
      rw [List.getElem?_eq_getElem (by omega)] at this hu
      simp at hu this
      rw [this, hu]

/-- what came in reads behind the call as before it -/
theorem trodAll_below {H : Type} {enc : TypeId × Value → H} {P : Program} (hl : laidOutB P = true) {W W' : World} (hb : Below W.heap.size W W') : ∀ {ts : List TypeId} {vs : List Value} {ds : List (DataW H)} {ps : List MemPlace},
    (∀ t ∈ ts, P.readableRec t = true ∧ t < P.types.size) → DataW.TrodAll enc P W 0 (fun _ => true) true ts vs ds ps → (∀ x ∈ ps, x.block < W.heap.size) →
    DataW.TrodAll enc P W' 0 (fun b => decide (b < W.heap.size)) true ts vs ds ps
  | [], _, _, _, _, h, _ => by
    obtain ⟨rfl, rfl, rfl⟩ := trodAll_nil h
    exact trodAll_mk0
  | t :: ts, _, _, _, hr, h, hp => by
    obtain ⟨v, vs, d, ds, p, q, rfl, rfl, rfl, h0, h1⟩ := trodAll_cons h
    exact trodAll_cons_mk (Below.trod hl (hr t (by simp)).1 (hr t (by simp)).2 h0 hb (fun x hx => hp x (List.mem_append_left _ hx)))
      (trodAll_below hl hb (fun t ht => hr t (List.mem_cons_of_mem _ ht)) h1 (fun x hx => hp x (List.mem_append_right _ hx)))

/-- a law that answers true and keeps what was there meets its row's post -/
theorem law_post {H : Type} {enc : TypeId × Value → H} {P : Program} {f : Func} {s : ChangeSpec} {W W' : World} {args : Array Value} {ds : List (DataW H)} {ps : List MemPlace} {tb : TypeId}
    (hl : laidOutB P = true) (hvars : s.vars = []) (hb2 : P.underlying tb = some .bool) (hres : f.resultTypes = #[tb]) (hr : ∀ t ∈ f.params.toList, P.readableRec t = true ∧ t < P.types.size)
    (hfn : s.fn H (ds ++ []) = { results := [.lit (.bool true)], args := ds })
    (hW : DataW.Whole enc P f.params.toList s.vars false W args.toList ds [] ps) (hb : Below W.heap.size W W') :
    s.post enc P f false true false false W args (.bool true) W' := by
  have hW2 := hW
  obtain ⟨p, q, hA, hV, rfl, _, _⟩ := hW2
  rw [hvars] at hV
  obtain ⟨_, hq⟩ := trodVars_none hV
  subst hq
  refine ⟨ds, [], _, [], p, [], hW, ?_, ?_, ?_, hb.frame _, fun h => by cases h⟩
  · rw [hfn, hres]
    exact trodAll_mk1 (shut_bool hb2 true)
  · rw [hfn]
    exact trodAll_below hl hb hr hA (fun x hx => by simpa using hW.lt x (by simpa using hx))
  · rw [hvars, hfn]
    exact rfl

end Go.Proofs.YtbdcimakdiegnaaGreatDoor
