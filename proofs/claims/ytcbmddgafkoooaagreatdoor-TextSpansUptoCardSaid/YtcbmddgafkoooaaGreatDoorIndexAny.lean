/-
  DERIVED. strings.IndexRune at the two brackets, of a rune beyond ASCII. Conditions: a valid rune.
  strings.IndexAny at the two brackets, of every text. Conditions: a length in reach.
  By an AI agent.
-/
import Derived.Test.YtcbmddgafkoooaaGreatDoorBase
import Derived.Test.YtcbmddgafkoooaaGreatDoorEscAt
import Derived.Test.YtcbmddgafkoooaaGreatDoorShelf
import Derived.Test.YtcbmddgafkoooaaGreatDoorChecked
import Derived.Deep.LoopGhost
import Derived.Deep.QuietTactic
import Derived.BigQuiet
import Derived.Laws.Runes
import Derived.Lib.OthersKept
import Derived.Lib.DecodeN
namespace Go.Proofs.YtcbmddgafkoooaaGreatDoor
open Go.RowKit

set_option maxHeartbeats 1000000 in
theorem validRune_any (r : Int) (w : World) (h : (0 ≤ r ∧ r < 55296) ∨ (57343 < r ∧ r ≤ 1114111)) : Calls Tryz.prog 96 #[.int .i32 r] w fun e w' => e = .returned (.bool true) ∧ w = w' := by
  rcases h with ⟨h1, h2⟩ | ⟨h1, h2⟩
  · go_enter Tryz.func96, Tryz.ntmps96
    go_wp2
    go_ret
    exact ⟨rfl, rfl⟩
  · have h3 : (0 : Int) ≤ r := by omega
    have h4 : ¬ r < 55296 := by omega
    go_enter Tryz.func96, Tryz.ntmps96
    go_wp2
    go_ret
    exact ⟨rfl, rfl⟩

/-- the text of the two brackets -/
def brS : ByteArray := ⟨#[91, 93]⟩

set_option maxHeartbeats 2000000 in
set_option maxRecDepth 100000 in
theorem indexRune_br (r : Int) (w : World) (h1 : 128 ≤ r) (hv : (0 ≤ r ∧ r < 55296) ∨ (57343 < r ∧ r ≤ 1114111)) :
    Calls Tryz.prog 78 #[.string ⟨#[91, 93]⟩, .int .i32 r] w fun e w' => e = .returned (.int .i64 (-1)) ∧ Below w.heap.size w w' := by
  have h0 : (0 : Int) ≤ r := by omega
  have hr : r ≤ 1114111 := by omega
  have hn : ¬ r < 128 := by omega
  have HV := Lib.hid hv
  have hval : Utf8.valid r = true := by unfold Utf8.valid; simp; omega
  obtain ⟨e1, e2, e3⟩ := encode_facts r hval h1
  obtain ⟨T, hT⟩ : ∃ T, T = Utf8.encode r := ⟨_, rfl⟩
  rw [← hT] at e1 e2 e3
  have HT := Lib.hid hT
  clear hv hval hT
  by_cases hE : r = 65533
  · subst hE
    go_enter Tryz.func78, Tryz.ntmps78
    clear HT e1 e2 e3 HV
    go_wp2_with fail
    go_loopg [5, 6] 2 (fun g _ _ wx => ∃ i : Nat, i + g = 2 ∧ wx = w.iter ⟨#[91, 93]⟩ i)
    case atStart => exact ⟨0, by omega, rfl⟩
    case round =>
      obtain ⟨i, hig, rfl⟩ := hrel
      have ways : i = 0 ∨ i = 1 ∨ i = 2 := by omega
      rcases ways with rfl | rfl | rfl
      · have hnx := fun ty => run_next_ascii (P := Tryz.prog) w ⟨#[91, 93]⟩ 0 ty (by decide) (by decide)
        go_wp2
        go_roundg 1
        case measure => omega
        case rel => exact ⟨1, by omega, rfl⟩
      · have hnx := fun ty => run_next_ascii (P := Tryz.prog) w ⟨#[91, 93]⟩ 1 ty (by decide) (by decide)
        go_wp2
        go_roundg 0
        case measure => omega
        case rel => exact ⟨2, by omega, rfl⟩
      · have hnx := run_next_end (P := Tryz.prog) w ⟨#[91, 93]⟩ 2
        go_wp2
        go_ret
        exact ⟨rfl, (Below.refl _ _).alloc (Nat.le_refl _) _⟩
  · have hE' : (r == 65533) = false := by simpa using hE
    clear hE
    go_enter Tryz.func78, Tryz.ntmps78
    go_wp2_with fail
    refine (validRune_any r _ HV.out).mono ?_
    rintro e w1 ⟨rfl, hw⟩
    rw [← hw]
    clear hw
    have hT' := HT.out.symm
    have HB : Hid (∀ (x : Int) w, Calls Tryz.prog 47 #[.string ByteArray.empty, .int .u8 x] w fun e w' => e = .returned (.int .i64 (-1)) ∧ w' = w) := fun x w => Tryz.strings_IndexByte _ x w
    by_cases h2 : T.size = 2
    · have h3 := e3 (by omega)
      obtain ⟨hl, q⟩ : ∃ hl : 1 < T.size, ((((⟨#[91, 93]⟩ : ByteArray)[1]'(by decide)).toNat : Int) != (T[1].toNat : Int)) = true := by
        refine ⟨by omega, ?_⟩
        show ((93 : Int) != (T[1].toNat : Int)) = true
        have h4 : T[1] = T[T.size - 1] := by congr 1; omega
        rw [h4]; simp; omega
      clear e1 e2 e3 h3
      go_wp2_with fail
      go_step3
      go_wp2_with fail
      go_loopg [9, 10] 0 (fun g s9 s10 wr => s9 = .int .i64 1 ∧ s10 = .int .i64 0 ∧ wr = w)
      case atStart => exact ⟨by go_num, rfl, rfl⟩
      case round =>
        obtain ⟨rfl, rfl, rfl⟩ := hrel
        go_wp2_with fail
        go_step3
        go_wp2_with fail
        go_quiet (fail)
        go_wp2_with fail
        have hwr : IntKind.i64.wrap 2 = 2 := by decide
        go_quiet (refine (HB.out _ _).mono (fun _ _ h => ⟨h.1, _, h.2⟩))
        go_wp2_with fail
        rw [Exit.noGoto_ret]
        simp only [Exit.inBlock, Exit.then]
        rw [Exit.noGoto_ret]
        go_ret
        exact ⟨rfl, bdrew (Below.refl _ _) _⟩
    · have h2' : (2 : Int) ≤ (T.size : Int) - 1 := by omega
      have h2'' : ¬ ((T.size : Int) - 1 < 2) := by omega
      clear e3
      go_wp2_with fail
      go_step3
      go_wp2_with fail
      go_loopg [9, 10] 0 (fun g s9 s10 wr => s9 = .int .i64 (T.size - 1) ∧ s10 = .int .i64 0 ∧ wr = w)
      case atStart => exact ⟨by go_num, rfl, rfl⟩
      case round =>
        obtain ⟨rfl, rfl, rfl⟩ := hrel
        go_wp2_with fail
        try rw [Exit.noGoto_ret]
        go_ret
        exact ⟨rfl, Below.refl _ _⟩
end Go.Proofs.YtcbmddgafkoooaaGreatDoor
namespace Go.Proofs.YtcbmddgafkoooaaGreatDoor
open Go.RowKit

/-- what is decoded from a byte beyond ASCII on -/
theorem decodeN_far (n b0 b1 b2 b3 : Nat) (h0 : 128 ≤ b0) :
    128 ≤ (Lib.decodeN n b0 b1 b2 b3).1 ∧ ((Lib.decodeN n b0 b1 b2 b3).1 < 55296 ∨ 57343 < (Lib.decodeN n b0 b1 b2 b3).1 ∧ (Lib.decodeN n b0 b1 b2 b3).1 ≤ 1114111) ∧
    ((Lib.decodeN n b0 b1 b2 b3).2 = 1 ∨ ((Lib.decodeN n b0 b1 b2 b3).2 = 2 ∧ 1 < n ∧ 128 ≤ b1) ∨ ((Lib.decodeN n b0 b1 b2 b3).2 = 3 ∧ 2 < n ∧ 128 ≤ b1 ∧ 128 ≤ b2) ∨ ((Lib.decodeN n b0 b1 b2 b3).2 = 4 ∧ 3 < n ∧ 128 ≤ b1 ∧ 128 ≤ b2 ∧ 128 ≤ b3)) := by
  unfold Lib.decodeN
  repeat' split
  all_goals (refine ⟨?_, ?_, ?_⟩ <;> dsimp only <;> omega)

theorem get!_bt {s : ByteArray} {i : Nat} (h : i < s.size) : s.get! i = s[i] := by
  cases s with
  | mk d =>
    show d[i]! = d[i]
    rw [getElem!_pos d i h]
theorem decode_far {s : ByteArray} {i : Nat} (h : i < s.size) (h0 : 128 ≤ (s[i]).toNat) :
    128 ≤ (Utf8.decode s i).1 ∧ ((Utf8.decode s i).1 < 55296 ∨ 57343 < (Utf8.decode s i).1 ∧ (Utf8.decode s i).1 ≤ 1114111) ∧ 1 ≤ (Utf8.decode s i).2 ∧ i + (Utf8.decode s i).2 ≤ s.size ∧
    ∀ j (hj : j < s.size), i ≤ j → j < i + (Utf8.decode s i).2 → 128 ≤ (s[j]).toNat := by
  rw [Lib.decode_at]
  obtain ⟨a1, a2, a3⟩ := decodeN_far (s.size - i) (s.get! i).toNat (s.get! (i + 1)).toNat (s.get! (i + 2)).toNat (s.get! (i + 3)).toNat (by rw [get!_bt h]; exact h0)
  refine ⟨a1, a2, by omega, by omega, fun j hj h1 h2 => ?_⟩
  rcases Nat.lt_or_ge j (i + 1) with g | g
  · obtain rfl : j = i := by omega
    exact h0
  · rcases Nat.lt_or_ge j (i + 2) with g2 | g2
    · obtain rfl : j = i + 1 := by omega
      rw [← get!_bt hj]; omega
    · rcases Nat.lt_or_ge j (i + 3) with g3 | g3
      · obtain rfl : j = i + 2 := by omega
        rw [← get!_bt hj]; omega
      · obtain rfl : j = i + 3 := by omega
        rw [← get!_bt hj]; omega

theorem noAny_more {s : ByteArray} {i k : Nat} (h : Lib.NoAny s.data.toList [91, 93] i) (hm : ∀ j (hj : j < s.size), i ≤ j → j < k → 128 ≤ (s[j]).toNat) : Lib.NoAny s.data.toList [91, 93] k := by
  intro j b hj hb
  rcases Nat.lt_or_ge j i with g | g
  · exact h j b g hb
  · obtain ⟨hjs, e⟩ := List.getElem?_eq_some_iff.1 hb
    have hjs' : j < s.size := by simpa using hjs
    have := hm j hjs' g hj
    have e2 : s[j] = b := by rw [← e]; rfl
    rw [e2] at this
    simp
    refine ⟨fun e => ?_, fun e => ?_⟩ <;> (subst e; simp at this)

set_option maxHeartbeats 2000000 in
set_option maxRecDepth 100000 in
theorem indexAny_short (s : ByteArray) (w : World) (hs : s.size ≤ 8) :
    Calls Tryz.prog 54 #[.string s, .string ⟨#[91, 93]⟩] w fun e w' => e = .returned (.int .i64 (Lib.indexAny s.data.toList [91, 93])) ∧ Below w.heap.size w w' := by
  have hemp : (⟨#[91, 93]⟩ : ByteArray).toList.isEmpty = false := by rw [Lib.toList_data]; rfl
  have h8z : ¬ ((8 : Int) < (s.size : Int)) := by omega
  go_enter Tryz.func54, Tryz.ntmps54
  go_wp2_with (first | (go_at_call 79; go_in))
  go_loopg [9, 10] s.size (fun g _ _ wx => ∃ i : Nat, i ≤ s.size ∧ s.size - i ≤ g ∧ wx.heap[w.heap.size]? = some (.stringIter s i) ∧ Below w.heap.size w wx ∧ Lib.NoAny s.data.toList [91, 93] i)
  case atStart => exact ⟨0, Nat.zero_le _, by omega, World.iter_heap w s 0, (Below.refl _ _).alloc (Nat.le_refl _) _, Lib.NoAny.zero _ _⟩
  case round =>
    obtain ⟨i, hi, hig, hit, hbel, hno⟩ := hrel
    have HN := Lib.hid hno
    have HB := Lib.hid hbel
    have hsz := hbel.size
    have hkz : w.heap.size < wr.heap.size := by
      rcases Nat.lt_or_ge w.heap.size wr.heap.size with h' | h'
      · exact h'
      · simp [Array.getElem?_eq_none h'] at hit
    clear hno hbel
    by_cases his : i < s.size
    · have hxl : s.data.toList[i]? = some s[i] := Lib.data_getElem? s i his
      have HX := Lib.hid hxl
      clear hxl
      by_cases hx128 : (s[i]).toNat < 128
      · have hnx := fun ty => Lib.run_next_ascii_at (P := Tryz.prog) wr w.heap.size s i ty hit his hx128
        have hit2 := Lib.iterAt_heap wr w.heap.size s i (i + 1) hit
        have hbel2 := Lib.below_iterAt HB.out (Nat.le_refl _) s (i + 1)
        obtain ⟨x, hx⟩ : ∃ x : UInt8, s[i] = x := ⟨_, rfl⟩
        rw [hx] at hnx hx128 HX
        obtain ⟨W, hW⟩ : ∃ W, W = wr.iterAt w.heap.size s (i + 1) := ⟨_, rfl⟩
        rw [← hW] at hnx hit2 hbel2
        have HW := Lib.hid (And.intro hit2 hbel2)
        have hxi : (x.toNat : Int) < 128 := by omega
        have hcon := Lib.contains_iff_indexByte [91, 93] x
        have hback : ((x.toNat : Int)).toNat.toUInt8 = x := by simp
        have HBK := Lib.hid hback
        clear hit hx hW hit2 hbel2 hback
        cases hin : ([91, 93] : List UInt8).contains x
        · rw [hin] at hcon
          have hlt : ¬ ((0 : Int) ≤ Lib.indexByte [91, 93] x) := of_decide_eq_false hcon.symm
          have HN2 := Lib.hid (HN.out.succ HX.out hin)
          clear hcon hin
          go_wp2_with fail
          refine (Tryz.strings_IndexRune_ascii _ _ _ (by omega) hxi).mono ?_
          rintro e w1 ⟨rfl, hw⟩
          rw [hw, HBK.out, show (⟨#[91, 93]⟩ : ByteArray).data.toList = [91, 93] from rfl]
          clear hw
          go_wp2
          go_roundg (s.size - (i + 1))
          case measure => omega
          case rel => exact ⟨i + 1, by omega, by omega, HW.out.1, HW.out.2, HN2.out⟩
        · rw [hin] at hcon
          have hge : (0 : Int) ≤ Lib.indexByte [91, 93] x := of_decide_eq_true hcon.symm
          have HR : Hid (Lib.indexAny s.data.toList [91, 93] = (i : Int)) := Lib.indexAny_hit HN.out HX.out hin
          clear hcon hin
          go_wp2_with fail
          refine (Tryz.strings_IndexRune_ascii _ _ _ (by omega) hxi).mono ?_
          rintro e w1 ⟨rfl, hw⟩
          rw [hw, HBK.out, show (⟨#[91, 93]⟩ : ByteArray).data.toList = [91, 93] from rfl]
          clear hw
          go_wp2
          go_ret
          exact ⟨by rw [HR.out]; rfl, HW.out.2⟩
      · obtain ⟨f1, f2, f3, f4, f5⟩ := decode_far his (by omega)
        have hnx := fun ty => Lib.run_next_any_at (P := Tryz.prog) wr w.heap.size s i ty hit his
        obtain ⟨r, hr⟩ : ∃ r, r = (Utf8.decode s i).1 := ⟨_, rfl⟩
        obtain ⟨d, hd⟩ : ∃ d, d = (Utf8.decode s i).2 := ⟨_, rfl⟩
        rw [← hr] at f1 f2 hnx
        rw [← hd] at f3 f4 f5 hnx
        have hit2 := Lib.iterAt_heap wr w.heap.size s i (i + d) hit
        have hbel2 := Lib.below_iterAt HB.out (Nat.le_refl _) s (i + d)
        have HN2 := Lib.hid (noAny_more HN.out f5)
        obtain ⟨W, hW⟩ : ∃ W, W = wr.iterAt w.heap.size s (i + d) := ⟨_, rfl⟩
        have hWz : W.heap.size = wr.heap.size := by rw [hW]; exact Lib.iterAt_size _ _ _ _
        rw [← hW] at hnx hit2 hbel2
        have HW := Lib.hid (And.intro hit2 hbel2)
        clear hit hW hit2 hbel2 hr hd f5 hx128
        go_wp2_with fail
        refine (indexRune_br (r : Int) _ (by omega) (by omega)).mono ?_
        rintro e w1 ⟨rfl, hb1⟩
        have HW1 := Lib.hid (And.intro ((hb1.block w.heap.size (by omega)).trans HW.out.1) (HW.out.2.trans (hb1.mono (by omega))))
        clear hb1
        go_wp2
        go_roundg (s.size - (i + d))
        case measure => omega
        case rel => exact ⟨i + d, by omega, by omega, HW1.out.1, HW1.out.2, HN2.out⟩
    · obtain rfl : i = s.size := by omega
      have hnx := fun ty => Lib.run_next_end_at (P := Tryz.prog) wr w.heap.size s s.size ty hit his
      go_wp2
      go_ret
      exact ⟨by rw [Lib.indexAny_none (by rw [← Lib.size_eq]; exact HN.out)]; rfl, HB.out⟩

theorem set_info : (Tryz.prog.info? 73).map (fun i => (i.zero, i.size)) = some (some (.agg (Array.replicate 256 (.bool false))), 256) := by kernel_rfl
theorem indexAny_br (s : ByteArray) (w : World) (hs : s.size ≤ 4294967280) :
    Calls Tryz.prog 54 #[.string s, .string ⟨#[91, 93]⟩] w fun e w' => e = .returned (.int .i64 (Lib.indexAny s.data.toList [91, 93])) ∧ Below w.heap.size w w' := by
  by_cases h8 : s.size ≤ 8
  · exact indexAny_short s w h8
  · refine (Tryz.strings_IndexAny_long (zero_of_info set_info).1 s ⟨#[91, 93]⟩ w (by decide) (by omega) (by omega) (by decide) (fun j b hb => ?_)).mono fun e w' ⟨h1, h2⟩ => ⟨h1, ?_⟩
    · match j, hb with
      | 0, hb => simp at hb; subst hb; decide
      | 1, hb => simp at hb; subst hb; decide
      | j + 2, hb => simp at hb
    · rw [h2]
      exact ((Below.refl _ _).alloc (Nat.le_refl _) _).alloc (by simp) _
end Go.Proofs.YtcbmddgafkoooaaGreatDoor
