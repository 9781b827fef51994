/-
  DERIVED. strings.IndexRune at the two brackets, of a rune beyond ASCII. Conditions: a valid rune. By an AI agent.
-/
import Derived.Test.YtcbmddgafkoooaaDoorBase
import Derived.Test.YtcbmddgafkoooaaDoorScan
import Derived.Test.YtcbmddgafkoooaaDoorShelf
import Derived.Test.YtcbmddgafkoooaaDoorChecked
import Derived.Deep.LoopGhost
import Derived.Deep.QuietTactic
import Derived.BigQuiet
import Derived.Laws.Runes
import Derived.Lib.OthersKept
namespace Go.Proofs.YtcbmddgafkoooaaDoor
open Go.RowKit

set_option maxHeartbeats 1000000 in
theorem validRune_any (r : Int) (w : World) (h : (0 ≤ r ∧ r < 55296) ∨ (57343 < r ∧ r ≤ 1114111)) : Calls Tryd.prog 95 #[.int .i32 r] w fun e w' => e = .returned (.bool true) ∧ w = w' := by
  rcases h with ⟨h1, h2⟩ | ⟨h1, h2⟩
  · go_enter Tryd.func95, Tryd.ntmps95
    go_wp2
    go_ret
    exact ⟨rfl, rfl⟩
  · have h3 : (0 : Int) ≤ r := by omega
    have h4 : ¬ r < 55296 := by omega
    go_enter Tryd.func95, Tryd.ntmps95
    go_wp2
    go_ret
    exact ⟨rfl, rfl⟩

/-- the text of the two brackets -/
def brS : ByteArray := ⟨#[91, 93]⟩

set_option maxHeartbeats 2000000 in
set_option maxRecDepth 100000 in
theorem indexRune_br (r : Int) (w : World) (h1 : 128 ≤ r) (hv : (0 ≤ r ∧ r < 55296) ∨ (57343 < r ∧ r ≤ 1114111)) :
    Calls Tryd.prog 82 #[.string ⟨#[91, 93]⟩, .int .i32 r] w fun e w' => e = .returned (.int .i64 (-1)) ∧ Below w.heap.size w w' := by
  have h0 : (0 : Int) ≤ r := by omega
  have hr : r ≤ 1114111 := by omega
  have hn : ¬ r < 128 := by omega
  have HV := Lib.hid hv
  have hval : Utf8.valid r = true := by unfold Utf8.valid; simp; omega
  obtain ⟨e1, e2, e3⟩ := encode_facts r hval h1
  obtain ⟨T, hT⟩ : ∃ T, T = Utf8.encode r := ⟨_, rfl⟩
  rw [← hT] at e1 e2 e3
  have HT := Lib.hid hT
  clear hv hval hT
  by_cases hE : r = 65533
  · subst hE
    go_enter Tryd.func82, Tryd.ntmps82
    clear HT e1 e2 e3 HV
    go_wp2_with fail
    go_loopg [5, 6] 2 (fun g _ _ wx => ∃ i : Nat, i + g = 2 ∧ wx = w.iter ⟨#[91, 93]⟩ i)
    case atStart => exact ⟨0, by omega, rfl⟩
    case round =>
      obtain ⟨i, hig, rfl⟩ := hrel
      have ways : i = 0 ∨ i = 1 ∨ i = 2 := by omega
      rcases ways with rfl | rfl | rfl
      · have hnx := fun ty => run_next_ascii (P := Tryd.prog) w ⟨#[91, 93]⟩ 0 ty (by decide) (by decide)
        go_wp2
        go_roundg 1
        case measure => omega
        case rel => exact ⟨1, by omega, rfl⟩
      · have hnx := fun ty => run_next_ascii (P := Tryd.prog) w ⟨#[91, 93]⟩ 1 ty (by decide) (by decide)
        go_wp2
        go_roundg 0
        case measure => omega
        case rel => exact ⟨2, by omega, rfl⟩
      · have hnx := run_next_end (P := Tryd.prog) w ⟨#[91, 93]⟩ 2
        go_wp2
        go_ret
        exact ⟨rfl, (Below.refl _ _).alloc (Nat.le_refl _) _⟩
  · have hE' : (r == 65533) = false := by simpa using hE
    clear hE
    go_enter Tryd.func82, Tryd.ntmps82
    go_wp2_with fail
    refine (validRune_any r _ HV.out).mono ?_
    rintro e w1 ⟨rfl, hw⟩
    rw [← hw]
    clear hw
    have hT' := HT.out.symm
    have HB : Hid (∀ (x : Int) w, Calls Tryd.prog 76 #[.string ByteArray.empty, .int .u8 x] w fun e w' => e = .returned (.int .i64 (-1)) ∧ w' = w) := fun x w => Tryd.strings_IndexByte _ x w
    by_cases h2 : T.size = 2
    · have h3 := e3 (by omega)
      obtain ⟨hl, q⟩ : ∃ hl : 1 < T.size, ((((⟨#[91, 93]⟩ : ByteArray)[1]'(by decide)).toNat : Int) != (T[1].toNat : Int)) = true := by
        refine ⟨by omega, ?_⟩
        show ((93 : Int) != (T[1].toNat : Int)) = true
        have h4 : T[1] = T[T.size - 1] := by congr 1; omega
        rw [h4]; simp; omega
      clear e1 e2 e3 h3
      go_wp2_with fail
      go_step3
      go_wp2_with fail
      go_loopg [9, 10] 0 (fun g s9 s10 wr => s9 = .int .i64 1 ∧ s10 = .int .i64 0 ∧ wr = w)
      case atStart => exact ⟨by go_num, rfl, rfl⟩
      case round =>
        obtain ⟨rfl, rfl, rfl⟩ := hrel
        go_wp2_with fail
        go_step3
        go_wp2_with fail
        go_quiet (fail)
        go_wp2_with fail
        have hwr : IntKind.i64.wrap 2 = 2 := by decide
        go_quiet (refine (HB.out _ _).mono (fun _ _ h => ⟨h.1, _, h.2⟩))
        go_wp2_with fail
        rw [Exit.noGoto_ret]
        simp only [Exit.inBlock, Exit.then]
        rw [Exit.noGoto_ret]
        go_ret
        exact ⟨rfl, bdrew (Below.refl _ _) _⟩
    · have h2' : (2 : Int) ≤ (T.size : Int) - 1 := by omega
      have h2'' : ¬ ((T.size : Int) - 1 < 2) := by omega
      clear e3
      go_wp2_with fail
      go_step3
      go_wp2_with fail
      go_loopg [9, 10] 0 (fun g s9 s10 wr => s9 = .int .i64 (T.size - 1) ∧ s10 = .int .i64 0 ∧ wr = w)
      case atStart => exact ⟨by go_num, rfl, rfl⟩
      case round =>
        obtain ⟨rfl, rfl, rfl⟩ := hrel
        go_wp2_with fail
        try rw [Exit.noGoto_ret]
        go_ret
        exact ⟨rfl, Below.refl _ _⟩
end Go.Proofs.YtcbmddgafkoooaaDoor
