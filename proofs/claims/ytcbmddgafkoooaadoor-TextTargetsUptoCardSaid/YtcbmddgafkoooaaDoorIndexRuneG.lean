/-
  DERIVED. strings.IndexRune at a text of ASCII bytes, of a rune beyond ASCII. Conditions: a valid rune. By an AI agent.
-/
import Derived.Test.YtcbmddgafkoooaaDoorIndexAny
namespace Go.Proofs.YtcbmddgafkoooaaDoor
open Go.RowKit

/-- ASCII bytes alone -/
def Asc (L : ByteArray) : Prop := ∀ i (h : i < L.size), (L[i]).toNat < 128
theorem Asc.drop_noByte {L : ByteArray} (hL : Asc L) (a : Nat) (x : UInt8) (hx : 128 ≤ x.toNat) : Lib.indexByte (L.data.toList.drop a) x = -1 := by
  have key : ∀ n a, L.size - a = n → Lib.indexByte (L.data.toList.drop a) x = -1 := by
    intro n
    induction n with
    | zero => intro a h; rw [drop_out (by omega)]; rfl
    | succ n ih =>
      intro a h
      have ha : a < L.size := by omega
      rw [drop_bt ha]
      simp only [Lib.indexByte]
      have := hL a ha
      rw [if_neg (by simp; intro e; rw [e] at this; omega), ih (a + 1) (by omega)]
      rfl
  exact key _ a rfl

set_option maxHeartbeats 2000000 in
set_option maxRecDepth 100000 in
theorem indexRune_asc (L : ByteArray) (hL : Asc L) (_hsz : L.size ≤ 64) (r : Int) (w : World) (h1 : 128 ≤ r) (hv : (0 ≤ r ∧ r < 55296) ∨ (57343 < r ∧ r ≤ 1114111)) :
    Calls Tryd.prog 82 #[.string L, .int .i32 r] w fun e w' => e = .returned (.int .i64 (-1)) ∧ Below w.heap.size w w' := by
  have h0 : (0 : Int) ≤ r := by omega
  have hr : r ≤ 1114111 := by omega
  have hn : ¬ r < 128 := by omega
  have HV := Lib.hid hv
  have HL := Lib.hid hL
  clear hL
  have hval : Utf8.valid r = true := by unfold Utf8.valid; simp; omega
  obtain ⟨e1, e2, e3⟩ := encode_facts r hval h1
  obtain ⟨T, hT⟩ : ∃ T, T = Utf8.encode r := ⟨_, rfl⟩
  rw [← hT] at e1 e2 e3
  have HT := Lib.hid hT
  clear hv hval hT
  by_cases hE : r = 65533
  · subst hE
    go_enter Tryd.func82, Tryd.ntmps82
    clear HT e1 e2 e3 HV
    go_wp2_with fail
    go_loopg [5, 6] L.size (fun g _ _ wx => ∃ i : Nat, i + g = L.size ∧ wx = w.iter L i)
    case atStart => exact ⟨0, by omega, rfl⟩
    case round =>
      obtain ⟨i, hig, rfl⟩ := hrel
      by_cases hi : i < L.size
      · have hlt := HL.out i hi
        have hnx := fun ty => run_next_ascii (P := Tryd.prog) w L i ty hi hlt
        have hne : (((L[i]).toNat : Int) == 65533) = false := by simp; omega
        go_wp2
        go_roundg (L.size - (i + 1))
        case measure => omega
        case rel => exact ⟨i + 1, by omega, rfl⟩
      · obtain rfl : i = L.size := by omega
        have hnx := run_next_end (P := Tryd.prog) w L L.size
        go_wp2
        go_ret
        exact ⟨rfl, (Below.refl _ _).alloc (Nat.le_refl _) _⟩
  · have hE' : (r == 65533) = false := by simpa using hE
    clear hE
    go_enter Tryd.func82, Tryd.ntmps82
    go_wp2_with fail
    refine (validRune_any r _ HV.out).mono ?_
    rintro e w1 ⟨rfl, hw⟩
    rw [← hw]
    clear hw
    have hT' := HT.out.symm
    have HB : Hid (∀ (a : Nat) (x : UInt8) w, 128 ≤ x.toNat → Calls Tryd.prog 76 #[.string (L.extract a L.size), .int .u8 x.toNat] w fun e w' => e = .returned (.int .i64 (-1)) ∧ w' = w) := fun a x w hx => by
      have := Tryd.strings_IndexByte (L.extract a L.size) x.toNat w
      rw [ext_list, show ((x.toNat : Int)).toNat.toUInt8 = x by simp, HL.out.drop_noByte a x hx] at this
      exact this
    obtain ⟨q, hq⟩ : ∃ q : Nat, T.size = q + 1 := ⟨T.size - 1, by omega⟩
    obtain ⟨i2, h3⟩ : ∃ h : q < T.size, 128 ≤ (T[q]'h).toNat := by
      refine ⟨by omega, ?_⟩
      have := e3 (by omega)
      have h4 : T[q]'(by omega) = T[T.size - 1]'(by omega) := by congr 1; omega
      rw [h4]; exact this
    have hq1 : (1 : Int) ≤ (q : Int) := by omega
    have hq3 : (q : Int) ≤ 3 := by omega
    have hqi : ((T.size : Int) - 1) = (q : Int) := by omega
    have HQ := Lib.hid hqi
    have i3 : (q : Int) < (T.size : Int) := by omega
    have i0 : (0 : Int) ≤ (q : Int) := by omega
    have ts1 : (2 : Int) ≤ (T.size : Int) := by omega
    have ts2 : (T.size : Int) ≤ 4 := by omega
    clear hq e1 e2 e3 hqi
    by_cases hin : q < L.size
    · have hl := HL.out q hin
      have hne : (((L[q]).toNat : Int) != ((T[q]'i2).toNat : Int)) = true := by simp; omega
      have i1 : (q : Int) < (L.size : Int) := by omega
      go_wp2_with fail
      go_step3
      go_wp2_with fail
      rw [HQ.out]
      go_loopg [9, 10] 0 (fun g s9 s10 wr => s9 = .int .i64 q ∧ s10 = .int .i64 0 ∧ wr = w)
      case atStart => exact ⟨rfl, rfl, rfl⟩
      case round =>
        obtain ⟨rfl, rfl, rfl⟩ := hrel
        go_wp2_with fail
        go_step3
        go_wp2_with fail
        go_quiet (fail)
        go_wp2_with fail
        have hwr : IntKind.i64.wrap ((q : Int) + 1) = (q : Int) + 1 := IntWalk.i64_in _ (by omega)
        go_quiet (refine (HB.out _ _ _ h3).mono (fun _ _ h => ⟨h.1, _, h.2⟩))
        go_wp2_with fail
        rw [Exit.noGoto_ret]
        simp only [Exit.inBlock, Exit.then]
        rw [Exit.noGoto_ret]
        go_ret
        exact ⟨rfl, bdrew (Below.refl _ _) _⟩
    · have i1 : (L.size : Int) ≤ (q : Int) := by omega
      go_wp2_with fail
      go_step3
      go_wp2_with fail
      rw [HQ.out]
      go_loopg [9, 10] 0 (fun g s9 s10 wr => s9 = .int .i64 q ∧ s10 = .int .i64 0 ∧ wr = w)
      case atStart => exact ⟨rfl, rfl, rfl⟩
      case round =>
        obtain ⟨rfl, rfl, rfl⟩ := hrel
        go_wp2_with fail
        try rw [Exit.noGoto_ret]
        go_ret
        exact ⟨rfl, Below.refl _ _⟩
end Go.Proofs.YtcbmddgafkoooaaDoor
