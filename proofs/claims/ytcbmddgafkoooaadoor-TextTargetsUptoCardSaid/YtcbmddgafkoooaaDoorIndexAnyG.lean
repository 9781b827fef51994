/-
  DERIVED. strings.IndexAny and ContainsAny at ASCII bytes, of every text. Conditions: a length in reach. By an AI agent.
-/
import Derived.Test.YtcbmddgafkoooaaDoorIndexRuneG
import Derived.Test.YtcbmddgafkoooaaDoorIsTgt
namespace Go.Proofs.YtcbmddgafkoooaaDoor
open Go.RowKit

theorem noAny_moreG {L s : ByteArray} (hL : Asc L) {i k : Nat} (h : Lib.NoAny s.data.toList L.data.toList i) (hm : ∀ j (hj : j < s.size), i ≤ j → j < k → 128 ≤ (s[j]).toNat) : Lib.NoAny s.data.toList L.data.toList k := by
  intro j b hj hb
  rcases Nat.lt_or_ge j i with g | g
  · exact h j b g hb
  · obtain ⟨hjs, e⟩ := List.getElem?_eq_some_iff.1 hb
    have hjs' : j < s.size := by simpa using hjs
    have := hm j hjs' g hj
    have e2 : s[j] = b := by rw [← e]; rfl
    rw [e2] at this
    cases hc : L.data.toList.contains b with
    | false => rfl
    | true =>
      obtain ⟨q, hq, eq⟩ := List.mem_iff_getElem.1 (by simpa using hc : b ∈ L.data.toList)
      have := hL q hq
      have e3 : L[q]'hq = b := eq
      rw [e3] at this
      omega

set_option maxHeartbeats 2000000 in
set_option maxRecDepth 100000 in
theorem indexAny_shortG (L : ByteArray) (hL : Asc L) (hL2 : 2 ≤ L.size) (hLs : L.size ≤ 64) (s : ByteArray) (w : World) (hs : s.size ≤ 8) :
    Calls Tryd.prog 66 #[.string s, .string L] w fun e w' => e = .returned (.int .i64 (Lib.indexAny s.data.toList L.data.toList)) ∧ Below w.heap.size w w' := by
  have hemp : L.toList.isEmpty = false := notEmpty_of (by omega)
  have HAL := Lib.hid hL
  clear hL
  have k2 : (2 : Int) ≤ (L.size : Int) := by omega
  have k1 : ((L.size : Int) == 1) = false := by simp; omega
  have h8z : ¬ ((8 : Int) < (s.size : Int)) := by omega
  go_enter Tryd.func66, Tryd.ntmps66
  go_wp2_with (first | (go_at_call 83; go_in))
  go_loopg [9, 10] s.size (fun g _ _ wx => ∃ i : Nat, i ≤ s.size ∧ s.size - i ≤ g ∧ wx.heap[w.heap.size]? = some (.stringIter s i) ∧ Below w.heap.size w wx ∧ Lib.NoAny s.data.toList L.data.toList i)
  case atStart => exact ⟨0, Nat.zero_le _, by omega, World.iter_heap w s 0, (Below.refl _ _).alloc (Nat.le_refl _) _, Lib.NoAny.zero _ _⟩
  case round =>
    obtain ⟨i, hi, hig, hit, hbel, hno⟩ := hrel
    have HN := Lib.hid hno
    have HB := Lib.hid hbel
    have hsz := hbel.size
    have hkz : w.heap.size < wr.heap.size := by
      rcases Nat.lt_or_ge w.heap.size wr.heap.size with h' | h'
      · exact h'
      · simp [Array.getElem?_eq_none h'] at hit
    clear hno hbel
    by_cases his : i < s.size
    · have hxl : s.data.toList[i]? = some s[i] := Lib.data_getElem? s i his
      have HX := Lib.hid hxl
      clear hxl
      by_cases hx128 : (s[i]).toNat < 128
      · have hnx := fun ty => Lib.run_next_ascii_at (P := Tryd.prog) wr w.heap.size s i ty hit his hx128
        have hit2 := Lib.iterAt_heap wr w.heap.size s i (i + 1) hit
        have hbel2 := Lib.below_iterAt HB.out (Nat.le_refl _) s (i + 1)
        obtain ⟨x, hx⟩ : ∃ x : UInt8, s[i] = x := ⟨_, rfl⟩
        rw [hx] at hnx hx128 HX
        obtain ⟨W, hW⟩ : ∃ W, W = wr.iterAt w.heap.size s (i + 1) := ⟨_, rfl⟩
        rw [← hW] at hnx hit2 hbel2
        have HW := Lib.hid (And.intro hit2 hbel2)
        have hxi : (x.toNat : Int) < 128 := by omega
        have hcon := Lib.contains_iff_indexByte L.data.toList x
        have hback : ((x.toNat : Int)).toNat.toUInt8 = x := by simp
        have HBK := Lib.hid hback
        clear hit hx hW hit2 hbel2 hback
        cases hin : L.data.toList.contains x
        · rw [hin] at hcon
          have hlt : ¬ ((0 : Int) ≤ Lib.indexByte L.data.toList x) := of_decide_eq_false hcon.symm
          have HN2 := Lib.hid (HN.out.succ HX.out hin)
          clear hcon hin
          go_wp2_with fail
          refine (Tryd.strings_IndexRune_ascii _ _ _ (by omega) hxi).mono ?_
          rintro e w1 ⟨rfl, hw⟩
          rw [hw, HBK.out]
          clear hw
          go_wp2
          go_roundg (s.size - (i + 1))
          case measure => omega
          case rel => exact ⟨i + 1, by omega, by omega, HW.out.1, HW.out.2, HN2.out⟩
        · rw [hin] at hcon
          have hge : (0 : Int) ≤ Lib.indexByte L.data.toList x := of_decide_eq_true hcon.symm
          have HR : Hid (Lib.indexAny s.data.toList L.data.toList = (i : Int)) := Lib.indexAny_hit HN.out HX.out hin
          clear hcon hin
          go_wp2_with fail
          refine (Tryd.strings_IndexRune_ascii _ _ _ (by omega) hxi).mono ?_
          rintro e w1 ⟨rfl, hw⟩
          rw [hw, HBK.out]
          clear hw
          go_wp2
          go_ret
          exact ⟨by rw [HR.out]; rfl, HW.out.2⟩
      · obtain ⟨f1, f2, f3, f4, f5⟩ := decode_far his (by omega)
        have hnx := fun ty => Lib.run_next_any_at (P := Tryd.prog) wr w.heap.size s i ty hit his
        obtain ⟨r, hr⟩ : ∃ r, r = (Utf8.decode s i).1 := ⟨_, rfl⟩
        obtain ⟨d, hd⟩ : ∃ d, d = (Utf8.decode s i).2 := ⟨_, rfl⟩
        rw [← hr] at f1 f2 hnx
        rw [← hd] at f3 f4 f5 hnx
        have hit2 := Lib.iterAt_heap wr w.heap.size s i (i + d) hit
        have hbel2 := Lib.below_iterAt HB.out (Nat.le_refl _) s (i + d)
        have HN2 := Lib.hid (noAny_moreG HAL.out HN.out f5)
        obtain ⟨W, hW⟩ : ∃ W, W = wr.iterAt w.heap.size s (i + d) := ⟨_, rfl⟩
        have hWz : W.heap.size = wr.heap.size := by rw [hW]; exact Lib.iterAt_size _ _ _ _
        rw [← hW] at hnx hit2 hbel2
        have HW := Lib.hid (And.intro hit2 hbel2)
        clear hit hW hit2 hbel2 hr hd f5 hx128
        go_wp2_with fail
        refine (indexRune_asc L HAL.out hLs (r : Int) _ (by omega) (by omega)).mono ?_
        rintro e w1 ⟨rfl, hb1⟩
        have HW1 := Lib.hid (And.intro ((hb1.block w.heap.size (by omega)).trans HW.out.1) (HW.out.2.trans (hb1.mono (by omega))))
        clear hb1
        go_wp2
        go_roundg (s.size - (i + d))
        case measure => omega
        case rel => exact ⟨i + d, by omega, by omega, HW1.out.1, HW1.out.2, HN2.out⟩
    · obtain rfl : i = s.size := by omega
      have hnx := fun ty => Lib.run_next_end_at (P := Tryd.prog) wr w.heap.size s s.size ty hit his
      go_wp2
      go_ret
      exact ⟨by rw [Lib.indexAny_none (by rw [← Lib.size_eq]; exact HN.out)]; rfl, HB.out⟩

theorem indexAny_asc (L : ByteArray) (hL : Asc L) (hL2 : 2 ≤ L.size) (hLs : L.size ≤ 64) (s : ByteArray) (w : World) (hs : s.size ≤ 4294967280) :
    Calls Tryd.prog 66 #[.string s, .string L] w fun e w' => e = .returned (.int .i64 (Lib.indexAny s.data.toList L.data.toList)) ∧ Below w.heap.size w w' := by
  by_cases h8 : s.size ≤ 8
  · exact indexAny_shortG L hL hL2 hLs s w h8
  · refine (Tryd.strings_IndexAny_long (zero_of_info set_info).1 s L w hL2 (by omega) (by omega) (by omega) (fun j b hb => ?_)).mono fun e w' ⟨h1, h2⟩ => ⟨h1, ?_⟩
    · obtain ⟨hjs, e⟩ := List.getElem?_eq_some_iff.1 hb
      have := hL j hjs
      have e2 : L[j]'hjs = b := e
      rw [e2] at this
      exact this
    · rw [h2]
      exact ((Below.refl _ _).alloc (Nat.le_refl _) _).alloc (by simp) _

theorem indexAny_anyB (s : ByteArray) (L : List UInt8) : (0 ≤ Lib.indexAny s.data.toList L) = (upto (isAny L) s 0 < s.size) := by
  have := indexAny_upto s L _ 0 rfl
  rw [List.drop_zero] at this
  rw [this]
  split
  · rename_i h; simp [h]
  · rename_i h; simp [h]

set_option maxHeartbeats 1000000 in
theorem containsAny_asc (L : ByteArray) (hL : Asc L) (hL2 : 2 ≤ L.size) (hLs : L.size ≤ 64) (s : ByteArray) (w : World) (hs : s.size ≤ 4294967280) :
    Calls Tryd.prog 53 #[.string s, .string L] w fun e w' => e = .returned (.bool (decide (upto (isAny L.data.toList) s 0 < s.size))) ∧ Below w.heap.size w w' := by
  have hv := indexAny_anyB s L.data.toList
  obtain ⟨v, hvv⟩ : ∃ v, v = Lib.indexAny s.data.toList L.data.toList := ⟨_, rfl⟩
  rw [← hvv] at hv
  have HV : Hid (decide (0 ≤ v) = decide (upto (isAny L.data.toList) s 0 < s.size)) := by show _ = _; simp only [hv]
  have HVV := Lib.hid hvv
  have HL := Lib.hid hL
  clear hv hvv hL
  go_enter Tryd.func53, Tryd.ntmps53
  go_wp2_with fail
  refine (indexAny_asc L HL.out hL2 hLs s _ hs).mono ?_
  rintro e w1 ⟨rfl, hb⟩
  rw [← HVV.out]
  have HB := Lib.hid hb
  clear hb
  go_wp2
  go_ret
  exact ⟨ret_boolS HV.out, HB.out⟩
end Go.Proofs.YtcbmddgafkoooaaDoor
