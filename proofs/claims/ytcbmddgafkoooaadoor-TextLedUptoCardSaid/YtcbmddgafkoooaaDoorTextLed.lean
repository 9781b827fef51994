/-
  DERIVED. The walk of florkeep1.TextLed. Conditions: the texts' sizes. By an AI agent.
-/
import Derived.Test.YtcbmddgafkoooaaDoorLedMath
import Derived.Test.YtcbmddgafkoooaaDoorAwakeText
import Derived.WalkSpells
namespace Go.Proofs.YtcbmddgafkoooaaDoor
open Go.RowKit

set_option maxHeartbeats 1000000 in
set_option maxRecDepth 100000 in
theorem led_err (s U : ByteArray) (k no : Int) (w : World) (hno : (no != 0) = true) (HC : ∀ w, Calls Tryd.prog 9 #[.string s, .int .i64 k, .string U] w fun e w' => e = .returned (.tuple #[.string ⟨#[]⟩, .int .i64 no]) ∧ Below w.heap.size w w') :
    Calls Tryd.prog 3 #[.string s, .int .i64 k, .string U] w fun e w' => e = .returned (.bool true) ∧ Below w.heap.size w w' := by
  have H := Lib.hid HC
  clear HC
  go_enter Tryd.func3, Tryd.ntmps3
  go_wp2_with fail
  refine (awakeText_any _).mono ?_
  rintro e w1 ⟨rfl, hb1⟩
  go_wp2_with fail
  refine (H.out _).mono ?_
  rintro e w2 ⟨rfl, hb2⟩
  have HB := Lib.hid (hb1.trans (hb2.mono hb1.size))
  clear hb1 hb2
  go_wp2
  go_ret
  exact ⟨rfl, HB.out⟩

set_option maxHeartbeats 2000000 in
set_option maxRecDepth 100000 in
theorem led_ok (s U : ByteArray) (n : Nat) (w : World) (hs : s.size ≤ 1048576) (hn : n < lk (spans s)) (hU : isTgt U = true) (ho : (retOut s n U).size ≤ 2000) :
    Calls Tryd.prog 3 #[.string s, .int .i64 n, .string U] w fun e w' => e = .returned (.bool true) ∧ Below w.heap.size w w' := by
  obtain ⟨hlen, hat⟩ := led_at hn hU
  have hret := retarget_yes s U n
  obtain ⟨o, hoo⟩ : ∃ o, o = retOut s n U := ⟨_, rfl⟩
  rw [← hoo] at ho hlen hat hret
  have HV : Hid (boundV o = .tuple #[.string o, .int .i64 0]) := by show _ = _; unfold boundV; rw [if_neg (by omega)]
  rw [HV.out] at hret
  have HR := Lib.hid hret
  obtain ⟨L, hL⟩ : ∃ L, L = spans s := ⟨_, rfl⟩
  obtain ⟨M, hM⟩ : ∃ M, M = spans o := ⟨_, rfl⟩
  have hll : L.length ≤ 1048576 := by rw [hL]; have := (cont_le (spans_cont s)).2; omega
  rw [← hL, ← hM] at hat hlen
  have HAT := Lib.hid hat
  have HLEN := Lib.hid hlen
  have HL := Lib.hid hL
  have HM := Lib.hid hM
  clear hoo HV hret hL hM hat hlen
  go_enter Tryd.func3, Tryd.ntmps3
  go_wp2_with fail
  refine (awakeText_any _).mono ?_
  rintro e w1 ⟨rfl, hb1⟩
  go_wp2_with fail
  refine (HR.out _ hs hn hU).mono ?_
  rintro e w2 ⟨rfl, hb2⟩
  have hb12 := hb1.trans (hb2.mono hb1.size)
  clear hb1 hb2 HR
  go_wp2_with fail
  refine (spans_any s _ (by omega)).mono ?_
  rintro e w3 ⟨v3, rfl, hown3, hb3⟩
  rw [← HL.out] at hown3
  obtain ⟨A3, c3, rfl, hnc3, hA3⟩ := own_shape hown3
  have HO3 := Lib.hid hown3
  clear hown3
  go_wp2_with fail
  refine (spans_any o _ (by omega)).mono ?_
  rintro e w4 ⟨v4, rfl, hown4, hb4⟩
  rw [← HM.out, HLEN.out] at hown4
  obtain ⟨A4, c4, rfl, hnc4, hA4⟩ := own_shape hown4
  have hown3 := own_below HO3.out hb4
  have hbw : Below w.heap.size w w4 := (hb12.trans (hb3.mono hb12.size)).trans (hb4.mono (Nat.le_trans hb12.size hb3.size))
  clear HO3 hb12 hb3 hb4
  have hz4 := hbw.size
  go_wp2
  go_loopg [11, 40] L.length (fun gg s11 s40 wr => ∃ k : Nat, k + gg = L.length ∧ s40 = .int .i64 k ∧ s11 = .int .i64 (lk (L.take k) : Nat) ∧ Below w4.heap.size w4 wr)
  case atStart => exact ⟨0, by omega, rfl, rfl, Below.refl _ _⟩
  case round =>
    obtain ⟨k, hkg, rfl, rfl, hbel⟩ := hrel
    by_cases hk : k < L.length
    · obtain ⟨g3, rfl⟩ := hA3 (by omega)
      obtain ⟨g4, rfl⟩ := hA4 (by omega)
      obtain ⟨x, hx⟩ : ∃ x, L[k]? = some x := ⟨_, List.getElem?_eq_getElem hk⟩
      obtain ⟨f, t, hy⟩ := HAT.out k x hx
      obtain ⟨c0, c1, c2, c3', c4', c5, c6⟩ := sp_cells hown3 hbel hx
      obtain ⟨d0, d1, d2, d3, d4, d5, d6⟩ := sp_cells (L := M) (by rw [HLEN.out]; exact hown4) hbel hy
      dsimp only at d0 d1 d2 d3 d4 d5 d6
      have ik : (k : Int) < (L.length : Int) := by omega
      have ik0 : (0 : Int) ≤ (k : Int) := by omega
      have hlk : lk (L.take k) ≤ L.length := by
        have := lk_append (L.take k) (L.drop k)
        rw [List.take_append_drop] at this
        have h2 := textsK_len 4 L
        rw [textsK_lk] at h2
        omega
      have HX := Lib.hid hx
      clear hx hy
      obtain ⟨m, hm⟩ : ∃ m, m = lk (L.take k) := ⟨_, rfl⟩
      rw [← hm] at hlk d3 ⊢
      have HMk := Lib.hid hm
      clear hm
      have hzw := hbel.size
      have hg3 : g3 < wr.heap.size := Nat.lt_of_lt_of_le (hown3.lt g3 rfl).2 hzw
      have hg4 : g4 < wr.heap.size := Nat.lt_of_lt_of_le (hown4.lt g4 rfl).2 hzw
      have r3 : ∀ o j, (wr.alloc o).cell? ⟨g3, j, none⟩ = wr.cell? ⟨g3, j, none⟩ := fun o j => World.cell?_alloc_lt wr o _ hg3
      have r4 : ∀ o j, (wr.alloc o).cell? ⟨g4, j, none⟩ = wr.cell? ⟨g4, j, none⟩ := fun o j => World.cell?_alloc_lt wr o _ hg4
      have r33 : ∀ o o' j, ((wr.alloc o).alloc o').cell? ⟨g3, j, none⟩ = wr.cell? ⟨g3, j, none⟩ := fun o o' j => (World.cell?_alloc_lt _ o' _ (by simp; omega)).trans (r3 o j)
      have r44 : ∀ o o' j, ((wr.alloc o).alloc o').cell? ⟨g4, j, none⟩ = wr.cell? ⟨g4, j, none⟩ := fun o o' j => (World.cell?_alloc_lt _ o' _ (by simp; omega)).trans (r4 o j)
      have hnx : lk (L.take (k + 1)) = m + (if x.kind = 4 then 1 else 0) := by
        rw [List.take_add_one, HX.out, HMk.out]
        show lk (L.take k ++ [x]) = _
        rw [lk_append, lk_cons, lk_nil, Nat.add_zero]
      cases hk4 : (x.kind == 4)
      · have k4 : ¬ x.kind = 4 := by simpa using hk4
        rw [if_neg (fun h => k4 h.1)] at d3
        rw [if_neg k4] at hnx
        have HNX : Hid (lk (L.take (k + 1)) = m) := hnx
        clear hnx k4
        go_wp2
        go_region
        all_goals
          go_wp2
          go_roundg (L.length - (k + 1))
          case measure => omega
          case rel => exact ⟨k + 1, by omega, by go_num, by rw [HNX.out], (((hbel.alloc (by omega) _).alloc (by simp; omega) _).drew)⟩
      · have k4 : x.kind = 4 := by simpa using hk4
        rw [if_pos k4] at hnx
        have HNX := Lib.hid hnx
        cases hmn : ((m : Int) == (n : Int))
        · rw [if_neg (fun h => by have := h.2; simp at hmn; omega)] at d3
          clear hnx k4
          go_wp2
          go_region
          all_goals
            go_wp2
            go_roundg (L.length - (k + 1))
            case measure => omega
            case rel => exact ⟨k + 1, by omega, by go_num, by rw [HNX.out]; go_num, (((hbel.alloc (by omega) _).alloc (by simp; omega) _).drew)⟩
        · rw [if_pos ⟨k4, by simp at hmn; omega⟩] at d3
          clear hnx k4
          go_wp2
          go_region
          all_goals
            go_wp2
            go_roundg (L.length - (k + 1))
            case measure => omega
            case rel => exact ⟨k + 1, by omega, by go_num, by rw [HNX.out]; go_num, (((hbel.alloc (by omega) _).alloc (by simp; omega) _).drew)⟩
    · obtain rfl : k = L.length := by omega
      have hb5 := hbw.trans (hbel.mono hz4)
      have HB := Lib.hid hb5
      clear hb5 hbw hbel hown3 hown4
      go_wp2
      go_ret
      exact ⟨rfl, HB.out⟩

theorem textLed_any (s U : ByteArray) (k : Int) (w : World) (hs : s.size ≤ 1048576) (hU : U.size ≤ 1048576) :
    Calls Tryd.prog 3 #[.string s, .int .i64 k, .string U] w fun e w' => e = .returned (.bool true) ∧ Below w.heap.size w w' := by
  by_cases h0 : k < 0
  · exact led_err s U k 7 w (by decide) (fun w => retarget_neg s U k w h0)
  · obtain ⟨n, rfl⟩ : ∃ n : Nat, k = n := ⟨k.toNat, by omega⟩
    by_cases h1 : n < lk (spans s)
    · cases h2 : isTgt U
      · exact led_err s U n 3 w (by decide) (fun w => retarget_name s U n w hs h1 h2 (by omega))
      · by_cases h3 : 2000 < (retOut s n U).size
        · refine led_err s U n 4 w (by decide) (fun w => ?_)
          have := retarget_yes s U n w hs h1 h2
          rwa [show boundV (retOut s n U) = .tuple #[.string ⟨#[]⟩, .int .i64 4] from if_pos h3] at this
        · exact led_ok s U n w hs h1 h2 (by omega)
    · exact led_err s U n 7 w (by decide) (fun w => retarget_none s U n w hs (by omega))
end Go.Proofs.YtcbmddgafkoooaaDoor
