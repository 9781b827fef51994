/-
  DERIVED. The walks of package day's small functions on templates: a byte of a name, where a name ends, a field. Conditions: sizes. By an AI agent.
-/
import Derived.Test.YtghadhdmbcigpaaDoorTpMath
import Derived.Test.YtghadhdmbcigpaaDoorBase
import Derived.Test.YtghadhdmbcigpaaDoorChecked
import Derived.WalkSpells
import Derived.Deep.QuietTactic
import Derived.BigQuiet
import Derived.Deep.LoopGhost
import Derived.Laws.Cover1
namespace Go.Proofs.YtghadhdmbcigpaaDoor
open Go.RowKit

theorem ret_boolS {a b : Bool} (h : a = b) : Ending.returned (.bool a) = .returned (.bool b) := by rw [h]

set_option maxHeartbeats 400000 in
theorem inName_any (n : Int) (w : World) (_h0 : 0 ≤ n) (_h1 : n ≤ 255) : Calls Tryd.prog 50 #[.int .u8 n] w fun e w' => e = .returned (.bool (inN n)) ∧ w = w' := by
  go_enter Tryd.func50, Tryd.ntmps50
  go_wp2
  all_goals go_ret
  all_goals exact ⟨ret_boolS (by rw [Bool.eq_iff_iff]; simp [inN] <;> omega), rfl⟩

set_option maxHeartbeats 1000000 in
theorem nameAt_same (s : ByteArray) (a e : Nat) (w : World) (hs : s.size ≤ 4294967280) (hae : a ≤ e) (hes : e ≤ s.size) (hin : ∀ i, a ≤ i → i < e → inN (bt s i) = true) (hend : e = s.size ∨ inN (bt s e) = false) :
    Calls Tryd.prog 33 #[.string s, .int .i64 a] w fun r w' => r = .returned (.int .i64 e) ∧ w' = w := by
  have HI := Lib.hid hin
  have HE := Lib.hid hend
  clear hin hend
  go_enter Tryd.func33, Tryd.ntmps33
  go_wp2_with fail
  go_loopg [1] (e - a) (fun gg s1 wr => ∃ k : Nat, k + gg = e ∧ s1 = .int .i64 (k : Int) ∧ a ≤ k ∧ wr = w)
  case atStart => exact ⟨a, by omega, rfl, Nat.le_refl _, rfl⟩
  case round =>
    obtain ⟨k, hkg, rfl, hak, rfl⟩ := hrel
    have i0 : (0 : Int) ≤ (k : Int) := by omega
    by_cases hk : k < e
    · have hks : k < s.size := by omega
      have i1 : (k : Int) < (s.size : Int) := by omega
      have hq : inN (s[k].toNat : Int) = true := by rw [← bt_at hks]; exact HI.out k hak hk
      have hc0 : (0 : Int) ≤ (s[k].toNat : Int) := by omega
      have hc1 : (s[k].toNat : Int) ≤ 255 := by have := (s[k]).toNat_lt; omega
      go_wp2_with fail
      refine (inName_any _ _ hc0 hc1).mono ?_
      rintro r w1 ⟨rfl, hw⟩
      rw [hq, ← hw]
      clear hw
      go_wp2_with fail
      go_roundg (e - (k + 1))
      case measure => omega
      case rel => exact ⟨k + 1, by omega, by go_num, by omega, rfl⟩
    · obtain rfl : k = e := by omega
      by_cases hks : k < s.size
      · have i1 : (k : Int) < (s.size : Int) := by omega
        have hq : inN (s[k].toNat : Int) = false := by
          rw [← bt_at hks]
          rcases HE.out with h | h
          · omega
          · exact h
        have hc0 : (0 : Int) ≤ (s[k].toNat : Int) := by omega
        have hc1 : (s[k].toNat : Int) ≤ 255 := by have := (s[k]).toNat_lt; omega
        go_wp2_with fail
        refine (inName_any _ _ hc0 hc1).mono ?_
        rintro r w1 ⟨rfl, hw⟩
        rw [hq, ← hw]
        clear hw
        go_wp2_with fail
        go_ret
        exact ⟨rfl, rfl⟩
      · have i1 : ¬ (k : Int) < (s.size : Int) := by omega
        go_wp2_with fail
        go_ret
        exact ⟨rfl, rfl⟩

theorem nameAt_any (s : ByteArray) (a e : Nat) (w : World) (hs : s.size ≤ 4294967280) (hae : a ≤ e) (hes : e ≤ s.size) (hin : ∀ i, a ≤ i → i < e → inN (bt s i) = true) (hend : e = s.size ∨ inN (bt s e) = false) :
    Calls Tryd.prog 33 #[.string s, .int .i64 a] w fun r w' => r = .returned (.int .i64 e) ∧ Below w.heap.size w w' :=
  (nameAt_same s a e w hs hae hes hin hend).mono fun _ _ ⟨h1, h2⟩ => ⟨h1, by rw [h2]; exact .refl _ _⟩

theorem bt_of {s : ByteArray} {i : Nat} {x : Int} (h : bt s i = x) (hx : 0 ≤ x) : ∃ hi : i < s.size, (s[i].toNat : Int) = x := by
  have hi : i < s.size := bt_in (by omega)
  exact ⟨hi, by rw [← bt_at hi]; exact h⟩

set_option maxHeartbeats 2000000 in
theorem fieldAt_any (s n : ByteArray) (p : Nat) (w : World) (hs : s.size ≤ 4294967280) (h : AtField s p n) (hn : okN n) :
    Calls Tryd.prog 49 #[.string s, .int .i64 (p + 2 : Nat)] w fun r w' => r = .returned (.tuple #[.agg #[.string ⟨#[]⟩, .string n, .string ⟨#[]⟩, .bool false], .int .i64 (p + n.size + 4 : Nat), .bool true]) ∧ Below w.heap.size w w' := by
  obtain ⟨t, ht⟩ : ∃ t, t = p + 2 + n.size := ⟨_, rfl⟩
  have hN := fun w1 => nameAt_any s (p + 2) t w1 hs (by omega) (by have := h.size; omega) (fun i h1 h2 => by have := h.bytes (i - (p + 2)) (by omega); rwa [show p + 2 + (i - (p + 2)) = i by omega] at this) (.inr (by rw [ht, h.r0]; rfl))
  obtain ⟨hi0, g0⟩ := bt_of (by rw [ht]; exact h.r0 : bt s t = 125) (by omega)
  obtain ⟨hi1, g1⟩ := bt_of (by rw [ht]; exact h.r1 : bt s (t + 1) = 125) (by omega)
  have hx := h.name
  rw [← ht] at hx
  have HX := Lib.hid hx
  have HN := Lib.hid hN
  have n0 := hn.1
  have n1 := hn.2.1
  have q1 : p + 2 ≤ t := by omega
  have q2 : t ≤ s.size := by omega
  have q3 : t < s.size := by omega
  have q4 : t + 1 < s.size := by omega
  have ht' : (p + n.size + 4 : Nat) = t + 2 := by omega
  rw [ht']
  have HT := Lib.hid ht
  clear hN hx hn h ht ht'
  go_enter Tryd.func49, Tryd.ntmps49
  go_wp2_with fail
  refine (HN.out _).mono ?_
  rintro r w1 ⟨rfl, hb1⟩
  have hz1 : w.heap.size < w1.heap.size := by have := hb1.size; simp at this; omega
  have HK : Hid (Blk w1 w.heap.size 51 #[.string ⟨#[]⟩, .string ⟨#[]⟩, .string ⟨#[]⟩, .bool false]) := (Blk.new w 51 #[.string ⟨#[]⟩, .string ⟨#[]⟩, .string ⟨#[]⟩, .bool false]).below hb1 (by simp)
  have HB1 : Hid (Below w.heap.size w w1) := ((Below.refl w.heap.size w).alloc (Nat.le_refl _) _).trans (hb1.mono (by simp))
  clear hb1
  have i0 : ((t : Int) == (p : Int) + 2) = false := beq_eq_false_iff_ne.2 (by have := HT.out; omega)
  have i1 : ¬ (20 : Int) < (t : Int) - ((p : Int) + 2) := by have := HT.out; omega
  have i3 : (t : Int) < (s.size : Int) := by omega
  have i4 : (t : Int) + 1 < (s.size : Int) := by omega
  have i5 : (0 : Int) ≤ (p : Int) + 2 := by omega
  have i6 : (p : Int) + 2 ≤ (t : Int) := by omega
  have i7 : (t : Int) ≤ (s.size : Int) := by omega
  have d0 := HK.out.cell 0
  have d1 := HK.out.cell 1
  have d2 := HK.out.cell 2
  have d3 := HK.out.cell 3
  have e1 := HK.out.frozen 1
  go_wp2_with fail
  go_loopg [1, 75] 2 (fun gg s1 s75 wr => ∃ k : Nat, k + gg = 2 ∧ s75 = .int .i64 (k : Int) ∧ s1 = .int .i64 ((t + k : Nat) : Int) ∧ Hid (Blk wr w.heap.size 51 #[.string ⟨#[]⟩, .string n, .string ⟨#[]⟩, .bool false]) ∧ Hid (Below w.heap.size w wr))
  case atStart =>
    rw [HX.out]
    exact ⟨0, rfl, rfl, by go_num, (HK.out.set_ 1 (.string n)), Below.setCell HB1.out (p := ⟨w.heap.size, 1, none⟩) (Nat.le_refl _) _⟩
  case round =>
    clear HN HK HB1 HX d0 d1 d2 d3 e1 hz1
    obtain ⟨k, hkg, rfl, rfl, hk, hbel⟩ := hrel
    by_cases hk2 : k < 2
    · obtain ⟨q, hq⟩ : ∃ q, q = t + k := ⟨_, rfl⟩
      have hqs : q < s.size := by omega
      have hg : (s[q].toNat : Int) = 125 := by
        rcases (by omega : q = t ∨ q = t + 1) with rfl | rfl
        · exact g0
        · exact g1
      rw [← hq]
      have j0 : (0 : Int) ≤ (q : Int) := by omega
      have j1 : (q : Int) < (s.size : Int) := by omega
      have j2 : ((q : Int) == (s.size : Int)) = false := beq_eq_false_iff_ne.2 (by omega)
      have j3 : (k : Int) < 2 := by omega
      have HQ := Lib.hid hq
      clear g0 g1 hq
      go_wp2_with fail
      go_roundg (2 - (k + 1))
      case measure => omega
      case rel => exact ⟨k + 1, by omega, by go_num, by have := HQ.out; go_num, hk, hbel⟩
    · obtain rfl : k = 2 := by omega
      have b0 := hk.out.cell 0
      have b1 := hk.out.cell 1
      have b2 := hk.out.cell 2
      have b3 := hk.out.cell 3
      have f0 := hk.out.frozen 0
      have f1 := hk.out.frozen 1
      have f2 := hk.out.frozen 2
      have f3 := hk.out.frozen 3
      clear g0 g1
      go_wp2_with fail
      have hk' := (((hk.out.set_ 0 (.string ⟨#[]⟩)).set_ 1 (.string n)).set_ 2 (.string ⟨#[]⟩)).set_ 3 (.bool false)
      have q0 := hk'.cell 0
      have q1 := hk'.cell 1
      have q2 := hk'.cell 2
      have q3 := hk'.cell 3
      have hb' := (((hbel.out.setCell (p := ⟨w.heap.size, 0, none⟩) (Nat.le_refl _) (.string ⟨#[]⟩)).setCell (p := ⟨w.heap.size, 1, none⟩) (Nat.le_refl _) (.string n)).setCell (p := ⟨w.heap.size, 2, none⟩) (Nat.le_refl _) (.string ⟨#[]⟩)).setCell (p := ⟨w.heap.size, 3, none⟩) (Nat.le_refl _) (.bool false)
      clear b0 b1 b2 b3 f0 f1 f2 f3 hk'
      refine bodyPost_ret (v := .tuple #[.agg #[.string ⟨#[]⟩, .string n, .string ⟨#[]⟩, .bool false], .int .i64 (t + 2 : Nat), .bool true]) (by simp [results, Tryd.results49, go_sem, q0, q1, q2, q3]) rfl ⟨rfl, hb'⟩
end Go.Proofs.YtghadhdmbcigpaaDoor
