/-
  DERIVED. The walks of package find's small functions: a byte of a word, small letters. Conditions: sizes. By an AI agent.
-/
import Derived.Test.YtpkpnmfcjoheoaaQrMath
import Derived.Test.YtpkpnmfcjoheoaaBase
import Derived.Test.YtpkpnmfcjoheoaaChecked
import Derived.WalkSpells
import Derived.Deep.QuietTactic
import Derived.BigQuiet
import Derived.Deep.LoopGhost
import Derived.Laws.Cover1
import Derived.Lib.ConvBytes
import Derived.Laws.IdiomStrings
import Derived.Lib.SmallJoins
namespace Go.Proofs.Ytpkpnmfcjoheoaa
open Go.RowKit

theorem ret_boolS {a b : Bool} (h : a = b) : Ending.returned (.bool a) = .returned (.bool b) := by rw [h]

set_option maxHeartbeats 400000 in
theorem isWB_any (n : Int) (w : World) (_h0 : 0 ≤ n) (_h1 : n ≤ 255) : Calls Try.prog 28 #[.int .u8 n] w fun e w' => e = .returned (.bool (isWB n)) ∧ w' = w := by
  go_enter Try.func28, Try.ntmps28
  go_wp2
  all_goals go_ret
  all_goals exact ⟨ret_boolS (by rw [Bool.eq_iff_iff]; simp [isWB] <;> omega), rfl⟩

/-- the bytes at a place, as far as they have been made small -/
def mid (s : ByteArray) (k j : Nat) : UInt8 := if j < k then lowB (s.data.toList.getD j 0) else s.data.toList.getD j 0
theorem lowB_yes {c : UInt8} (h : 65 ≤ c.toNat ∧ c.toNat ≤ 90) : ((lowB c).toNat : Int) = (c.toNat : Int) + 32 := by
  unfold lowB
  rw [if_pos h, UInt8.toNat_ofNat']
  omega
theorem lowB_no {c : UInt8} (h : ¬ (65 ≤ c.toNat ∧ c.toNat ≤ 90)) : lowB c = c := by unfold lowB; rw [if_neg h]

set_option maxHeartbeats 2000000 in
set_option maxRecDepth 100000 in
theorem lower_any (s : ByteArray) (w : World) (hs : s.size ≤ 4294967280) : Calls Try.prog 29 #[.string s] w fun e w' => e = .returned (.string (low s)) ∧ Below w.heap.size w w' := by
  have hconv := Lib.run_convert_string_bytes (P := Try.prog) w 9 73 5 s Try.underlying9 Try.underlying73 Try.underlying5
  have hcell := Lib.bytesWorld_cell w 5 s
  have hfz : ∀ j, j < s.size → (Lib.bytesWorld w 5 s).frozen? ⟨w.heap.size, j, none⟩ = false := by
    intro j hj
    have hsz : s.size ≤ (Lib.bytesCells w 5 s).size := by
      unfold Lib.bytesCells
      have : s.data.size = s.size := rfl
      simp [this]
    simp [World.frozen?, Lib.bytesWorld_at_new]
    omega
  have hbel := Joins.below_bytesWorld w.heap.size w 5 s (Nat.le_refl _)
  have hsz1 := Lib.bytesWorld_size w 5 s
  generalize Lib.bytesWorld w 5 s = W1 at *
  obtain ⟨cap, hcap⟩ : ∃ cap, cap = grownCap w s.size 0 5 := ⟨_, rfl⟩
  rw [← hcap] at hconv
  obtain ⟨g, hg⟩ : ∃ g, g = w.heap.size := ⟨_, rfl⟩
  have HC := Lib.hid hcell
  have HFZ := Lib.hid hfz
  have HB := Lib.hid hbel
  have HS := Lib.hid hsz1
  clear hcell hfz hbel hsz1 hcap
  rw [← hg] at hconv HC HFZ
  have HG := Lib.hid hg
  clear hg
  go_enter Try.func29, Try.ntmps29
  go_wp2_with fail
  go_loopg [10] s.size (fun gg s10 wr => ∃ k : Nat, k + gg = s.size ∧ s10 = .int .i64 (k : Int) ∧ Hid (∀ j, j < s.size → wr.cell? ⟨g, j, none⟩ = some (.int .u8 ((mid s k j).toNat : Int))) ∧ Hid (∀ j, j < s.size → wr.frozen? ⟨g, j, none⟩ = false) ∧ Hid (Below w.heap.size w wr))
  case atStart => exact ⟨0, by omega, rfl, fun j hj => by rw [HC.out j hj]; simp [mid], HFZ.out, HB.out⟩
  case round =>
    obtain ⟨k, hkg, rfl, hc, hf, hbel⟩ := hrel
    clear hconv HC HFZ HB HS
    by_cases hk : k < s.size
    · obtain ⟨c, hcc⟩ : ∃ c : UInt8, c = s.data.toList.getD k 0 := ⟨_, rfl⟩
      have hm : mid s k k = c := by unfold mid; rw [if_neg (Nat.lt_irrefl _), hcc]
      have hm1 : mid s (k + 1) k = lowB c := by unfold mid; rw [if_pos (Nat.lt_succ_self _), hcc]
      have hmo : ∀ j, j ≠ k → mid s (k + 1) j = mid s k j := fun j hj => by
        unfold mid
        by_cases h : j < k
        · rw [if_pos h, if_pos (by omega)]
        · rw [if_neg h, if_neg (by omega)]
      have d0 := hc.out k hk
      rw [hm] at d0
      have f0 := hf.out k hk
      have j0 : (0 : Int) ≤ (k : Int) := by omega
      have j1 : (k : Int) < (s.size : Int) := by omega
      have b0 : (0 : Int) ≤ (c.toNat : Int) := by omega
      have b1 : (c.toNat : Int) ≤ 255 := by have := c.toNat_lt; omega
      have HM := Lib.hid hm
      have HM1 := Lib.hid hm1
      have HMO := Lib.hid hmo
      clear hm hm1 hmo hcc
      by_cases hup : 65 ≤ c.toNat ∧ c.toNat ≤ 90
      · have u0 : (65 : Int) ≤ (c.toNat : Int) := by omega
        have u1 : (c.toNat : Int) ≤ 90 := by omega
        have hl := lowB_yes hup
        have HL := Lib.hid hl
        have w1 : IntKind.u8.wrap ((c.toNat : Int) + 97) = (c.toNat : Int) + 97 := by
          unfold IntKind.wrap; simp [IntKind.bits, IntKind.signed]; omega
        have w2 : IntKind.u8.wrap ((c.toNat : Int) + 97 - 65) = (c.toNat : Int) + 32 := by
          unfold IntKind.wrap; simp [IntKind.bits, IntKind.signed]; omega
        clear hl
        go_wp2_with fail
        go_roundg (s.size - (k + 1))
        case measure => omega
        case rel =>
          refine ⟨k + 1, by omega, by go_num, fun j hj => ?_, fun j hj => ?_, Below.setCell hbel.out (p := ⟨g, k, none⟩) (Nat.le_of_eq HG.out.symm) _⟩
          · by_cases e : j = k
            · subst e
              rw [HM1.out, HL.out]
              exact World.cell?_setCell_same _ _ _ d0
            · rw [HMO.out j e, World.cell?_setCell_other _ _ _ _ (fun h => by injection h with _ h2; exact e (by omega))]
              exact hc.out j hj
          · rw [World.frozen?_setCell]; exact hf.out j hj
      · have hl := lowB_no hup
        rw [not_and] at hup
        by_cases u0 : (65 : Int) ≤ (c.toNat : Int)
        · have u1 : ¬ (c.toNat : Int) ≤ 90 := by have := hup (by omega); omega
          have HL := Lib.hid hl
          clear hl
          go_wp2_with fail
          go_roundg (s.size - (k + 1))
          case measure => omega
          case rel =>
            refine ⟨k + 1, by omega, by go_num, fun j hj => ?_, hf, hbel⟩
            by_cases e : j = k
            · subst e; rw [HM1.out, HL.out, ← HM.out]; exact hc.out j hj
            · rw [HMO.out j e]; exact hc.out j hj
        · have HL := Lib.hid hl
          clear hl
          go_wp2_with fail
          go_roundg (s.size - (k + 1))
          case measure => omega
          case rel =>
            refine ⟨k + 1, by omega, by go_num, fun j hj => ?_, hf, hbel⟩
            by_cases e : j = k
            · subst e; rw [HM1.out, HL.out, ← HM.out]; exact hc.out j hj
            · rw [HMO.out j e]; exact hc.out j hj
    · obtain rfl : k = s.size := by omega
      have hback := run_convert_bytes_back (P := Try.prog) wr 73 9 5 ⟨g, 0, none⟩ cap (low s).data.toList Try.underlying73 Try.underlying5 Try.underlying9 (fun j hj => by
        have hj' : j < s.size := by rw [← low_size s]; exact hj
        rw [Addr.add_lit, Nat.zero_add, hc.out j hj']
        congr 2
        unfold mid
        rw [if_pos hj']
        have : j < s.data.toList.length := by simpa using hj'
        simp [low, List.getD_eq_getElem?_getD, List.getElem?_eq_getElem this])
      have hlen : (low s).data.toList.length = s.size := by rw [← low_size s]; rfl
      rw [hlen, show (⟨(low s).data.toList.toArray⟩ : ByteArray) = low s from rfl] at hback
      clear hlen hc hf
      go_wp2_with fail
      go_ret
      exact ⟨rfl, hbel.out⟩
end Go.Proofs.Ytpkpnmfcjoheoaa
