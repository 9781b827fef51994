/-
  DERIVED. The walk of text.Diff. Conditions: the lengths are within the form's reach. By an AI agent.
-/
import Derived.Test.YtcbmddgafkoooaaDoorDiffMath
import Derived.Test.YtcbmddgafkoooaaDoorChecked
import Derived.Deep.QuietTactic
import Derived.BigQuiet
import Derived.WalkSpells
namespace Go.Proofs.YtcbmddgafkoooaaDoor
open Go.RowKit

theorem diff_end {a b : ByteArray} {k p q : Nat} (hk : k = cp a b) (hp : p = a.size - sf a b) (hq : q = b.size - sf a b) :
    Ending.returned (.agg #[.int .i64 (k : Nat), .int .i64 (p : Nat), .string (b.extract k q)]) = .returned (diffV a b) := by
  subst hk hp hq
  rfl

set_option maxHeartbeats 4000000 in
set_option maxRecDepth 100000 in
theorem diff_any (a b : ByteArray) (w : World) (ha : a.size ≤ 140737488351232) (hb : b.size ≤ 140737488351232) :
    Calls Tryd.prog 16 #[.string a, .string b] w fun e w' => e = .returned (diffV a b) ∧ Below w.heap.size w w' := by
  go_enter Tryd.func16, Tryd.ntmps16
  go_wp2
  go_loopw [5] (fun i wr => ∃ k : Nat, k ≤ a.size ∧ k ≤ b.size ∧ i = .int .i64 k ∧ cpN a b (a.size - k) k = cp a b ∧ Below w.heap.size w wr ∧ w.heap.size < wr.heap.size ∧ Blk wr w.heap.size 32 #[.int .i64 0, .int .i64 0, .string ⟨#[]⟩]) (fun i _ => a.size - (intOf i).toNat)
  case atStart => exact ⟨0, Nat.zero_le _, Nat.zero_le _, rfl, rfl, (Below.refl _ _).alloc (Nat.le_refl _) _, by simp, Blk.new _ _ _⟩
  case round =>
    obtain ⟨k, hk, hkb, rfl, hcp, hbel, hsz, hblk⟩ := hrel
    have HC := Lib.hid hcp
    clear hcp
    have i0 : (0 : Int) ≤ (k : Int) := by omega
    have ways : (∃ (h1 : k < a.size) (h2 : k < b.size), ((((a[k]).toNat : Int)) == ((b[k]).toNat : Int)) = true) ∨ (¬ k < a.size ∧ k = cp a b) ∨ (k < a.size ∧ ¬ k < b.size ∧ k = cp a b) ∨ (∃ (h1 : k < a.size) (h2 : k < b.size), ((((a[k]).toNat : Int)) == ((b[k]).toNat : Int)) = false ∧ k = cp a b) := by
      by_cases h1 : k < a.size
      · by_cases h2 : k < b.size
        · cases hq : ((((a[k]).toNat : Int)) == ((b[k]).toNat : Int))
          · exact .inr (.inr (.inr ⟨h1, h2, hq, by rw [← HC.out, cpN_no (eqAt_no h1 h2 hq)]⟩))
          · exact .inl ⟨h1, h2, hq⟩
        · exact .inr (.inr (.inl ⟨h1, h2, by rw [← HC.out, cpN_no (eqAt_out (by omega))]⟩))
      · exact .inr (.inl ⟨h1, by rw [← HC.out, cpN_no (eqAt_out (by omega))]⟩)
    rcases ways with ⟨hlt, hltb, hq⟩ | ways
    · have i1 : (k : Int) < (a.size : Int) := by omega
      have i2 : (k : Int) < (b.size : Int) := by omega
      have H1 := Lib.hid ((cpN_yes hlt (eqAt_yes hlt hltb hq)).trans HC.out)
      go_wp2
      go_quiet (fail)
      go_wp2
      go_roundw
      case rel => exact ⟨k + 1, by omega, by omega, by go_num, H1.out, bdrew hbel _, hsz, hblk.drewN _⟩
      case measure => simp [intOf]; omega
    · have hkc : k = cp a b := by rcases ways with ⟨_, h⟩ | ⟨_, _, h⟩ | ⟨_, _, _, h⟩ <;> exact h
      have HK := Lib.hid hkc
      clear hkc
      rcases ways with ⟨h1, h9⟩ | ⟨h1, h2, h9⟩ | ⟨h1, h2, h3, h9⟩
      all_goals
        clear h9
        try have i1 : (k : Int) < (a.size : Int) := by omega
        try have i2 : (k : Int) < (b.size : Int) := by omega
        go_wp2
        go_quiet (fail)
        go_wp2
        obtain ⟨wo, hwo⟩ : ∃ wo : World, wo = wr := ⟨_, rfl⟩
        subst hwo
        clear HC
        try clear h3
        try clear i1
        try clear i2
        try clear h2
        clear h1
        go_loopw [6, 7] (fun x y wr => ∃ n p q : Nat, x = .int .i64 p ∧ y = .int .i64 q ∧ Hid (p + n = a.size) ∧ Hid (q + n = b.size) ∧ k ≤ p ∧ k ≤ q ∧ p ≤ a.size ∧ q ≤ b.size ∧ Hid (sfN a b k (a.size - n) n = sf a b) ∧ Below w.heap.size w wr ∧ w.heap.size < wr.heap.size ∧ Blk wr w.heap.size 32 #[.int .i64 0, .int .i64 0, .string ⟨#[]⟩]) (fun x _ _ => (intOf x).toNat)
        case atStart => exact ⟨0, a.size, b.size, rfl, rfl, rfl, rfl, hk, hkb, Nat.le_refl _, Nat.le_refl _, by rw [HK.out]; rfl, bdrew hbel _, hsz, hblk.drewN _⟩
        case round =>
          clear hbel hsz hblk
          obtain ⟨n, p, q, rfl, rfl, hp, hq, hkp, hkq, hpa, hqb, hsf, hbel, hsz, hblk⟩ := hrel
          have ways2 : (∃ p' q', p = p' + 1 ∧ q = q' + 1 ∧ k ≤ p' ∧ k ≤ q' ∧ ∃ (h1 : p' < a.size) (h2 : q' < b.size), ((((a[p']).toNat : Int)) == ((b[q']).toNat : Int)) = true) ∨ p ≤ k ∨ (k < p ∧ q ≤ k) ∨
              (∃ p' q', p = p' + 1 ∧ q = q' + 1 ∧ k ≤ p' ∧ k ≤ q' ∧ ∃ (h1 : p' < a.size) (h2 : q' < b.size), ((((a[p']).toNat : Int)) == ((b[q']).toNat : Int)) = false) := by
            by_cases h1 : k < p
            · by_cases h2 : k < q
              · obtain ⟨p', rfl⟩ : ∃ p', p = p' + 1 := ⟨p - 1, by omega⟩
                obtain ⟨q', rfl⟩ : ∃ q', q = q' + 1 := ⟨q - 1, by omega⟩
                have h3 : p' < a.size := by omega
                have h4 : q' < b.size := by omega
                cases hq : ((((a[p']).toNat : Int)) == ((b[q']).toNat : Int))
                · exact .inr (.inr (.inr ⟨p', q', rfl, rfl, by omega, by omega, h3, h4, hq⟩))
                · exact .inl ⟨p', q', rfl, rfl, by omega, by omega, h3, h4, hq⟩
              · exact .inr (.inr (.inl ⟨h1, by omega⟩))
            · exact .inr (.inl (by omega))
          rcases ways2 with ⟨p', q', rfl, rfl, hkp', hkq', h3, h4, he⟩ | ways2
          · have hpo := hp.out
            have hqo := hq.out
            have H1 : Hid (sfN a b k (a.size - (n + 1)) (n + 1) = sf a b) := (sfN_yes (by omega) ⟨by omega, by omega, by rw [show a.size - 1 - n = p' by omega, show b.size - 1 - n = q' by omega]; exact eqAt_yes h3 h4 he⟩).trans hsf.out
            clear hpo hqo
            have g1 : (0 : Int) ≤ (p' : Int) := by omega
            have g2 : (p' : Int) < (a.size : Int) := by omega
            have g3 : (0 : Int) ≤ (q' : Int) := by omega
            have g4 : (q' : Int) < (b.size : Int) := by omega
            have d1 : decide ((k : Int) < (p' : Int) + 1) = true := by simp; omega
            have d2 : decide ((k : Int) < (q' : Int) + 1) = true := by simp; omega
            go_wp2
            go_quiet (fail)
            go_wp2
            go_roundw
            case rel => exact ⟨n + 1, p', q', by go_num, by go_num, by have := hp.out; show _ = _; omega, by have := hq.out; show _ = _; omega, by omega, by omega, by omega, by omega, H1, bdrew hbel _, hsz, hblk.drewN _⟩
            case measure => simp [intOf]
          · have hn : n = sf a b := by
              have hpo := hp.out
              have hqo := hq.out
              rw [← hsf.out, sfN_no]
              rintro ⟨e1, e2, e3⟩
              rcases ways2 with h | ⟨_, h⟩ | ⟨p', q', rfl, rfl, _, _, h3, h4, he⟩
              · omega
              · omega
              · rw [show a.size - 1 - n = p' by omega, show b.size - 1 - n = q' by omega, eqAt_no h3 h4 he] at e3
                cases e3
            have HN := Lib.hid hn
            clear hn hsf
            have c0 := hblk.cell 0
            have c1 := hblk.cell 1
            have c2 := hblk.cell 2
            have f0 := hblk.frozen 0
            have f1 := hblk.frozen 1
            have f2 := hblk.frozen 2
            clear hblk
            rcases ways2 with h | ⟨h, h'⟩ | ⟨p', q', rfl, rfl, hkp', hkq', h3, h4, he⟩
            · have d1 : decide (k < p) = false := by simp; omega
              go_wp2
              go_quiet (fail)
              go_wp2
              refine bodyPost_ret (v := .agg #[.int .i64 (k : Nat), .int .i64 (p : Nat), .string (b.extract k (q))]) (by simp [results, Tryd.results16, go_sem, c0, c1, c2]) rfl ⟨diff_end HK.out (by have := hp.out; have := HN.out; omega) (by have := hq.out; have := HN.out; omega), ?_⟩
              exact (((bdrew hbel _).setCell (Nat.le_refl _) _).setCell (Nat.le_refl _) _).setCell (Nat.le_refl _) _
            · have d1 : decide (k < q) = false := by simp; omega
              go_wp2
              go_quiet (fail)
              go_wp2
              refine bodyPost_ret (v := .agg #[.int .i64 (k : Nat), .int .i64 (p : Nat), .string (b.extract k (q))]) (by simp [results, Tryd.results16, go_sem, c0, c1, c2]) rfl ⟨diff_end HK.out (by have := hp.out; have := HN.out; omega) (by have := hq.out; have := HN.out; omega), ?_⟩
              exact (((bdrew hbel _).setCell (Nat.le_refl _) _).setCell (Nat.le_refl _) _).setCell (Nat.le_refl _) _
            · have d1 : decide ((k : Int) < (p' : Int) + 1) = true := by simp; omega
              have d2 : decide ((k : Int) < (q' : Int) + 1) = true := by simp; omega
              have g1 : (0 : Int) ≤ (p' : Int) := by omega
              have g2 : (p' : Int) < (a.size : Int) := by omega
              have g3 : (0 : Int) ≤ (q' : Int) := by omega
              have g4 : (q' : Int) < (b.size : Int) := by omega
              go_wp2
              go_quiet (fail)
              go_wp2
              refine bodyPost_ret (v := .agg #[.int .i64 (k : Nat), .int .i64 (p' + 1 : Nat), .string (b.extract k (q' + 1))]) (by simp [results, Tryd.results16, go_sem, c0, c1, c2]) rfl ⟨diff_end HK.out (by have := hp.out; have := HN.out; omega) (by have := hq.out; have := HN.out; omega), ?_⟩
              exact (((bdrew hbel _).setCell (Nat.le_refl _) _).setCell (Nat.le_refl _) _).setCell (Nat.le_refl _) _
end Go.Proofs.YtcbmddgafkoooaaDoor
