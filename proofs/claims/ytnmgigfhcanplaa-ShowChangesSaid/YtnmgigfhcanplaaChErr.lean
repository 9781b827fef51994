/-
  DERIVED. The walk of florref1.FilesError at two lists of files. Conditions: none. By an AI agent.
-/
import Derived.Test.YtnmgigfhcanplaaChFiles
namespace Go.Proofs.Ytnmgigfhcanplaa
open Go.RowKit

open Classical in
/-- what FilesError says of two lists -/
noncomputable def filesErr (L1 L2 : List F) : Int := if 500 < L1.length ∨ 500 < L2.length then 4 else if okF L1 ∧ okF L2 then 0 else 5

set_option maxHeartbeats 4000000 in
set_option maxRecDepth 100000 in
theorem filesError_any (g : Nat) (A1 A2 : Option Addr) (c1 c2 : Nat) (L1 L2 : List F) (w : World) (B : Nat) (h0 : w.cell? ⟨g, 0, none⟩ = some (.slice A1 L1.length c1)) (h1 : w.cell? ⟨g, 1, none⟩ = some (.slice A2 L2.length c2))
    (hr1 : Reads w B 2 A1 L1.length (rowsF L1)) (hr2 : Reads w B 2 A2 L2.length (rowsF L2)) (hB : B ≤ w.heap.size) (hg : g < w.heap.size) :
    Calls Try.prog 5 #[.slice (some ⟨g, 0, none⟩) 2 2] w fun e w' => e = .returned (.int .i64 (filesErr L1 L2)) ∧ Below w.heap.size w w' := by
  have hsel : ∀ k, k < 2 → ∃ (A' : Option Addr) (c' : Nat) (L' : List F), w.cell? ⟨g, k, none⟩ = some (.slice A' L'.length c') ∧ Reads w B 2 A' L'.length (rowsF L') ∧ ((k = 0 ∧ L' = L1) ∨ (k = 1 ∧ L' = L2)) := fun k hk => by
    rcases k with _ | _ | k
    · exact ⟨A1, c1, L1, h0, hr1, .inl ⟨rfl, rfl⟩⟩
    · exact ⟨A2, c2, L2, h1, hr2, .inr ⟨rfl, rfl⟩⟩
    · omega
  have HS := Lib.hid hsel
  clear hsel h0 h1 hr1 hr2
  go_enter Try.func5, Try.ntmps5
  go_wp2_with fail
  go_loopg [10] 2 (fun gg s10 wr => ∃ k : Nat, k + gg = 2 ∧ s10 = .int .i64 (k : Int) ∧ Hid (0 < k → L1.length ≤ 500) ∧ Hid (1 < k → L2.length ≤ 500) ∧ Below w.heap.size w wr)
  case atStart => exact ⟨0, by omega, rfl, fun h => absurd h (by omega), fun h => absurd h (by omega), Below.refl _ _⟩
  case round =>
    obtain ⟨k, hkg, rfl, q1, q2, hbel⟩ := hrel
    by_cases hk : k < 2
    · obtain ⟨A', c', L', hc, hr', hL⟩ := HS.out k hk
      have d0 := (hbel.cell (p := ⟨g, k, none⟩) hg).trans hc
      obtain ⟨n, hn⟩ : ∃ n, n = L'.length := ⟨_, rfl⟩
      rw [← hn] at d0
      have HL := Lib.hid hL
      have HN := Lib.hid hn
      have HR := Lib.hid hr'
      have i1 : (k : Int) < 2 := by omega
      have i0 : (0 : Int) ≤ (k : Int) := by omega
      clear hc hr' hL hn
      by_cases h5 : 500 < n
      · have j1 : (500 : Int) < (n : Int) := by omega
        have he : filesErr L1 L2 = 4 := by
          unfold filesErr
          rw [if_pos]
          rcases HL.out with ⟨_, e⟩ | ⟨_, e⟩
          · exact .inl (by rw [← e, ← HN.out]; exact h5)
          · exact .inr (by rw [← e, ← HN.out]; exact h5)
        have HE := Lib.hid he
        clear he
        go_wp2_with fail
        go_ret
        exact ⟨by rw [HE.out]; rfl, hbel⟩
      · have j1 : ¬ (500 : Int) < (n : Int) := by omega
        have R : Hid ((0 < k + 1 → L1.length ≤ 500) ∧ (1 < k + 1 → L2.length ≤ 500)) := by
          rcases HL.out with ⟨e0, e⟩ | ⟨e0, e⟩
          · exact ⟨fun _ => by rw [← e, ← HN.out]; omega, fun h => absurd h (by omega)⟩
          · exact ⟨fun _ => q1.out (by omega), fun _ => by rw [← e, ← HN.out]; omega⟩
        go_wp2_with fail
        go_roundg (2 - (k + 1))
        case measure => omega
        case rel => exact ⟨k + 1, by omega, by go_num, R.out.1, R.out.2, hbel⟩
    · obtain rfl : k = 2 := by omega
      have QL : Hid (L1.length ≤ 500 ∧ L2.length ≤ 500) := ⟨q1.out (by omega), q2.out (by omega)⟩
      have HB0 := Lib.hid hbel
      clear q1 q2 hbel
      obtain ⟨wo, rfl⟩ : ∃ wo : World, wo = wr := ⟨_, rfl⟩
      go_wp2_with fail
      go_loopg [20] 2 (fun gg s20 wr => ∃ k : Nat, k + gg = 2 ∧ s20 = .int .i64 (k : Int) ∧ Hid (0 < k → okF L1) ∧ Hid (1 < k → okF L2) ∧ Below w.heap.size w wr)
      case atStart => exact ⟨0, by omega, rfl, fun h => absurd h (by omega), fun h => absurd h (by omega), HB0.out⟩
      case round =>
        obtain ⟨k, hkg, rfl, q1, q2, hbel⟩ := hrel
        by_cases hk : k < 2
        · obtain ⟨A', c', L', hc, hr', hL⟩ := HS.out k hk
          have d0 := (hbel.cell (p := ⟨g, k, none⟩) hg).trans hc
          have hn5 : L'.length ≤ 500 := by
            rcases hL with ⟨_, e⟩ | ⟨_, e⟩
            · rw [e]; exact QL.out.1
            · rw [e]; exact QL.out.2
          obtain ⟨n, hn⟩ : ∃ n, n = L'.length := ⟨_, rfl⟩
          rw [← hn] at d0 hn5
          have HL := Lib.hid hL
          have HN := Lib.hid hn
          have HR := Lib.hid hr'
          have HB1 := Lib.hid hbel
          have i1 : (k : Int) < 2 := by omega
          have i0 : (0 : Int) ≤ (k : Int) := by omega
          clear hc hr' hL hn hbel
          obtain ⟨wi, rfl⟩ : ∃ wi : World, wi = wr := ⟨_, rfl⟩
          go_wp2_with fail
          go_loopg [26] n (fun gg s26 wr => ∃ i : Nat, i + gg = n ∧ s26 = .int .i64 (i : Int) ∧ Hid (∀ j (h : j + 1 < L'.length), j + 1 < i → bl L'[j].1 L'[j + 1].1 = true) ∧ Below w.heap.size w wr)
          case atStart => exact ⟨0, by omega, rfl, fun j _ h => absurd h (by omega), HB1.out⟩
          case round =>
            obtain ⟨i, hig, rfl, hok, hbel⟩ := hrel
            by_cases hi : i < n
            · have i3 : (i : Int) < (n : Int) := by omega
              rcases i with _ | i
              · have z1 : (0 : Int) < (n : Int) := by omega
                go_wp2
                go_quiet (fail)
                go_wp2
                go_roundg (n - 1)
                case measure => omega
                case rel => exact ⟨1, by omega, by go_num, fun j _ h => absurd h (by omega), bdrew hbel _⟩
              · have hil : i + 1 < L'.length := by rw [← HN.out]; exact hi
                obtain ⟨ad, rfl, hab, c0, _c1⟩ := HR.out.file hil
                obtain ⟨ad', e', _, c2, _c3⟩ := HR.out.file (k := i) (by omega)
                injection e' with e'
                subst e'
                have d1 := (hbel.cell (p := ad.add ((i + 1) * 2)) (by rw [block_of_add]; omega)).trans c0
                have d2 := (hbel.cell (p := ad.add (i * 2)) (by rw [block_of_add]; omega)).trans c2
                obtain ⟨p, hp⟩ : ∃ p, p = L'[i + 1].1 := ⟨_, rfl⟩
                obtain ⟨q, hq⟩ : ∃ q, q = L'[i].1 := ⟨_, rfl⟩
                rw [← hp] at d1
                rw [← hq] at d2
                have HP := Lib.hid hp
                have HQ := Lib.hid hq
                have hle := leq_bl p q
                rw [show ((i + 1 : Nat) : Int) = (i : Int) + 1 by omega] at i3 ⊢
                have g1 : (0 : Int) < (i : Int) + 1 := by omega
                have i4 : (0 : Int) ≤ (i : Int) + 1 := by omega
                have i2 : (0 : Int) ≤ (i : Int) := by omega
                have i5 : (i : Int) < (n : Int) := by omega
                have t1 : ((i : Int) + 1).toNat = i + 1 := by omega
                clear c0 _c1 c2 _c3 hp hq
                cases hb : bl q p
                · rw [hb] at hle
                  have hno : ¬ okF L' := fun h => by
                    have := h i hil
                    rw [← HP.out, ← HQ.out, hb] at this; cases this
                  have he : filesErr L1 L2 = 5 := by
                    unfold filesErr
                    rw [if_neg (by have := QL.out; omega), if_neg]
                    rintro ⟨o1, o2⟩
                    rcases HL.out with ⟨_, e⟩ | ⟨_, e⟩
                    · rw [e] at hno; exact hno o1
                    · rw [e] at hno; exact hno o2
                  have HE := Lib.hid he
                  clear he hb hno
                  go_wp2
                  go_quiet (fail)
                  go_wp2
                  go_ret
                  exact ⟨by rw [HE.out]; rfl, bdrew hbel _⟩
                · rw [hb] at hle
                  have HBB := Lib.hid hb
                  clear hb
                  go_wp2
                  go_quiet (fail)
                  go_wp2
                  go_roundg (n - (i + 2))
                  case measure => omega
                  case rel =>
                    refine ⟨i + 2, by omega, by go_num, ?_, bdrew hbel _⟩
                    intro j hj hjk
                    by_cases e : j = i
                    · subst e; rw [← HP.out, ← HQ.out]; exact HBB.out
                    · exact hok.out j hj (by omega)
            · have hall : okF L' := fun j hj => hok.out j hj (by rw [← HN.out] at hj; omega)
              have R : Hid ((0 < k + 1 → okF L1) ∧ (1 < k + 1 → okF L2)) := by
                rcases HL.out with ⟨e0, e⟩ | ⟨e0, e⟩
                · exact ⟨fun _ => by rw [← e]; exact hall, fun h => absurd h (by omega)⟩
                · exact ⟨fun _ => q1.out (by omega), fun _ => by rw [← e]; exact hall⟩
              clear hall
              go_wp2_with fail
              go_roundg (2 - (k + 1))
              case measure => omega
              case rel => exact ⟨k + 1, by omega, by go_num, R.out.1, R.out.2, hbel⟩
        · have he : filesErr L1 L2 = 0 := by
            unfold filesErr
            rw [if_neg (by have := QL.out; omega), if_pos ⟨q1.out (by omega), q2.out (by omega)⟩]
          have HE := Lib.hid he
          clear he
          go_wp2_with fail
          go_ret
          exact ⟨by rw [HE.out]; rfl, hbel⟩
end Go.Proofs.Ytnmgigfhcanplaa
