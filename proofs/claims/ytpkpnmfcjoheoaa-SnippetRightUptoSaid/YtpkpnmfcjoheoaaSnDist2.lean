/-
  DERIVED. The walk of find.Distance: some number and some answer come back, memory stays; find.Near. Conditions: sizes. By an AI agent.
-/
import Derived.Test.YtpkpnmfcjoheoaaSnDist
namespace Go.Proofs.Ytpkpnmfcjoheoaa
open Go.RowKit

/-- the three rows, the boxes and what lay before -/
def DRel (w wr : World) (b : ByteArray) (far : Int) (n g10 g11 g12 : Nat) : Prop := Row wr g10 n ∧ Row wr g11 n ∧ Row wr g12 n ∧ w.heap.size + 2 ≤ g10 ∧ w.heap.size + 2 ≤ g11 ∧ w.heap.size + 2 ≤ g12 ∧ wr.cell? ⟨w.heap.size, 0, none⟩ = some (.string b) ∧ wr.cell? ⟨w.heap.size + 1, 0, none⟩ = some (.int .i64 far) ∧ Below w.heap.size w wr
section
variable {w wr : World} {b : ByteArray} {far : Int} {n g10 g11 g12 : Nat}
theorem DRel.set_ (h : DRel w wr b far n g10 g11 g12) (i : Nat) (z : Int) : DRel w (wr.setCell ⟨g12, i, none⟩ (.int .i64 z)) b far n g10 g11 g12 := by
  obtain ⟨h1, h2, h3, h4, h5, h6, h7, h8, h9⟩ := h
  exact ⟨h1.set_ _ _ _, h2.set_ _ _ _, h3.set_ _ _ _, h4, h5, h6, (World.cell?_setCell_other _ _ _ _ (fun e => by injection e with e; omega)).trans h7, (World.cell?_setCell_other _ _ _ _ (fun e => by injection e with e; omega)).trans h8, h9.setCell (p := ⟨g12, i, none⟩) (by show w.heap.size ≤ g12; omega) _⟩
theorem DRel.rot (h : DRel w wr b far n g10 g11 g12) : DRel w wr b far n g11 g12 g10 := by
  obtain ⟨h1, h2, h3, h4, h5, h6, h7⟩ := h
  exact ⟨h2, h3, h1, h5, h6, h4, h7⟩
theorem DRel.drewN (h : DRel w wr b far n g10 g11 g12) (m : Nat) : DRel w (wr.drewN m) b far n g10 g11 g12 := by
  obtain ⟨h1, h2, h3, h4, h5, h6, h7, h8, h9⟩ := h
  exact ⟨h1, h2, h3, h4, h5, h6, h7, h8, bdrew h9 m⟩
end

def DistP (w : World) (e : Ending) (w' : World) : Prop := ∃ d k, e = .returned (.tuple #[.int .i64 d, .bool k]) ∧ Below w.heap.size w w'

set_option maxRecDepth 100000 in
set_option maxHeartbeats 4000000 in
theorem distance_any (a b : ByteArray) (mo : Nat) (w : World) (hm : mo ≤ 4294967280) (hsa : a.size ≤ 4294967280) (hsb : b.size ≤ 4294967280) :
    Calls Try.prog 43 #[.string a, .string b, .int .i64 mo] w (DistP w) := by
  by_cases hfar : (mo : Int) < (a.size : Int) - (b.size : Int) ∨ (mo : Int) < (b.size : Int) - (a.size : Int)
  · have m0 : decide ((mo : Int) < 0) = false := decide_eq_false (by omega)
    by_cases h1 : (mo : Int) < (a.size : Int) - (b.size : Int)
    · clear hfar
      go_enter Try.func43, Try.ntmps43
      go_wp2_with fail
      go_ret2
      exact ⟨_, _, rfl, (Below.refl _ _).alloc (Nat.le_refl _) _⟩
    · have h2 : (mo : Int) < (b.size : Int) - (a.size : Int) := by omega
      clear hfar
      go_enter Try.func43, Try.ntmps43
      go_wp2_with fail
      go_ret2
      exact ⟨_, _, rfl, (Below.refl _ _).alloc (Nat.le_refl _) _⟩
  · have h1 : ¬ (mo : Int) < (a.size : Int) - (b.size : Int) := by omega
    have h2 : ¬ (mo : Int) < (b.size : Int) - (a.size : Int) := by omega
    clear hfar
    obtain ⟨M, hM, hMm⟩ : ∃ M : Nat, min (mo : Int) (max (a.size : Int) (b.size : Int)) = (M : Int) ∧ M ≤ mo := ⟨min mo (max a.size b.size), by omega, by omega⟩
    have m0 : decide ((mo : Int) < 0) = false := decide_eq_false (by omega)
    obtain ⟨n, hn⟩ : ∃ n, n = b.size + 1 := ⟨_, rfl⟩
    have HROW : Hid (∀ W far, w.heap.size + 1 < W.heap.size → W.cell? ⟨w.heap.size, 0, none⟩ = some (.string b) → W.cell? ⟨w.heap.size + 1, 0, none⟩ = some (.int .i64 far) → Calls Try.prog 47 #[.pointer (some ⟨w.heap.size, 0, none⟩), .pointer (some ⟨w.heap.size + 1, 0, none⟩)] W fun e w' => ∃ g, e = .returned (.slice (some ⟨g, 0, none⟩) n n) ∧ W.heap.size ≤ g ∧ Row w' g n ∧ Below W.heap.size W w') := by
      intro W far h1 h2 h3
      rw [hn]
      exact row_any b far _ _ W hsb (by omega) h1 h2 h3
    have HN := Lib.hid hn
    clear hn
    go_enter Try.func43, Try.ntmps43
    go_wp2_with fail
    have hbox : ∀ far : Int, Blk ((w.alloc (.cells #[.string b] 9)).alloc (.cells #[.int .i64 far] 3)) (w.heap.size + 1) 3 #[.int .i64 far] := fun far => by
      have := Blk.new (w.alloc (.cells #[.string b] 9)) 3 #[.int .i64 far]
      simpa using this
    have cB0 : ∀ o, ((w.alloc (.cells #[.string b] 9)).alloc o).cell? ⟨w.heap.size, 0, none⟩ = some (.string b) := fun o => ((Blk.new w 9 #[.string b]).alloc o).cell 0
    refine (HROW.out _ _ (by simp) (cB0 _) ((hbox _).cell 0)).mono ?_
    rintro e w1 ⟨ga, rfl, hga, hra, hb1⟩
    have hz1 := hb1.size
    simp only [World.size_alloc] at hz1 hga
    have cB1 := (hb1.cell (p := ⟨w.heap.size, 0, none⟩) (by simp; omega)).trans (cB0 _)
    have cF1 := (hb1.cell (p := ⟨w.heap.size + 1, 0, none⟩) (by simp)).trans ((hbox _).cell 0)
    have HB1 : Hid (Below w.heap.size w w1) := (((Below.refl w.heap.size w).alloc (Nat.le_refl _) _).alloc (by simp) _).trans (hb1.mono (by simp; omega))
    clear hb1 hbox cB0
    go_wp2_with fail
    refine (HROW.out w1 _ (by omega) cB1 cF1).mono ?_
    rintro e w2 ⟨gb, rfl, hgb, hrb, hb2⟩
    have hz2 := hb2.size
    have cB2 := (hb2.cell (p := ⟨w.heap.size, 0, none⟩) (by show w.heap.size < _; omega)).trans cB1
    have cF2 := (hb2.cell (p := ⟨w.heap.size + 1, 0, none⟩) (by show w.heap.size + 1 < _; omega)).trans cF1
    have HB2 : Hid (Below w.heap.size w w2) := HB1.out.trans (hb2.mono (by omega))
    have hra2 := hra.below hb2 hra.lt
    clear hb2 cB1 cF1 hra
    go_wp2_with fail
    refine (HROW.out w2 _ (by omega) cB2 cF2).mono ?_
    rintro e w3 ⟨gc, rfl, hgc, hrc, hb3⟩
    have hz3 := hb3.size
    have cB3 := (hb3.cell (p := ⟨w.heap.size, 0, none⟩) (by show w.heap.size < _; omega)).trans cB2
    have cF3 := (hb3.cell (p := ⟨w.heap.size + 1, 0, none⟩) (by show w.heap.size + 1 < _; omega)).trans cF2
    have HD3 : Hid (DRel w w3 b ((M : Int) + 1) n ga gb gc) := ⟨hra2.below hb3 hra2.lt, hrb.below hb3 hrb.lt, hrc, by omega, by omega, by omega, cB3, cF3, HB2.out.trans (hb3.mono (by omega))⟩
    clear hb3 cB2 cF2 hra2 hrb hrc HROW
    obtain ⟨N1, hN1, hN1b⟩ : ∃ N1 : Nat, min (b.size : Int) (M : Int) = (N1 : Int) ∧ N1 ≤ b.size := ⟨min b.size M, by omega, by omega⟩
    go_wp2_with fail
    clear cF3 cB3
    go_loopg [13, 61] (N1 + 1) (fun gg s13 s61 wr => ∃ k : Nat, k + gg = N1 + 1 ∧ s61 = .int .i64 (k : Int) ∧ Hid (DRel w wr b ((M : Int) + 1) n ga gb gc))
    case atStart => exact ⟨0, by omega, rfl, HD3⟩
    case round =>
      obtain ⟨k, hkg, rfl, hD⟩ := hrel
      have j0 : (0 : Int) ≤ (k : Int) := by omega
      by_cases hk : k < N1 + 1
      · have hnn := HN.out
        have j1 : (k : Int) < (N1 : Int) + 1 := by omega
        have j2 : (k : Int) < (n : Int) := by omega
        obtain ⟨z, c0, f0⟩ := hD.out.2.2.1.cell (j := k) (by omega)
        clear hnn
        go_wp2_with fail
        go_roundg (N1 + 1 - (k + 1))
        case measure => omega
        case rel => exact ⟨k + 1, by omega, by go_num, hD.out.set_ _ _⟩
      · have j1 : ¬ (k : Int) < (N1 : Int) + 1 := by omega
        have HD := hD
        clear hD hN1 HD3
        obtain ⟨W3, hW3⟩ : ∃ W3, W3 = wr := ⟨_, rfl⟩
        rw [← hW3] at HD ⊢
        clear hW3
        go_wp2_with fail
        go_loopg [10, 11, 12, 14, 15, 16, 17, 18] a.size (fun gg s10 s11 s12 s14 s15 s16 s17 s18 wx => ∃ i g10 g11 g12 : Nat, 1 ≤ i ∧ i + gg = a.size + 1 ∧ s14 = .int .i64 (i : Int) ∧ s10 = .slice (some ⟨g10, 0, none⟩) n n ∧ s11 = .slice (some ⟨g11, 0, none⟩) n n ∧ s12 = .slice (some ⟨g12, 0, none⟩) n n ∧ Hid (DRel w wx b ((M : Int) + 1) n g10 g11 g12))
        case atStart => exact ⟨1, ga, gb, gc, by omega, by omega, rfl, rfl, rfl, rfl, HD⟩
        case round =>
          obtain ⟨i, g10, g11, g12, hi1, hig, rfl, rfl, rfl, rfl, hD⟩ := hrel
          by_cases hi : i ≤ a.size
          · have j5 : (i : Int) ≤ (a.size : Int) := by omega
            have cB := hD.out.2.2.2.2.2.2.1
            obtain ⟨lo, hlo, hlo2⟩ : ∃ lo : Nat, max 0 ((i : Int) - (M : Int)) = (lo : Int) ∧ lo ≤ i := ⟨i - M, by omega, by omega⟩
            obtain ⟨hh, hhi, hhi2⟩ : ∃ hh : Nat, min (b.size : Int) ((i : Int) + (M : Int)) = (hh : Int) ∧ hh ≤ b.size := ⟨min b.size (i + M), by omega, by omega⟩
            obtain ⟨l1, hl1, hl2⟩ : ∃ l1 : Nat, max 0 ((lo : Int) - 1) = (l1 : Int) ∧ l1 ≤ lo := ⟨lo - 1, by omega, by omega⟩
            have V1 : IntKind.i64.wrap ((i : Int) - (M : Int)) = (i : Int) - (M : Int) := IntWalk.i64_in _ (by omega)
            have V2 : IntKind.i64.wrap ((i : Int) + (M : Int)) = (i : Int) + (M : Int) := IntWalk.i64_in _ (by omega)
            go_wp2_with fail
            go_quiet (fail)
            clear V1 V2 hlo hhi
            go_wp2_with fail
            clear hl1
            have HDr := Lib.hid ((hD.out.drewN nq).rot)
            clear hD cB
            obtain ⟨W4, hW4⟩ : ∃ W4, W4 = wr.drewN nq := ⟨_, rfl⟩
            rw [← hW4] at HDr ⊢
            clear hW4
            go_loopg [17] (hh + 1) (fun g2 s17 wy => ∃ l : Nat, l + g2 ≤ hh + 1 + l ∧ hh + 1 ≤ l + g2 ∧ s17 = .int .i64 (l : Int) ∧ l ≤ hh + 1 + l1 ∧ Hid (DRel w wy b ((M : Int) + 1) n g11 g12 g10))
            case atStart => exact ⟨l1, by omega, by omega, rfl, by omega, HDr⟩
            case round =>
              obtain ⟨l, hlg0, hlg, rfl, hlb, hD⟩ := hrel
              have jl : (0 : Int) ≤ (l : Int) := by omega
              by_cases hl : l ≤ hh
              · have hnn := HN.out
                have y1 : (l : Int) ≤ (hh : Int) := by omega
                have y2 : (l : Int) < (n : Int) := by omega
                obtain ⟨z, c0, f0⟩ := hD.out.2.2.1.cell (j := l) (by omega)
                have cF := hD.out.2.2.2.2.2.2.2.1
                clear hnn
                go_wp2_with fail
                go_roundg (hh + 1 - (l + 1))
                case measure => omega
                case rel => exact ⟨l + 1, by omega, by omega, by go_num, by omega, hD.out.set_ _ _⟩
              · have y1 : ¬ (l : Int) ≤ (hh : Int) := by omega
                have HD5 := hD
                clear hD HDr
                obtain ⟨W5, hW5⟩ : ∃ W5, W5 = wr := ⟨_, rfl⟩
                rw [← hW5] at HD5 ⊢
                clear hW5
                go_wp2_with fail
                go_loopg [18] (hh + 1) (fun g3 s18 wz => ∃ c : Nat, c + g3 ≤ hh + 1 + c ∧ hh + 1 ≤ c + g3 ∧ s18 = .int .i64 (c : Int) ∧ c ≤ hh + 1 + lo ∧ Hid (DRel w wz b ((M : Int) + 1) n g11 g12 g10))
                case atStart => exact ⟨lo, by omega, by omega, rfl, by omega, HD5⟩
                case round =>
                  obtain ⟨c, hcg0, hcg, rfl, hcb, hD⟩ := hrel
                  have jc : (0 : Int) ≤ (c : Int) := by omega
                  by_cases hc : c ≤ hh
                  · have hnn := HN.out
                    have x1 : (c : Int) ≤ (hh : Int) := by omega
                    have x2 : (c : Int) < (n : Int) := by omega
                    obtain ⟨z, c0, f0⟩ := hD.out.2.2.1.cell (j := c) (by omega)
                    have cF := hD.out.2.2.2.2.2.2.2.1
                    have cB := hD.out.2.2.2.2.2.2.1
                    have HST : Hid (Calls Try.prog 48 #[.string a, .string b, .int .i64 i, .int .i64 c, .slice (some ⟨g11, 0, none⟩) n n, .slice (some ⟨g12, 0, none⟩) n n, .slice (some ⟨g10, 0, none⟩) n n, .int .i64 ((M : Int) + 1)] wr fun e w' => ∃ d m, e = .returned (.int .i64 d) ∧ w' = wr.drewN m) :=
                      step_any a b i c g11 g12 g10 n n n n ((M : Int) + 1) wr hnn hsa hsb hi1 hi (by omega) hD.out.1 hD.out.2.1 hD.out.2.2.1
                    clear hnn
                    go_wp2_with fail
                    refine HST.out.mono ?_
                    rintro e w6 ⟨d, m, rfl, rfl⟩
                    go_wp2_with fail
                    go_roundg (hh + 1 - (c + 1))
                    case measure => omega
                    case rel => exact ⟨c + 1, by omega, by omega, by go_num, by omega, (hD.out.drewN m).set_ _ _⟩
                  · have x1 : ¬ (c : Int) ≤ (hh : Int) := by omega
                    go_wp2_with fail
                    go_roundg (a.size - i)
                    case measure => omega
                    case rel => exact ⟨i + 1, g11, g12, g10, by omega, by omega, by go_num, rfl, rfl, rfl, hD⟩
          · have j5 : ¬ (i : Int) ≤ (a.size : Int) := by omega
            have hnn := HN.out
            have cB := hD.out.2.2.2.2.2.2.1
            obtain ⟨z, c0, f0⟩ := hD.out.2.2.1.cell (j := b.size) (by omega)
            have x2 : (b.size : Int) < (n : Int) := by omega
            clear hnn
            by_cases hz : z ≤ (M : Int)
            · go_wp2_with fail
              go_ret2
              exact ⟨_, _, rfl, hD.out.2.2.2.2.2.2.2.2⟩
            · go_wp2_with fail
              go_ret2
              exact ⟨_, _, rfl, hD.out.2.2.2.2.2.2.2.2⟩

set_option maxHeartbeats 1000000 in
theorem near_any (a b : ByteArray) (w : World) (hsa : a.size ≤ 4294967280) (hsb : b.size ≤ 4294967280) :
    Calls Try.prog 36 #[.string a, .string b] w fun e w' => (∃ k, e = .returned (.bool k)) ∧ Below w.heap.size w w' := by
  have HDI : Hid (∀ k : Nat, k ≤ 2 → ∀ W, Calls Try.prog 43 #[.string a, .string b, .int .i64 k] W (DistP W)) := fun k hk W => distance_any a b k W (by omega) hsa hsb
  go_enter Try.func36, Try.ntmps36
  go_wp2_with fail
  refine (slack_any a w hsa).mono ?_
  rintro e w1 ⟨k, hk, rfl, rfl⟩
  go_wp2_with fail
  refine (HDI.out k hk _).mono ?_
  rintro e w2 ⟨d, k2, rfl, hb⟩
  go_wp2_with fail
  go_ret
  exact ⟨⟨_, rfl⟩, hb⟩
end Go.Proofs.Ytpkpnmfcjoheoaa
