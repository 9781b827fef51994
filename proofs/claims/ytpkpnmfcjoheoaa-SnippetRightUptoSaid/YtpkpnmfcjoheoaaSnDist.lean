/-
  DERIVED. The walks of find.Distance and what it calls: some number and some answer come back, memory stays. Conditions: sizes. By an AI agent.
-/
import Derived.Test.YtpkpnmfcjoheoaaQrQuery
import Derived.Deep.DeepCutAuto
import Derived.Laws.MakeOwn
import Derived.IntWalk
namespace Go.Proofs.Ytpkpnmfcjoheoaa
open Go.RowKit

/-- a row of n ints in a block -/
def Row (W : World) (g n : Nat) : Prop := ∃ zs : List Int, zs.length = n ∧ Blk W g 3 (zs.map (Value.int .i64)).toArray
section
variable {W W' : World} {g g' n j : Nat}
theorem Row.cell (h : Row W g n) (hj : j < n) : ∃ z, W.cell? ⟨g, j, none⟩ = some (.int .i64 z) ∧ W.frozen? ⟨g, j, none⟩ = false := by
  obtain ⟨zs, hz, hb⟩ := h
  refine ⟨zs[j], ?_, hb.frozen j⟩
  rw [hb.cell j]
  simp
theorem Row.lt (h : Row W g n) : g < W.heap.size := by
  obtain ⟨zs, hz, hb⟩ := h
  exact hb.lt
theorem Row.set_ (h : Row W g n) (g' i : Nat) (z : Int) : Row (W.setCell ⟨g', i, none⟩ (.int .i64 z)) g n := by
  obtain ⟨zs, hz, hb⟩ := h
  by_cases e : g = g'
  · subst e
    refine ⟨zs.set i z, by simpa using hz, ?_⟩
    have := hb.set_ i (.int .i64 z)
    have e2 : ((zs.map (Value.int .i64)).toArray).setIfInBounds i (.int .i64 z) = ((zs.set i z).map (Value.int .i64)).toArray := by
      apply Array.ext'
      simp [List.map_set]
    rw [e2] at this
    exact this
  · exact ⟨zs, hz, hb.far e _⟩
theorem Row.below {B : Nat} (h : Row W g n) (hb : Below B W W') (hg : g < B) : Row W' g n := by
  obtain ⟨zs, hz, h⟩ := h
  exact ⟨zs, hz, h.below hb hg⟩
theorem Row.alloc (h : Row W g n) (o : Obj) : Row (W.alloc o) g n := by
  obtain ⟨zs, hz, h⟩ := h
  exact ⟨zs, hz, h.alloc o⟩
theorem Row.drewN (h : Row W g n) (k : Nat) : Row (W.drewN k) g n := h
end

set_option maxHeartbeats 1000000 in
theorem slack_any (a : ByteArray) (w : World) (_hs : a.size ≤ 4294967280) : Calls Try.prog 44 #[.string a] w fun e w' => ∃ k : Nat, k ≤ 2 ∧ e = .returned (.int .i64 k) ∧ w' = w := by
  by_cases h1 : (a.size : Int) < 4
  · go_enter Try.func44, Try.ntmps44
    go_wp2_with fail
    go_ret
    exact ⟨0, by omega, rfl, rfl⟩
  · by_cases h2 : (a.size : Int) < 8
    · go_enter Try.func44, Try.ntmps44
      go_wp2_with fail
      go_ret
      exact ⟨1, by omega, rfl, rfl⟩
    · go_enter Try.func44, Try.ntmps44
      go_wp2_with fail
      go_ret
      exact ⟨2, by omega, rfl, rfl⟩

theorem drewN_two (w : World) (a b : Nat) : (w.drewN a).drewN b = w.drewN (a + b) := by simp [World.drewN, Nat.add_assoc]
theorem int_info : (Try.prog.info? 3).map (fun i => (i.zero, i.size, i.bytes)) = some (some (.int .i64 0), 1, 8) := by kernel_rfl
theorem row_new (w : World) (n : Nat) : Row (w.alloc (.cells (madeCells #[.int .i64 0] n) 3)) w.heap.size n := by
  refine ⟨List.replicate n 0, by simp, ?_⟩
  have e : madeCells #[.int .i64 0] n = ((List.replicate n (0 : Int)).map (Value.int .i64)).toArray := by
    apply Array.ext
    · simp [size_madeCells]
    · intro i h1 h2
      simp [madeCells, Nat.mod_one]
  rw [e]
  exact Blk.new _ _ _
theorem run_row (w : World) (n : Nat) (hn : n ≤ 4294967290) : (Instr.makeSlice 88 (.int .i64 (n : Int)) (.int .i64 (n : Int))).run Try.prog w = .ok (.slice (some ⟨w.heap.size, 0, none⟩) n n) (w.alloc (.cells (madeCells #[.int .i64 0] n) 3)) := by
  obtain ⟨i0, hi, hz0, hz1, hz2⟩ := info_parts int_info
  have h := run_make (P := Try.prog) w 88 3 i0 (.int .i64 0) Try.underlying88 hi hz0 .i64 .i64 n n (by omega) (Int.le_refl _) (by rw [hz2]; omega) (by omega)
  rw [hz1] at h
  simpa [Value.cells] using h

set_option maxHeartbeats 2000000 in
theorem row_any (b : ByteArray) (far : Int) (B F : Nat) (w : World) (hs : b.size ≤ 4294967280) (_hB : B < w.heap.size) (hF : F < w.heap.size) (cB : w.cell? ⟨B, 0, none⟩ = some (.string b)) (cF : w.cell? ⟨F, 0, none⟩ = some (.int .i64 far)) :
    Calls Try.prog 47 #[.pointer (some ⟨B, 0, none⟩), .pointer (some ⟨F, 0, none⟩)] w fun e w' => ∃ g, e = .returned (.slice (some ⟨g, 0, none⟩) (b.size + 1) (b.size + 1)) ∧ w.heap.size ≤ g ∧ Row w' g (b.size + 1) ∧ Below w.heap.size w w' := by
  have hmk : (Instr.makeSlice 88 (.int .i64 ((b.size : Int) + 1)) (.int .i64 ((b.size : Int) + 1))).run Try.prog w = .ok (.slice (some ⟨w.heap.size, 0, none⟩) (b.size + 1) (b.size + 1)) (w.alloc (.cells (madeCells #[.int .i64 0] (b.size + 1)) 3)) := by
    have := run_row w (b.size + 1) (by omega)
    rw [show ((b.size + 1 : Nat) : Int) = (b.size : Int) + 1 by omega] at this
    exact this
  have hRN := row_new w (b.size + 1)
  have CF := Lib.hid cF
  clear cF
  go_enter Try.func47, Try.ntmps47
  go_wp2_with fail
  clear hmk
  obtain ⟨n, hn⟩ : ∃ n, n = b.size + 1 := ⟨_, rfl⟩
  rw [← hn] at hRN ⊢
  go_loopg [4, 11] n (fun gg s4 s11 wr => ∃ k : Nat, k + gg = n ∧ s11 = .int .i64 (k : Int) ∧ Hid (Row wr w.heap.size n) ∧ Hid (Below w.heap.size w wr))
  case atStart => exact ⟨0, by omega, rfl, hRN, (Below.refl _ _).alloc (Nat.le_refl _) _⟩
  case round =>
    obtain ⟨k, hkg, rfl, hR, hBl⟩ := hrel
    have j0 : (0 : Int) ≤ (k : Int) := by omega
    by_cases hk : k < n
    · have j1 : (k : Int) < (b.size : Int) + 1 := by omega
      have j2 : (k : Int) < (n : Int) := by omega
      obtain ⟨z, c0, f0⟩ := hR.out.cell hk
      have cF2 := (hBl.out.cell (p := ⟨F, 0, none⟩) hF).trans CF.out
      go_wp2_with fail
      go_roundg (n - (k + 1))
      case measure => omega
      case rel => exact ⟨k + 1, by omega, by go_num, hR.out.set_ _ _ _, hBl.out.setCell (p := ⟨w.heap.size, k, none⟩) (Nat.le_refl _) _⟩
    · have j1 : ¬ (k : Int) < (b.size : Int) + 1 := by omega
      go_wp2_with fail
      go_ret
      subst hn
      exact ⟨_, rfl, Nat.le_refl _, hR.out, hBl.out⟩

set_option maxRecDepth 100000 in
set_option maxHeartbeats 4000000 in
theorem step_any (a b : ByteArray) (i j g1 g2 g3 c1 c2 c3 n : Nat) (far : Int) (w : World) (hn : n = b.size + 1) (hsa : a.size ≤ 4294967280) (hsb : b.size ≤ 4294967280) (hi : 1 ≤ i) (hia : i ≤ a.size) (hj : j ≤ b.size) (hR1 : Row w g1 n) (hR2 : Row w g2 n) (hR3 : Row w g3 n) :
    Calls Try.prog 48 #[.string a, .string b, .int .i64 i, .int .i64 j, .slice (some ⟨g1, 0, none⟩) n c1, .slice (some ⟨g2, 0, none⟩) n c2, .slice (some ⟨g3, 0, none⟩) n c3, .int .i64 far] w fun e w' => ∃ d m, e = .returned (.int .i64 d) ∧ w' = w.drewN m := by
  by_cases hj0 : j = 0
  · subst hj0
    clear hR1 hR2 hR3
    go_enter Try.func48, Try.ntmps48
    go_wp2_with fail
    go_ret
    exact ⟨_, 0, rfl, rfl⟩
  · have k0 : ((j : Int) == 0) = false := beq_eq_false_iff_ne.2 (by omega)
    obtain ⟨j1, hj1⟩ : ∃ j1 : Nat, (j : Int) - 1 = (j1 : Int) := ⟨j - 1, by omega⟩
    obtain ⟨i1, hi1⟩ : ∃ i1 : Nat, (i : Int) - 1 = (i1 : Int) := ⟨i - 1, by omega⟩
    obtain ⟨z1, cc1, _⟩ := hR2.cell (j := j) (by omega)
    obtain ⟨z2, cc2, _⟩ := hR3.cell (j := j1) (by omega)
    obtain ⟨z3, cc3, _⟩ := hR2.cell (j := j1) (by omega)
    have p0 : (0 : Int) ≤ (j : Int) := by omega
    have p1 : (0 : Int) ≤ (j1 : Int) := by omega
    have p2 : (j : Int) < (n : Int) := by omega
    have p3 : (j1 : Int) < (n : Int) := by omega
    have p4 : (i1 : Int) < (a.size : Int) := by omega
    have p5 : (j1 : Int) < (b.size : Int) := by omega
    have p6 : (0 : Int) ≤ (i1 : Int) := by omega
    have W1 : IntKind.i64.wrap ((j : Int) - 1) = (j1 : Int) := by rw [hj1]; exact IntWalk.i64_in _ (by omega)
    have W2 : IntKind.i64.wrap ((i : Int) - 1) = (i1 : Int) := by rw [hi1]; exact IntWalk.i64_in _ (by omega)
    have hi1' : i1 < a.size := by omega
    have hj1' : j1 < b.size := by omega
    have HR1 := Lib.hid hR1
    have HN := Lib.hid hn
    have HJ := Lib.hid hj1
    have HI := Lib.hid hi1
    clear hR1 hR2 hR3 hn hj0 hj1 hi1
    go_enter Try.func48, Try.ntmps48
    go_wp2_with fail
    go_cut [17] (fun s17 wc => ∃ x n, s17 = .int .i64 x ∧ wc = w.drewN n)
    case first =>
      go_quiet (fail)
      go_wp2_with fail
      go_meet
      exact ⟨_, _, rfl, rfl⟩
    case rest =>
    obtain ⟨x, n1, rfl, rfl⟩ := hcut
    have we : ∃ q, ((a[i1].toNat : Int) == (b[j1].toNat : Int)) = q := ⟨_, rfl⟩
    obtain ⟨q, hq⟩ := we
    go_upto_region 5 with fail
    go_cut [43] (fun s43 wc => s43 = .bool q ∧ ∃ n, wc = w.drewN n)
    case first =>
      go_quiet (fail)
      go_wp2_with fail
      go_meet
      first | exact ⟨rfl, _, rfl⟩ | exact ⟨rfl, _, drewN_two _ _ _⟩
    case rest =>
    obtain ⟨rfl, n2, rfl⟩ := hcut
    clear hq
    have ways : (decide ((1 : Int) < (i : Int)) = false) ∨ ((1 : Int) < (i : Int) ∧ decide ((1 : Int) < (j : Int)) = false) ∨ ((1 : Int) < (i : Int) ∧ (1 : Int) < (j : Int) ∧ ∃ i2 j2 : Nat, i2 < a.size ∧ j2 < b.size ∧ IntKind.i64.wrap ((i : Int) - 2) = (i2 : Int) ∧ IntKind.i64.wrap ((j : Int) - 2) = (j2 : Int) ∧ (j : Int) - 2 = (j2 : Int)) := by
      by_cases h1 : (1 : Int) < (i : Int)
      · by_cases h2 : (1 : Int) < (j : Int)
        · refine .inr (.inr ⟨h1, h2, i - 2, j - 2, by omega, by omega, ?_, ?_, by omega⟩)
          · rw [show (i : Int) - 2 = ((i - 2 : Nat) : Int) by omega]; exact IntWalk.i64_in _ (by omega)
          · rw [show (j : Int) - 2 = ((j - 2 : Nat) : Int) by omega]; exact IntWalk.i64_in _ (by omega)
        · exact .inr (.inl ⟨h1, decide_eq_false h2⟩)
      · exact .inl (decide_eq_false h1)
    cases q
    all_goals
      go_upto_region 8 with fail
      go_cut [80] (fun s80 wc => ∃ r : Bool, s80 = .bool r ∧ (r = true → 2 ≤ j) ∧ ∃ n, wc = w.drewN n)
      case first =>
        rcases ways with h1 | ⟨h1, h2⟩ | ⟨h1, h2, i2, j2, hi2, hj2, W3, W4, hjj⟩
        · go_quiet (fail)
          go_wp2_with fail
          go_meet
          first | exact ⟨_, rfl, (fun h => by cases h), _, rfl⟩ | exact ⟨_, rfl, (fun h => by cases h), _, drewN_two _ _ _⟩
        · go_quiet (fail)
          go_wp2_with fail
          go_meet
          first | exact ⟨_, rfl, (fun h => by cases h), _, rfl⟩ | exact ⟨_, rfl, (fun h => by cases h), _, drewN_two _ _ _⟩
        · have y0 : (0 : Int) ≤ (i2 : Int) := by omega
          have y1 : (0 : Int) ≤ (j2 : Int) := by omega
          have y2 : (i2 : Int) < (a.size : Int) := by omega
          have y3 : (j2 : Int) < (b.size : Int) := by omega
          have y4 : 2 ≤ j := by omega
          clear hjj
          cases hr1 : ((a[i1].toNat : Int) == (b[j2].toNat : Int)) with
          | false =>
            go_quiet (fail)
            go_wp2_with fail
            go_meet
            first | exact ⟨_, rfl, (fun _ => y4), _, rfl⟩ | exact ⟨_, rfl, (fun _ => y4), _, drewN_two _ _ _⟩
          | true =>
            go_quiet (fail)
            go_wp2_with fail
            go_meet
            first | exact ⟨_, rfl, (fun _ => y4), _, rfl⟩ | exact ⟨_, rfl, (fun _ => y4), _, drewN_two _ _ _⟩
      case rest =>
      obtain ⟨r, rfl, hr2, n3, rfl⟩ := hcut
      cases r
      · clear hr2 ways
        go_wp2_with fail
        go_ret
        exact ⟨_, _, rfl, rfl⟩
      · have h2j := hr2 rfl
        obtain ⟨j2, hj2⟩ : ∃ j2 : Nat, (j : Int) - 2 = (j2 : Int) := ⟨j - 2, by omega⟩
        have hn := HN.out
        obtain ⟨z4, cc4, _⟩ := HR1.out.cell (j := j2) (by omega)
        have y0 : (0 : Int) ≤ (j2 : Int) := by omega
        have y1 : (j2 : Int) < (n : Int) := by omega
        clear hr2 ways h2j hn
        go_wp2_with fail
        go_ret
        exact ⟨_, _, rfl, rfl⟩

end Go.Proofs.Ytpkpnmfcjoheoaa
