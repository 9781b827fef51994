/-
  DERIVED. The walk of florlaw1.TextEdits: it returns true. Conditions: the lengths are within the form's reach. By an AI agent.
-/
import Derived.Test.YtnkmmlancippmaaCompose
import Derived.Test.YtnkmmlancippmaaDiffOf
import Derived.Deep.RegionHeld3
import Derived.Deep.DrawnRows
import Derived.Laws.StructEq
namespace Go.Proofs.Ytnkmmlancippmaa
open Go.RowKit
attribute [local go_sem ↓] Go.wp_at_zero Go.wp_at_succ

theorem noStood_ed : Try.prog.stoodInHeld 24 = false := by kernel_rfl
theorem noGuard_ed : Try.prog.eqGuardType Try.prog.depth 24 = false := by kernel_rfl

set_option maxHeartbeats 4000000 in
set_option maxRecDepth 100000 in
theorem edits_small (s b : ByteArray) (A : Option Addr) (n cap : Nat) (es : List Ed) (w : World) (B : Nat) (hr : Reads w B 3 A n (edCells es)) (hB : B ≤ w.heap.size) (hs : s.size ≤ 140737488351232) (hb : b.size ≤ 140737488351232) (hx : ∀ e ∈ es, e.with_.size ≤ 140737488351232) (hn : n ≤ 100) :
    Calls Try.prog 4 #[.string s, .slice A n cap, .string b] w fun e w' => e = .returned (.bool true) ∧ Below w.heap.size w w' := by
  have hlen : es.length = n := by have := hr.1; rw [edCells_len] at this; omega
  have HL := Lib.hid hlen
  clear hlen
  have q1 := noStood_ed
  have q2 := noGuard_ed
  go_enter Try.func4, Try.ntmps4
  go_wp2_with fail
  refine (diff_any s b _ hs hb).mono ?_
  rintro e1 w1 ⟨rfl, hb1⟩
  have hdv : diffV s b = .agg #[.int .i64 (cp s b : Nat), .int .i64 ((s.size - sf s b : Nat) : Int), .string (b.extract (cp s b) (b.size - sf s b))] := rfl
  rw [hdv]
  have HD := Lib.hid hdv
  clear hdv
  go_wp2_with fail
  refine (diffOf_any s b _ hs hb).mono ?_
  rintro e2 w2 ⟨rfl, hb2⟩
  rw [HD.out]
  have hz1 := hb1.size
  have hz2 := hb2.size
  have hbel0 := hb1.trans (hb2.mono (by omega))
  go_wp2
  go_loopw [7, 8, 31] (fun v u i wr => ∃ (k : Nat) (now : ByteArray), k ≤ n ∧ i = .int .i64 k ∧ v = .string now ∧ u = .int .i64 0 ∧ now.size ≤ 140737488351232 ∧ Hid (compE now (es.drop k) = compE s es ∧ compS now (es.drop k) = compS s es) ∧ Below w.heap.size w wr) (fun _ _ i _ => n - (intOf i).toNat)
  case atStart => exact ⟨0, s, Nat.zero_le _, rfl, rfl, rfl, hs, ⟨rfl, rfl⟩, hbel0⟩
  case round =>
    clear hbel0 hb1 hb2 hz1 hz2
    obtain ⟨k, now, hk, rfl, rfl, rfl, hnow, hcp, hbel⟩ := hrel
    have hsz := hbel.size
    by_cases hlt : k < n
    · obtain ⟨b', off, rfl, hbB, hc⟩ := hr.plain (by omega) (by omega)
      obtain ⟨⟨f, t, x⟩, he⟩ : ∃ e, es[k]? = some e := ⟨es[k]'(by rw [HL.out]; exact hlt), List.getElem?_eq_getElem _⟩
      have HE := Lib.hid he
      have hxe := hx _ (List.mem_of_getElem? he)
      have hg := edCells_at he
      simp only at hxe hg
      have c0 := (hbel.cell (p := ⟨b', off + k * 3, none⟩) (by simp; omega)).trans (hc _ _ hg.1)
      have c1 := (hbel.cell (p := ⟨b', off + (k * 3 + 1), none⟩) (by simp; omega)).trans (hc _ _ hg.2.1)
      have c2 := (hbel.cell (p := ⟨b', off + (k * 3 + 2), none⟩) (by simp; omega)).trans (hc _ _ hg.2.2)
      clear he hg hc
      simp only [← Nat.add_assoc] at c1 c2
      have hbw : Below w.heap.size w (wr.alloc (.cells #[.int .i64 f, .int .i64 t, .string x] 24)) := hbel.alloc (by omega) _
      by_cases h0 : edErr now x f t = 0
      · obtain ⟨g0, g1, g2, _, g3⟩ := edErr_ok h0
        have H0 := Lib.hid h0
        clear h0
        obtain ⟨a, rfl⟩ := Int.eq_ofNat_of_zero_le g0
        obtain ⟨c, rfl⟩ := Int.eq_ofNat_of_zero_le (Int.le_trans g0 g1)
        go_wp2_with fail
        refine (editError_any now x a c _ hnow hxe).mono ?_
        rintro e1 w1 ⟨rfl, hb1⟩
        have k1 : Blk w1 wr.heap.size 24 #[.int .i64 a, .int .i64 c, .string x] := (Blk.new _ _ _).below hb1 (by simp)
        have z1 := k1.lt
        have hc1 := hbw.trans (hb1.mono (by simp; omega))
        rw [H0.out]
        have d0 := k1.cell 0
        have d1 := k1.cell 1
        have d2 := k1.cell 2
        go_wp2_with fail
        refine (checkEdit_any now x a c _ hnow hxe).mono ?_
        rintro e2 w2 ⟨rfl, hb2⟩
        have k2 := k1.below hb2 z1
        have z2 := k2.lt
        have hc2 := hc1.trans (hb2.mono (by omega))
        rw [H0.out]
        clear d0 d1 d2 k1 hc1 hb1 hb2
        have d0 := k2.cell 0
        have d1 := k2.cell 1
        have d2 := k2.cell 2
        go_wp2_with fail
        refine (apply_ok now x a c _ hnow hxe H0.out).mono ?_
        rintro e3 w3 ⟨rfl, hb3⟩
        have k3 := k2.below hb3 z2
        have z3 := k3.lt
        have hc3 := hc2.trans (hb3.mono (by omega))
        clear d0 d1 d2 k2 hc2 hb3
        have d0 := k3.cell 0
        have d1 := k3.cell 1
        have d2 := k3.cell 2
        go_wp2_with fail
        refine (inverse_ok now x a c _ hnow hxe H0.out).mono ?_
        rintro e4 w4 ⟨rfl, hb4⟩
        have k4 := k3.below hb4 z3
        have z4 := k4.lt
        have hc4 := hc3.trans (hb4.mono (by omega))
        clear d0 d1 d2 k3 hc3 hb4
        have d0 := k4.cell 0
        have d1 := k4.cell 1
        have d2 := k4.cell 2
        go_wp2_with fail
        have z : IntKind.i64.wrap ((a : Int) + (x.size : Int)) = (a : Int) + (x.size : Int) := IntWalk.i64_in _ (by omega)
        go_region_held3 (fun w' => w'.cell? ⟨wr.heap.size, 0, none⟩ = some (.int .i64 a) ∧ w'.cell? ⟨wr.heap.size, 1, none⟩ = some (.int .i64 c) ∧ w'.cell? ⟨wr.heap.size, 2, none⟩ = some (.string x) ∧
            w'.cell? ⟨w4.heap.size, 0, none⟩ = some (.int .i64 a) ∧ w'.cell? ⟨w4.heap.size, 1, none⟩ = some (.int .i64 (a + x.size)) ∧ w'.cell? ⟨w4.heap.size, 2, none⟩ = some (.string (now.extract a c)))
          (first | go_keep | (obtain ⟨a1, a2, a3, a4, a5, a6⟩ := ‹_ ∧ _ ∧ _ ∧ _ ∧ _ ∧ _›; exact ⟨(hb5.cell (by simp; omega)).trans a1, (hb5.cell (by simp; omega)).trans a2, (hb5.cell (by simp; omega)).trans a3, (hb5.cell (by simp)).trans a4, (hb5.cell (by simp)).trans a5, (hb5.cell (by simp)).trans a6⟩))
          (first | (go_at_call 14; refine (Edited_any now x a c _ hnow hxe g0 g1 g2).mono ?_; rintro e5 w5 ⟨rfl, hb5⟩))
        clear z
        have hc5 := (hc4.alloc (by omega) _).drew.trans (hb5.mono (B' := w.heap.size) (by simp; omega))
        have hm := made_size (s := now) (e := ⟨a, c, x⟩) H0.out
        have HC := Lib.hid (comp_good HE.out (show errOf now ⟨a, c, x⟩ = 0 from H0.out))
        clear hc4 hb5 d0 d1 d2 k4
        go_wp2
        go_roundw
        case rel => exact ⟨k + 1, madeOf now ⟨a, c, x⟩, by omega, by go_num, rfl, rfl, by omega, ⟨HC.out.1.symm.trans hcp.out.1, HC.out.2.symm.trans hcp.out.2⟩, hc5⟩
        case measure => simp [intOf]; omega
      · have hn1 : (edErr now x f t != 0) = true := by simpa using h0
        have hn0 : (edErr now x f t == 0) = false := by simpa using h0
        have HC := Lib.hid ((comp_bad HE.out (show errOf now ⟨f, t, x⟩ ≠ 0 from h0)).symm.trans hcp.out.1)
        have hR : compR s es = .tuple #[.agg #[.int .i64 0, .int .i64 0, .string ⟨#[]⟩], .int .i64 (edErr now x f t)] := by
          unfold compR
          rw [if_neg (by rw [← HC.out]; exact h0), ← HC.out]
          rfl
        have HR := Lib.hid hR
        have H0 := Lib.hid h0
        clear h0 hR
        go_wp2_with fail
        refine (editError_any now x f t _ hnow hxe).mono ?_
        rintro e1 w1 ⟨rfl, hb1⟩
        have k1 : Blk w1 wr.heap.size 24 #[.int .i64 f, .int .i64 t, .string x] := (Blk.new _ _ _).below hb1 (by simp)
        have z1 := k1.lt
        have hc1 := hbw.trans (hb1.mono (by simp; omega))
        have d0 := k1.cell 0
        have d1 := k1.cell 1
        have d2 := k1.cell 2
        go_wp2_with fail
        refine (checkEdit_any now x f t _ hnow hxe).mono ?_
        rintro e2 w2 ⟨rfl, hb2⟩
        have k2 := k1.below hb2 z1
        have z2 := k2.lt
        have hc2 := hc1.trans (hb2.mono (by omega))
        clear d0 d1 d2 k1 hc1 hb1 hb2
        have d0 := k2.cell 0
        have d1 := k2.cell 1
        have d2 := k2.cell 2
        go_wp2_with fail
        refine (apply_bad now x f t _ hnow hxe H0.out).mono ?_
        rintro e3 w3 ⟨rfl, hb3⟩
        have k3 := k2.below hb3 z2
        have z3 := k3.lt
        have hc3 := hc2.trans (hb3.mono (by omega))
        clear d0 d1 d2 k2 hc2 hb3
        have d0 := k3.cell 0
        have d1 := k3.cell 1
        have d2 := k3.cell 2
        go_wp2_with fail
        refine (inverse_bad now x f t _ hnow hxe H0.out).mono ?_
        rintro e4 w4 ⟨rfl, hb4⟩
        have k4 := k3.below hb4 z3
        have z4 := k4.lt
        have hc4 := hc3.trans (hb4.mono (by omega))
        rw [show zeroEd = .agg #[.int .i64 0, .int .i64 0, .string ⟨#[]⟩] from rfl]
        clear d0 d1 d2 k3 hc3 hb4 c0 c1 c2
        go_wp2_with fail
        refine (compose_any s _ n cap es _ B (hr.keep fun p hp => (hc4.alloc (by omega) _).cell (by omega)) (by simp; omega) hs hx hn).mono ?_
        rintro e5 w5 ⟨rfl, hb5⟩
        rw [HR.out]
        have hc5 := (hc4.alloc (by omega) (.cells #[.int .i64 0, .int .i64 0, .string ⟨#[]⟩] 24)).trans (hb5.mono (B' := w.heap.size) (by simp; omega))
        have z5 := hb5.size
        go_wp2
        go_ret
        exact ⟨rfl, hc5.alloc (by simp at z5; omega) _⟩
    · obtain rfl : k = n := by omega
      have hfin := hcp.out
      rw [List.drop_eq_nil_of_le (by rw [HL.out]; exact Nat.le_refl _)] at hfin
      simp only [compE, compS] at hfin
      have hR : compR s es = .tuple #[.agg #[.int .i64 (cp s now : Nat), .int .i64 ((s.size - sf s now : Nat) : Int), .string (now.extract (cp s now) (now.size - sf s now))], .int .i64 0] := by
        unfold compR
        rw [← hfin.1, ← hfin.2, if_pos rfl]
        rfl
      have HR := Lib.hid hR
      clear hfin hR
      go_wp2_with fail
      refine (compose_any s A k cap es _ B (hr.keep fun p hp => hbel.cell (by omega)) (by omega) hs hx hn).mono ?_
      rintro e5 w5 ⟨rfl, hb5⟩
      rw [HR.out]
      have z5 := hb5.size
      have hc5 := hbel.trans (hb5.mono (B' := w.heap.size) (by omega))
      go_wp2
      go_region_held3 (fun w' => w'.cell? ⟨w5.heap.size, 0, none⟩ = some (.int .i64 (cp s now : Nat)) ∧ w'.cell? ⟨w5.heap.size, 1, none⟩ = some (.int .i64 ((s.size - sf s now : Nat) : Int)) ∧ w'.cell? ⟨w5.heap.size, 2, none⟩ = some (.string (now.extract (cp s now) (now.size - sf s now))))
        (first | go_keep | (obtain ⟨a1, a2, a3⟩ := ‹_ ∧ _ ∧ _›; exact ⟨(hb6.cell (by simp)).trans a1, (hb6.cell (by simp)).trans a2, (hb6.cell (by simp)).trans a3⟩))
        (first | (go_at_call 9; refine (diffOf_any s now _ hs hnow).mono ?_; rintro e6 w6 ⟨rfl, hb6⟩; rw [show diffV s now = .agg #[.int .i64 (cp s now : Nat), .int .i64 ((s.size - sf s now : Nat) : Int), .string (now.extract (cp s now) (now.size - sf s now))] from rfl]))
      go_wp2
      go_ret
      exact ⟨rfl, (hc5.alloc (by omega) _).drew.trans (hb6.mono (by simp; omega))⟩
set_option maxHeartbeats 4000000 in
set_option maxRecDepth 100000 in
theorem edits_large (s b : ByteArray) (A : Option Addr) (n cap : Nat) (es : List Ed) (w : World) (B : Nat) (hr : Reads w B 3 A n (edCells es)) (hB : B ≤ w.heap.size) (hs : s.size ≤ 140737488351232) (hb : b.size ≤ 140737488351232) (hx : ∀ e ∈ es, e.with_.size ≤ 140737488351232) (hn : 100 < n) (hn2 : n ≤ 9223372036854775807) :
    Calls Try.prog 4 #[.string s, .slice A n cap, .string b] w fun e w' => e = .returned (.bool true) ∧ Below w.heap.size w w' := by
  have hlen : es.length = n := by have := hr.1; rw [edCells_len] at this; omega
  have HL := Lib.hid hlen
  clear hlen
  have hd : decide ((100 : Int) < (n : Int)) = true := by simp; omega
  have q1 := noStood_ed
  have q2 := noGuard_ed
  go_enter Try.func4, Try.ntmps4
  go_wp2_with fail
  refine (diff_any s b _ hs hb).mono ?_
  rintro e1 w1 ⟨rfl, hb1⟩
  have hdv : diffV s b = .agg #[.int .i64 (cp s b : Nat), .int .i64 ((s.size - sf s b : Nat) : Int), .string (b.extract (cp s b) (b.size - sf s b))] := rfl
  rw [hdv]
  have HD := Lib.hid hdv
  clear hdv
  go_wp2_with fail
  refine (diffOf_any s b _ hs hb).mono ?_
  rintro e2 w2 ⟨rfl, hb2⟩
  rw [HD.out]
  have hz1 := hb1.size
  have hz2 := hb2.size
  have hbel0 := hb1.trans (hb2.mono (by omega))
  go_wp2
  go_loopw [7, 8, 31] (fun v u i wr => ∃ (k : Nat) (now : ByteArray), k ≤ n ∧ i = .int .i64 k ∧ v = .string now ∧ u = .int .i64 4 ∧ now.size ≤ 140737488351232 ∧ Hid (compE now (es.drop k) = compE s es ∧ compS now (es.drop k) = compS s es) ∧ Below w.heap.size w wr) (fun _ _ i _ => n - (intOf i).toNat)
  case atStart => exact ⟨0, s, Nat.zero_le _, rfl, rfl, rfl, hs, ⟨rfl, rfl⟩, hbel0⟩
  case round =>
    clear hbel0 hb1 hb2 hz1 hz2
    obtain ⟨k, now, hk, rfl, rfl, rfl, hnow, hcp, hbel⟩ := hrel
    have hsz := hbel.size
    by_cases hlt : k < n
    · obtain ⟨b', off, rfl, hbB, hc⟩ := hr.plain (by omega) (by omega)
      obtain ⟨⟨f, t, x⟩, he⟩ : ∃ e, es[k]? = some e := ⟨es[k]'(by rw [HL.out]; exact hlt), List.getElem?_eq_getElem _⟩
      have HE := Lib.hid he
      have hxe := hx _ (List.mem_of_getElem? he)
      have hg := edCells_at he
      simp only at hxe hg
      have c0 := (hbel.cell (p := ⟨b', off + k * 3, none⟩) (by simp; omega)).trans (hc _ _ hg.1)
      have c1 := (hbel.cell (p := ⟨b', off + (k * 3 + 1), none⟩) (by simp; omega)).trans (hc _ _ hg.2.1)
      have c2 := (hbel.cell (p := ⟨b', off + (k * 3 + 2), none⟩) (by simp; omega)).trans (hc _ _ hg.2.2)
      clear he hg hc
      simp only [← Nat.add_assoc] at c1 c2
      have hbw : Below w.heap.size w (wr.alloc (.cells #[.int .i64 f, .int .i64 t, .string x] 24)) := hbel.alloc (by omega) _
      by_cases h0 : edErr now x f t = 0
      · obtain ⟨g0, g1, g2, _, g3⟩ := edErr_ok h0
        have H0 := Lib.hid h0
        clear h0
        obtain ⟨a, rfl⟩ := Int.eq_ofNat_of_zero_le g0
        obtain ⟨c, rfl⟩ := Int.eq_ofNat_of_zero_le (Int.le_trans g0 g1)
        go_wp2_with fail
        refine (editError_any now x a c _ hnow hxe).mono ?_
        rintro e1 w1 ⟨rfl, hb1⟩
        have k1 : Blk w1 wr.heap.size 24 #[.int .i64 a, .int .i64 c, .string x] := (Blk.new _ _ _).below hb1 (by simp)
        have z1 := k1.lt
        have hc1 := hbw.trans (hb1.mono (by simp; omega))
        rw [H0.out]
        have d0 := k1.cell 0
        have d1 := k1.cell 1
        have d2 := k1.cell 2
        go_wp2_with fail
        refine (checkEdit_any now x a c _ hnow hxe).mono ?_
        rintro e2 w2 ⟨rfl, hb2⟩
        have k2 := k1.below hb2 z1
        have z2 := k2.lt
        have hc2 := hc1.trans (hb2.mono (by omega))
        rw [H0.out]
        clear d0 d1 d2 k1 hc1 hb1 hb2
        have d0 := k2.cell 0
        have d1 := k2.cell 1
        have d2 := k2.cell 2
        go_wp2_with fail
        refine (apply_ok now x a c _ hnow hxe H0.out).mono ?_
        rintro e3 w3 ⟨rfl, hb3⟩
        have k3 := k2.below hb3 z2
        have z3 := k3.lt
        have hc3 := hc2.trans (hb3.mono (by omega))
        clear d0 d1 d2 k2 hc2 hb3
        have d0 := k3.cell 0
        have d1 := k3.cell 1
        have d2 := k3.cell 2
        go_wp2_with fail
        refine (inverse_ok now x a c _ hnow hxe H0.out).mono ?_
        rintro e4 w4 ⟨rfl, hb4⟩
        have k4 := k3.below hb4 z3
        have z4 := k4.lt
        have hc4 := hc3.trans (hb4.mono (by omega))
        clear d0 d1 d2 k3 hc3 hb4
        have d0 := k4.cell 0
        have d1 := k4.cell 1
        have d2 := k4.cell 2
        go_wp2_with fail
        have z : IntKind.i64.wrap ((a : Int) + (x.size : Int)) = (a : Int) + (x.size : Int) := IntWalk.i64_in _ (by omega)
        go_region_held3 (fun w' => w'.cell? ⟨wr.heap.size, 0, none⟩ = some (.int .i64 a) ∧ w'.cell? ⟨wr.heap.size, 1, none⟩ = some (.int .i64 c) ∧ w'.cell? ⟨wr.heap.size, 2, none⟩ = some (.string x) ∧
            w'.cell? ⟨w4.heap.size, 0, none⟩ = some (.int .i64 a) ∧ w'.cell? ⟨w4.heap.size, 1, none⟩ = some (.int .i64 (a + x.size)) ∧ w'.cell? ⟨w4.heap.size, 2, none⟩ = some (.string (now.extract a c)))
          (first | go_keep | (obtain ⟨a1, a2, a3, a4, a5, a6⟩ := ‹_ ∧ _ ∧ _ ∧ _ ∧ _ ∧ _›; exact ⟨(hb5.cell (by simp; omega)).trans a1, (hb5.cell (by simp; omega)).trans a2, (hb5.cell (by simp; omega)).trans a3, (hb5.cell (by simp)).trans a4, (hb5.cell (by simp)).trans a5, (hb5.cell (by simp)).trans a6⟩))
          (first | (go_at_call 14; refine (Edited_any now x a c _ hnow hxe g0 g1 g2).mono ?_; rintro e5 w5 ⟨rfl, hb5⟩))
        clear z
        have hc5 := (hc4.alloc (by omega) _).drew.trans (hb5.mono (B' := w.heap.size) (by simp; omega))
        have hm := made_size (s := now) (e := ⟨a, c, x⟩) H0.out
        have HC := Lib.hid (comp_good HE.out (show errOf now ⟨a, c, x⟩ = 0 from H0.out))
        clear hc4 hb5 d0 d1 d2 k4
        go_wp2
        go_roundw
        case rel => exact ⟨k + 1, madeOf now ⟨a, c, x⟩, by omega, by go_num, rfl, rfl, by omega, ⟨HC.out.1.symm.trans hcp.out.1, HC.out.2.symm.trans hcp.out.2⟩, hc5⟩
        case measure => simp [intOf]; omega
      · have hn1 : (edErr now x f t != 0) = true := by simpa using h0
        have hn0 : (edErr now x f t == 0) = false := by simpa using h0
        have H0 := Lib.hid h0
        clear h0
        go_wp2_with fail
        refine (editError_any now x f t _ hnow hxe).mono ?_
        rintro e1 w1 ⟨rfl, hb1⟩
        have k1 : Blk w1 wr.heap.size 24 #[.int .i64 f, .int .i64 t, .string x] := (Blk.new _ _ _).below hb1 (by simp)
        have z1 := k1.lt
        have hc1 := hbw.trans (hb1.mono (by simp; omega))
        have d0 := k1.cell 0
        have d1 := k1.cell 1
        have d2 := k1.cell 2
        go_wp2_with fail
        refine (checkEdit_any now x f t _ hnow hxe).mono ?_
        rintro e2 w2 ⟨rfl, hb2⟩
        have k2 := k1.below hb2 z1
        have z2 := k2.lt
        have hc2 := hc1.trans (hb2.mono (by omega))
        clear d0 d1 d2 k1 hc1 hb1 hb2
        have d0 := k2.cell 0
        have d1 := k2.cell 1
        have d2 := k2.cell 2
        go_wp2_with fail
        refine (apply_bad now x f t _ hnow hxe H0.out).mono ?_
        rintro e3 w3 ⟨rfl, hb3⟩
        have k3 := k2.below hb3 z2
        have z3 := k3.lt
        have hc3 := hc2.trans (hb3.mono (by omega))
        clear d0 d1 d2 k2 hc2 hb3
        have d0 := k3.cell 0
        have d1 := k3.cell 1
        have d2 := k3.cell 2
        go_wp2_with fail
        refine (inverse_bad now x f t _ hnow hxe H0.out).mono ?_
        rintro e4 w4 ⟨rfl, hb4⟩
        have k4 := k3.below hb4 z3
        have z4 := k4.lt
        have hc4 := hc3.trans (hb4.mono (by omega))
        rw [show zeroEd = .agg #[.int .i64 0, .int .i64 0, .string ⟨#[]⟩] from rfl]
        clear d0 d1 d2 k3 hc3 hb4 c0 c1 c2
        go_wp2_with fail
        refine (compose_large s _ n cap _ hn).mono ?_
        rintro e5 w5 ⟨rfl, hb5⟩
        rw [show zeroEd = .agg #[.int .i64 0, .int .i64 0, .string ⟨#[]⟩] from rfl]
        have hc5 := (hc4.alloc (by omega) (.cells #[.int .i64 0, .int .i64 0, .string ⟨#[]⟩] 24)).trans (hb5.mono (B' := w.heap.size) (by simp; omega))
        have z5 := hb5.size
        go_wp2
        go_ret
        exact ⟨rfl, hc5.alloc (by simp at z5; omega) _⟩
    · obtain rfl : k = n := by omega
      clear hcp
      go_wp2_with fail
      refine (compose_large s A k cap _ hn).mono ?_
      rintro e5 w5 ⟨rfl, hb5⟩
      rw [show zeroEd = .agg #[.int .i64 0, .int .i64 0, .string ⟨#[]⟩] from rfl]
      have z5 := hb5.size
      have hc5 := hbel.trans (hb5.mono (B' := w.heap.size) (by omega))
      go_wp2
      go_ret
      exact ⟨rfl, hc5.alloc (by omega) _⟩

theorem edits_any (s b : ByteArray) (A : Option Addr) (n cap : Nat) (es : List Ed) (w : World) (B : Nat) (hr : Reads w B 3 A n (edCells es)) (hB : B ≤ w.heap.size) (hs : s.size ≤ 140737488351232) (hb : b.size ≤ 140737488351232) (hx : ∀ e ∈ es, e.with_.size ≤ 140737488351232) (hn : n ≤ 9223372036854775807) :
    Calls Try.prog 4 #[.string s, .slice A n cap, .string b] w fun e w' => e = .returned (.bool true) ∧ Below w.heap.size w w' := by
  rcases Nat.lt_or_ge 100 n with h | h
  · exact edits_large s b A n cap es w B hr hB hs hb hx h hn
  · exact edits_small s b A n cap es w B hr hB hs hb hx h

end Go.Proofs.Ytnkmmlancippmaa
