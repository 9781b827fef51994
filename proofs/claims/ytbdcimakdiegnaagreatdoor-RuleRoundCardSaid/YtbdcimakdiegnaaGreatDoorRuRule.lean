/-
  DERIVED. The walk of day.reader.rule at the words of a right rule. Conditions: the table of powers of ten is laid. By an AI agent.
-/
import Derived.Test.YtbdcimakdiegnaaGreatDoorRuSt
import Derived.Deep.DeepCutAuto
namespace Go.Proofs.YtbdcimakdiegnaaGreatDoor
open Go.RowKit
open cal

theorem wdW_sz {n : Int} (h : 0 ≤ n ∧ n ≤ 6) : (wdW n).size ≤ 100 := by
  rcases wdW_ways h with e | e | e | e | e | e | e <;> rw [e] <;> decide
/-- what reading a rule leaves -/
def RurP (r : Rl) (rb gw : Nat) (w : World) (e : Ending) (w' : World) : Prop := ∃ a b c, e = .returned (RuV r a b c) ∧ RInX w' (fun k => w.heap.size + 2 ≤ k ∧ k < w'.heap.size) a r.wk ∧ RInX w' (fun k => w.heap.size + 2 ≤ k ∧ k < w'.heap.size) b r.ds ∧ RInX w' (fun k => w.heap.size + 2 ≤ k ∧ k < w'.heap.size) c r.skip ∧ RW w' rb gw [] ∧ w.grownBy w' (some rb)
set_option maxHeartbeats 1000000 in
theorem fin9 {w1 : World} {g : Nat} {t : TypeId} {z0 z1 z2 z3 z4 z5 z6 z7 z8 : Value} (hP : Blk w1 g t #[z0, z1, z2, z3, z4, z5, z6, z7, z8]) (x0 x1 x2 x3 x4 x5 x6 x7 x8 : Value) (WF : World)
    (hWF : WF = ((((((((w1.setCell ⟨g, 0, none⟩ x0).setCell ⟨g, 1, none⟩ x1).setCell ⟨g, 2, none⟩ x2).setCell ⟨g, 3, none⟩ x3).setCell ⟨g, 4, none⟩ x4).setCell ⟨g, 5, none⟩ x5).setCell ⟨g, 6, none⟩ x6).setCell ⟨g, 7, none⟩ x7).setCell ⟨g, 8, none⟩ x8) :
    (WF.cell? ⟨g, 0, none⟩ = some x0 ∧ WF.cell? ⟨g, 1, none⟩ = some x1 ∧ WF.cell? ⟨g, 2, none⟩ = some x2 ∧ WF.cell? ⟨g, 3, none⟩ = some x3 ∧ WF.cell? ⟨g, 4, none⟩ = some x4 ∧ WF.cell? ⟨g, 5, none⟩ = some x5 ∧ WF.cell? ⟨g, 6, none⟩ = some x6 ∧ WF.cell? ⟨g, 7, none⟩ = some x7 ∧ WF.cell? ⟨g, 8, none⟩ = some x8)
      ∧ WF.heap.size = w1.heap.size ∧ Below g w1 WF ∧ ∀ j, j ≠ g → WF.heap[j]? = w1.heap[j]? := by
  subst hWF
  have h0 : Blk (w1.setCell ⟨g, 0, none⟩ x0) g t #[x0, z1, z2, z3, z4, z5, z6, z7, z8] := hP.set_ 0 x0
  have h1 : Blk ((w1.setCell ⟨g, 0, none⟩ x0).setCell ⟨g, 1, none⟩ x1) g t #[x0, x1, z2, z3, z4, z5, z6, z7, z8] := h0.set_ 1 x1
  have h2 : Blk (((w1.setCell ⟨g, 0, none⟩ x0).setCell ⟨g, 1, none⟩ x1).setCell ⟨g, 2, none⟩ x2) g t #[x0, x1, x2, z3, z4, z5, z6, z7, z8] := h1.set_ 2 x2
  have h3 : Blk ((((w1.setCell ⟨g, 0, none⟩ x0).setCell ⟨g, 1, none⟩ x1).setCell ⟨g, 2, none⟩ x2).setCell ⟨g, 3, none⟩ x3) g t #[x0, x1, x2, x3, z4, z5, z6, z7, z8] := h2.set_ 3 x3
  have h4 : Blk (((((w1.setCell ⟨g, 0, none⟩ x0).setCell ⟨g, 1, none⟩ x1).setCell ⟨g, 2, none⟩ x2).setCell ⟨g, 3, none⟩ x3).setCell ⟨g, 4, none⟩ x4) g t #[x0, x1, x2, x3, x4, z5, z6, z7, z8] := h3.set_ 4 x4
  have h5 : Blk ((((((w1.setCell ⟨g, 0, none⟩ x0).setCell ⟨g, 1, none⟩ x1).setCell ⟨g, 2, none⟩ x2).setCell ⟨g, 3, none⟩ x3).setCell ⟨g, 4, none⟩ x4).setCell ⟨g, 5, none⟩ x5) g t #[x0, x1, x2, x3, x4, x5, z6, z7, z8] := h4.set_ 5 x5
  have h6 : Blk (((((((w1.setCell ⟨g, 0, none⟩ x0).setCell ⟨g, 1, none⟩ x1).setCell ⟨g, 2, none⟩ x2).setCell ⟨g, 3, none⟩ x3).setCell ⟨g, 4, none⟩ x4).setCell ⟨g, 5, none⟩ x5).setCell ⟨g, 6, none⟩ x6) g t #[x0, x1, x2, x3, x4, x5, x6, z7, z8] := h5.set_ 6 x6
  have h7 : Blk ((((((((w1.setCell ⟨g, 0, none⟩ x0).setCell ⟨g, 1, none⟩ x1).setCell ⟨g, 2, none⟩ x2).setCell ⟨g, 3, none⟩ x3).setCell ⟨g, 4, none⟩ x4).setCell ⟨g, 5, none⟩ x5).setCell ⟨g, 6, none⟩ x6).setCell ⟨g, 7, none⟩ x7) g t #[x0, x1, x2, x3, x4, x5, x6, x7, z8] := h6.set_ 7 x7
  have hb : Blk (((((((((w1.setCell ⟨g, 0, none⟩ x0).setCell ⟨g, 1, none⟩ x1).setCell ⟨g, 2, none⟩ x2).setCell ⟨g, 3, none⟩ x3).setCell ⟨g, 4, none⟩ x4).setCell ⟨g, 5, none⟩ x5).setCell ⟨g, 6, none⟩ x6).setCell ⟨g, 7, none⟩ x7).setCell ⟨g, 8, none⟩ x8) g t #[x0, x1, x2, x3, x4, x5, x6, x7, x8] := h7.set_ 8 x8
  refine ⟨⟨hb.cell 0, hb.cell 1, hb.cell 2, hb.cell 3, hb.cell 4, hb.cell 5, hb.cell 6, hb.cell 7, hb.cell 8⟩, by simp [World.setCell], ?_, ?_⟩
  · exact ((((((((((Below.refl g w1).setCell (p := ⟨g, 0, none⟩) (Nat.le_refl _) _).setCell (p := ⟨g, 1, none⟩) (Nat.le_refl _) _).setCell (p := ⟨g, 2, none⟩) (Nat.le_refl _) _).setCell (p := ⟨g, 3, none⟩) (Nat.le_refl _) _).setCell (p := ⟨g, 4, none⟩) (Nat.le_refl _) _).setCell (p := ⟨g, 5, none⟩) (Nat.le_refl _) _).setCell (p := ⟨g, 6, none⟩) (Nat.le_refl _) _).setCell (p := ⟨g, 7, none⟩) (Nat.le_refl _) _).setCell (p := ⟨g, 8, none⟩) (Nat.le_refl _) _)
  · intro j hj
    rw [Below.heap_setCell _ _ _ j hj, Below.heap_setCell _ _ _ j hj, Below.heap_setCell _ _ _ j hj, Below.heap_setCell _ _ _ j hj, Below.heap_setCell _ _ _ j hj, Below.heap_setCell _ _ _ j hj, Below.heap_setCell _ _ _ j hj, Below.heap_setCell _ _ _ j hj, Below.heap_setCell _ _ _ j hj]

set_option maxHeartbeats 1000000 in
set_option maxRecDepth 100000 in
theorem ruleEnd (u ev fr un ct nth : Int) (wk ds sk : List Int) (A1 A2 A3 : Option Addr) (n1 c1 n2 c2 n3 c3 rb gw : Nat) (w WE : World) (hrb : rb < w.heap.size) (hgw : gw < w.heap.size) (tm : Array Value)
    (HE : Hid (SR w rb gw [] ⟨u, ev, fr, un, ct, wk, ds, nth, sk⟩ (.slice A1 n1 c1) (.slice A2 n2 c2) (.slice A3 n3 c3) WE))
    (h2 : tm[2]? = some (.pointer (some ⟨w.heap.size, 0, none⟩))) :
    bodyPost Tryz.prog Tryz.f41 (RurP ⟨u, ev, fr, un, ct, wk, ds, nth, sk⟩ rb gw w) Exit.ret ⟨tm, []⟩ ((((((((((WE.setCell ⟨w.heap.size, 0, none⟩ (.int .i64 u)).setCell ⟨w.heap.size, 1, none⟩ (.int .i64 ev)).setCell ⟨w.heap.size, 2, none⟩ (.int .i64 fr)).setCell ⟨w.heap.size, 3, none⟩ (.int .i64 un)).setCell ⟨w.heap.size, 4, none⟩ (.int .i64 ct)).setCell ⟨w.heap.size, 5, none⟩ (.slice A1 n1 c1)).setCell ⟨w.heap.size, 6, none⟩ (.slice A2 n2 c2)).setCell ⟨w.heap.size, 7, none⟩ (.int .i64 nth)).setCell ⟨w.heap.size, 8, none⟩ (.slice A3 n3 c3))) := by
  obtain ⟨WF, hWF⟩ : ∃ WF, WF = (((((((((WE.setCell ⟨w.heap.size, 0, none⟩ (.int .i64 u)).setCell ⟨w.heap.size, 1, none⟩ (.int .i64 ev)).setCell ⟨w.heap.size, 2, none⟩ (.int .i64 fr)).setCell ⟨w.heap.size, 3, none⟩ (.int .i64 un)).setCell ⟨w.heap.size, 4, none⟩ (.int .i64 ct)).setCell ⟨w.heap.size, 5, none⟩ (.slice A1 n1 c1)).setCell ⟨w.heap.size, 6, none⟩ (.slice A2 n2 c2)).setCell ⟨w.heap.size, 7, none⟩ (.int .i64 nth)).setCell ⟨w.heap.size, 8, none⟩ (.slice A3 n3 c3)) := ⟨_, rfl⟩
  rw [← hWF]
  obtain ⟨⟨r0, r1, r2, r3, r4, r5, r6, r7, r8⟩, zF, bF, jF⟩ := fin9 HE.out.br (.int .i64 u) (.int .i64 ev) (.int .i64 fr) (.int .i64 un) (.int .i64 ct) (.slice A1 n1 c1) (.slice A2 n2 c2) (.int .i64 nth) (.slice A3 n3 c3) WF hWF
  clear hWF
  refine bodyPost_ret (v := RuV ⟨u, ev, fr, un, ct, wk, ds, nth, sk⟩ (.slice A1 n1 c1) (.slice A2 n2 c2) (.slice A3 n3 c3)) (by simp [results, h2, Tryz.results41, go_sem, r0, r1, r2, r3, r4, r5, r6, r7, r8, RuV]) rfl ?_
  have hk : ∀ (v : Value) (l : List Int), RInX WE (fun k => w.heap.size + 2 ≤ k ∧ k < WE.heap.size) v l → RInX WF (fun k => w.heap.size + 2 ≤ k ∧ k < WF.heap.size) v l := fun v l hx =>
    (hx.keep fun q hq => World.cell?_of_block (a := q) (jF q.block (by have := hq.1; omega))).weak fun k hk => ⟨hk.1, by rw [zF]; exact hk.2⟩
  exact ⟨_, _, _, rfl, hk _ _ HE.out.ma, hk _ _ HE.out.mb, hk _ _ HE.out.mc, HE.out.rw_.keep (by rw [zF]; exact Nat.le_refl _) (jF _ (by omega)) (jF _ (by omega)), gr_keep HE.out.gr bF (Nat.le_refl _)⟩

set_option maxHeartbeats 8000000 in
set_option maxRecDepth 100000 in
theorem ruleR_any (r : Rl) (rb gw : Nat) (w : World) (hok : RuOk r) (h : RW w rb gw (ruW r)) (hP : ∀ W, w.grownBy W (some rb) → Pow W) :
    Calls Tryz.prog 41 #[.pointer (some ⟨rb, 0, none⟩)] w (RurP r rb gw w) := by
  have hrb := h.rlt
  have hgw := h.lt
  have HOK := Lib.hid hok
  obtain ⟨gx, hgx⟩ : ∃ gx, gx = w.heap.size + 1 := ⟨_, rfl⟩
  obtain ⟨X, hX⟩ : ∃ X, X = (w.alloc (.cells zR9 40)).alloc (.cells (RuC ⟨0, 0, 0, -1, 0, [], [], 0, []⟩ (.slice none 0 0) (.slice none 0 0) (.slice none 0 0)) 40) := ⟨_, rfl⟩
  have hBX : Below w.heap.size w X := by rw [hX]; exact ((Below.refl _ _).alloc (Nat.le_refl _) _).alloc (by simp) _
  have hnil : ∀ lo, RInX X (fun k => lo ≤ k ∧ k < X.heap.size) (.slice none 0 0) [] := fun lo => ⟨none, 0, 0, rfl, rfl, ⟨Nat.le_refl _, by omega⟩, ⟨rfl, fun h => absurd h (Nat.lt_irrefl 0)⟩, fun x hx => by cases hx⟩
  have HS0 : Hid (SR w rb gw (ruW r) ⟨0, 0, 0, -1, 0, [], [], 0, []⟩ (.slice none 0 0) (.slice none 0 0) (.slice none 0 0) X) := by
    refine ⟨h.below hBX, ?_, ?_, gr_of hBX, hnil _, hnil _, hnil _⟩
    · have := Blk.new (w.alloc (.cells zR9 40)) 40 (RuC ⟨0, 0, 0, -1, 0, [], [], 0, []⟩ (.slice none 0 0) (.slice none 0 0) (.slice none 0 0))
      rw [show (w.alloc (.cells zR9 40)).heap.size = w.heap.size + 1 by simp] at this
      rw [hX]
      exact this
    · rw [hX]
      exact (Blk.new w 40 zR9).alloc _
  have HX := Lib.hid hX
  have HP : Hid (∀ xs q a b c W, SR w rb gw xs q a b c W → ∀ W', W.grownBy W' (some rb) → Pow W') := fun xs q a b c W hW W' hg => hP W' (gr_trans hW.gr hg)
  unfold RuC zR9 at HX
  rw [ruW_eq] at HS0
  clear hX hBX hnil h hP hok
  go_enter Tryz.func41, Tryz.ntmps41
  go_upto_region 2 with fail
  rw [← HX.out]
  obtain ⟨u, ev, fr, un, ct, wk, ds, nth, sk⟩ := r
  dsimp only at HS0
  clear HX
  go_wp2_with fail
  refine (takeW_yes rb gw wEvery _ X HS0.out.rw_).mono ?_
  rintro e w1 ⟨rfl, hr1, hg1⟩
  have HS1 := Lib.hid (HS0.out.call hrb hr1 hg1)
  have HS1b := Lib.hid (HS1.out.bad hrb)
  clear hr1 hg1 HS0
  have b1 : (w1).cell? ⟨rb, 1, none⟩ = some (.bool false) := HS1.out.at_.1.1
  have b1f : (w1).frozen? ⟨rb, 1, none⟩ = false := HS1.out.at_.1.2
  go_wp2_with fail
  clear b1 b1f
  refine (numberW_any rb gw (wd ev) ev _ _ HS1b.out.rw_ (plM_wd (by have := HOK.out.every; dsimp only at this; omega)) (Nat.le_trans (wd_size (by have := HOK.out.every; dsimp only at this; omega)) (by omega)) (HP.out _ _ _ _ _ _ HS1b.out)).mono ?_
  rintro e w2 ⟨rfl, hr2, hg2⟩
  have HS2 := Lib.hid (HS1b.out.call hrb hr2 hg2)
  have HS2b : Hid (SR w rb gw _ ⟨0, ev, 0, -1, 0, [], [], 0, []⟩ _ _ _ _) := HS2.out.put hrb hgw 1 (.int .i64 ev) rfl HS2.out.ma HS2.out.mb HS2.out.mc
  clear hr2 hg2 HS1 HS1b
  have d1 : (w2).cell? ⟨w.heap.size + 1, 1, none⟩ = some (.int .i64 0) := HS2.out.at_.2.1 1
  have d1f : (w2).frozen? ⟨w.heap.size + 1, 1, none⟩ = false := HS2.out.at_.2.2 1
  have d2 : (w2.setCell ⟨w.heap.size + 1, 1, none⟩ (.int .i64 ev)).cell? ⟨w.heap.size + 1, 1, none⟩ = some (.int .i64 ev) := HS2b.out.at_.2.1 1
  have d2f : (w2.setCell ⟨w.heap.size + 1, 1, none⟩ (.int .i64 ev)).frozen? ⟨w.heap.size + 1, 1, none⟩ = false := HS2b.out.at_.2.2 1
  go_wp2_with fail
  clear d1 d1f d2 d2f
  refine (unitW_any rb gw u ev (by have := HOK.out.unit; dsimp only at this; omega) _ _ HS2b.out.rw_).mono ?_
  rintro e w3 ⟨rfl, hr3, hg3⟩
  have HS3 := Lib.hid (HS2b.out.call hrb hr3 hg3)
  have HS3b : Hid (SR w rb gw _ ⟨u, ev, 0, -1, 0, [], [], 0, []⟩ _ _ _ _) := HS3.out.put hrb hgw 0 (.int .i64 u) rfl HS3.out.ma HS3.out.mb HS3.out.mc
  clear hr3 hg3 HS2 HS2b
  have d1 : (w3).cell? ⟨w.heap.size + 1, 0, none⟩ = some (.int .i64 0) := HS3.out.at_.2.1 0
  have d1f : (w3).frozen? ⟨w.heap.size + 1, 0, none⟩ = false := HS3.out.at_.2.2 0
  have b1 : (w3.setCell ⟨w.heap.size + 1, 0, none⟩ (.int .i64 u)).cell? ⟨rb, 1, none⟩ = some (.bool false) := HS3b.out.at_.1.1
  have b1f : (w3.setCell ⟨w.heap.size + 1, 0, none⟩ (.int .i64 u)).frozen? ⟨rb, 1, none⟩ = false := HS3b.out.at_.1.2
  go_wp2_with fail
  clear d1 d1f b1 b1f
  refine (takeW_yes rb gw wFrom _ _ HS3b.out.rw_).mono ?_
  rintro e w4 ⟨rfl, hr4, hg4⟩
  have HS4 := Lib.hid (HS3b.out.call hrb hr4 hg4)
  have HS4b := Lib.hid (HS4.out.bad hrb)
  clear hr4 hg4 HS3 HS3b
  have b1 : (w4).cell? ⟨rb, 1, none⟩ = some (.bool false) := HS4.out.at_.1.1
  have b1f : (w4).frozen? ⟨rb, 1, none⟩ = false := HS4.out.at_.1.2
  go_wp2_with fail
  clear b1 b1f
  refine (dayW_any rb gw fr (by have := HOK.out.from_; dsimp only at this; omega) (by have := HOK.out.from_; dsimp only at this; omega) _ _ HS4b.out.rw_).mono ?_
  rintro e w5 ⟨rfl, hr5, hg5⟩
  have HS5 := Lib.hid (HS4b.out.call hrb hr5 hg5)
  have HS5b : Hid (SR w rb gw _ ⟨u, ev, fr, -1, 0, [], [], 0, []⟩ _ _ _ _) := HS5.out.put hrb hgw 2 (.int .i64 fr) rfl HS5.out.ma HS5.out.mb HS5.out.mc
  clear hr5 hg5 HS4 HS4b
  have d1 : (w5).cell? ⟨w.heap.size + 1, 2, none⟩ = some (.int .i64 0) := HS5.out.at_.2.1 2
  have d1f : (w5).frozen? ⟨w.heap.size + 1, 2, none⟩ = false := HS5.out.at_.2.2 2
  go_upto_region 7 with fail
  clear d1 d1f
  generalize w5.setCell ⟨w.heap.size + 1, 2, none⟩ (.int .i64 fr) = W5 at HS5b ⊢
  clear HS5
  -- u
  obtain ⟨q0, hq0⟩ : ∃ q, q = decide (0 ≤ un) := ⟨_, rfl⟩
  have HQ := Lib.hid hq0
  clear hq0
  go_cut [37] (fun sS wc => sS = .bool q0 ∧ Hid (SR w rb gw (cond q0 (dtS un :: wR4 ⟨u, ev, fr, un, ct, wk, ds, nth, sk⟩) (wR4 ⟨u, ev, fr, un, ct, wk, ds, nth, sk⟩)) ⟨u, ev, fr, -1, 0, [], [], 0, []⟩ (.slice none 0 0) (.slice none 0 0) (.slice none 0 0) wc))
  case first =>
    as_aux_lemma =>
    cases q0
    · have hu : ¬ (0 ≤ un) := of_decide_eq_false HQ.out.symm
      have e : wR3 ⟨u, ev, fr, un, ct, wk, ds, nth, sk⟩ = wR4 ⟨u, ev, fr, un, ct, wk, ds, nth, sk⟩ := by
        unfold wR3 uWs
        first | (rw [if_neg hu]; done) | (rw [if_neg hu]; rfl) | (rw [if_pos (Decidable.of_not_not hu)]; done) | (rw [if_pos (Decidable.of_not_not hu)]; rfl)
      have HS : Hid (SR w rb gw (wR4 ⟨u, ev, fr, un, ct, wk, ds, nth, sk⟩) ⟨u, ev, fr, -1, 0, [], [], 0, []⟩ (.slice none 0 0) (.slice none 0 0) (.slice none 0 0) W5) := by rw [← e]; exact HS5b
      clear HS5b e HQ HOK HP
      go_wp2_with fail
      refine (takeW_no rb gw wUntil _ W5 HS.out.rw_ (not_until _)).mono ?_
      rintro e1 w1 ⟨rfl, rfl⟩
      go_wp2_with fail
      go_meet
      exact ⟨rfl, HS⟩
    · have hu : 0 ≤ un := of_decide_eq_true HQ.out.symm
      have e : wR3 ⟨u, ev, fr, un, ct, wk, ds, nth, sk⟩ = wUntil :: (dtS un :: wR4 ⟨u, ev, fr, un, ct, wk, ds, nth, sk⟩) := by
        unfold wR3 uWs
        first | (rw [if_pos hu]; rfl) | (rw [if_neg hu]; simp)
      have HS : Hid (SR w rb gw (wUntil :: (dtS un :: wR4 ⟨u, ev, fr, un, ct, wk, ds, nth, sk⟩)) ⟨u, ev, fr, -1, 0, [], [], 0, []⟩ (.slice none 0 0) (.slice none 0 0) (.slice none 0 0) W5) := by rw [← e]; exact HS5b
      clear HS5b e HQ HOK HP
      go_wp2_with fail
      refine (takeW_yes rb gw wUntil _ W5 HS.out.rw_).mono ?_
      rintro e1 w1 ⟨rfl, hr1, hg1⟩
      have HS1 := Lib.hid (HS.out.call hrb hr1 hg1)
      clear hr1 hg1 HS
      go_wp2_with fail
      go_meet
      exact ⟨rfl, HS1⟩
  case rest =>
  obtain ⟨rfl, HCu⟩ := hcut
  clear HS5b
  obtain ⟨Vu, rfl⟩ : ∃ x, x = wc := ⟨_, rfl⟩
  go_upto_if 37 with fail
  go_cut [] (fun wc => Hid (SR w rb gw (wR4 ⟨u, ev, fr, un, ct, wk, ds, nth, sk⟩) ⟨u, ev, fr, un, 0, [], [], 0, []⟩ (.slice none 0 0) (.slice none 0 0) (.slice none 0 0) wc))
  case first =>
    as_aux_lemma =>
    cases q0
    · have hu : ¬ (0 ≤ un) := of_decide_eq_false HQ.out.symm
      have HS : Hid (SR w rb gw (wR4 ⟨u, ev, fr, un, ct, wk, ds, nth, sk⟩) ⟨u, ev, fr, -1, 0, [], [], 0, []⟩ (.slice none 0 0) (.slice none 0 0) (.slice none 0 0) Vu) := HCu
      obtain rfl : un = -1 := by have := HOK.out.until_; dsimp only at this; omega
      clear HCu HQ HOK HP
      go_wp2_with fail
      go_meet
      exact HS
    · have hu : 0 ≤ un := of_decide_eq_true HQ.out.symm
      have HS : Hid (SR w rb gw (dtS un :: wR4 ⟨u, ev, fr, un, ct, wk, ds, nth, sk⟩) ⟨u, ev, fr, -1, 0, [], [], 0, []⟩ (.slice none 0 0) (.slice none 0 0) (.slice none 0 0) Vu) := HCu
      clear HCu HQ
      go_wp2_with fail
      refine (dayW_any rb gw un hu (by have := HOK.out.until_; dsimp only at this; omega) _ _ HS.out.rw_).mono ?_
      rintro e1 w1 ⟨rfl, hr1, hg1⟩
      have HS1 := Lib.hid (HS.out.call hrb hr1 hg1)
      have HS2 : Hid (SR w rb gw _ ⟨u, ev, fr, un, 0, [], [], 0, []⟩ _ _ _ _) := HS1.out.put hrb hgw 3 (.int .i64 un) rfl HS1.out.ma HS1.out.mb HS1.out.mc
      have d1 : w1.cell? ⟨w.heap.size + 1, 3, none⟩ = some (.int .i64 (-1)) := HS1.out.at_.2.1 3
      have d2 : w1.frozen? ⟨w.heap.size + 1, 3, none⟩ = false := HS1.out.at_.2.2 3
      clear hr1 hg1 HS HS1 HOK HP
      go_wp2_with fail
      go_meet
      exact HS2
  case rest =>
  obtain ⟨Vub, rfl⟩ : ∃ x, x = wc := ⟨_, rfl⟩
  have HDu := hcut
  clear hcut
  clear HCu HQ q0
  -- t
  obtain ⟨q0, hq0⟩ : ∃ q, q = decide (0 < ct) := ⟨_, rfl⟩
  have HQ := Lib.hid hq0
  clear hq0
  go_upto_region 9 with fail
  go_cut [42] (fun sS wc => sS = .bool q0 ∧ Hid (SR w rb gw (cond q0 (wd ct :: wR5 ⟨u, ev, fr, un, ct, wk, ds, nth, sk⟩) (wR5 ⟨u, ev, fr, un, ct, wk, ds, nth, sk⟩)) ⟨u, ev, fr, un, 0, [], [], 0, []⟩ (.slice none 0 0) (.slice none 0 0) (.slice none 0 0) wc))
  case first =>
    as_aux_lemma =>
    cases q0
    · have hu : ¬ (0 < ct) := of_decide_eq_false HQ.out.symm
      have e : wR4 ⟨u, ev, fr, un, ct, wk, ds, nth, sk⟩ = wR5 ⟨u, ev, fr, un, ct, wk, ds, nth, sk⟩ := by
        unfold wR4 cWs
        first | (rw [if_neg hu]; done) | (rw [if_neg hu]; rfl) | (rw [if_pos (Decidable.of_not_not hu)]; done) | (rw [if_pos (Decidable.of_not_not hu)]; rfl)
      have HS : Hid (SR w rb gw (wR5 ⟨u, ev, fr, un, ct, wk, ds, nth, sk⟩) ⟨u, ev, fr, un, 0, [], [], 0, []⟩ (.slice none 0 0) (.slice none 0 0) (.slice none 0 0) Vub) := by rw [← e]; exact HDu
      clear HDu e HQ HOK HP
      go_wp2_with fail
      refine (takeW_no rb gw wTimes _ Vub HS.out.rw_ (not_times _)).mono ?_
      rintro e1 w1 ⟨rfl, rfl⟩
      go_wp2_with fail
      go_meet
      exact ⟨rfl, HS⟩
    · have hu : 0 < ct := of_decide_eq_true HQ.out.symm
      have e : wR4 ⟨u, ev, fr, un, ct, wk, ds, nth, sk⟩ = wTimes :: (wd ct :: wR5 ⟨u, ev, fr, un, ct, wk, ds, nth, sk⟩) := by
        unfold wR4 cWs
        first | (rw [if_pos hu]; rfl) | (rw [if_neg hu]; simp)
      have HS : Hid (SR w rb gw (wTimes :: (wd ct :: wR5 ⟨u, ev, fr, un, ct, wk, ds, nth, sk⟩)) ⟨u, ev, fr, un, 0, [], [], 0, []⟩ (.slice none 0 0) (.slice none 0 0) (.slice none 0 0) Vub) := by rw [← e]; exact HDu
      clear HDu e HQ HOK HP
      go_wp2_with fail
      refine (takeW_yes rb gw wTimes _ Vub HS.out.rw_).mono ?_
      rintro e1 w1 ⟨rfl, hr1, hg1⟩
      have HS1 := Lib.hid (HS.out.call hrb hr1 hg1)
      clear hr1 hg1 HS
      go_wp2_with fail
      go_meet
      exact ⟨rfl, HS1⟩
  case rest =>
  obtain ⟨rfl, HCt⟩ := hcut
  clear HDu
  obtain ⟨Vt, rfl⟩ : ∃ x, x = wc := ⟨_, rfl⟩
  go_upto_if 42 with fail
  go_cut [] (fun wc => Hid (SR w rb gw (wR5 ⟨u, ev, fr, un, ct, wk, ds, nth, sk⟩) ⟨u, ev, fr, un, ct, [], [], 0, []⟩ (.slice none 0 0) (.slice none 0 0) (.slice none 0 0) wc))
  case first =>
    as_aux_lemma =>
    cases q0
    · have hu : ¬ (0 < ct) := of_decide_eq_false HQ.out.symm
      have HS : Hid (SR w rb gw (wR5 ⟨u, ev, fr, un, ct, wk, ds, nth, sk⟩) ⟨u, ev, fr, un, 0, [], [], 0, []⟩ (.slice none 0 0) (.slice none 0 0) (.slice none 0 0) Vt) := HCt
      obtain rfl : ct = 0 := by have := HOK.out.count; dsimp only at this; omega
      clear HCt HQ HOK HP
      go_wp2_with fail
      go_meet
      exact HS
    · have hu : 0 < ct := of_decide_eq_true HQ.out.symm
      have HS : Hid (SR w rb gw (wd ct :: wR5 ⟨u, ev, fr, un, ct, wk, ds, nth, sk⟩) ⟨u, ev, fr, un, 0, [], [], 0, []⟩ (.slice none 0 0) (.slice none 0 0) (.slice none 0 0) Vt) := HCt
      clear HCt HQ
      go_wp2_with fail
      refine (numberW_any rb gw (wd ct) ct _ _ HS.out.rw_ (plM_wd (by have := HOK.out.count; dsimp only at this; omega)) (Nat.le_trans (wd_size (by have := HOK.out.count; dsimp only at this; omega)) (by omega)) (HP.out _ _ _ _ _ _ HS.out)).mono ?_
      rintro e1 w1 ⟨rfl, hr1, hg1⟩
      have HS1 := Lib.hid (HS.out.call hrb hr1 hg1)
      have HS2 : Hid (SR w rb gw _ ⟨u, ev, fr, un, ct, [], [], 0, []⟩ _ _ _ _) := HS1.out.put hrb hgw 4 (.int .i64 ct) rfl HS1.out.ma HS1.out.mb HS1.out.mc
      have HS3 := Lib.hid (HS2.out.bad hrb)
      have d1 : w1.cell? ⟨w.heap.size + 1, 4, none⟩ = some (.int .i64 0) := HS1.out.at_.2.1 4
      have d2 : w1.frozen? ⟨w.heap.size + 1, 4, none⟩ = false := HS1.out.at_.2.2 4
      have d3 : (w1.setCell ⟨w.heap.size + 1, 4, none⟩ (.int .i64 ct)).cell? ⟨w.heap.size + 1, 4, none⟩ = some (.int .i64 ct) := HS2.out.at_.2.1 4
      have d4 : (w1.setCell ⟨w.heap.size + 1, 4, none⟩ (.int .i64 ct)).cell? ⟨rb, 1, none⟩ = some (.bool false) := HS2.out.at_.1.1
      have d5 : (w1.setCell ⟨w.heap.size + 1, 4, none⟩ (.int .i64 ct)).frozen? ⟨rb, 1, none⟩ = false := HS2.out.at_.1.2
      have k1 : (ct == 0) = false := by rw [beq_eq_false_iff_ne]; omega
      clear hr1 hg1 HS HS1 HS2 HOK HP
      go_wp2_with fail
      go_meet
      exact HS3
  case rest =>
  obtain ⟨Vtb, rfl⟩ : ∃ x, x = wc := ⟨_, rfl⟩
  have HDt := hcut
  clear hcut
  clear HCt HQ q0
  -- o
  obtain ⟨q0, hq0⟩ : ∃ q, q = decide (wk ≠ []) := ⟨_, rfl⟩
  have HQ := Lib.hid hq0
  clear hq0
  go_upto_region 12 with fail
  go_cut [59] (fun sS wc => sS = .bool q0 ∧ Hid (SR w rb gw (cond q0 (nWs nth ++ (wk.map wdW ++ wR6 ⟨u, ev, fr, un, ct, wk, ds, nth, sk⟩)) (wR6 ⟨u, ev, fr, un, ct, wk, ds, nth, sk⟩)) ⟨u, ev, fr, un, ct, [], [], 0, []⟩ (.slice none 0 0) (.slice none 0 0) (.slice none 0 0) wc))
  case first =>
    as_aux_lemma =>
    cases q0
    · have hu : ¬ (wk ≠ []) := of_decide_eq_false HQ.out.symm
      have e : wR5 ⟨u, ev, fr, un, ct, wk, ds, nth, sk⟩ = wR6 ⟨u, ev, fr, un, ct, wk, ds, nth, sk⟩ := by
        unfold wR5 lWs
        first | (rw [if_neg hu]; done) | (rw [if_neg hu]; rfl) | (rw [if_pos (Decidable.of_not_not hu)]; done) | (rw [if_pos (Decidable.of_not_not hu)]; rfl)
      have HS : Hid (SR w rb gw (wR6 ⟨u, ev, fr, un, ct, wk, ds, nth, sk⟩) ⟨u, ev, fr, un, ct, [], [], 0, []⟩ (.slice none 0 0) (.slice none 0 0) (.slice none 0 0) Vtb) := by rw [← e]; exact HDt
      clear HDt e HQ HOK HP
      go_wp2_with fail
      refine (takeW_no rb gw wOn _ Vtb HS.out.rw_ (not_on _)).mono ?_
      rintro e1 w1 ⟨rfl, rfl⟩
      go_wp2_with fail
      go_meet
      exact ⟨rfl, HS⟩
    · have hu : wk ≠ [] := of_decide_eq_true HQ.out.symm
      have e : wR5 ⟨u, ev, fr, un, ct, wk, ds, nth, sk⟩ = wOn :: (nWs nth ++ (wk.map wdW ++ wR6 ⟨u, ev, fr, un, ct, wk, ds, nth, sk⟩)) := by
        unfold wR5 lWs
        first | (rw [if_pos hu]; rfl) | (rw [if_neg hu]; simp)
      have HS : Hid (SR w rb gw (wOn :: (nWs nth ++ (wk.map wdW ++ wR6 ⟨u, ev, fr, un, ct, wk, ds, nth, sk⟩))) ⟨u, ev, fr, un, ct, [], [], 0, []⟩ (.slice none 0 0) (.slice none 0 0) (.slice none 0 0) Vtb) := by rw [← e]; exact HDt
      clear HDt e HQ HOK HP
      go_wp2_with fail
      refine (takeW_yes rb gw wOn _ Vtb HS.out.rw_).mono ?_
      rintro e1 w1 ⟨rfl, hr1, hg1⟩
      have HS1 := Lib.hid (HS.out.call hrb hr1 hg1)
      clear hr1 hg1 HS
      go_wp2_with fail
      go_meet
      exact ⟨rfl, HS1⟩
  case rest =>
  obtain ⟨rfl, HCo⟩ := hcut
  clear HDt
  obtain ⟨Vo, rfl⟩ : ∃ x, x = wc := ⟨_, rfl⟩
  go_upto_if 59 with fail
  go_cut [] (fun wc => ∃ va, Hid (SR w rb gw (wR6 ⟨u, ev, fr, un, ct, wk, ds, nth, sk⟩) ⟨u, ev, fr, un, ct, wk, [], nth, []⟩ va (.slice none 0 0) (.slice none 0 0) wc))
  case first =>
    as_aux_lemma =>
    cases q0
    · have hu : ¬ (wk ≠ []) := of_decide_eq_false HQ.out.symm
      have HS : Hid (SR w rb gw (wR6 ⟨u, ev, fr, un, ct, wk, ds, nth, sk⟩) ⟨u, ev, fr, un, ct, [], [], 0, []⟩ (.slice none 0 0) (.slice none 0 0) (.slice none 0 0) Vo) := HCo
      obtain rfl : wk = [] := Decidable.of_not_not hu
      obtain rfl : nth = 0 := Decidable.of_not_not fun hn => HOK.out.nw hn rfl
      clear HCo HQ HOK HP
      go_wp2_with fail
      go_meet
      exact ⟨_, HS⟩
    · have hu : wk ≠ [] := of_decide_eq_true HQ.out.symm
      have HS : Hid (SR w rb gw (nWs nth ++ (wk.map wdW ++ wR6 ⟨u, ev, fr, un, ct, wk, ds, nth, sk⟩)) ⟨u, ev, fr, un, ct, [], [], 0, []⟩ (.slice none 0 0) (.slice none 0 0) (.slice none 0 0) Vo) := HCo
      clear HCo HQ
      obtain ⟨n0, wk', hwk⟩ : ∃ n0 wk', wk = n0 :: wk' := by
        cases wk with
        | nil => exact absurd rfl hu
        | cons a l => exact ⟨a, l, rfl⟩
      obtain ⟨q2, hq2⟩ : ∃ q, q = decide (nth ≠ 0) := ⟨_, rfl⟩
      have HQ2 := Lib.hid hq2
      clear hq2
      have HHD : Hid (q2 = false → ∃ y R, nWs nth ++ (wk.map wdW ++ wR6 ⟨u, ev, fr, un, ct, wk, ds, nth, sk⟩) = y :: R ∧ y.size ≤ 100 ∧ Lib.hasSuffix y.data.toList [116, 104] = false) := fun e => by
        have h0 : nth = 0 := Decidable.of_not_not (of_decide_eq_false (HQ2.out.symm.trans e))
        refine ⟨wdW n0, wk'.map wdW ++ wR6 ⟨u, ev, fr, un, ct, wk, ds, nth, sk⟩, ?_, wdW_sz (HOK.out.wk n0 (by rw [hwk]; simp)), suf_wd (HOK.out.wk n0 (by rw [hwk]; simp))⟩
        unfold nWs
        rw [if_pos h0, hwk]
        rfl
      have HHT : Hid (q2 = true → nWs nth ++ (wk.map wdW ++ wR6 ⟨u, ev, fr, un, ct, wk, ds, nth, sk⟩) = (wd nth ++ ⟨#[116, 104]⟩) :: (wk.map wdW ++ wR6 ⟨u, ev, fr, un, ct, wk, ds, nth, sk⟩) ∧ nth ≠ 0) := fun e => by
        have h0 : nth ≠ 0 := of_decide_eq_true (HQ2.out.symm.trans e)
        unfold nWs
        rw [if_neg h0]
        exact ⟨rfl, h0⟩
      have hwn := wd_size (n := nth) (by have := HOK.out.nth; dsimp only at this; omega)
      go_upto_region 13 with fail
      go_cut [74] (fun s74 wx => s74 = .bool q2 ∧ wx = Vo)
      case first =>
        as_aux_lemma =>
        cases q2
        · obtain ⟨y, R, e, hy, hs⟩ := HHD.out rfl
          have HW : Hid (RW Vo rb gw (y :: R)) := by rw [← e]; exact HS.out.rw_
          obtain ⟨off, cc, k1, k2, k3⟩ := HW.out.rd
          have c0 : Vo.cell? ⟨rb, 0, none⟩ = some (.slice (some ⟨gw, off, none⟩) (R.length + 1) cc) := k1.cell 0
          have cx : Vo.cell? ⟨gw, off, none⟩ = some (.string y) := k3 0 y rfl
          have HSF := Tryz.strings_HasSuffix y ⟨#[116, 104]⟩ Vo (by omega)
          rw [show Lib.hasSuffix y.data.toList (⟨#[116, 104]⟩ : ByteArray).data.toList = false from hs] at HSF
          have HSF := Lib.hid HSF
          clear HHD HHT HQ2 e hs hy k1 k2 k3 HW HS HOK HP hwk hu
          go_wp2_with fail
          refine HSF.out.mono ?_
          rintro e1 w1 ⟨rfl, rfl⟩
          go_wp2_with fail
          go_meet
          exact ⟨rfl, rfl⟩
        · obtain ⟨e, h0⟩ := HHT.out rfl
          have HW : Hid (RW Vo rb gw ((wd nth ++ ⟨#[116, 104]⟩) :: (wk.map wdW ++ wR6 ⟨u, ev, fr, un, ct, wk, ds, nth, sk⟩))) := by rw [← e]; exact HS.out.rw_
          generalize wk.map wdW ++ wR6 ⟨u, ev, fr, un, ct, wk, ds, nth, sk⟩ = R at HW
          obtain ⟨off, cc, k1, k2, k3⟩ := HW.out.rd
          have HSF := Tryz.strings_HasSuffix (wd nth ++ ⟨#[116, 104]⟩) ⟨#[116, 104]⟩ Vo (by rw [ByteArray.size_append]; show (wd nth).size + 2 ≤ _; omega)
          rw [show Lib.hasSuffix (wd nth ++ ⟨#[116, 104]⟩ : ByteArray).data.toList (⟨#[116, 104]⟩ : ByteArray).data.toList = true from suf_th _] at HSF
          have HSF := Lib.hid HSF
          have c0 : Vo.cell? ⟨rb, 0, none⟩ = some (.slice (some ⟨gw, off, none⟩) (R.length + 1) cc) := k1.cell 0
          have cx : Vo.cell? ⟨gw, off, none⟩ = some (.string (wd nth ++ ⟨#[116, 104]⟩)) := k3 0 _ rfl
          generalize wd nth ++ ⟨#[116, 104]⟩ = Y at HSF cx
          clear HHD HHT HQ2 e h0 k1 k2 k3 HW HS HOK HP hwk hu
          go_wp2_with fail
          refine HSF.out.mono ?_
          rintro e1 w1 ⟨rfl, rfl⟩
          go_wp2_with fail
          go_meet
          exact ⟨rfl, rfl⟩
      case rest =>
      obtain ⟨rfl, rfl⟩ := hcut
      go_upto_if 74 with fail
      go_cut [] (fun wx => Hid (SR w rb gw (wk.map wdW ++ wR6 ⟨u, ev, fr, un, ct, wk, ds, nth, sk⟩) ⟨u, ev, fr, un, ct, [], [], nth, []⟩ (.slice none 0 0) (.slice none 0 0) (.slice none 0 0) wx))
      case first =>
        as_aux_lemma =>
        cases q2
        · have h0 : nth = 0 := Decidable.of_not_not (of_decide_eq_false HQ2.out.symm)
          have HS2 : Hid (SR w rb gw (wk.map wdW ++ wR6 ⟨u, ev, fr, un, ct, wk, ds, nth, sk⟩) ⟨u, ev, fr, un, ct, [], [], nth, []⟩ (.slice none 0 0) (.slice none 0 0) (.slice none 0 0) wc) := by
            have e : nWs nth ++ (wk.map wdW ++ wR6 ⟨u, ev, fr, un, ct, wk, ds, nth, sk⟩) = wk.map wdW ++ wR6 ⟨u, ev, fr, un, ct, wk, ds, nth, sk⟩ := by unfold nWs; rw [if_pos h0]; rfl
            rw [← e, h0]
            rw [h0] at HS
            exact HS
          clear HHD HHT HQ2 HS HOK HP hwk hu h0
          go_wp2_with fail
          go_meet
          exact HS2
        · obtain ⟨e, h0⟩ := HHT.out rfl
          have HS2 : Hid (SR w rb gw ((wd nth ++ ⟨#[116, 104]⟩) :: (wk.map wdW ++ wR6 ⟨u, ev, fr, un, ct, wk, ds, nth, sk⟩)) ⟨u, ev, fr, un, ct, [], [], 0, []⟩ (.slice none 0 0) (.slice none 0 0) (.slice none 0 0) wc) := by rw [← e]; exact HS
          have HTS : Hid (∀ W, Calls Tryz.prog 74 #[.string (wd nth ++ ⟨#[116, 104]⟩), .string ⟨#[116, 104]⟩] W fun e w' => e = .returned (.string (wd nth)) ∧ w' = W) := fun W => by
            have := Tryz.strings_TrimSuffix (wd nth ++ ⟨#[116, 104]⟩) ⟨#[116, 104]⟩ W (by rw [ByteArray.size_append]; show (wd nth).size + 2 ≤ _; omega)
            rw [show (⟨(Lib.trimSuffix (wd nth ++ ⟨#[116, 104]⟩ : ByteArray).data.toList (⟨#[116, 104]⟩ : ByteArray).data.toList).toArray⟩ : ByteArray) = wd nth from trim_th _] at this
            exact this
          have HPN : Hid (∀ W, Pow W → Calls Tryz.prog 73 #[.string (wd nth)] W fun e w' => e = .returned (.tuple #[.int .i64 nth, .bool true]) ∧ Below W.heap.size W w') := fun W hW => by
            refine (plainNumberD_any (wd nth) W (by omega) hW).mono ?_
            rintro e w' ⟨n', rfl, h1, h2⟩
            rw [plM_wd (by have := HOK.out.nth; dsimp only at this; omega)] at h1 ⊢
            rw [h1 nth rfl]
            exact ⟨rfl, h2⟩
          have k1 : (nth == 0) = false := by rw [beq_eq_false_iff_ne]; exact h0
          clear HHD HHT HQ2 HS hwk hu e h0
          generalize hY : wd nth ++ ⟨#[116, 104]⟩ = Y at HS2 HTS
          clear hY
          go_wp2_with fail
          refine (next_any rb gw Y _ wc HS2.out.rw_).mono ?_
          rintro e1 w1 ⟨rfl, hr1, hg1⟩
          have HS3 := Lib.hid (HS2.out.call hrb hr1 hg1)
          have HP1 := Lib.hid (HP.out _ _ _ _ _ _ HS2.out w1 hg1)
          clear hr1 hg1 HS2 HP HOK
          go_wp2_with fail
          refine (HTS.out w1).mono ?_
          rintro e1 w1' ⟨rfl, rfl⟩
          go_wp2_with fail
          refine (HPN.out w1' HP1.out).mono ?_
          rintro e1 w2 ⟨rfl, hb2⟩
          have HS4 := Lib.hid (HS3.out.call hrb (HS3.out.rw_.below hb2) (gr_of hb2))
          have HS5 := Lib.hid (HS4.out.bad hrb)
          have HS6 : Hid (SR w rb gw _ ⟨u, ev, fr, un, ct, [], [], nth, []⟩ _ _ _ _) := HS5.out.put hrb hgw 7 (.int .i64 nth) rfl HS5.out.ma HS5.out.mb HS5.out.mc
          have d1 : w2.cell? ⟨rb, 1, none⟩ = some (.bool false) := HS4.out.at_.1.1
          have d2 : w2.frozen? ⟨rb, 1, none⟩ = false := HS4.out.at_.1.2
          have d3 : (w2.setCell ⟨rb, 1, none⟩ (.bool false)).cell? ⟨w.heap.size + 1, 7, none⟩ = some (.int .i64 0) := HS5.out.at_.2.1 7
          have d4 : (w2.setCell ⟨rb, 1, none⟩ (.bool false)).frozen? ⟨w.heap.size + 1, 7, none⟩ = false := HS5.out.at_.2.2 7
          clear hb2 HS3 HS4 HS5 HTS HPN HP1
          go_wp2_with fail
          go_meet
          exact HS6
      case rest =>
      have HS2 := hcut
      clear hcut HHD HHT HQ2 HS
      obtain ⟨Vm, rfl⟩ : ∃ x, x = wc := ⟨_, rfl⟩
      have HL := Lib.hid (list_any' 77 wdW (enters_of Tryz.func77 (by kernel_rfl) rfl) wk (wR6 ⟨u, ev, fr, un, ct, wk, ds, nth, sk⟩) rb gw Vm (fun n hn => wd_cl (HOK.out.wk n hn)) (fun y hy => by
        rcases head6 ⟨u, ev, fr, un, ct, wk, ds, nth, sk⟩ with h | h | h
        · rw [h] at hy; cases hy
        · rw [h] at hy; injection hy with hy; rw [← hy]; exact wd_skip
        · rw [h] at hy; injection hy with hy; rw [← hy]; exact wd_dates) hu (fun n hn => by have := HOK.out.wk n hn; exact ⟨by omega, by omega⟩) HS2.out.rw_ (HP.out _ _ _ _ _ _ HS2.out))
      clear HOK HP hwk hu
      go_wp2_with fail
      refine HL.out.mono ?_
      rintro e1 w1 ⟨⟨A1, n1, c1, rfl, hx1⟩, hr1, hg1⟩
      have HS3 := Lib.hid (HS2.out.call hrb hr1 hg1)
      have HS4 : Hid (SR w rb gw _ ⟨u, ev, fr, un, ct, wk, [], nth, []⟩ (.slice A1 n1 c1) _ _ _) := HS3.out.put hrb hgw 5 (.slice A1 n1 c1) rfl (hx1.weak fun k hk => ⟨Nat.le_trans HS2.out.size hk.1, hk.2⟩) HS3.out.mb HS3.out.mc
      have d1 : w1.cell? ⟨w.heap.size + 1, 5, none⟩ = some (.slice none 0 0) := HS3.out.at_.2.1 5
      have d2 : w1.frozen? ⟨w.heap.size + 1, 5, none⟩ = false := HS3.out.at_.2.2 5
      clear hx1 hr1 hg1 HS2 HS3 HL
      go_wp2_with fail
      go_meet
      exact ⟨_, HS4⟩
  case rest =>
  obtain ⟨Vob, rfl⟩ : ∃ x, x = wc := ⟨_, rfl⟩
  obtain ⟨va, HDo⟩ := hcut
  clear HCo HQ q0
  -- d
  obtain ⟨q0, hq0⟩ : ∃ q, q = decide (ds ≠ []) := ⟨_, rfl⟩
  have HQ := Lib.hid hq0
  clear hq0
  go_upto_region 18 with fail
  go_cut [103] (fun sS wc => sS = .bool q0 ∧ Hid (SR w rb gw (cond q0 (ds.map wd ++ wR7 ⟨u, ev, fr, un, ct, wk, ds, nth, sk⟩) (wR7 ⟨u, ev, fr, un, ct, wk, ds, nth, sk⟩)) ⟨u, ev, fr, un, ct, wk, [], nth, []⟩ va (.slice none 0 0) (.slice none 0 0) wc))
  case first =>
    as_aux_lemma =>
    cases q0
    · have hu : ¬ (ds ≠ []) := of_decide_eq_false HQ.out.symm
      have e : wR6 ⟨u, ev, fr, un, ct, wk, ds, nth, sk⟩ = wR7 ⟨u, ev, fr, un, ct, wk, ds, nth, sk⟩ := by
        unfold wR6 lWs
        first | (rw [if_neg hu]; done) | (rw [if_neg hu]; rfl) | (rw [if_pos (Decidable.of_not_not hu)]; done) | (rw [if_pos (Decidable.of_not_not hu)]; rfl)
      have HS : Hid (SR w rb gw (wR7 ⟨u, ev, fr, un, ct, wk, ds, nth, sk⟩) ⟨u, ev, fr, un, ct, wk, [], nth, []⟩ va (.slice none 0 0) (.slice none 0 0) Vob) := by rw [← e]; exact HDo
      clear HDo e HQ HOK HP
      go_wp2_with fail
      refine (takeW_no rb gw wDates _ Vob HS.out.rw_ (not_dates _)).mono ?_
      rintro e1 w1 ⟨rfl, rfl⟩
      go_wp2_with fail
      go_meet
      exact ⟨rfl, HS⟩
    · have hu : ds ≠ [] := of_decide_eq_true HQ.out.symm
      have e : wR6 ⟨u, ev, fr, un, ct, wk, ds, nth, sk⟩ = wDates :: (ds.map wd ++ wR7 ⟨u, ev, fr, un, ct, wk, ds, nth, sk⟩) := by
        unfold wR6 lWs
        first | (rw [if_pos hu]; rfl) | (rw [if_neg hu]; simp)
      have HS : Hid (SR w rb gw (wDates :: (ds.map wd ++ wR7 ⟨u, ev, fr, un, ct, wk, ds, nth, sk⟩)) ⟨u, ev, fr, un, ct, wk, [], nth, []⟩ va (.slice none 0 0) (.slice none 0 0) Vob) := by rw [← e]; exact HDo
      clear HDo e HQ HOK HP
      go_wp2_with fail
      refine (takeW_yes rb gw wDates _ Vob HS.out.rw_).mono ?_
      rintro e1 w1 ⟨rfl, hr1, hg1⟩
      have HS1 := Lib.hid (HS.out.call hrb hr1 hg1)
      clear hr1 hg1 HS
      go_wp2_with fail
      go_meet
      exact ⟨rfl, HS1⟩
  case rest =>
  obtain ⟨rfl, HCd⟩ := hcut
  clear HDo
  obtain ⟨Vd, rfl⟩ : ∃ x, x = wc := ⟨_, rfl⟩
  go_upto_if 103 with fail
  go_cut [] (fun wc => ∃ vb, Hid (SR w rb gw (wR7 ⟨u, ev, fr, un, ct, wk, ds, nth, sk⟩) ⟨u, ev, fr, un, ct, wk, ds, nth, []⟩ va vb (.slice none 0 0) wc))
  case first =>
    as_aux_lemma =>
    cases q0
    · have hu : ¬ (ds ≠ []) := of_decide_eq_false HQ.out.symm
      have HS : Hid (SR w rb gw (wR7 ⟨u, ev, fr, un, ct, wk, ds, nth, sk⟩) ⟨u, ev, fr, un, ct, wk, [], nth, []⟩ va (.slice none 0 0) (.slice none 0 0) Vd) := HCd
      obtain rfl : ds = [] := Decidable.of_not_not hu
      clear HCd HQ HOK HP
      go_wp2_with fail
      go_meet
      exact ⟨_, HS⟩
    · have hu : ds ≠ [] := of_decide_eq_true HQ.out.symm
      have HS : Hid (SR w rb gw (ds.map wd ++ wR7 ⟨u, ev, fr, un, ct, wk, ds, nth, sk⟩) ⟨u, ev, fr, un, ct, wk, [], nth, []⟩ va (.slice none 0 0) (.slice none 0 0) Vd) := HCd
      clear HCd HQ
      have HL := Lib.hid (list_any' 73 wd (enters_of Tryz.func73 (by kernel_rfl) rfl) ds (wR7 ⟨u, ev, fr, un, ct, wk, ds, nth, sk⟩) rb gw Vd (fun n hn => by have h1 := plain_cl (x := wd n) (Nat.le_trans (wd_size (by have := HOK.out.ds n hn; omega)) (by omega)); rw [plM_wd (by have := HOK.out.ds n hn; omega)] at h1; exact h1) (fun y hy => by rcases head7 ⟨u, ev, fr, un, ct, wk, ds, nth, sk⟩ with h | h <;> rw [h] at hy <;> first | (cases hy; done) | (injection hy with hy; rw [← hy]; have h1 := plain_cl (x := wSkip) (by decide); rw [plM_skip] at h1; exact h1)) hu (fun n hn => by have := HOK.out.ds n hn; exact ⟨by omega, by omega⟩) HS.out.rw_ (HP.out _ _ _ _ _ _ HS.out))
      clear HOK HP hu
      go_wp2_with fail
      refine HL.out.mono ?_
      rintro e1 w1 ⟨⟨A1, n1, c1, rfl, hx1⟩, hr1, hg1⟩
      have HS3 := Lib.hid (HS.out.call hrb hr1 hg1)
      have HS4 : Hid (SR w rb gw _ ⟨u, ev, fr, un, ct, wk, ds, nth, []⟩ va (.slice A1 n1 c1) (.slice none 0 0) _) := HS3.out.put hrb hgw 6 (.slice A1 n1 c1) rfl HS3.out.ma (hx1.weak fun k hk => ⟨Nat.le_trans HS.out.size hk.1, hk.2⟩) HS3.out.mc
      have d1 : w1.cell? ⟨w.heap.size + 1, 6, none⟩ = some (.slice none 0 0) := HS3.out.at_.2.1 6
      have d2 : w1.frozen? ⟨w.heap.size + 1, 6, none⟩ = false := HS3.out.at_.2.2 6
      clear hx1 hr1 hg1 HS HS3 HL
      go_wp2_with fail
      go_meet
      exact ⟨_, HS4⟩
  case rest =>
  obtain ⟨Vdb, rfl⟩ : ∃ x, x = wc := ⟨_, rfl⟩
  obtain ⟨vb, HDd⟩ := hcut
  clear HCd HQ q0
  -- s
  obtain ⟨q0, hq0⟩ : ∃ q, q = decide (sk ≠ []) := ⟨_, rfl⟩
  have HQ := Lib.hid hq0
  clear hq0
  go_upto_region 20 with fail
  go_cut [108] (fun sS wc => sS = .bool q0 ∧ Hid (SR w rb gw (cond q0 (sk.map dtS ++ []) ([])) ⟨u, ev, fr, un, ct, wk, ds, nth, []⟩ va vb (.slice none 0 0) wc))
  case first =>
    as_aux_lemma =>
    cases q0
    · have hu : ¬ (sk ≠ []) := of_decide_eq_false HQ.out.symm
      have e : wR7 ⟨u, ev, fr, un, ct, wk, ds, nth, sk⟩ = [] := by
        unfold wR7 lWs
        first | (rw [if_neg hu]; done) | (rw [if_neg hu]; rfl) | (rw [if_pos (Decidable.of_not_not hu)]; done) | (rw [if_pos (Decidable.of_not_not hu)]; rfl)
      have HS : Hid (SR w rb gw ([]) ⟨u, ev, fr, un, ct, wk, ds, nth, []⟩ va vb (.slice none 0 0) Vdb) := by rw [← e]; exact HDd
      clear HDd e HQ HOK HP
      go_wp2_with fail
      refine (takeW_no rb gw wSkip _ Vdb HS.out.rw_ (by intro h; cases h)).mono ?_
      rintro e1 w1 ⟨rfl, rfl⟩
      go_wp2_with fail
      go_meet
      exact ⟨rfl, HS⟩
    · have hu : sk ≠ [] := of_decide_eq_true HQ.out.symm
      have e : wR7 ⟨u, ev, fr, un, ct, wk, ds, nth, sk⟩ = wSkip :: (sk.map dtS ++ []) := by
        unfold wR7 lWs
        first | (rw [if_pos hu]; rfl) | (rw [if_neg hu]; simp)
      have HS : Hid (SR w rb gw (wSkip :: (sk.map dtS ++ [])) ⟨u, ev, fr, un, ct, wk, ds, nth, []⟩ va vb (.slice none 0 0) Vdb) := by rw [← e]; exact HDd
      clear HDd e HQ HOK HP
      go_wp2_with fail
      refine (takeW_yes rb gw wSkip _ Vdb HS.out.rw_).mono ?_
      rintro e1 w1 ⟨rfl, hr1, hg1⟩
      have HS1 := Lib.hid (HS.out.call hrb hr1 hg1)
      clear hr1 hg1 HS
      go_wp2_with fail
      go_meet
      exact ⟨rfl, HS1⟩
  case rest =>
  obtain ⟨rfl, HCs⟩ := hcut
  clear HDd
  obtain ⟨Vs, rfl⟩ : ∃ x, x = wc := ⟨_, rfl⟩
  go_upto_if 108 with fail
  go_cut [] (fun wc => ∃ vc, Hid (SR w rb gw ([]) ⟨u, ev, fr, un, ct, wk, ds, nth, sk⟩ va vb vc wc))
  case first =>
    as_aux_lemma =>
    cases q0
    · have hu : ¬ (sk ≠ []) := of_decide_eq_false HQ.out.symm
      have HS : Hid (SR w rb gw ([]) ⟨u, ev, fr, un, ct, wk, ds, nth, []⟩ va vb (.slice none 0 0) Vs) := HCs
      obtain rfl : sk = [] := Decidable.of_not_not hu
      clear HCs HQ HOK HP
      go_wp2_with fail
      go_meet
      exact ⟨_, HS⟩
    · have hu : sk ≠ [] := of_decide_eq_true HQ.out.symm
      have HS : Hid (SR w rb gw (sk.map dtS ++ []) ⟨u, ev, fr, un, ct, wk, ds, nth, []⟩ va vb (.slice none 0 0) Vs) := HCs
      clear HCs HQ
      have HL := Lib.hid (list_any' 79 dtS (enters_of Tryz.func79 (by kernel_rfl) rfl) sk ([]) rb gw Vs (fun n hn => date_cl (HOK.out.skip n hn).1 (HOK.out.skip n hn).2) (fun y hy => by cases hy) hu (fun n hn => by have := HOK.out.skip n hn; exact ⟨by omega, by omega⟩) HS.out.rw_ (HP.out _ _ _ _ _ _ HS.out))
      clear HOK HP hu
      go_wp2_with fail
      refine HL.out.mono ?_
      rintro e1 w1 ⟨⟨A1, n1, c1, rfl, hx1⟩, hr1, hg1⟩
      have HS3 := Lib.hid (HS.out.call hrb hr1 hg1)
      have HS4 : Hid (SR w rb gw _ ⟨u, ev, fr, un, ct, wk, ds, nth, sk⟩ va vb (.slice A1 n1 c1) _) := HS3.out.put hrb hgw 8 (.slice A1 n1 c1) rfl HS3.out.ma HS3.out.mb (hx1.weak fun k hk => ⟨Nat.le_trans HS.out.size hk.1, hk.2⟩)
      have d1 : w1.cell? ⟨w.heap.size + 1, 8, none⟩ = some (.slice none 0 0) := HS3.out.at_.2.1 8
      have d2 : w1.frozen? ⟨w.heap.size + 1, 8, none⟩ = false := HS3.out.at_.2.2 8
      clear hx1 hr1 hg1 HS HS3 HL
      go_wp2_with fail
      go_meet
      exact ⟨_, HS4⟩
  case rest =>
  obtain ⟨Vsb, rfl⟩ : ∃ x, x = wc := ⟨_, rfl⟩
  obtain ⟨vc, HDs⟩ := hcut
  clear HCs HQ q0
  have HE := Lib.hid (HDs.out.bad hrb)
  obtain ⟨A1, n1, c1, rfl⟩ : ∃ A n c, va = .slice A n c := by obtain ⟨A, n, c, e, _⟩ := HDs.out.ma; exact ⟨A, n, c, e⟩
  obtain ⟨A2, n2, c2, rfl⟩ : ∃ A n c, vb = .slice A n c := by obtain ⟨A, n, c, e, _⟩ := HDs.out.mb; exact ⟨A, n, c, e⟩
  obtain ⟨A3, n3, c3, rfl⟩ : ∃ A n c, vc = .slice A n c := by obtain ⟨A, n, c, e, _⟩ := HDs.out.mc; exact ⟨A, n, c, e⟩
  obtain ⟨off, cc, k1, k2, k3⟩ := HDs.out.rw_.rd
  have c0 : Vsb.cell? ⟨rb, 0, none⟩ = some (.slice (some ⟨gw, off, none⟩) 0 cc) := k1.cell 0
  have c1' : Vsb.cell? ⟨rb, 1, none⟩ = some (.bool false) := k1.cell 1
  have f1' : Vsb.frozen? ⟨rb, 1, none⟩ = false := k1.frozen 1
  have e0 : (Vsb.setCell ⟨rb, 1, none⟩ (.bool false)).cell? ⟨w.heap.size + 1, 0, none⟩ = some (.int .i64 u) := HE.out.at_.2.1 0
  have e1 : (Vsb.setCell ⟨rb, 1, none⟩ (.bool false)).cell? ⟨w.heap.size + 1, 1, none⟩ = some (.int .i64 ev) := HE.out.at_.2.1 1
  have e2 : (Vsb.setCell ⟨rb, 1, none⟩ (.bool false)).cell? ⟨w.heap.size + 1, 2, none⟩ = some (.int .i64 fr) := HE.out.at_.2.1 2
  have e3 : (Vsb.setCell ⟨rb, 1, none⟩ (.bool false)).cell? ⟨w.heap.size + 1, 3, none⟩ = some (.int .i64 un) := HE.out.at_.2.1 3
  have e4 : (Vsb.setCell ⟨rb, 1, none⟩ (.bool false)).cell? ⟨w.heap.size + 1, 4, none⟩ = some (.int .i64 ct) := HE.out.at_.2.1 4
  have e5 : (Vsb.setCell ⟨rb, 1, none⟩ (.bool false)).cell? ⟨w.heap.size + 1, 5, none⟩ = some (.slice A1 n1 c1) := HE.out.at_.2.1 5
  have e6 : (Vsb.setCell ⟨rb, 1, none⟩ (.bool false)).cell? ⟨w.heap.size + 1, 6, none⟩ = some (.slice A2 n2 c2) := HE.out.at_.2.1 6
  have e7 : (Vsb.setCell ⟨rb, 1, none⟩ (.bool false)).cell? ⟨w.heap.size + 1, 7, none⟩ = some (.int .i64 nth) := HE.out.at_.2.1 7
  have e8 : (Vsb.setCell ⟨rb, 1, none⟩ (.bool false)).cell? ⟨w.heap.size + 1, 8, none⟩ = some (.slice A3 n3 c3) := HE.out.at_.2.1 8
  have z0 : (Vsb.setCell ⟨rb, 1, none⟩ (.bool false)).cell? ⟨w.heap.size, 0, none⟩ = some (.int .i64 0) := HE.out.br.cell 0
  have y0 : (Vsb.setCell ⟨rb, 1, none⟩ (.bool false)).frozen? ⟨w.heap.size, 0, none⟩ = false := HE.out.br.frozen 0
  have z1 : (Vsb.setCell ⟨rb, 1, none⟩ (.bool false)).cell? ⟨w.heap.size, 1, none⟩ = some (.int .i64 0) := HE.out.br.cell 1
  have y1 : (Vsb.setCell ⟨rb, 1, none⟩ (.bool false)).frozen? ⟨w.heap.size, 1, none⟩ = false := HE.out.br.frozen 1
  have z2 : (Vsb.setCell ⟨rb, 1, none⟩ (.bool false)).cell? ⟨w.heap.size, 2, none⟩ = some (.int .i64 0) := HE.out.br.cell 2
  have y2 : (Vsb.setCell ⟨rb, 1, none⟩ (.bool false)).frozen? ⟨w.heap.size, 2, none⟩ = false := HE.out.br.frozen 2
  have z3 : (Vsb.setCell ⟨rb, 1, none⟩ (.bool false)).cell? ⟨w.heap.size, 3, none⟩ = some (.int .i64 0) := HE.out.br.cell 3
  have y3 : (Vsb.setCell ⟨rb, 1, none⟩ (.bool false)).frozen? ⟨w.heap.size, 3, none⟩ = false := HE.out.br.frozen 3
  have z4 : (Vsb.setCell ⟨rb, 1, none⟩ (.bool false)).cell? ⟨w.heap.size, 4, none⟩ = some (.int .i64 0) := HE.out.br.cell 4
  have y4 : (Vsb.setCell ⟨rb, 1, none⟩ (.bool false)).frozen? ⟨w.heap.size, 4, none⟩ = false := HE.out.br.frozen 4
  have z5 : (Vsb.setCell ⟨rb, 1, none⟩ (.bool false)).cell? ⟨w.heap.size, 5, none⟩ = some (.slice none 0 0) := HE.out.br.cell 5
  have y5 : (Vsb.setCell ⟨rb, 1, none⟩ (.bool false)).frozen? ⟨w.heap.size, 5, none⟩ = false := HE.out.br.frozen 5
  have z6 : (Vsb.setCell ⟨rb, 1, none⟩ (.bool false)).cell? ⟨w.heap.size, 6, none⟩ = some (.slice none 0 0) := HE.out.br.cell 6
  have y6 : (Vsb.setCell ⟨rb, 1, none⟩ (.bool false)).frozen? ⟨w.heap.size, 6, none⟩ = false := HE.out.br.frozen 6
  have z7 : (Vsb.setCell ⟨rb, 1, none⟩ (.bool false)).cell? ⟨w.heap.size, 7, none⟩ = some (.int .i64 0) := HE.out.br.cell 7
  have y7 : (Vsb.setCell ⟨rb, 1, none⟩ (.bool false)).frozen? ⟨w.heap.size, 7, none⟩ = false := HE.out.br.frozen 7
  have z8 : (Vsb.setCell ⟨rb, 1, none⟩ (.bool false)).cell? ⟨w.heap.size, 8, none⟩ = some (.slice none 0 0) := HE.out.br.cell 8
  have y8 : (Vsb.setCell ⟨rb, 1, none⟩ (.bool false)).frozen? ⟨w.heap.size, 8, none⟩ = false := HE.out.br.frozen 8
  clear k1 k2 k3 HDs HOK HP
  generalize hWE : Vsb.setCell ⟨rb, 1, none⟩ (.bool false) = WE at HE e0 e1 e2 e3 e4 e5 e6 e7 e8 z0 y0 z1 y1 z2 y2 z3 y3 z4 y4 z5 y5 z6 y6 z7 y7 z8 y8
  have HWE := Lib.hid hWE
  clear hWE
  go_upto_region 23 with fail
  rw [HWE.out]
  clear c0 c1' f1'
  go_wp2_with fail
  exact ruleEnd u ev fr un ct nth wk ds sk A1 A2 A3 n1 c1 n2 c2 n3 c3 rb gw w WE hrb hgw _ HE rfl
end Go.Proofs.YtbdcimakdiegnaaGreatDoor
