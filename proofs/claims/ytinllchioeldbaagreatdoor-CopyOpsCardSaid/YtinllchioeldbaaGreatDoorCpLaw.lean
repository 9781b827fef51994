/-
  DERIVED. The walk of the law CopyOps. Conditions: tables are laid. By an AI agent.
-/
import Derived.Test.YtinllchioeldbaaGreatDoorCa29
import Derived.Test.YtinllchioeldbaaGreatDoorCa28
namespace Go.Proofs.YtinllchioeldbaaGreatDoor
open Go.RowKit

theorem fE_all : ∀ {l : List COp}, fE l = 0 → ∀ o ∈ l, cE o = 0
  | [], _, o, h => by simp at h
  | y :: r, h, o, ho => by
    unfold fE at h
    by_cases e : cE y = 0
    · rw [if_pos e] at h
      rcases List.mem_cons.1 ho with rfl | ho
      · exact e
      · exact fE_all h o ho
    · rw [if_neg e] at h
      exact absurd h e
theorem opsE_zero {l : List COp} (h : opsE l = 0) : l.length ≤ 4000 ∧ ∀ o ∈ l, cE o = 0 := by
  unfold opsE at h
  by_cases h1 : 4000 < l.length
  · rw [if_pos h1] at h; cases h
  · rw [if_neg h1] at h
    by_cases h2 : fE l = 0
    · exact ⟨by omega, fE_all h2⟩
    · rw [if_neg h2] at h
      exact absurd h h2
set_option maxHeartbeats 8000000 in
set_option maxRecDepth 100000 in
theorem law_any (a a' : Stp) (l : List COp) (A : Option Addr) (n c : Nat) (w : World) (B : Nat) (hB : B ≤ w.heap.size) (h : RCs w B (.slice A n c) l) (hP : Pow w) (hW : OpW w) :
    Calls Tryz.prog 3 #[stA a, stA a', .slice A n c] w fun e w' => e = .returned (.bool true) ∧ Below w.heap.size w w' := by
  obtain ⟨hn, hnc, hn8⟩ := h.len
  have HN := Lib.hid hn
  have HS := Lib.hid h
  have HP := Lib.hid hP
  have HW := Lib.hid hW
  have HBF := Lib.hid fun W => before_any' a a' W
  have HIB := Lib.hid fun W => isBefore_any a a' W
  obtain ⟨qb, hqb⟩ : ∃ q, q = befS a a' := ⟨_, rfl⟩
  rw [← hqb] at HBF HIB
  obtain ⟨s0, s1⟩ := a
  obtain ⟨r0, r1⟩ := a'
  dsimp only [stA] at HBF HIB ⊢
  clear h hP hn hW hqb
  go_enter Tryz.func3, Tryz.ntmps3
  go_upto_region 1 with fail
  have K1 : Hid (Blk ((w.alloc (.cells #[.int .i64 s0, .int .i64 s1] 23)).alloc (.cells #[.int .i64 r0, .int .i64 r1] 23)) w.heap.size 23 #[.int .i64 s0, .int .i64 s1]) := (Blk.new w 23 #[.int .i64 s0, .int .i64 s1]).alloc _
  have K2' := Blk.new (w.alloc (.cells #[.int .i64 s0, .int .i64 s1] 23)) 23 #[.int .i64 r0, .int .i64 r1]
  rw [show (w.alloc (.cells #[.int .i64 s0, .int .i64 s1] 23)).heap.size = w.heap.size + 1 from Array.size_push _] at K2'
  have K2 := Lib.hid K2'
  have HXB : Hid (Below w.heap.size w ((w.alloc (.cells #[.int .i64 s0, .int .i64 s1] 23)).alloc (.cells #[.int .i64 r0, .int .i64 r1] 23))) := ((Below.refl _ _).alloc (Nat.le_refl _) _).alloc (by simp) _
  clear K2'
  generalize ((w.alloc (.cells #[.int .i64 s0, .int .i64 s1] 23)).alloc (.cells #[.int .i64 r0, .int .i64 r1] 23)) = X at K1 K2 HXB ⊢
  go_cut [18] (fun s18 wx => s18 = .bool false ∧ Hid (Below w.heap.size w wx))
  case first =>
    as_aux_lemma =>
    have hz1 := K1.out.lt
    have hz2 := K2.out.lt
    cases qb
    all_goals
      have HSOF : Hid (∀ W, Below X.heap.size X W → W.cell? ⟨w.heap.size, 0, none⟩ = some (.int .i64 s0) ∧ W.cell? ⟨w.heap.size, 1, none⟩ = some (.int .i64 s1) ∧ W.cell? ⟨w.heap.size + 1, 0, none⟩ = some (.int .i64 r0) ∧ W.cell? ⟨w.heap.size + 1, 1, none⟩ = some (.int .i64 r1)) := fun W h => ⟨(h.cell (p := ⟨w.heap.size, 0, none⟩) hz1).trans (K1.out.cell 0), (h.cell (p := ⟨w.heap.size, 1, none⟩) hz1).trans (K1.out.cell 1), (h.cell (p := ⟨w.heap.size + 1, 0, none⟩) hz2).trans (K2.out.cell 0), (h.cell (p := ⟨w.heap.size + 1, 1, none⟩) hz2).trans (K2.out.cell 1)⟩
      have HBT : Hid (∀ W W', Below X.heap.size X W → Below W.heap.size W W' → Below X.heap.size X W') := fun W W' h h' => h.trans (h'.mono h.size)
      have HB0 : Hid (Below X.heap.size X X.drew) := (Below.refl X.heap.size X).drew
      go_region_held3 (fun w' => w'.cell? ⟨w.heap.size, 0, none⟩ = some (.int .i64 s0) ∧ w'.cell? ⟨w.heap.size, 1, none⟩ = some (.int .i64 s1) ∧ w'.cell? ⟨w.heap.size + 1, 0, none⟩ = some (.int .i64 r0) ∧ w'.cell? ⟨w.heap.size + 1, 1, none⟩ = some (.int .i64 r1))
        ((refine HSOF.out _ ?_; first | with_reducible exact HB2.out | with_reducible exact HB1.out | with_reducible exact HB0.out))
        (first | (go_at_call 4; refine (HBF.out X.drew).mono ?_; rintro e w1 ⟨rfl, hb1⟩; have HB1 := Lib.hid (HBT.out _ _ HB0.out hb1); clear hb1) | (go_at_call 5; refine (HIB.out w1).mono ?_; rintro e w2 ⟨rfl, hb2⟩; have HB2 := Lib.hid (HBT.out _ _ HB1.out hb2); clear hb2))
      all_goals
        go_wp2_with fail
        go_meet
        exact ⟨rfl, HXB.out.trans (HB2.out.mono HXB.out.size)⟩
  case rest =>
  obtain ⟨rfl, hb0⟩ := hcut
  have HB00 := hb0
  clear hb0 K1 K2 HXB HBF HIB
  go_wp2_with fail
  go_loopg [21] n (fun gg s21 wr => ∃ q : Nat, q + gg = n ∧ s21 = .int .i64 (q : Int) ∧ Hid (Below w.heap.size w wr))
  case atStart => exact ⟨0, by omega, rfl, HB00⟩
  case round =>
    obtain ⟨q, hqg, rfl, HBR⟩ := hrel
    by_cases hq : q < n
    · obtain ⟨o, ho⟩ : ∃ o, l[q]? = some o := ⟨_, List.getElem?_eq_getElem (by have := HN.out; omega)⟩
      obtain ⟨b, off, As, ns, cs, Ai, ni, ci, rfl, hbb, u, hr1⟩ := HS.out.at_ ho
      have HRC : Hid (RC1 wr B ⟨o, .slice As ns cs, .slice Ai ni ci⟩) := hr1.below (HBR.out.mono hB)
      obtain ⟨E, hE⟩ : ∃ E, E = cE o := ⟨_, rfl⟩
      have HCS : Hid (∀ W, Below wr.heap.size wr W → Calls Tryz.prog 7 #[CA ⟨o, .slice As ns cs, .slice Ai ni ci⟩] W fun e w' => e = .returned (.int .i64 E) ∧ Below W.heap.size W w') := fun W hW => by
        rw [hE]
        exact stamped_any ⟨o, .slice As ns cs, .slice Ai ni ci⟩ W B (Nat.le_trans hB (Nat.le_trans HBR.out.size hW.size)) (HRC.out.below (hW.mono (Nat.le_trans hB HBR.out.size)))
      have HCH : Hid (∀ W, Below wr.heap.size wr W → Calls Tryz.prog 6 #[CA ⟨o, .slice As ns cs, .slice Ai ni ci⟩] W fun e w' => e = .returned (.int .i64 E) ∧ Below W.heap.size W w') := fun W hW => by
        rw [hE]
        exact checkOp_any ⟨o, .slice As ns cs, .slice Ai ni ci⟩ W B (Nat.le_trans hB (Nat.le_trans HBR.out.size hW.size)) (HRC.out.below (hW.mono (Nat.le_trans hB HBR.out.size)))
      obtain ⟨⟨t0, t1⟩, kk, id, pa, le, ⟨⟨a0, a1⟩, a2⟩, oc, sp, nm, ⟨vk, vi, vt, vs, vl⟩⟩ := o
      dsimp only [CA, Vl.kind, Vl.int_, Vl.to_, Vl.text, Vl.items] at HCH HCS
      clear hE hr1 HRC
      have g0 : wr.cell? ⟨b, off + q * 17, none⟩ = some (.int .i64 t0) := (HBR.out.cell (p := ⟨b, off + q * 17 + 0, none⟩) (by show b < _; omega)).trans (u 0 _ rfl)
      have g1 : wr.cell? ⟨b, off + q * 17 + 1, none⟩ = some (.int .i64 t1) := (HBR.out.cell (p := ⟨b, off + q * 17 + 1, none⟩) (by show b < _; omega)).trans (u 1 _ rfl)
      have g2 : wr.cell? ⟨b, off + q * 17 + 2, none⟩ = some (.int .i64 kk) := (HBR.out.cell (p := ⟨b, off + q * 17 + 2, none⟩) (by show b < _; omega)).trans (u 2 _ rfl)
      have g3 : wr.cell? ⟨b, off + q * 17 + 3, none⟩ = some (.int .i64 id) := (HBR.out.cell (p := ⟨b, off + q * 17 + 3, none⟩) (by show b < _; omega)).trans (u 3 _ rfl)
      have g4 : wr.cell? ⟨b, off + q * 17 + 4, none⟩ = some (.int .i64 pa) := (HBR.out.cell (p := ⟨b, off + q * 17 + 4, none⟩) (by show b < _; omega)).trans (u 4 _ rfl)
      have g5 : wr.cell? ⟨b, off + q * 17 + 5, none⟩ = some (.int .i64 le) := (HBR.out.cell (p := ⟨b, off + q * 17 + 5, none⟩) (by show b < _; omega)).trans (u 5 _ rfl)
      have g6 : wr.cell? ⟨b, off + q * 17 + 6, none⟩ = some (.int .i64 a0) := (HBR.out.cell (p := ⟨b, off + q * 17 + 6, none⟩) (by show b < _; omega)).trans (u 6 _ rfl)
      have g7 : wr.cell? ⟨b, off + q * 17 + 7, none⟩ = some (.int .i64 a1) := (HBR.out.cell (p := ⟨b, off + q * 17 + 7, none⟩) (by show b < _; omega)).trans (u 7 _ rfl)
      have g8 : wr.cell? ⟨b, off + q * 17 + 8, none⟩ = some (.int .i64 a2) := (HBR.out.cell (p := ⟨b, off + q * 17 + 8, none⟩) (by show b < _; omega)).trans (u 8 _ rfl)
      have g9 : wr.cell? ⟨b, off + q * 17 + 9, none⟩ = some (.string oc) := (HBR.out.cell (p := ⟨b, off + q * 17 + 9, none⟩) (by show b < _; omega)).trans (u 9 _ rfl)
      have g10 : wr.cell? ⟨b, off + q * 17 + 10, none⟩ = some (.slice As ns cs) := (HBR.out.cell (p := ⟨b, off + q * 17 + 10, none⟩) (by show b < _; omega)).trans (u 10 _ rfl)
      have g11 : wr.cell? ⟨b, off + q * 17 + 11, none⟩ = some (.string nm) := (HBR.out.cell (p := ⟨b, off + q * 17 + 11, none⟩) (by show b < _; omega)).trans (u 11 _ rfl)
      have g12 : wr.cell? ⟨b, off + q * 17 + 12, none⟩ = some (.int .i64 vk) := (HBR.out.cell (p := ⟨b, off + q * 17 + 12, none⟩) (by show b < _; omega)).trans (u 12 _ rfl)
      have g13 : wr.cell? ⟨b, off + q * 17 + 13, none⟩ = some (.int .i64 vi) := (HBR.out.cell (p := ⟨b, off + q * 17 + 13, none⟩) (by show b < _; omega)).trans (u 13 _ rfl)
      have g14 : wr.cell? ⟨b, off + q * 17 + 14, none⟩ = some (.int .i64 vt) := (HBR.out.cell (p := ⟨b, off + q * 17 + 14, none⟩) (by show b < _; omega)).trans (u 14 _ rfl)
      have g15 : wr.cell? ⟨b, off + q * 17 + 15, none⟩ = some (.string vs) := (HBR.out.cell (p := ⟨b, off + q * 17 + 15, none⟩) (by show b < _; omega)).trans (u 15 _ rfl)
      have g16 : wr.cell? ⟨b, off + q * 17 + 16, none⟩ = some (.slice Ai ni ci) := (HBR.out.cell (p := ⟨b, off + q * 17 + 16, none⟩) (by show b < _; omega)).trans (u 16 _ rfl)
      have j1 : (q : Int) < (n : Int) := by omega
      clear ho
      go_upto_region 5 with fail
      go_cut [8] (fun s8 wx => ∃ gc : Nat, s8 = .pointer (some ⟨gc, 0, none⟩) ∧ Hid (Blk wx gc 33 #[.int .i64 t0, .int .i64 t1, .int .i64 kk, .int .i64 id, .int .i64 pa, .int .i64 le, .int .i64 a0, .int .i64 a1, .int .i64 a2, .string oc, .slice As ns cs, .string nm, .int .i64 vk, .int .i64 vi, .int .i64 vt, .string vs, .slice Ai ni ci]) ∧ Hid (Below wr.heap.size wr wx))
      case first =>
        as_aux_lemma =>
        have KA := Blk.new wr 33 #[.int .i64 t0, .int .i64 t1, .int .i64 kk, .int .i64 id, .int .i64 pa, .int .i64 le, .int .i64 a0, .int .i64 a1, .int .i64 a2, .string oc, .slice As ns cs, .string nm, .int .i64 vk, .int .i64 vi, .int .i64 vt, .string vs, .slice Ai ni ci]
        have HKA := Lib.hid KA
        have HAL : Hid (Below wr.heap.size wr (wr.alloc (.cells #[.int .i64 t0, .int .i64 t1, .int .i64 kk, .int .i64 id, .int .i64 pa, .int .i64 le, .int .i64 a0, .int .i64 a1, .int .i64 a2, .string oc, .slice As ns cs, .string nm, .int .i64 vk, .int .i64 vi, .int .i64 vt, .string vs, .slice Ai ni ci] 33))) := (Below.refl _ _).alloc (Nat.le_refl _) _
        clear u KA HCH HCS
        go_wp2_with fail
        go_meet
        exact ⟨_, rfl, HKA, HAL⟩
      case rest =>
      obtain ⟨gc, rfl, HKX, HAX⟩ := hcut
      obtain ⟨X, rfl⟩ : ∃ X, X = wc := ⟨_, rfl⟩
      clear u g0 g1 g2 g3 g4 g5 g6 g7 g8 g9 g10 g11 g12 g13 g14 g15 g16
      have hzX := HKX.out.lt
      have HWX : Hid (∀ W, Below X.heap.size X W → Below wr.heap.size wr W) := fun W hW => HAX.out.trans (hW.mono HAX.out.size)
      as_aux_lemma =>
      go_upto_region 6 with fail
      have HSOF : Hid (∀ W, Below X.heap.size X W → W.cell? ⟨gc, 0, none⟩ = some (.int .i64 t0) ∧ W.cell? ⟨gc, 1, none⟩ = some (.int .i64 t1) ∧ W.cell? ⟨gc, 2, none⟩ = some (.int .i64 kk) ∧ W.cell? ⟨gc, 3, none⟩ = some (.int .i64 id) ∧ W.cell? ⟨gc, 4, none⟩ = some (.int .i64 pa) ∧ W.cell? ⟨gc, 5, none⟩ = some (.int .i64 le) ∧ W.cell? ⟨gc, 6, none⟩ = some (.int .i64 a0) ∧ W.cell? ⟨gc, 7, none⟩ = some (.int .i64 a1) ∧ W.cell? ⟨gc, 8, none⟩ = some (.int .i64 a2) ∧ W.cell? ⟨gc, 9, none⟩ = some (.string oc) ∧ W.cell? ⟨gc, 10, none⟩ = some (.slice As ns cs) ∧ W.cell? ⟨gc, 11, none⟩ = some (.string nm) ∧ W.cell? ⟨gc, 12, none⟩ = some (.int .i64 vk) ∧ W.cell? ⟨gc, 13, none⟩ = some (.int .i64 vi) ∧ W.cell? ⟨gc, 14, none⟩ = some (.int .i64 vt) ∧ W.cell? ⟨gc, 15, none⟩ = some (.string vs) ∧ W.cell? ⟨gc, 16, none⟩ = some (.slice Ai ni ci)) := fun W h => ⟨(h.cell (p := ⟨gc, 0, none⟩) hzX).trans (HKX.out.cell 0), (h.cell (p := ⟨gc, 1, none⟩) hzX).trans (HKX.out.cell 1), (h.cell (p := ⟨gc, 2, none⟩) hzX).trans (HKX.out.cell 2), (h.cell (p := ⟨gc, 3, none⟩) hzX).trans (HKX.out.cell 3), (h.cell (p := ⟨gc, 4, none⟩) hzX).trans (HKX.out.cell 4), (h.cell (p := ⟨gc, 5, none⟩) hzX).trans (HKX.out.cell 5), (h.cell (p := ⟨gc, 6, none⟩) hzX).trans (HKX.out.cell 6), (h.cell (p := ⟨gc, 7, none⟩) hzX).trans (HKX.out.cell 7), (h.cell (p := ⟨gc, 8, none⟩) hzX).trans (HKX.out.cell 8), (h.cell (p := ⟨gc, 9, none⟩) hzX).trans (HKX.out.cell 9), (h.cell (p := ⟨gc, 10, none⟩) hzX).trans (HKX.out.cell 10), (h.cell (p := ⟨gc, 11, none⟩) hzX).trans (HKX.out.cell 11), (h.cell (p := ⟨gc, 12, none⟩) hzX).trans (HKX.out.cell 12), (h.cell (p := ⟨gc, 13, none⟩) hzX).trans (HKX.out.cell 13), (h.cell (p := ⟨gc, 14, none⟩) hzX).trans (HKX.out.cell 14), (h.cell (p := ⟨gc, 15, none⟩) hzX).trans (HKX.out.cell 15), (h.cell (p := ⟨gc, 16, none⟩) hzX).trans (HKX.out.cell 16)⟩
      have HBT : Hid (∀ W W', Below X.heap.size X W → Below W.heap.size W W' → Below X.heap.size X W') := fun W W' h h' => h.trans (h'.mono h.size)
      have HB0 : Hid (Below X.heap.size X X.drew) := (Below.refl X.heap.size X).drew
      go_region_held3 (fun w' => w'.cell? ⟨gc, 0, none⟩ = some (.int .i64 t0) ∧ w'.cell? ⟨gc, 1, none⟩ = some (.int .i64 t1) ∧ w'.cell? ⟨gc, 2, none⟩ = some (.int .i64 kk) ∧ w'.cell? ⟨gc, 3, none⟩ = some (.int .i64 id) ∧ w'.cell? ⟨gc, 4, none⟩ = some (.int .i64 pa) ∧ w'.cell? ⟨gc, 5, none⟩ = some (.int .i64 le) ∧ w'.cell? ⟨gc, 6, none⟩ = some (.int .i64 a0) ∧ w'.cell? ⟨gc, 7, none⟩ = some (.int .i64 a1) ∧ w'.cell? ⟨gc, 8, none⟩ = some (.int .i64 a2) ∧ w'.cell? ⟨gc, 9, none⟩ = some (.string oc) ∧ w'.cell? ⟨gc, 10, none⟩ = some (.slice As ns cs) ∧ w'.cell? ⟨gc, 11, none⟩ = some (.string nm) ∧ w'.cell? ⟨gc, 12, none⟩ = some (.int .i64 vk) ∧ w'.cell? ⟨gc, 13, none⟩ = some (.int .i64 vi) ∧ w'.cell? ⟨gc, 14, none⟩ = some (.int .i64 vt) ∧ w'.cell? ⟨gc, 15, none⟩ = some (.string vs) ∧ w'.cell? ⟨gc, 16, none⟩ = some (.slice Ai ni ci))
        ((refine HSOF.out _ ?_; first | with_reducible exact HB2.out | with_reducible exact HB1.out | with_reducible exact HB0.out))
        (first | (go_at_call 6; refine (HCH.out _ (HWX.out _ HB0.out)).mono ?_; rintro e w1 ⟨rfl, hb1⟩; have HB1 := Lib.hid (HBT.out _ _ HB0.out hb1); clear hb1) | (go_at_call 7; refine (HCS.out _ (HWX.out _ HB1.out)).mono ?_; rintro e w2 ⟨rfl, hb2⟩; have HB2 := Lib.hid (HBT.out _ _ HB1.out hb2); clear hb2))
      all_goals
        have HF2 : Hid (Below w.heap.size w w2) := HBR.out.trans ((HWX.out _ HB2.out).mono HBR.out.size)
        go_wp2_with fail
        go_roundg (n - (q + 1))
        case measure => omega
        case rel => exact ⟨q + 1, by omega, by go_num, HF2⟩
    · as_aux_lemma =>
      obtain rfl : q = n := by omega
      have HX1 : Hid (∀ W, Below w.heap.size w W → Calls Tryz.prog 8 #[.slice A q c] W fun e w' => e = .returned (.tuple #[.string (opsX l), .int .i64 (opsE l)]) ∧ Below W.heap.size W w') := fun W hW => opsText_any l A q c W B (Nat.le_trans hB hW.size) (HS.out.below (hW.mono hB)) (HP.out.below hW)
      have HX2 : Hid (∀ W, Below w.heap.size w W → Calls Tryz.prog 9 #[.slice A q c] W fun e w' => e = .returned (.int .i64 (opsE l)) ∧ Below W.heap.size W w') := fun W hW => opsError_any l A q c W B (Nat.le_trans hB hW.size) (HS.out.below (hW.mono hB)) (HP.out.below hW) (HW.out.below hW)
      by_cases hE : opsE l = 0
      · have hx : opsX l = opsT l := if_pos hE
        have hz := opsE_zero hE
        have HX3 : Hid (∀ W, Below w.heap.size w W → Calls Tryz.prog 10 #[.slice A q c] W fun e w' => e = .returned (.string (opsT l)) ∧ (opsT l).size ≤ 4000000000 ∧ Below W.heap.size W w') := fun W hW => opsString_any l A q c W B (Nat.le_trans hB hW.size) (HS.out.below (hW.mono hB)) (HP.out.below hW) (HW.out.below hW) (by have := HN.out; omega) fun o ho => cE_ok (hz.2 o ho)
        rw [hE, hx] at HX1
        rw [hE] at HX2
        obtain ⟨T, hT⟩ : ∃ T, T = opsT l := ⟨_, rfl⟩
        rw [← hT] at HX1 HX3
        clear hE hx hz hT
        go_wp2_with fail
        refine (HX1.out _ HBR.out).mono ?_
        rintro e w2 ⟨rfl, hb2⟩
        have HB2 : Hid (Below w.heap.size w w2) := HBR.out.trans (hb2.mono HBR.out.size)
        clear hb2
        go_wp2_with fail
        refine (HX2.out _ HB2.out).mono ?_
        rintro e w3 ⟨rfl, hb3⟩
        have HB3 : Hid (Below w.heap.size w w3) := HB2.out.trans (hb3.mono HB2.out.size)
        clear hb3
        go_wp2_with fail
        refine (HX3.out _ HB3.out).mono ?_
        rintro e w4 ⟨rfl, _, hb4⟩
        have HB4 : Hid (Below w.heap.size w w4) := HB3.out.trans (hb4.mono HB3.out.size)
        clear hb4
        go_wp2_with fail
        go_ret
        exact ⟨rfl, HB4.out⟩
      · have hx : opsX l = ⟨#[]⟩ := if_neg hE
        rw [hx] at HX1
        obtain ⟨E, hT⟩ : ∃ T, T = opsE l := ⟨_, rfl⟩
        rw [← hT] at HX1 HX2 hE
        clear hx hT
        have hb : (E != 0) = true := by simpa using hE
        go_wp2_with fail
        refine (HX1.out _ HBR.out).mono ?_
        rintro e w2 ⟨rfl, hb2⟩
        have HB2 : Hid (Below w.heap.size w w2) := HBR.out.trans (hb2.mono HBR.out.size)
        clear hb2
        go_wp2_with fail
        refine (HX2.out _ HB2.out).mono ?_
        rintro e w3 ⟨rfl, hb3⟩
        have HB3 : Hid (Below w.heap.size w w3) := HB2.out.trans (hb3.mono HB2.out.size)
        clear hb3
        go_wp2_with fail
        go_ret
        exact ⟨rfl, HB3.out⟩
end Go.Proofs.YtinllchioeldbaaGreatDoor
