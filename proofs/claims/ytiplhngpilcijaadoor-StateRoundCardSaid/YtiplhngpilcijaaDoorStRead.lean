/-
  DERIVED. The walk of card.ReadState. Conditions: the table of powers lies; the library's own bound holds some number; the nine numbers make a state. By an AI agent.
-/
import Derived.Test.YtiplhngpilcijaaDoorStText
import Derived.Lib.SplitLaws
namespace Go.Proofs.YtiplhngpilcijaaDoor
open Go.RowKit

set_option maxHeartbeats 4000000 in
set_option maxRecDepth 100000 in
theorem readState_any (x0 x1 x2 x3 x4 x5 x6 x7 x8 m : Int) (h0 : csE x0 x1 x2 x3 x4 x5 x6 x7 x8 = 0) (w : World) (hm : w.cell? ⟨1, 0, none⟩ = some (.int .i64 m)) (hP : Pow w) :
    Calls Tryd.prog 6 #[.string (stT [x0, x1, x2, x3, x4, x5, x6, x7, x8])] w fun e w' => e = .returned (.tuple #[stV x0 x1 x2 x3 x4 x5 x6 x7 x8, .int .i64 0]) ∧ Below w.heap.size w w' := by
  have CS := Lib.hid (fun w => checkState_any x0 x1 x2 x3 x4 x5 x6 x7 x8 w)
  have hbd := csE_bd (x0 := x0) (x1 := x1) (x2 := x2) (x3 := x3) (x4 := x4) (x5 := x5) (x6 := x6) (x7 := x7) (x8 := x8) h0
  rw [h0] at CS
  clear h0
  obtain ⟨xs, hxs⟩ : ∃ xs : List Int, xs = [x0, x1, x2, x3, x4, x5, x6, x7, x8] := ⟨_, rfl⟩
  rw [← hxs] at hbd ⊢
  have hxl : xs.length = 9 := by rw [hxs]; rfl
  have hsz := stT_size hbd
  rw [hxl] at hsz
  have hne : xs ≠ [] := by intro h; rw [h] at hxl; cases hxl
  have hsp := stT_split hne
  have hcnt : Lib.countB (stT xs) ⟨#[32]⟩ + 1 = 9 := by
    have := Lib.splitB_all ⟨#[32]⟩ (by decide) 0 _ (stT xs) rfl
    rw [hsp, List.length_map, hxl] at this
    exact this.symm
  obtain ⟨W1, hW1⟩ : ∃ W1 : World, W1 = w.alloc (.cells #[.int .i64 0, .int .i64 0, .int .i64 0, .int .i64 0, .int .i64 0, .int .i64 0, .int .i64 0, .int .i64 0, .int .i64 0] 23) := ⟨_, rfl⟩
  have hW1s : W1.heap.size = w.heap.size + 1 := by rw [hW1]; simp
  have R1 : Hid (Below w.heap.size w W1) := by
    show Below _ _ _
    rw [hW1]; exact (Below.refl _ _).alloc (Nat.le_refl _) _
  have hm1 : W1.cell? ⟨1, 0, none⟩ = some (.int .i64 m) := (R1.out.cell (World.block_lt_of_cell? _ _ hm)).trans hm
  have SP := Tryd.strings_Split (stT xs) ⟨#[32]⟩ m W1 (by omega) hm1 (by decide)
  rw [hsp, hcnt] at SP
  have SP := Lib.hid SP
  have HXL := Lib.hid hxl
  have HBD := Lib.hid hbd
  have HXS := Lib.hid hxs
  have HW1 := Lib.hid hW1
  have HW1S := Lib.hid hW1s
  have HPW := Lib.hid hP
  rw [show stV x0 x1 x2 x3 x4 x5 x6 x7 x8 = .agg #[.int .i64 x0, .int .i64 x1, .int .i64 x2, .int .i64 x3, .int .i64 x4, .int .i64 x5, .int .i64 x6, .int .i64 x7, .int .i64 x8] from rfl] at CS
  obtain ⟨S, hS⟩ : ∃ S, S = stT xs := ⟨_, rfl⟩
  rw [← hS] at hsz SP ⊢
  have hi : ¬ (2000 : Int) < (S.size : Int) := by omega
  clear hxl hbd hne hsp hcnt hW1 hW1s hm1 hm hP hS hxs
  go_enter Tryd.func6, Tryd.ntmps6
  go_wp2_with fail
  rw [← HW1.out]
  refine SP.out.mono ?_
  rintro e w2 ⟨rfl, hw2⟩
  have hb2 : Below W1.heap.size W1 w2 := by rw [hw2]; exact (Below.refl _ _).alloc (Nat.le_refl _) _
  have hblk2 : Blk w2 W1.heap.size 9 ((xs.map wd).map Value.string).toArray := by rw [hw2]; exact Blk.new _ _ _
  have HB2 := Lib.hid hb2
  have HBLK2 := Lib.hid hblk2
  have HS2 := Lib.hid hblk2.lt
  clear hw2 hb2 hblk2
  go_wp2_with fail
  go_loopg [24] 9 (fun gg s24 wr => ∃ (k : Nat) (cs : Array Value), k + gg = 9 ∧ s24 = .int .i64 k ∧ Blk wr w2.heap.size 38 cs ∧ cs.size = 9 ∧ (∀ j, j < k → cs[j]? = (xs[j]?).map (Value.int .i64)) ∧ Below w2.heap.size w2 wr)
  case atStart => exact ⟨0, _, by omega, rfl, Blk.new _ _ _, rfl, fun j hj => by omega, (Below.refl _ _).alloc (Nat.le_refl _) _⟩
  case round =>
    obtain ⟨k, cs, hkg, rfl, hblk, hcz, hcs, hbel⟩ := hrel
    have hzz := hbel.size
    have hlt5 := hblk.lt
    have hlt2 := HS2.out
    have hw1s := HW1S.out
    by_cases hk : k < 9
    · obtain ⟨z, hz⟩ : ∃ z, xs[k]? = some z := ⟨_, List.getElem?_eq_getElem (by have := HXL.out; omega)⟩
      obtain ⟨zb1, zb2⟩ := HBD.out z (List.mem_of_getElem? hz)
      have hcell : wr.cell? ⟨W1.heap.size, k, none⟩ = some (.string (wd z)) := by
        rw [hbel.cell (p := ⟨W1.heap.size, k, none⟩) (by show W1.heap.size < _; omega), HBLK2.out.cell k]
        simp [hz]
      have hpw : Pow wr := HPW.out.below (R1.out.trans ((HB2.out.trans (hbel.mono (by omega))).mono (by omega)))
      have PN := Lib.hid (plainNumber_any z zb1 zb2 wr hpw)
      have ik : (k : Int) < 9 := by omega
      have ik0 : (0 : Int) ≤ (k : Int) := by omega
      have HZ := Lib.hid hz
      have HCS := Lib.hid hcs
      have HBL := Lib.hid hbel
      have HBK := Lib.hid hblk
      clear hz hpw hcs hbel hblk hw1s
      go_wp2_with fail
      refine PN.out.mono ?_
      rintro e wc ⟨rfl, hbc⟩
      have hblkC := HBK.out.below hbc hlt5
      have hc5 : wc.cell? ⟨w2.heap.size, k, none⟩ = some (cs[k]'(by omega)) := by rw [hblkC.cell k]; exact Array.getElem?_eq_getElem (by omega)
      have hf5 := hblkC.frozen k
      have HBC := Lib.hid (HBL.out.trans (hbc.mono hzz))
      have HBKC := Lib.hid hblkC
      clear hbc hblkC
      go_wp2_with fail
      go_roundg (9 - (k + 1))
      case measure => omega
      case rel =>
        refine ⟨k + 1, _, by omega, by go_num, HBKC.out.set_ k _, by simp [hcz], ?_, HBC.out.setCell (Nat.le_refl _) _⟩
        intro j hj
        by_cases hjk : j = k
        · subst hjk
          rw [HZ.out]
          simp [hcz, hk]
        · rw [Array.getElem?_setIfInBounds_ne (by omega)]
          exact HCS.out j (by omega)
    · obtain rfl : k = 9 := by omega
      have hget : ∀ j z, j < 9 → xs[j]? = some z → wr.cell? ⟨w2.heap.size, j, none⟩ = some (.int .i64 z) := fun j z hj hz => by
        rw [hblk.cell j, hcs j hj, hz]; rfl
      have g0 := hget 0 x0 (by omega) (by rw [HXS.out]; rfl)
      have g1 := hget 1 x1 (by omega) (by rw [HXS.out]; rfl)
      have g2 := hget 2 x2 (by omega) (by rw [HXS.out]; rfl)
      have g3 := hget 3 x3 (by omega) (by rw [HXS.out]; rfl)
      have g4 := hget 4 x4 (by omega) (by rw [HXS.out]; rfl)
      have g5 := hget 5 x5 (by omega) (by rw [HXS.out]; rfl)
      have g6 := hget 6 x6 (by omega) (by rw [HXS.out]; rfl)
      have g7 := hget 7 x7 (by omega) (by rw [HXS.out]; rfl)
      have g8 := hget 8 x8 (by omega) (by rw [HXS.out]; rfl)
      have R := Lib.hid ((HB2.out.trans (hbel.mono (by omega))))
      have hr := R.out.size
      clear hget hblk hcs hbel hcz hw1s
      go_wp2_with fail
      refine (CS.out _).mono ?_
      rintro e wf ⟨rfl, hbf⟩
      have hw1s := HW1S.out
      have e0 := hbf.cell (p := ⟨wr.heap.size, 0, none⟩) (by simp <;> omega)
      have e1 := hbf.cell (p := ⟨wr.heap.size, 1, none⟩) (by simp <;> omega)
      have e2 := hbf.cell (p := ⟨wr.heap.size, 2, none⟩) (by simp <;> omega)
      have e3 := hbf.cell (p := ⟨wr.heap.size, 3, none⟩) (by simp <;> omega)
      have e4 := hbf.cell (p := ⟨wr.heap.size, 4, none⟩) (by simp <;> omega)
      have e5 := hbf.cell (p := ⟨wr.heap.size, 5, none⟩) (by simp <;> omega)
      have e6 := hbf.cell (p := ⟨wr.heap.size, 6, none⟩) (by simp <;> omega)
      have e7 := hbf.cell (p := ⟨wr.heap.size, 7, none⟩) (by simp <;> omega)
      have e8 := hbf.cell (p := ⟨wr.heap.size, 8, none⟩) (by simp <;> omega)
      have R3 : Below W1.heap.size W1 wf := R.out.trans (((Below.refl _ _).alloc (Nat.le_refl _) _).trans ((hbf.mono (by simp))) |>.mono hr)
      have hd0 : Below (w.heap.size + 1) (w.alloc (.cells #[.int .i64 0, .int .i64 0, .int .i64 0, .int .i64 0, .int .i64 0, .int .i64 0, .int .i64 0, .int .i64 0, .int .i64 0] 23)) wf := by
        rw [← HW1.out]
        exact R3.mono (by omega)
      have d0 := hd0.cell (p := ⟨w.heap.size, 0, none⟩) (by simp <;> omega)
      have d1 := hd0.cell (p := ⟨w.heap.size, 1, none⟩) (by simp <;> omega)
      have d2 := hd0.cell (p := ⟨w.heap.size, 2, none⟩) (by simp <;> omega)
      have d3 := hd0.cell (p := ⟨w.heap.size, 3, none⟩) (by simp <;> omega)
      have d4 := hd0.cell (p := ⟨w.heap.size, 4, none⟩) (by simp <;> omega)
      have d5 := hd0.cell (p := ⟨w.heap.size, 5, none⟩) (by simp <;> omega)
      have d6 := hd0.cell (p := ⟨w.heap.size, 6, none⟩) (by simp <;> omega)
      have d7 := hd0.cell (p := ⟨w.heap.size, 7, none⟩) (by simp <;> omega)
      have d8 := hd0.cell (p := ⟨w.heap.size, 8, none⟩) (by simp <;> omega)
      have f0 := hd0.frozen (p := ⟨w.heap.size, 0, none⟩) (by simp <;> omega)
      have f1 := hd0.frozen (p := ⟨w.heap.size, 1, none⟩) (by simp <;> omega)
      have f2 := hd0.frozen (p := ⟨w.heap.size, 2, none⟩) (by simp <;> omega)
      have f3 := hd0.frozen (p := ⟨w.heap.size, 3, none⟩) (by simp <;> omega)
      have f4 := hd0.frozen (p := ⟨w.heap.size, 4, none⟩) (by simp <;> omega)
      have f5 := hd0.frozen (p := ⟨w.heap.size, 5, none⟩) (by simp <;> omega)
      have f6 := hd0.frozen (p := ⟨w.heap.size, 6, none⟩) (by simp <;> omega)
      have f7 := hd0.frozen (p := ⟨w.heap.size, 7, none⟩) (by simp <;> omega)
      have f8 := hd0.frozen (p := ⟨w.heap.size, 8, none⟩) (by simp <;> omega)
      have RR : Hid (Below w.heap.size w wf) := R1.out.trans (R3.mono (by omega))
      clear hbf R3 hd0 hw1s
      go_wp2_with fail
      trace_state
      refine bodyPost_ret (v := .tuple #[stV x0 x1 x2 x3 x4 x5 x6 x7 x8, .int .i64 0]) (by simp [results, Tryd.results6, go_sem, stV, d0, d1, d2, d3, d4, d5, d6, d7, d8]) rfl ⟨rfl, ?_⟩
      exact ((((((((RR.out.setCell (by simp) _).setCell (by simp) _).setCell (by simp) _).setCell (by simp) _).setCell (by simp) _).setCell (by simp) _).setCell (by simp) _).setCell (by simp) _).setCell (by simp) _
end Go.Proofs.YtiplhngpilcijaaDoor
