/-
  DERIVED. The walk of find's reader.part along whatever written part. Conditions: sizes. By an AI agent.
-/
import Derived.Test.YtfikilpkaobiiaaQrPhrase
namespace Go.Proofs.Ytfikilpkaobiiaa
open Go.RowKit

theorem Kp.blk {g B b : Nat} {w w' : World} {t : TypeId} {cs : Array Value} (h : Kp g B w w') (hb : Blk w b t cs) (h1 : b < B) (h2 : b ≠ g) : Blk w' b t cs := (h.2.2 b h1 h2).trans hb
theorem Kp.less {g B B' : Nat} {w w' : World} (h : Kp g B w w') (hB : B' ≤ B) : Kp g B' w w' := ⟨h.1, h.2.1, fun k hk hne => h.2.2 k (by omega) hne⟩
/-- the result's block is written last -/
theorem rd_fin {w wc : World} {g j : Nat} {s : ByteArray} {k : Int} {A : Option Addr} {n c : Nat} {ws : List ByteArray} (hB : Blk wc w.heap.size 40 #[.int .i64 0, .slice none 0 0]) (hW : RWn g wc wc.heap.size (.slice A n c) ws) (hA : ∀ ad, A = some ad → ad.block ≠ w.heap.size) (hR : Rd wc g s j (-1)) (hK : Kp g w.heap.size w wc) (hg : g < w.heap.size)
    (WF : World) (hWF : WF = (wc.setCell ⟨w.heap.size, 0, none⟩ (.int .i64 k)).setCell ⟨w.heap.size, 1, none⟩ (.slice A n c)) :
    WF.cell? ⟨w.heap.size, 0, none⟩ = some (.int .i64 k) ∧ WF.cell? ⟨w.heap.size, 1, none⟩ = some (.slice A n c) ∧ RWn g WF WF.heap.size (.slice A n c) ws ∧ Rd WF g s j (-1) ∧ Kp g w.heap.size w WF := by
  subst hWF
  have hr := (Blk.set_ hB 0 (.int .i64 k)).set_ 1 (.slice A n c)
  obtain ⟨A', n', c', e, h1, h2, ⟨h3, h3'⟩, h4⟩ := hW
  injection e with e1 e2 e3
  subst e1 e2 e3
  refine ⟨hr.cell 0, hr.cell 1, ⟨_, _, _, rfl, h1, h2, ⟨h3, fun hn => ?_⟩, h4⟩, (Blk.far hR (by show g ≠ w.heap.size; omega) _).far (by show g ≠ w.heap.size; omega) _, hK.trans (Kp.of_below (((Below.refl _ _).setCell (p := ⟨w.heap.size, 0, none⟩) (Nat.le_refl _) _).setCell (p := ⟨w.heap.size, 1, none⟩) (Nat.le_refl _) _) (by omega))⟩
  obtain ⟨ad, e, hlt, hc⟩ := h3' hn
  have hb := hA ad e
  refine ⟨ad, e, by simpa [World.setCell] using hlt, fun i u hu => ?_⟩
  rw [World.cell?_setCell_other _ _ _ _ (fun e' => hb (by have := congrArg Addr.block e'; rw [block_of_add] at this; exact this.symm)), World.cell?_setCell_other _ _ _ _ (fun e' => hb (by have := congrArg Addr.block e'; rw [block_of_add] at this; exact this.symm))]
  exact hc i u hu

set_option maxRecDepth 100000 in
set_option maxHeartbeats 2000000 in
theorem rdPart_phrase (g : Nat) (s : ByteArray) (i : Nat) (p : Part) (w : World) (h : Rd w g s i (-1)) (hk : ckP p = 0) (h3 : p.kind = 3) (hsz : s.size ≤ 4294967280)
    (hat : ∀ k, k < (ptext p).size → bt s (i + k) = bt (ptext p) k) :
    Calls Try.prog 24 #[.pointer (some ⟨g, 0, none⟩)] w fun e w' => ∃ v, e = .returned (.agg #[.int .i64 p.kind, v]) ∧ RWn g w' w'.heap.size v p.words ∧ Rd w' g s (i + (ptext p).size) (-1) ∧ Kp g w.heap.size w w' ∧ Fr w.heap.size v := by
  obtain ⟨k0, k1, k2, _, k4⟩ := ckP_zero hk
  have hpt : ptext p = bQ ++ joinB p.words bSp ++ bQ := by unfold ptext; rw [if_pos h3]
  have hqz : bQ.size = 1 := rfl
  have hps : (ptext p).size = 1 + (joinB p.words bSp).size + 1 := by rw [hpt, ByteArray.size_append, ByteArray.size_append]; omega
  have hb0 : bt s i = 34 := by
    have := hat 0 (by omega)
    rw [Nat.add_zero] at this
    rw [this, hpt, bt_app_lo (by rw [ByteArray.size_append]; omega), bt_app_lo (by omega)]
    rfl
  have hatJ : ∀ k, k < (joinB p.words bSp).size → bt s (i + 1 + k) = bt (joinB p.words bSp) k := fun k hk => by
    have h1 := hat (1 + k) (by omega)
    rw [← Nat.add_assoc] at h1
    rw [h1, hpt, bt_app_lo (by rw [ByteArray.size_append]; omega)]
    exact bt_app_hi (a := bQ) (b := joinB p.words bSp) (i := k)
  have hbq : bt s (i + 1 + (joinB p.words bSp).size) = 34 := by
    have h1 := hat (1 + (joinB p.words bSp).size) (by omega)
    rw [← Nat.add_assoc] at h1
    rw [h1, hpt]
    have h2 := bt_app_hi (a := bQ ++ joinB p.words bSp) (b := bQ) (i := 0)
    rw [ByteArray.size_append] at h2
    exact h2
  rw [hps, h3]
  have H := Lib.hid h
  have HTN : Hid (∀ W, Rd W g s i (-1) → Calls Try.prog 12 #[.pointer (some ⟨g, 0, none⟩), .int .u8 34] W fun e w' => e = .returned (.bool true) ∧ ∃ n, w' = (W.drewN n).setCell ⟨g, 1, none⟩ (.int .i64 ((i + 1 : Nat) : Int))) := fun W hW => take_yes g s i (-1) 34 W hW (by omega) hb0 hsz
  have HPH : Hid (∀ W, Rd W g s (i + 1) (-1) → Calls Try.prog 33 #[.pointer (some ⟨g, 0, none⟩)] W fun e w' => ∃ v, e = .returned (.agg #[.int .i64 3, v]) ∧ RWn g w' w'.heap.size v p.words ∧ Rd w' g s (i + 1 + (joinB p.words bSp).size + 1) (-1) ∧ Kp g W.heap.size W w' ∧ Fr W.heap.size v) := fun W hW => rdPhrase g s (i + 1) p.words W hW k4 k2 hsz hatJ hbq
  have hjz : i + (1 + (joinB p.words bSp).size + 1) = i + 1 + (joinB p.words bSp).size + 1 := by omega
  rw [hjz]
  have hgw : g < w.heap.size := Blk.lt h
  obtain ⟨j, hj⟩ : ∃ j, j = i + 1 + (joinB p.words bSp).size + 1 := ⟨_, rfl⟩
  rw [← hj] at HPH ⊢
  have HK2 := Lib.hid k2
  clear hk h3 k0 k1 k4 hpt hqz hps hb0 hatJ hbq hjz hj h hat k2
  go_enter Try.func24, Try.ntmps24
  go_wp2_with fail
  refine (HTN.out _ (Blk.alloc H.out _)).mono ?_
  rintro e w1 ⟨rfl, n1, hw1⟩
  have HP : Hid (Blk w1 w.heap.size 40 #[.int .i64 0, .slice none 0 0]) := by rw [hw1]; exact ((Blk.new w _ _).drewN n1).far (by show w.heap.size ≠ g; omega) _
  have HR : Hid (Rd w1 g s (i + 1) (-1)) := by rw [hw1]; exact Blk.set_ (Blk.drewN (Blk.alloc H.out _) n1) 1 _
  have HK : Hid (Kp g w.heap.size w w1) := by rw [hw1]; exact (Kp.of_below (bdrew ((Below.refl w.heap.size w).alloc (Nat.le_refl _) _) n1) (by omega)).trans (Kp.set_ _ _ _)
  have hz1 : w.heap.size < w1.heap.size := HP.out.lt
  clear hw1
  go_wp2_with fail
  refine (HPH.out _ HR.out).mono ?_
  rintro e w2 ⟨v, rfl, hv, hr2, hk2, hfr⟩
  have HFR := Lib.hid hfr
  clear hfr
  obtain ⟨A, n, c, rfl, hn, hnc, hrd, had⟩ := hv
  have HP2 : Hid (Blk w2 w.heap.size 40 #[.int .i64 0, .slice none 0 0]) := hk2.blk HP.out hz1 (by omega)
  have HW2 : Hid (RWn g w2 w2.heap.size (.slice A n c) p.words) := ⟨A, n, c, rfl, hn, hnc, hrd, had⟩
  have HR2 := Lib.hid hr2
  have HK2' : Hid (Kp g w.heap.size w w2) := HK.out.trans (hk2.less (by omega))
  have HAD : Hid (∀ ad, A = some ad → ad.block ≠ w.heap.size) := by
    intro ad e he
    have hk := HK2.out
    obtain ⟨b, off, e2, _, hc⟩ := hrd.plain (by omega) (by decide)
    rw [e2] at e
    injection e with e
    subst e
    obtain rfl : b = w.heap.size := he
    obtain ⟨x, hx⟩ : ∃ x, p.words[0]? = some x := ⟨_, List.getElem?_eq_getElem hk⟩
    have h1 := hc 0 (.string x) (by rw [List.getElem?_map, hx]; rfl)
    have h2 := HP2.out.cell (off + 0)
    rw [h1] at h2
    rcases off with _ | _ | off
    · cases h2
    · cases h2
    · simp at h2
  clear hn hrd had hr2 hk2
  have r0 := HP2.out.cell 0
  have r1 := HP2.out.cell 1
  have r2 := HP2.out.frozen 0
  have r3 := HP2.out.frozen 1
  go_wp2_with fail
  obtain ⟨q0, q1, q2, q3, q4⟩ := rd_fin (k := 3) HP2.out HW2.out HAD.out HR2.out HK2'.out hgw _ rfl
  refine bodyPost_ret (v := .agg #[.int .i64 3, .slice A n c]) (by simp [results, Try.results24, go_sem, q0, q1]) rfl ⟨_, rfl, q2, q3, q4, fun b e => by have := HFR.out b e; omega⟩

theorem rdPart_any (g : Nat) (s : ByteArray) (i : Nat) (p : Part) (w : World) (h : Rd w g s i (-1)) (hk : ckP p = 0) (hsz : s.size ≤ 4294967280)
    (hi : i + (ptext p).size ≤ s.size) (hat : ∀ k, k < (ptext p).size → bt s (i + k) = bt (ptext p) k) (hend : bt s (i + (ptext p).size) = -1 ∨ bt s (i + (ptext p).size) = 32 ∨ bt s (i + (ptext p).size) = 124) :
    Calls Try.prog 24 #[.pointer (some ⟨g, 0, none⟩)] w fun e w' => ∃ v, e = .returned (.agg #[.int .i64 p.kind, v]) ∧ RWn g w' w'.heap.size v p.words ∧ Rd w' g s (i + (ptext p).size) (-1) ∧ Kp g w.heap.size w w' ∧ Fr w.heap.size v := by
  by_cases h3 : p.kind = 3
  · exact rdPart_phrase g s i p w h hk h3 hsz hat
  · exact rdPart_plain g s i p w h hk h3 hsz hi hat hend
end Go.Proofs.Ytfikilpkaobiiaa
