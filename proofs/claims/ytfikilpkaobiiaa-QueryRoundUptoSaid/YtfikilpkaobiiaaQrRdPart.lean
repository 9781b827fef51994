/-
  DERIVED. The walk of find's reader.part along a written part. Conditions: sizes. By an AI agent.
-/
import Derived.Test.YtfikilpkaobiiaaQrMem
import Derived.Deep.RegionHeld3
import Derived.Deep.DeepCutAuto
namespace Go.Proofs.Ytfikilpkaobiiaa
open Go.RowKit

theorem Kp.drewN {g B : Nat} {a w : World} (h : Kp g B a w) (n : Nat) : Kp g B a (w.drewN n) := ⟨bdrew h.1 n, h.2.1, h.2.2⟩
/-- two cells stay behind a callee and two new blocks -/
theorem hold0 {W w5 : World} {g : Nat} {a b : Option Value} (hb : Below W.heap.size W w5) (hg : g < W.heap.size) (d0 : W.cell? ⟨g, 0, none⟩ = a) (d1 : W.cell? ⟨g, 1, none⟩ = b) :
    w5.cell? ⟨g, 0, none⟩ = a ∧ w5.cell? ⟨g, 1, none⟩ = b ∧ g < w5.heap.size := ⟨(hb.cell (p := ⟨g, 0, none⟩) hg).trans d0, (hb.cell (p := ⟨g, 1, none⟩) hg).trans d1, Nat.lt_of_lt_of_le hg hb.size⟩
theorem hold1 {w : World} {g : Nat} {a b : Option Value} (h : w.cell? ⟨g, 0, none⟩ = a ∧ w.cell? ⟨g, 1, none⟩ = b ∧ g < w.heap.size) (o : Obj) :
    (w.alloc o).cell? ⟨g, 0, none⟩ = a ∧ (w.alloc o).cell? ⟨g, 1, none⟩ = b ∧ g < (w.alloc o).heap.size := ⟨(World.cell?_alloc_lt w o ⟨g, 0, none⟩ h.2.2).trans h.1, (World.cell?_alloc_lt w o ⟨g, 1, none⟩ h.2.2).trans h.2.1, by have := h.2.2; simp; omega⟩
theorem holdS {w : World} {g : Nat} {a b : Option Value} (h : w.cell? ⟨g, 0, none⟩ = a ∧ w.cell? ⟨g, 1, none⟩ = b ∧ g < w.heap.size) (q : Addr) (hq : g ≠ q.block) (u : Value) :
    (w.setCell q u).cell? ⟨g, 0, none⟩ = a ∧ (w.setCell q u).cell? ⟨g, 1, none⟩ = b ∧ g < (w.setCell q u).heap.size := ⟨(World.cell?_setCell_other w q _ u (fun e => hq (by rw [e]))).trans h.1, (World.cell?_setCell_other w q _ u (fun e => hq (by rw [e]))).trans h.2.1, by simpa [World.setCell] using h.2.2⟩

/-- a slice's block lies from B on -/
def Fr (B : Nat) (v : Value) : Prop := ∀ b, v.ownBlock = some b → B ≤ b
/-- how the reader's part stands behind its word -/
def RpC (g : Nat) (s x : ByteArray) (t : Nat) (w wc : World) (s4 : Value) : Prop := ∃ Pb b, s4 = .pointer (some ⟨Pb, 0, none⟩) ∧ w.heap.size < Pb ∧ w.heap.size < b ∧ b < wc.heap.size ∧ b ≠ Pb ∧ Hid (Blk wc Pb 40 #[.int .i64 0, .slice (some ⟨b, 0, none⟩) 1 1]) ∧ Hid (wc.cell? ⟨b, 0, none⟩ = some (.string x)) ∧ Hid (Rd wc g s t (-1)) ∧ Hid (Blk wc w.heap.size 40 #[.int .i64 0, .slice none 0 0]) ∧ Hid (Kp g w.heap.size w wc)
section
variable {w wr w5 : World} {g t : Nat} {s x : ByteArray} (hR : Rd wr g s t (-1)) (hP : Blk wr w.heap.size 40 #[.int .i64 0, .slice none 0 0]) (hK : Kp g w.heap.size w wr) (hg : g < w.heap.size)
include hR hP hK hg
theorem rpc_a (hb : Below wr.heap.size wr w5) : RpC g s x t w ((w5.alloc (.cells #[.string x] 9)).alloc (.cells #[.int .i64 0, .slice (some ⟨w5.heap.size, 0, none⟩) 1 1] 40)) (.pointer (some ⟨w5.heap.size + 1, 0, none⟩)) := by
  have h1 := hP.lt
  have h2 := hb.size
  have hz : (w5.alloc (.cells #[.string x] 9)).heap.size = w5.heap.size + 1 := by simp
  refine ⟨w5.heap.size + 1, w5.heap.size, rfl, by omega, by omega, by simp; omega, by omega, ?_, ((Blk.new w5 _ _).alloc _).cell 0, (hR.below hb hR.lt).alloc _ |>.alloc _, (hP.below hb hP.lt).alloc _ |>.alloc _, hK.trans (Kp.of_below (((hb.alloc h2 _).alloc (by rw [hz]; omega) _).mono (by omega)) (by omega))⟩
  rw [← hz]
  exact Blk.new _ _ _
theorem rpc_b (hb : Below wr.heap.size wr w5) : RpC g s x t w ((w5.alloc (.cells #[.int .i64 0, .slice (some ⟨w5.heap.size + 1, 0, none⟩) 1 1] 40)).alloc (.cells #[.string x] 9)) (.pointer (some ⟨w5.heap.size, 0, none⟩)) := by
  have h1 := hP.lt
  have h2 := hb.size
  have hz : (w5.alloc (.cells #[.int .i64 0, .slice (some ⟨w5.heap.size + 1, 0, none⟩) 1 1] 40)).heap.size = w5.heap.size + 1 := by simp
  refine ⟨w5.heap.size, w5.heap.size + 1, rfl, by omega, by omega, by simp, by omega, (Blk.new w5 _ _).alloc _, ?_, (hR.below hb hR.lt).alloc _ |>.alloc _, (hP.below hb hP.lt).alloc _ |>.alloc _, hK.trans (Kp.of_below (((hb.alloc h2 _).alloc (by rw [hz]; omega) _).mono (by omega)) (by omega))⟩
  have hc := (Blk.new (w5.alloc (.cells #[.int .i64 0, .slice (some ⟨w5.heap.size + 1, 0, none⟩) 1 1] 40)) 9 #[.string x]).cell 0
  rw [hz] at hc
  exact hc
theorem rpc_c (hb : Below (wr.alloc (.cells #[.int .i64 0, .slice none 0 0] 40)).heap.size (wr.alloc (.cells #[.int .i64 0, .slice none 0 0] 40)) w5) :
    RpC g s x t w (((w5.alloc (.cells #[.string x] 9)).setCell ⟨wr.heap.size, 0, none⟩ (.int .i64 0)).setCell ⟨wr.heap.size, 1, none⟩ (.slice (some ⟨w5.heap.size, 0, none⟩) 1 1)) (.pointer (some ⟨wr.heap.size, 0, none⟩)) := by
  have h1 := hP.lt
  have h2 := hb.size
  have h3 := hR.lt
  have hz0 : (wr.alloc (.cells #[.int .i64 0, .slice none 0 0] 40)).heap.size = wr.heap.size + 1 := by simp
  rw [hz0] at h2
  have hb' : Below wr.heap.size wr w5 := ((Below.refl _ _).alloc (Nat.le_refl _) _).trans (hb.mono (by omega))
  have hp5 : Blk w5 wr.heap.size 40 #[.int .i64 0, .slice none 0 0] := (Blk.new _ _ _).below hb (by omega)
  have hp6 := ((hp5.alloc (.cells #[.string x] 9)).set_ 0 (.int .i64 0)).set_ 1 (.slice (some ⟨w5.heap.size, 0, none⟩) 1 1)
  refine ⟨wr.heap.size, w5.heap.size, rfl, by omega, by omega, by simp [World.setCell], by omega, hp6, ?_, ((((hR.below hb' h3).alloc _).far (by show g ≠ wr.heap.size; omega) _).far (by show g ≠ wr.heap.size; omega) _), ((((hP.below hb' h1).alloc _).far (by show w.heap.size ≠ wr.heap.size; omega) _).far (by show w.heap.size ≠ wr.heap.size; omega) _), hK.trans (Kp.of_below ((((hb'.alloc (by omega) _).setCell (p := ⟨wr.heap.size, 0, none⟩) (Nat.le_refl _) _).setCell (p := ⟨wr.heap.size, 1, none⟩) (Nat.le_refl _) _).mono (by omega)) (by omega))⟩
  exact ((((Blk.new w5 9 #[.string x]).far (by show w5.heap.size ≠ wr.heap.size; omega) _).far (by show w5.heap.size ≠ wr.heap.size; omega) _)).cell 0
end
/-- the part's own block, its word's block, the reader and the result, as they stand -/
def RpW (g : Nat) (s x : ByteArray) (t : Nat) (k : Int) (w wc : World) (Pb b : Nat) : Prop := b < wc.heap.size ∧ Blk wc Pb 40 #[.int .i64 k, .slice (some ⟨b, 0, none⟩) 1 1] ∧ wc.cell? ⟨b, 0, none⟩ = some (.string x) ∧ Rd wc g s t (-1) ∧ Blk wc w.heap.size 40 #[.int .i64 0, .slice none 0 0] ∧ Kp g w.heap.size w wc
section
variable {w wc : World} {g t Pb b : Nat} {s x : ByteArray} {k : Int}
theorem RpW.drew (h : RpW g s x t k w wc Pb b) (n : Nat) : RpW g s x t k w (wc.drewN n) Pb b := ⟨h.1, h.2.1, h.2.2.1, h.2.2.2.1, h.2.2.2.2.1, h.2.2.2.2.2.drewN n⟩
theorem RpW.take (h : RpW g s x t k w wc Pb b) (hp : w.heap.size < Pb) (hb : w.heap.size < b) (hg : g < w.heap.size) : RpW g s x (t + 1) k w (wc.setCell ⟨g, 1, none⟩ (.int .i64 ((t + 1 : Nat) : Int))) Pb b := by
  obtain ⟨h1, h2, h3, h4, h5, h6⟩ := h
  refine ⟨by simpa [World.setCell] using h1, h2.far (by show Pb ≠ g; omega) _, (World.cell?_setCell_other _ _ _ _ (fun e => by injection e with e; omega)).trans h3, Blk.set_ h4 1 _, h5.far (by show w.heap.size ≠ g; omega) _, h6.trans (Kp.set_ _ _ _)⟩
theorem RpW.kind (h : RpW g s x t k w wc Pb b) (hp : w.heap.size < Pb) (hg : g < w.heap.size) (hbp : b ≠ Pb) (k' : Int) : RpW g s x t k' w (wc.setCell ⟨Pb, 0, none⟩ (.int .i64 k')) Pb b := by
  obtain ⟨h1, h2, h3, h4, h5, h6⟩ := h
  refine ⟨by simpa [World.setCell] using h1, Blk.set_ h2 0 _, (World.cell?_setCell_other _ _ _ _ (fun e => by injection e with e; omega)).trans h3, Blk.far h4 (by show g ≠ Pb; omega) _, h5.far (by show w.heap.size ≠ Pb; omega) _, h6.trans (Kp.of_below ((Below.refl _ _).setCell (p := ⟨Pb, 0, none⟩) (by show w.heap.size ≤ Pb; omega) _) (by omega))⟩
theorem RpW.fin (h : RpW g s x t k w wc Pb b) (hb : w.heap.size < b) (hg : g < w.heap.size) (u : Int) (W : World) (hW : W = (wc.setCell ⟨w.heap.size, 0, none⟩ (.int .i64 u)).setCell ⟨w.heap.size, 1, none⟩ (.slice (some ⟨b, 0, none⟩) 1 1)) :
    W.cell? ⟨w.heap.size, 0, none⟩ = some (.int .i64 u) ∧ W.cell? ⟨w.heap.size, 1, none⟩ = some (.slice (some ⟨b, 0, none⟩) 1 1) ∧ RWn g W W.heap.size (.slice (some ⟨b, 0, none⟩) 1 1) [x] ∧ Rd W g s t (-1) ∧ Kp g w.heap.size w W := by
  subst hW
  obtain ⟨h1, h2, h3, h4, h5, h6⟩ := h
  have hr := (Blk.set_ h5 0 (.int .i64 u)).set_ 1 (.slice (some ⟨b, 0, none⟩) 1 1)
  refine ⟨hr.cell 0, hr.cell 1, ⟨_, _, _, rfl, rfl, Nat.le_refl _, ⟨rfl, fun _ => ⟨_, rfl, by simpa [World.setCell] using h1, fun j u' hu => ?_⟩⟩, fun ad e => by injection e with e; subst e; show b ≠ g; omega⟩, (Blk.far h4 (by show g ≠ w.heap.size; omega) _).far (by show g ≠ w.heap.size; omega) _, h6.trans (Kp.of_below (((Below.refl _ _).setCell (p := ⟨w.heap.size, 0, none⟩) (Nat.le_refl _) _).setCell (p := ⟨w.heap.size, 1, none⟩) (Nat.le_refl _) _) (by omega))⟩
  rcases j with _ | j
  · obtain rfl : Value.string x = u' := by simpa using hu
    show World.cell? _ ⟨b, 0, none⟩ = _
    rw [World.cell?_setCell_other _ _ _ _ (fun e => by injection e with e; omega), World.cell?_setCell_other _ _ _ _ (fun e => by injection e with e; omega)]
    exact h3
  · simp at hu
end

set_option maxRecDepth 100000 in
set_option maxHeartbeats 2000000 in
theorem rdPart_plain (g : Nat) (s : ByteArray) (i : Nat) (p : Part) (w : World) (h : Rd w g s i (-1)) (hk : ckP p = 0) (h3 : p.kind ≠ 3) (hsz : s.size ≤ 4294967280)
    (hi : i + (ptext p).size ≤ s.size) (hat : ∀ k, k < (ptext p).size → bt s (i + k) = bt (ptext p) k) (hend : bt s (i + (ptext p).size) = -1 ∨ bt s (i + (ptext p).size) = 32 ∨ bt s (i + (ptext p).size) = 124) :
    Calls Try.prog 24 #[.pointer (some ⟨g, 0, none⟩)] w fun e w' => ∃ v, e = .returned (.agg #[.int .i64 p.kind, v]) ∧ RWn g w' w'.heap.size v p.words ∧ Rd w' g s (i + (ptext p).size) (-1) ∧ Kp g w.heap.size w w' ∧ Fr w.heap.size v := by
  obtain ⟨k0, k1, k2, k3, k4⟩ := ckP_zero hk
  obtain ⟨x, hx⟩ : ∃ x, p.words = [x] := List.length_eq_one_iff.1 (k3 h3)
  have hxw : isW x := k4 x (by rw [hx]; exact List.mem_singleton.2 rfl)
  have hpt : ptext p = x ++ kmark p.kind := by unfold ptext; rw [if_neg h3, hx]; rfl
  rw [hpt] at hi hat hend ⊢
  rw [hx]
  have hxs : (x ++ kmark p.kind).size = x.size + (kmark p.kind).size := ByteArray.size_append
  rw [hxs] at hi hat hend ⊢
  have hx0 : ∀ k, k < x.size → bt s (i + k) = bt x k := fun k hk => by rw [hat k (by omega), bt_app_lo hk]
  have hb34 : bt s i ≠ 34 := fun e => by
    have h1 := hxw.2.2.1 0 hxw.1
    rw [← hx0 0 hxw.1, Nat.add_zero, e] at h1
    exact absurd h1 (by decide)
  have hnx : (p.kind = 0 ∧ (bt s (i + x.size) = -1 ∨ bt s (i + x.size) = 32 ∨ bt s (i + x.size) = 124)) ∨ (p.kind = 1 ∧ bt s (i + x.size) = 42) ∨ (p.kind = 2 ∧ bt s (i + x.size) = 126) := by
    have hkk : p.kind = 0 ∨ p.kind = 1 ∨ p.kind = 2 := by omega
    rcases hkk with h | h | h
    · rw [h] at hend
      exact .inl ⟨h, hend⟩
    · have h1 := hat x.size (by rw [h]; show x.size < x.size + 1; omega)
      rw [h] at h1
      exact .inr (.inl ⟨h, h1.trans (bt_app_hi (a := x) (i := 0))⟩)
    · have h1 := hat x.size (by rw [h]; show x.size < x.size + 1; omega)
      rw [h] at h1
      exact .inr (.inr ⟨h, h1.trans (bt_app_hi (a := x) (i := 0))⟩)
  have hnw : isWB (bt s (i + x.size)) = false := by
    rcases hnx with h | h | h
    · rcases h.2 with h | h | h <;> rw [h] <;> decide
    · rw [h.2]; decide
    · rw [h.2]; decide
  have HNXT := Lib.hid hnx
  clear hnx
  have HN := Lib.hid hnw
  clear hnw
  have H := Lib.hid h
  have hTN : Hid (∀ o, Calls Try.prog 12 #[.pointer (some ⟨g, 0, none⟩), .int .u8 34] (w.alloc o) fun e w' => e = .returned (.bool false) ∧ ∃ n, w' = (w.alloc o).drewN n) := fun o => take_no g s i (-1) 34 _ (Blk.alloc h o) (by omega) hb34
  clear hk k0 k1 h3 k2 k3 k4 hpt hxs h hb34
  go_enter Try.func24, Try.ntmps24
  go_wp2_with fail
  refine (hTN.out _).mono ?_
  rintro e w1 ⟨rfl, n1, rfl⟩
  obtain ⟨w1, hw1⟩ : ∃ w1, w1 = (w.alloc (.cells #[.int .i64 0, .slice none 0 0] 40)).drewN n1 := ⟨_, rfl⟩
  rw [← hw1]
  have HP : Hid (Blk w1 w.heap.size 40 #[.int .i64 0, .slice none 0 0]) := by rw [hw1]; exact (Blk.new w _ _).drewN n1
  have HR : Hid (Rd w1 g s i (-1)) := by rw [hw1]; exact (Blk.alloc H.out _).drewN n1
  have HK : Hid (Below w.heap.size w w1) := by rw [hw1]; exact bdrew ((Below.refl _ _).alloc (Nat.le_refl _) _) n1
  clear hTN hw1
  have HX := Lib.hid hx0
  have hxz : x.size ≤ 30 := hxw.2.1
  have hx1 : 0 < x.size := hxw.1
  have HW := Lib.hid hxw
  have hgw : g < w.heap.size := Blk.lt H.out
  have hsx : i + x.size ≤ s.size := by omega
  have hw1z : w.heap.size ≤ w1.heap.size := HK.out.size
  have HAT := Lib.hid hat
  have HEND := Lib.hid hend
  have HPX := Lib.hid hx
  clear hx0 hxw H hat hend hx
  have c1 := HR.out.cell 1
  go_wp2_with fail
  clear c1
  go_loopg [] x.size (fun gg wr => ∃ t : Nat, t + gg = i + x.size ∧ i ≤ t ∧ Hid (Rd wr g s t (-1)) ∧ Hid (Blk wr w.heap.size 40 #[.int .i64 0, .slice none 0 0]) ∧ Hid (Kp g w.heap.size w wr))
  case atStart => exact ⟨i, rfl, Nat.le_refl _, HR, HP, Kp.of_below HK.out (by omega)⟩
  case round =>
    obtain ⟨t, htg, hit, hR, hP, hK⟩ := hrel
    have d0 := hR.out.cell 0
    have d1 := hR.out.cell 1
    have f1 := hR.out.frozen 1
    have j0 : (0 : Int) ≤ (t : Int) := by omega
    have hgr : g < wr.heap.size := Blk.lt hR.out
    by_cases hk : t < i + x.size
    · have hlt : t < s.size := by omega
      have j1 : (t : Int) < (s.size : Int) := by omega
      have j2 : (t : Int) - (i : Int) < 30 := by omega
      have hc0 : (0 : Int) ≤ (s[t].toNat : Int) := by omega
      have hc1 : (s[t].toNat : Int) ≤ 255 := by have := (s[t]).toNat_lt; omega
      have hq : isWB (s[t].toNat : Int) = true := by
        obtain ⟨k, rfl⟩ : ∃ k, t = i + k := ⟨t - i, by omega⟩
        rw [← bt_at hlt, HX.out k (by omega)]; exact HW.out.2.2.1 k (by omega)
      have HQ : Hid (∀ W, Calls Try.prog 28 #[.int .u8 (s[t].toNat : Int)] W fun e w' => e = .returned (.bool true) ∧ w' = W) := fun W => (isWB_any _ W hc0 hc1).mono (fun _ _ h => ⟨by rw [h.1, hq], h.2⟩)
      clear hq
      go_wp2_with fail
      go_quiet (refine (HQ.out _).mono (fun _ _ h => ⟨h.1, _, h.2⟩))
      go_wp2_with fail
      go_roundg (i + x.size - (t + 1))
      case measure => omega
      case rel =>
        refine ⟨t + 1, by omega, by omega, ?_, ?_, ?_⟩
        · exact Blk.set_ hR.out 1 _
        · exact Blk.far hP.out (by show w.heap.size ≠ g; omega) _
        · exact (hK.out.drewN _).trans (Kp.set_ _ _ _)
    · have hta : t ≤ i + x.size := by omega
      have htb : i + x.size ≤ t := by omega
      have HTE : Hid (i + x.size = t) := by show _ = _; omega
      clear htg hk
      have j5 : ((t : Int) == (i : Int)) = false := beq_eq_false_iff_ne.2 (by omega)
      have ways : ((¬ (t : Int) < (s.size : Int)) ∧ decide (t < s.size) = false ∧ decide ((t : Int) < (s.size : Int)) = false) ∨ ((t : Int) < (s.size : Int) ∧ decide ((t : Int) - (i : Int) < 30) = false ∧ True) ∨ ((t : Int) < (s.size : Int) ∧ decide ((t : Int) - (i : Int) < 30) = true ∧ True) := by
        by_cases h1 : (t : Int) < (s.size : Int)
        · by_cases h2 : (t : Int) - (i : Int) < 30
          · exact .inr (.inr ⟨h1, decide_eq_true h2, trivial⟩)
          · exact .inr (.inl ⟨h1, decide_eq_false h2, trivial⟩)
        · exact .inl ⟨h1, decide_eq_false (by omega), decide_eq_false h1⟩
      have k1 : (t : Int) - (i : Int) ≤ 30 := by omega
      have k2 : 0 ≤ (t : Int) - (i : Int) := by omega
      have HQ : Hid (∀ h : t < s.size, ∀ W, Calls Try.prog 28 #[.int .u8 (s[t].toNat : Int)] W fun e w' => e = .returned (.bool false) ∧ w' = W) := fun h W => (isWB_any _ W (by omega) (by have := (s[t]).toNat_lt; omega)).mono (fun _ _ h' => ⟨by rw [h'.1, ← bt_at h, ← HTE.out, HN.out], h'.2⟩)
      have hlx : s.extract i t = x := by
        rw [← HTE.out]
        apply ByteArray.ext_getElem
        · rw [ByteArray.size_extract]; omega
        · intro k h5 h6
          have := HX.out k h6
          rw [bt_at h6, bt_at (by omega)] at this
          rw [ByteArray.getElem_extract]
          exact UInt8.toNat_inj.1 (by omega)
      have HL : Hid (∀ W, Calls Try.prog 29 #[.string (s.extract i t)] W fun e w' => e = .returned (.string x) ∧ Below W.heap.size W w') := fun W => (lower_any _ W (by rw [ByteArray.size_extract]; omega)).mono (fun _ _ h => ⟨by rw [h.1, hlx, HW.out.2.2.2], h.2⟩)
      clear hlx
      have l1 : (i : Int) ≤ (t : Int) := by omega
      have l2 : (t : Int) ≤ (s.size : Int) := by omega
      have l0 : (0 : Int) ≤ (i : Int) := by omega
      go_upto_region 4 with fail
      go_cut [43] (fun s43 wc => s43 = .bool false ∧ ∃ n, wc = wr.drewN n)
      case first =>
        rcases ways with ⟨j1, j2, j3⟩ | ⟨j1, j2, j3⟩ | ⟨j1, j2, j3⟩
        all_goals
          go_quiet (refine (HQ.out _ _).mono (fun _ _ h => ⟨h.1, _, h.2⟩))
          go_wp2_with fail
          go_meet
          exact ⟨rfl, _, rfl⟩
      case rest =>
      obtain ⟨rfl, n4, rfl⟩ := hcut
      go_upto_region 6 with fail
      go_cut [80] (fun s80 wc => s80 = .bool false ∧ ∃ n m, wc = (wr.drewN n).drewN m)
      case first =>
        rcases ways with ⟨j1, j2, j3⟩ | ⟨j1, j2, j3⟩ | ⟨j1, j2, j3⟩
        all_goals
          go_quiet (refine (HQ.out _ _).mono (fun _ _ h => ⟨h.1, _, h.2⟩))
          go_wp2_with fail
          go_meet
          first | exact ⟨rfl, _, _, rfl⟩ | exact ⟨rfl, _, 0, rfl⟩
      case rest =>
      obtain ⟨rfl, n6, m6, rfl⟩ := hcut
      go_upto_region 8 with fail
      go_cut [4] (fun s4 wc => RpC g s x t w wc s4)
      case first =>
        go_region_held3 (fun w' => w'.cell? ⟨g, 0, none⟩ = some (.string s) ∧ w'.cell? ⟨g, 1, none⟩ = some (.int .i64 t) ∧ g < w'.heap.size)
          (first | exact ⟨d0, d1, hgr⟩ | exact hold0 hb5 hgr d0 d1 | exact hold1 (hold0 hb5 hgr d0 d1) _ | exact hold1 (hold1 (hold0 hb5 hgr d0 d1) _) _ | exact hold1 ⟨d0, d1, hgr⟩ _ | exact holdS (hold1 (hold1 (hold0 hb5 hgr d0 d1) _) _) _ (Nat.ne_of_lt (hold0 hb5 hgr d0 d1).2.2) _ | exact holdS (holdS (hold1 (hold1 (hold0 hb5 hgr d0 d1) _) _) _ (Nat.ne_of_lt (hold0 hb5 hgr d0 d1).2.2) _) _ (Nat.ne_of_lt (hold0 hb5 hgr d0 d1).2.2) _ | exact hold0 hb5 (hold1 ⟨d0, d1, hgr⟩ _).2.2 (hold1 ⟨d0, d1, hgr⟩ _).1 (hold1 ⟨d0, d1, hgr⟩ _).2.1 | exact hold1 (hold0 hb5 (hold1 ⟨d0, d1, hgr⟩ _).2.2 (hold1 ⟨d0, d1, hgr⟩ _).1 (hold1 ⟨d0, d1, hgr⟩ _).2.1) _ | exact holdS (hold1 (hold0 hb5 (hold1 ⟨d0, d1, hgr⟩ _).2.2 (hold1 ⟨d0, d1, hgr⟩ _).1 (hold1 ⟨d0, d1, hgr⟩ _).2.1) _) _ (Nat.ne_of_lt hgr) _ | exact holdS (holdS (hold1 (hold0 hb5 (hold1 ⟨d0, d1, hgr⟩ _).2.2 (hold1 ⟨d0, d1, hgr⟩ _).1 (hold1 ⟨d0, d1, hgr⟩ _).2.1) _) _ (Nat.ne_of_lt hgr) _) _ (Nat.ne_of_lt hgr) _)
          (first | (go_at_call 29; refine (HL.out _).mono ?_; rintro e5 w5 ⟨rfl, hb5⟩; have B2 := (Blk.new w5 40 #[.int .i64 0, .slice none 0 0]).alloc (.cells #[.string x] 9); have gq0 := B2.frozen 0; have gq1 := B2.frozen 1; have dq0 := B2.cell 0; have dq1 := B2.cell 1; clear B2; (try (have BQ0 := Blk.below (Blk.new _ 40 #[.int .i64 0, .slice none 0 0]) hb5 (by simp); have BQ : Blk w5 wr.heap.size 40 #[.int .i64 0, .slice none 0 0] := BQ0; clear BQ0; have fq0 := (BQ.alloc (.cells #[.string x] 9)).frozen 0; have fq1 := (BQ.alloc (.cells #[.string x] 9)).frozen 1; have cq0 := (BQ.alloc (.cells #[.string x] 9)).cell 0; have cq1 := (BQ.alloc (.cells #[.string x] 9)).cell 1; clear BQ))))
        all_goals (go_wp2_with fail; go_meet)
        all_goals first
          | exact rpc_a hR.out hP.out hK.out hgw (Below.trans (bdrew (Below.refl _ wr) (n6 + m6 + 1)) hb5)
          | exact rpc_b hR.out hP.out hK.out hgw (Below.trans (bdrew (Below.refl _ wr) (n6 + m6 + 1)) hb5)
          | exact rpc_c hR.out hP.out hK.out hgw (Below.trans (⟨rfl, rfl, rfl, Nat.le_refl _, fun _ _ => rfl⟩ : Below (wr.alloc (.cells #[.int .i64 0, .slice none 0 0] 40)).heap.size (wr.alloc (.cells #[.int .i64 0, .slice none 0 0] 40)) ((wr.drewN (n6 + m6 + 1)).alloc (.cells #[.int .i64 0, .slice none 0 0] 40))) hb5)
      case rest =>
      clear hR hP hK d0 d1 f1 j0 hgr j5 ways HQ HL l1 l2 l0
      obtain ⟨Pb, b, rfl, hPb, hb0, hb1, hbp, hpb, hcb, hR, hP, hK⟩ := hcut
      have HNX : Hid ((p.kind = 0 ∧ (bt s t = -1 ∨ bt s t = 32 ∨ bt s t = 124)) ∨ (p.kind = 1 ∧ bt s t = 42) ∨ (p.kind = 2 ∧ bt s t = 126)) := by
        show _ ∨ _
        rw [← HTE.out]
        exact HNXT.out
      have hgPb : Pb ≠ g := by omega
      have hgb : b ≠ g := by omega
      have hPbl : Pb < wc.heap.size := hpb.out.lt
      have T42 : Hid (∀ W, Rd W g s t (-1) → p.kind ≠ 1 → Calls Try.prog 12 #[.pointer (some ⟨g, 0, none⟩), .int .u8 42] W fun e w' => e = .returned (.bool false) ∧ ∃ n, w' = W.drewN n) := fun W h hk => take_no g s t (-1) 42 W h (by omega) (by
        rcases HNX.out with h' | ⟨h', _⟩ | h'
        · rcases h'.2 with h' | h' | h' <;> rw [h'] <;> decide
        · exact absurd h' hk
        · rw [h'.2]; decide)
      have Y42 : Hid (∀ W, Rd W g s t (-1) → p.kind = 1 → Calls Try.prog 12 #[.pointer (some ⟨g, 0, none⟩), .int .u8 42] W fun e w' => e = .returned (.bool true) ∧ ∃ n, w' = (W.drewN n).setCell ⟨g, 1, none⟩ (.int .i64 ((t + 1 : Nat) : Int))) := fun W h hk => take_yes g s t (-1) 42 W h (by omega) (by
        rcases HNX.out with h' | h' | h'
        · rw [h'.1] at hk; exact absurd hk (by decide)
        · exact h'.2
        · rw [h'.1] at hk; exact absurd hk (by decide)) hsz
      have T126 : Hid (∀ W, Rd W g s t (-1) → p.kind ≠ 1 → p.kind ≠ 2 → Calls Try.prog 12 #[.pointer (some ⟨g, 0, none⟩), .int .u8 126] W fun e w' => e = .returned (.bool false) ∧ ∃ n, w' = W.drewN n) := fun W h hk hk2 => take_no g s t (-1) 126 W h (by omega) (by
        rcases HNX.out with h' | h' | h'
        · rcases h'.2 with h' | h' | h' <;> rw [h'] <;> decide
        · exact absurd h'.1 hk
        · exact absurd h'.1 hk2)
      have Y126 : Hid (∀ W, Rd W g s t (-1) → p.kind = 2 → Calls Try.prog 12 #[.pointer (some ⟨g, 0, none⟩), .int .u8 126] W fun e w' => e = .returned (.bool true) ∧ ∃ n, w' = (W.drewN n).setCell ⟨g, 1, none⟩ (.int .i64 ((t + 1 : Nat) : Int))) := fun W h hk => take_yes g s t (-1) 126 W h (by omega) (by
        rcases HNX.out with h' | h' | h'
        · rw [h'.1] at hk; exact absurd hk (by decide)
        · rw [h'.1] at hk; exact absurd hk (by decide)
        · exact h'.2) hsz
      have hk3 : p.kind = 0 ∨ p.kind = 1 ∨ p.kind = 2 := by rcases HNX.out with h | h | h <;> simp [h.1]
      have HRP : Hid (RpW g s x t 0 w wc Pb b) := ⟨hb1, hpb.out, hcb.out, hR.out, hP.out, hK.out⟩
      rcases hk3 with h | h | h
      · have hkm : t = i + (x.size + (kmark p.kind).size) := by rw [h, ← HTE.out]; rfl
        have HKM := Lib.hid hkm
        have HH := Lib.hid h
        clear h hkm
        go_wp2_with fail
        refine (T42.out _ hR.out (by rw [HH.out]; decide)).mono ?_
        rintro e w2 ⟨rfl, n2, rfl⟩
        go_wp2_with fail
        refine (T126.out _ (hR.out.drewN _) (by rw [HH.out]; decide) (by rw [HH.out]; decide)).mono ?_
        rintro e w2 ⟨rfl, n3, rfl⟩
        have c0 := hpb.out.cell 0
        have c1 := hpb.out.cell 1
        have r0 := hP.out.cell 0
        have r1 := hP.out.cell 1
        have r2 := hP.out.frozen 0
        have r3 := hP.out.frozen 1
        go_wp2_with fail
        obtain ⟨q0, q1, q2, q3, q4⟩ := (HRP.out.drew (n2 + n3)).fin hb0 hgw 0 _ rfl
        refine bodyPost_ret (v := .agg #[.int .i64 0, .slice (some ⟨b, 0, none⟩) 1 1]) (by simp [results, Try.results24, go_sem, q0, q1]) rfl ⟨_, by rw [HH.out], q2, ?_, q4, fun b' e => by simp [Value.ownBlock] at e; omega⟩
        rw [← HKM.out]; exact q3
      · have hkm : t + 1 = i + (x.size + (kmark p.kind).size) := by rw [h, ← HTE.out]; rfl
        have HKM := Lib.hid hkm
        have HH := Lib.hid h
        clear h hkm
        go_wp2_with fail
        refine (Y42.out _ hR.out HH.out).mono ?_
        rintro e w2 ⟨rfl, n2, hw2⟩
        have HP2 : Hid (RpW g s x (t + 1) 0 w w2 Pb b) := by rw [hw2]; exact (HRP.out.drew n2).take hPb hb0 hgw
        have HP3 : Hid (RpW g s x (t + 1) 1 w (w2.setCell ⟨Pb, 0, none⟩ (.int .i64 1)) Pb b) := HP2.out.kind hPb hgw hbp 1
        have c0 := HP2.out.2.1.cell 0
        have c1 := HP2.out.2.1.frozen 0
        have p0 := HP3.out.2.1.cell 0
        have p1 := HP3.out.2.1.cell 1
        have r0 := HP3.out.2.2.2.2.1.cell 0
        have r1 := HP3.out.2.2.2.2.1.cell 1
        have r2 := HP3.out.2.2.2.2.1.frozen 0
        have r3 := HP3.out.2.2.2.2.1.frozen 1
        clear hw2
        go_wp2_with fail
        obtain ⟨q0, q1, q2, q3, q4⟩ := HP3.out.fin hb0 hgw 1 _ rfl
        refine bodyPost_ret (v := .agg #[.int .i64 1, .slice (some ⟨b, 0, none⟩) 1 1]) (by simp [results, Try.results24, go_sem, q0, q1]) rfl ⟨_, by rw [HH.out], q2, ?_, q4, fun b' e => by simp [Value.ownBlock] at e; omega⟩
        rw [← HKM.out]; exact q3
      · have hkm : t + 1 = i + (x.size + (kmark p.kind).size) := by rw [h, ← HTE.out]; rfl
        have HKM := Lib.hid hkm
        have HH := Lib.hid h
        clear h hkm
        go_wp2_with fail
        refine (T42.out _ hR.out (by rw [HH.out]; decide)).mono ?_
        rintro e w2 ⟨rfl, n2, rfl⟩
        go_wp2_with fail
        refine (Y126.out _ (hR.out.drewN _) HH.out).mono ?_
        rintro e w2 ⟨rfl, n3, hw2⟩
        have HP2 : Hid (RpW g s x (t + 1) 0 w w2 Pb b) := by rw [hw2]; exact ((HRP.out.drew n2).drew n3).take hPb hb0 hgw
        have HP3 : Hid (RpW g s x (t + 1) 2 w (w2.setCell ⟨Pb, 0, none⟩ (.int .i64 2)) Pb b) := HP2.out.kind hPb hgw hbp 2
        have c0 := HP2.out.2.1.cell 0
        have c1 := HP2.out.2.1.frozen 0
        have p0 := HP3.out.2.1.cell 0
        have p1 := HP3.out.2.1.cell 1
        have r0 := HP3.out.2.2.2.2.1.cell 0
        have r1 := HP3.out.2.2.2.2.1.cell 1
        have r2 := HP3.out.2.2.2.2.1.frozen 0
        have r3 := HP3.out.2.2.2.2.1.frozen 1
        clear hw2
        go_wp2_with fail
        obtain ⟨q0, q1, q2, q3, q4⟩ := HP3.out.fin hb0 hgw 2 _ rfl
        refine bodyPost_ret (v := .agg #[.int .i64 2, .slice (some ⟨b, 0, none⟩) 1 1]) (by simp [results, Try.results24, go_sem, q0, q1]) rfl ⟨_, by rw [HH.out], q2, ?_, q4, fun b' e => by simp [Value.ownBlock] at e; omega⟩
        rw [← HKM.out]; exact q3
end Go.Proofs.Ytfikilpkaobiiaa
