/-
  DERIVED. Words and parts in memory whose blocks meet a condition; the bytes of a joined text, step by step; the reader's take in one contract; the state of a clause that is being read. Conditions: none. By an AI agent.
-/
import Derived.Test.YtfikilpkaobiiaaQrRdAny
namespace Go.Proofs.Ytfikilpkaobiiaa
open Go.RowKit

def RWX (X : Nat → Prop) (W : World) (v : Value) (ws : List ByteArray) : Prop := ∃ A n c, v = .slice A n c ∧ n = ws.length ∧ n ≤ c ∧ Reads W W.heap.size 1 A n (ws.map .string) ∧ ∀ b, v.ownBlock = some b → X b ∧ b < W.heap.size
def RPX (X : Nat → Prop) (W : World) (v : Value) (ps : List Part) : Prop := ∃ A n c, ∃ M : List (Part × Value), M.map Prod.fst = ps ∧ v = .slice A n c ∧ n = M.length ∧ Reads W W.heap.size 2 A n (M.flatMap paV) ∧ (∀ b, v.ownBlock = some b → X b ∧ b < W.heap.size) ∧ ∀ x ∈ M, RWX X W x.2 x.1.words
section
variable {X X' : Nat → Prop} {W W' : World}
theorem reads_keep {size n c : Nat} {A : Option Addr} {xs : List Value} (h : Reads W W.heap.size size A n xs) (hA : ∀ b, (Value.slice A n c).ownBlock = some b → X b ∧ b < W.heap.size) (hs : W.heap.size ≤ W'.heap.size) (hk : ∀ b, b < W.heap.size → X b → X' b ∧ W'.heap[b]? = W.heap[b]?) : Reads W' W'.heap.size size A n xs := by
  refine ⟨h.1, fun hn => ?_⟩
  obtain ⟨ad, e, hb, hc⟩ := h.2 hn
  subst e
  refine ⟨ad, rfl, by omega, fun j u hu => ?_⟩
  exact (World.cell?_of_block (by rw [block_of_add]; exact (hk _ hb (hA ad.block rfl).1).2)).trans (hc j u hu)
theorem RWX.keep {v : Value} {ws : List ByteArray} (h : RWX X W v ws) (hs : W.heap.size ≤ W'.heap.size) (hk : ∀ b, b < W.heap.size → X b → X' b ∧ W'.heap[b]? = W.heap[b]?) : RWX X' W' v ws := by
  obtain ⟨A, n, c, rfl, h2, h3, h4, h5⟩ := h
  exact ⟨A, n, c, rfl, h2, h3, reads_keep h4 h5 hs hk, fun b e => ⟨(hk _ (h5 b e).2 (h5 b e).1).1, by have := (h5 b e).2; omega⟩⟩
theorem RPX.keep {v : Value} {ps : List Part} (h : RPX X W v ps) (hs : W.heap.size ≤ W'.heap.size) (hk : ∀ b, b < W.heap.size → X b → X' b ∧ W'.heap[b]? = W.heap[b]?) : RPX X' W' v ps := by
  obtain ⟨A, n, c, M, h1, rfl, h2, h4, h5, h6⟩ := h
  exact ⟨A, n, c, M, h1, rfl, h2, reads_keep h4 h5 hs hk, fun b e => ⟨(hk _ (h5 b e).2 (h5 b e).1).1, by have := (h5 b e).2; omega⟩, fun x hx => (h6 x hx).keep hs hk⟩
theorem RWX.plain {v : Value} {ws : List ByteArray} (h : RWX X W v ws) : RW W W.heap.size v ws := by
  obtain ⟨A, n, c, h1, h2, h3, h4, _⟩ := h
  exact ⟨A, n, c, h1, h2, h3, h4⟩
theorem RPX.plain {v : Value} {ps : List Part} (h : RPX X W v ps) : RP W W.heap.size v ps := by
  obtain ⟨A, n, c, M, h1, h2, h3, h4, _, h6⟩ := h
  exact ⟨A, n, c, M, h1, h2, h3, h4, fun x hx => (h6 x hx).plain⟩
end
theorem own_kp {w w' : World} {g base : Nat} {e : TypeId} {size n : Nat} {v : Value} {xs : List Value} (h : w.ownsRow base e size v n xs) (hk : Kp g w.heap.size w w') (hg : g < base) : w'.ownsRow base e size v n xs := by
  obtain ⟨h1, h2⟩ := h
  refine ⟨h1, ?_⟩
  rcases h2 with h2 | ⟨b, cap, cur, hv, hb, hh, r⟩
  · exact .inl h2
  · refine .inr ⟨b, cap, cur, hv, hb, ?_, r⟩
    rw [hk.2.2 b (by rcases Nat.lt_or_ge b w.heap.size with h | h; exact h; rw [Array.getElem?_eq_none h] at hh; cases hh) (by omega)]
    exact hh

/-- a text stands at a place, up to a place -/
def At (s : ByteArray) (t : Nat) (T : ByteArray) (E : Nat) : Prop := t + T.size = E ∧ E ≤ s.size ∧ ∀ k, k < T.size → bt s (t + k) = bt T k
theorem At.split {s a b : ByteArray} {t E : Nat} (h : At s t (a ++ b) E) : At s t a (t + a.size) ∧ At s (t + a.size) b E := by
  obtain ⟨h1, h2, h3⟩ := h
  rw [ByteArray.size_append] at h1 h3
  refine ⟨⟨rfl, by omega, fun k hk => by rw [h3 k (by omega), bt_app_lo hk]⟩, by omega, h2, fun k hk => ?_⟩
  rw [Nat.add_assoc, h3 (a.size + k) (by omega)]
  exact bt_app_hi
theorem At.cons {s x y sep : ByteArray} {r : List ByteArray} {t E : Nat} (h : At s t (joinB (x :: y :: r) sep) E) (hs : sep.size = 1) : At s t x (t + x.size) ∧ bt s (t + x.size) = bt sep 0 ∧ At s (t + x.size + 1) (joinB (y :: r) sep) E := by
  rw [joinB_cons] at h
  obtain ⟨h1, h2⟩ := h.split
  obtain ⟨h3, h4⟩ := h1.split
  rw [ByteArray.size_append, hs] at h2
  exact ⟨h3, by have := h4.2.2 0 (by omega); exact this, by rw [← Nat.add_assoc] at h2; exact h2⟩

theorem take_any (g : Nat) (s : ByteArray) (i : Nat) (wr c : Int) (w : World) (h : Rd w g s i wr) (hi : i ≤ s.size) (hc : 0 ≤ c) (hsz : s.size ≤ 4294967280) :
    Calls Try.prog 12 #[.pointer (some ⟨g, 0, none⟩), .int .u8 c] w fun e w' => e = .returned (.bool (decide (bt s i = c))) ∧ Rd w' g s (if bt s i = c then i + 1 else i) wr ∧ Kp g w.heap.size w w' := by
  by_cases hb : bt s i = c
  · refine (take_yes g s i wr c w h hc hb hsz).mono ?_
    rintro e w' ⟨rfl, n, rfl⟩
    refine ⟨by rw [decide_eq_true hb], by rw [if_pos hb]; exact Blk.set_ (Blk.drewN h n) 1 _, ((Kp.refl g _ w).drewN n).trans (Kp.set_ _ _ _)⟩
  · refine (take_no g s i wr c w h hi hb).mono ?_
    rintro e w' ⟨rfl, n, rfl⟩
    exact ⟨by rw [decide_eq_false hb], by rw [if_neg hb]; exact h, (Kp.refl g _ w).drewN n⟩

/-- a clause that is being read: its parts lie in a row of its own -/
def ClRel (g Cb : Nat) (s : ByteArray) (neg : Bool) (w wr : World) (v : Value) (M : List (Part × Value)) (t : Nat) : Prop :=
  Rd wr g s t (-1) ∧ Blk wr (Cb) 38 #[.bool neg, v] ∧ wr.ownsRow (Cb + 1) 40 2 v M.length (M.flatMap paV) ∧ (∀ x ∈ M, RWX (fun b => Cb + 1 ≤ b ∧ some b ≠ v.ownBlock) wr x.2 x.1.words) ∧ Blk wr w.heap.size 38 #[.bool false, .slice none 0 0] ∧ Kp g w.heap.size w wr
section
variable {g Cb t t1 : Nat} {s : ByteArray} {neg : Bool} {w wr w1 w2 : World} {v v' vp : Value} {M : List (Part × Value)} {p : Part}
theorem ClRel.kp (h : ClRel g Cb s neg w wr v M t) (hg : g < w.heap.size) (hC : w.heap.size < Cb) (hk : Kp g wr.heap.size wr w1) (hR : Rd w1 g s t1 (-1)) : ClRel g Cb s neg w w1 v M t1 := by
  obtain ⟨h1, h2, h3, h4, h5, h6⟩ := h
  have hl := h2.lt
  refine ⟨hR, hk.blk h2 hl (by omega), own_kp h3 hk (by omega), fun x hx => (h4 x hx).keep hk.2.1 (fun b hb hX => ⟨hX, hk.2.2 b hb (by omega)⟩), hk.blk h5 (by omega) (by omega), h6.trans (hk.less (by omega))⟩
theorem ClRel.word (h : ClRel g Cb s neg w wr v M t) (hW : RWn g w1 w1.heap.size vp p.words) (hp : 0 < p.words.length) (hf : Fr wr.heap.size vp) : RWX (fun b => Cb + 1 ≤ b ∧ some b ≠ v.ownBlock) w1 vp p.words := by
  obtain ⟨h1, h2, h3, h4, h5, h6⟩ := h
  obtain ⟨A, n, c, rfl, e1, e2, e3, e4⟩ := hW
  have hl := h2.lt
  refine ⟨A, n, c, rfl, e1, e2, e3, fun b hb => ?_⟩
  have hfb := hf b hb
  refine ⟨⟨by omega, fun e => ?_⟩, ?_⟩
  · have := (h3.lt b e.symm).2
    omega
  · obtain ⟨ad, e, hlt, _⟩ := e3.2 (by omega)
    subst e
    simp [Value.ownBlock] at hb
    omega
theorem ClRel.app (h : ClRel g Cb s neg w w1 v M t) (hg : g < w.heap.size) (hC : w.heap.size < Cb) (hW : RWX (fun b => Cb + 1 ≤ b ∧ some b ≠ v.ownBlock) w1 vp p.words) {tmp : Obj}
    (hown : w2.ownsRow (Cb + 1) 40 2 v' (M.length + 1) (M.flatMap paV ++ [.int .i64 p.kind, vp])) (hgr : (w1.alloc tmp).grownBy w2 v.ownBlock) (hv : v'.ownBlock = v.ownBlock ∨ v'.ownBlock = some (w1.alloc tmp).heap.size) :
    Blk w2 Cb 38 #[.bool neg, v] ∧ ClRel g Cb s neg w (w2.setCell ⟨Cb, 1, none⟩ v') v' (M ++ [(p, vp)]) t := by
  obtain ⟨h1, h2, h3, h4, h5, h6⟩ := h
  have hl := h2.lt
  have hz1 : (w1.alloc tmp).heap.size = w1.heap.size + 1 := by simp
  have hz2 := hgr.size
  have hvl : ∀ b, v.ownBlock = some b → Cb + 1 ≤ b ∧ b < w1.heap.size := h3.lt
  have hblk : ∀ b, b < w1.heap.size → some b ≠ v.ownBlock → b ≠ Cb → (w2.setCell ⟨Cb, 1, none⟩ v').heap[b]? = w1.heap[b]? := fun b hb hne hc =>
    (Below.heap_setCell _ _ _ b hc).trans ((hgr.block b (by omega) hne).trans (Below.heap_alloc w1 tmp b hb))
  have hb2 : Blk w2 (Cb) 38 #[.bool neg, v] := (h2.alloc tmp).grown hgr (fun e => by have := (hvl _ e.symm).1; omega)
  have hsz : (w2.setCell ⟨Cb, 1, none⟩ v').heap.size = w2.heap.size := by simp [World.setCell]
  have hkeep : ∀ b, b < w1.heap.size → (Cb + 1 ≤ b ∧ some b ≠ v.ownBlock) → (Cb + 1 ≤ b ∧ some b ≠ v'.ownBlock) ∧ (w2.setCell ⟨Cb, 1, none⟩ v').heap[b]? = w1.heap[b]? := fun b hb hX =>
    ⟨⟨hX.1, by rcases hv with e | e <;> rw [e]; exact hX.2; rw [hz1]; intro e'; injection e' with e'; omega⟩, hblk b hb hX.2 (by omega)⟩
  have hgv : some g ≠ v.ownBlock := fun e => by have := (hvl _ e.symm).1; omega
  have hrv : some w.heap.size ≠ v.ownBlock := fun e => by have := (hvl _ e.symm).1; omega
  have hg1 : g < w1.heap.size := by omega
  refine ⟨hb2, (hblk g hg1 hgv (by omega)).trans h1, hb2.set_ 1 v', ?_, ?_, (hblk _ (by omega) hrv (by omega)).trans h5, h6.trans ?_⟩
  · have := hown.kept (grownBy_setCell1 w2 (Cb) 1 v') (.inr (own_blk_ne hown hb2 (by decide)))
    simpa [List.flatMap_append, paV] using this
  · intro x hx
    rcases List.mem_append.1 hx with hx | hx
    · exact (h4 x hx).keep (by omega) hkeep
    · rw [List.mem_singleton.1 hx]
      exact hW.keep (by omega) hkeep
  · refine Kp.of_below ?_ (by omega)
    refine ((((Below.refl w.heap.size w1).alloc (by omega) tmp).grown hgr (by omega) fun j ej => ?_)).setCell (p := ⟨Cb, 1, none⟩) (by show w.heap.size ≤ Cb; omega) v'
    have := (hvl j ej).1
    omega
/-- the result is written last -/
theorem ClRel.fin (h : ClRel g Cb s neg w w1 v M t) (hg : g < w.heap.size) (hC : w.heap.size < Cb) (WF : World) (hWF : WF = (w1.setCell ⟨w.heap.size, 0, none⟩ (.bool neg)).setCell ⟨w.heap.size, 1, none⟩ v) :
    WF.cell? ⟨w.heap.size, 0, none⟩ = some (.bool neg) ∧ WF.cell? ⟨w.heap.size, 1, none⟩ = some v ∧ RPX (fun b => w.heap.size ≤ b) WF v (M.map Prod.fst) ∧ Rd WF g s t (-1) ∧ Kp g w.heap.size w WF := by
  subst hWF
  obtain ⟨h1, h2, h3, h4, h5, h6⟩ := h
  have hb := (h5.set_ 0 (.bool neg)).set_ 1 v
  have hsz : ((w1.setCell ⟨w.heap.size, 0, none⟩ (.bool neg)).setCell ⟨w.heap.size, 1, none⟩ v).heap.size = w1.heap.size := by simp [World.setCell]
  have hblk : ∀ b, b < w1.heap.size → Cb + 1 ≤ b → w.heap.size ≤ b ∧ ((w1.setCell ⟨w.heap.size, 0, none⟩ (.bool neg)).setCell ⟨w.heap.size, 1, none⟩ v).heap[b]? = w1.heap[b]? := fun b _ hX =>
    ⟨by omega, (Below.heap_setCell _ _ _ b (by show b ≠ w.heap.size; omega)).trans (Below.heap_setCell _ _ _ b (by show b ≠ w.heap.size; omega))⟩
  obtain ⟨A, c, rfl, hr⟩ := own_reads h3
  have hob : ∀ b, (Value.slice A M.length c).ownBlock = some b → Cb + 1 ≤ b ∧ b < w1.heap.size := h3.lt
  refine ⟨hb.cell 0, hb.cell 1, ⟨A, M.length, c, M, rfl, rfl, rfl, reads_keep (X := fun b => Cb + 1 ≤ b) (X' := fun b => w.heap.size ≤ b) hr hob (by omega) hblk, fun b e => by have := hob b e; omega, fun x hx => ?_⟩, (Blk.far h1 (by show g ≠ w.heap.size; omega) _).far (by show g ≠ w.heap.size; omega) _, h6.trans (Kp.of_below (((Below.refl _ _).setCell (p := ⟨w.heap.size, 0, none⟩) (Nat.le_refl _) _).setCell (p := ⟨w.heap.size, 1, none⟩) (Nat.le_refl _) _) (by omega))⟩
  exact (h4 x hx).keep (by omega) (fun b hb' hX => hblk b hb' hX.1)
end
theorem ptext_first {p : Part} (h : ckP p = 0) : 0 < (ptext p).size ∧ bt (ptext p) 0 ≠ 45 ∧ bt (ptext p) 0 ≠ 32 := by
  obtain ⟨_, _, k2, k3, k4⟩ := ckP_zero h
  by_cases h3 : p.kind = 3
  · have hpt : ptext p = bQ ++ joinB p.words bSp ++ bQ := by unfold ptext; rw [if_pos h3]
    have hqz : bQ.size = 1 := rfl
    have hz : (ptext p).size = 1 + (joinB p.words bSp).size + 1 := by rw [hpt, ByteArray.size_append, ByteArray.size_append]; omega
    have hb : bt (ptext p) 0 = 34 := by
      rw [hpt, bt_app_lo (by rw [ByteArray.size_append]; omega), bt_app_lo (by omega)]; rfl
    rw [hb]
    exact ⟨by omega, by decide, by decide⟩
  · obtain ⟨x, hx⟩ : ∃ x, p.words = [x] := List.length_eq_one_iff.1 (k3 h3)
    have hxw : isW x := k4 x (by rw [hx]; exact List.mem_singleton.2 rfl)
    have hpt : ptext p = x ++ kmark p.kind := by unfold ptext; rw [if_neg h3, hx]; rfl
    have hb := hxw.2.2.1 0 hxw.1
    have h0 := hxw.1
    rw [hpt, bt_app_lo h0, ByteArray.size_append]
    refine ⟨by omega, fun e => ?_, fun e => ?_⟩
    · rw [e] at hb; exact absurd hb (by decide)
    · rw [e] at hb; exact absurd hb (by decide)
theorem join_first {x : ByteArray} {r : List ByteArray} {sep : ByteArray} (hx : 0 < x.size) : 0 < (joinB (x :: r) sep).size ∧ bt (joinB (x :: r) sep) 0 = bt x 0 := by
  rcases r with _ | ⟨y, r⟩
  · rw [joinB_one]; exact ⟨hx, rfl⟩
  · rw [joinB_cons, bt_app_lo (by rw [ByteArray.size_append]; omega), bt_app_lo hx, ByteArray.size_append, ByteArray.size_append]
    exact ⟨by omega, rfl⟩
end Go.Proofs.Ytfikilpkaobiiaa
