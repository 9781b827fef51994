/-
  DERIVED. The state of a query that is being read. Conditions: none. By an AI agent.
-/
import Derived.Test.YtfikilpkaobiiaaQrRdClause
namespace Go.Proofs.Ytfikilpkaobiiaa
open Go.RowKit

def QRel (g qB : Nat) (s : ByteArray) (w wr : World) (v : Value) (M : List (Clause × Value)) (t : Nat) : Prop :=
  Rd wr g s t (-1) ∧ Blk wr qB 24 #[v] ∧ wr.ownsRow (qB + 1) 38 2 v M.length (M.flatMap clV) ∧ (∀ x ∈ M, RPX (fun b => qB + 1 ≤ b ∧ some b ≠ v.ownBlock) wr x.2 x.1.parts) ∧ Blk wr w.heap.size 24 #[.slice none 0 0] ∧ Below w.heap.size w wr
section
variable {g qB t t1 : Nat} {s : ByteArray} {w wr w1 w2 : World} {v v' vp : Value} {M : List (Clause × Value)} {p : Clause}
theorem QRel.kp (h : QRel g qB s w wr v M t) (hg : w.heap.size < g) (hC : g < qB) (hk : Kp g wr.heap.size wr w1) (hR : Rd w1 g s t1 (-1)) : QRel g qB s w w1 v M t1 := by
  obtain ⟨h1, h2, h3, h4, h5, h6⟩ := h
  have hl := h2.lt
  refine ⟨hR, hk.blk h2 hl (by omega), own_kp h3 hk (by omega), fun x hx => (h4 x hx).keep hk.2.1 (fun b hb hX => ⟨hX, hk.2.2 b hb (by omega)⟩), hk.blk h5 (by omega) (by omega), h6.trans (hk.1.mono (by omega))⟩
theorem QRel.cl (h : QRel g qB s w wr v M t) (hW : RPX (fun b => wr.heap.size ≤ b) w1 vp p.parts) : RPX (fun b => qB + 1 ≤ b ∧ some b ≠ v.ownBlock) w1 vp p.parts := by
  obtain ⟨h1, h2, h3, h4, h5, h6⟩ := h
  have hl := h2.lt
  refine hW.keep (Nat.le_refl _) (fun b _ hX => ⟨⟨by omega, fun e => ?_⟩, rfl⟩)
  have := (h3.lt b e.symm).2
  omega
theorem QRel.app (h : QRel g qB s w w1 v M t) (hg : w.heap.size < g) (hC : g < qB) (hW : RPX (fun b => qB + 1 ≤ b ∧ some b ≠ v.ownBlock) w1 vp p.parts) {tmp : Obj}
    (hown : w2.ownsRow (qB + 1) 38 2 v' (M.length + 1) (M.flatMap clV ++ [.bool p.neg, vp])) (hgr : (w1.alloc tmp).grownBy w2 v.ownBlock) (hv : v'.ownBlock = v.ownBlock ∨ v'.ownBlock = some (w1.alloc tmp).heap.size) :
    Blk w2 qB 24 #[v] ∧ QRel g qB s w (w2.setCell ⟨qB, 0, none⟩ v') v' (M ++ [(p, vp)]) t := by
  obtain ⟨h1, h2, h3, h4, h5, h6⟩ := h
  have hl := h2.lt
  have hz1 : (w1.alloc tmp).heap.size = w1.heap.size + 1 := by simp
  have hz2 := hgr.size
  have hvl : ∀ b, v.ownBlock = some b → qB + 1 ≤ b ∧ b < w1.heap.size := h3.lt
  have hblk : ∀ b, b < w1.heap.size → some b ≠ v.ownBlock → b ≠ qB → (w2.setCell ⟨qB, 0, none⟩ v').heap[b]? = w1.heap[b]? := fun b hb hne hc =>
    (Below.heap_setCell _ _ _ b hc).trans ((hgr.block b (by omega) hne).trans (Below.heap_alloc w1 tmp b hb))
  have hb2 : Blk w2 qB 24 #[v] := (h2.alloc tmp).grown hgr (fun e => by have := (hvl _ e.symm).1; omega)
  have hsz : (w2.setCell ⟨qB, 0, none⟩ v').heap.size = w2.heap.size := by simp [World.setCell]
  have hkeep : ∀ b, b < w1.heap.size → (qB + 1 ≤ b ∧ some b ≠ v.ownBlock) → (qB + 1 ≤ b ∧ some b ≠ v'.ownBlock) ∧ (w2.setCell ⟨qB, 0, none⟩ v').heap[b]? = w1.heap[b]? := fun b hb hX =>
    ⟨⟨hX.1, by rcases hv with e | e <;> rw [e]; exact hX.2; rw [hz1]; intro e'; injection e' with e'; omega⟩, hblk b hb hX.2 (by omega)⟩
  have hgv : some g ≠ v.ownBlock := fun e => by have := (hvl _ e.symm).1; omega
  have hrv : some w.heap.size ≠ v.ownBlock := fun e => by have := (hvl _ e.symm).1; omega
  refine ⟨hb2, (hblk g (by omega) hgv (by omega)).trans h1, hb2.set_ 0 v', ?_, ?_, (hblk _ (by omega) hrv (by omega)).trans h5, h6.trans ?_⟩
  · have := hown.kept (grownBy_setCell1 w2 qB 0 v') (.inr (own_blk_ne hown hb2 (by decide)))
    simpa [List.flatMap_append, clV] using this
  · intro x hx
    rcases List.mem_append.1 hx with hx | hx
    · exact (h4 x hx).keep (by omega) hkeep
    · rw [List.mem_singleton.1 hx]
      exact hW.keep (by omega) hkeep
  · refine ((((Below.refl w.heap.size w1).alloc (by omega) tmp).grown hgr (by omega) fun j ej => ?_)).setCell (p := ⟨qB, 0, none⟩) (by show w.heap.size ≤ qB; omega) v'
    have := (hvl j ej).1
    omega
theorem QRel.rc (h : QRel g qB s w w1 v M t) : RC w1 w1.heap.size v (M.map Prod.fst) := by
  obtain ⟨h1, h2, h3, h4, h5, h6⟩ := h
  obtain ⟨A, c, rfl, hr⟩ := own_reads h3
  exact ⟨A, M.length, c, M, rfl, rfl, rfl, hr, fun x hx => (h4 x hx).plain⟩
/-- the result is written last -/
theorem QRel.fin (h : QRel g qB s w w1 v M t) (hg : w.heap.size < g) (hC : g < qB) (WF : World) (hWF : WF = w1.setCell ⟨w.heap.size, 0, none⟩ v) :
    WF.cell? ⟨w.heap.size, 0, none⟩ = some v ∧ RC WF WF.heap.size v (M.map Prod.fst) ∧ Below w.heap.size w WF := by
  subst hWF
  obtain ⟨h1, h2, h3, h4, h5, h6⟩ := h
  have hsz : (w1.setCell ⟨w.heap.size, 0, none⟩ v).heap.size = w1.heap.size := by simp [World.setCell]
  have hblk : ∀ b, b < w1.heap.size → qB + 1 ≤ b → qB + 1 ≤ b ∧ (w1.setCell ⟨w.heap.size, 0, none⟩ v).heap[b]? = w1.heap[b]? := fun b _ hX =>
    ⟨hX, Below.heap_setCell _ _ _ b (by show b ≠ w.heap.size; omega)⟩
  obtain ⟨A, c, rfl, hr⟩ := own_reads h3
  have hob : ∀ b, (Value.slice A M.length c).ownBlock = some b → qB + 1 ≤ b ∧ b < w1.heap.size := h3.lt
  refine ⟨(h5.set_ 0 (.slice A M.length c)).cell 0, ⟨A, M.length, c, M, rfl, rfl, rfl, reads_keep (X := fun b => qB + 1 ≤ b) (X' := fun b => qB + 1 ≤ b) hr hob (by omega) hblk, fun x hx => ((h4 x hx).keep (X' := fun b => qB + 1 ≤ b) (by omega) (fun b hb' hX => hblk b hb' hX.1)).plain⟩, h6.setCell (p := ⟨w.heap.size, 0, none⟩) (Nat.le_refl _) _⟩
end
theorem ctext_first {c : Clause} (h : okc c) : 0 < (ctext c).size ∧ bt (ctext c) 0 ≠ 32 := by
  obtain ⟨hne, hok⟩ := h
  obtain ⟨p, r, hp⟩ : ∃ p r, c.parts = p :: r := by
    rcases hcp : c.parts with _ | ⟨p, r⟩
    · exact absurd hcp hne
    · exact ⟨p, r, rfl⟩
  have hpf := ptext_first (hok p (by rw [hp]; exact List.mem_cons_self))
  have hjf := join_first (r := r.map ptext) (sep := bBar) hpf.1
  unfold ctext
  rw [hp, List.map_cons]
  cases c.neg
  · have h0 : (⟨#[]⟩ : ByteArray).size = 0 := rfl
    have := bt_app_hi (a := ⟨#[]⟩) (b := joinB (ptext p :: r.map ptext) bBar) (i := 0)
    rw [h0] at this
    refine ⟨by rw [ByteArray.size_append]; have := hjf.1; omega, ?_⟩
    show bt (_ ++ _) (0 + 0) ≠ 32
    rw [if_neg (by decide), this, hjf.2]
    exact hpf.2.2
  · have h0 : bMin.size = 1 := rfl
    refine ⟨by rw [ByteArray.size_append, if_pos rfl]; omega, ?_⟩
    rw [if_pos rfl, bt_app_lo (by omega)]
    decide
/-- where a query that is being read goes on -/
def NX (s : ByteArray) (rest : List Clause) (t u : Nat) : Prop := (t = u ∨ (t + 1 = u ∧ bt s t = 32)) ∧ At s u (joinB (rest.map ctext) bSp) s.size ∧ bt s u ≠ 32
theorem NX.le {s : ByteArray} {rest : List Clause} {t u : Nat} (h : NX s rest t u) : t ≤ u ∧ u ≤ s.size := by
  have := h.2.1.1
  rcases h.1 with h1 | h1 <;> omega
theorem NX.nil {s : ByteArray} {t u : Nat} (h : NX s [] t u) : u = s.size := h.2.1.1
theorem NX.cons {s : ByteArray} {c : Clause} {r : List Clause} {t u : Nat} (h : NX s (c :: r) t u) (hok : ∀ x ∈ c :: r, okc x) : At s u (ctext c) (u + (ctext c).size) ∧ (bt s (u + (ctext c).size) = -1 ∨ bt s (u + (ctext c).size) = 32) ∧ u < s.size ∧ ∃ u', NX s r (u + (ctext c).size) u' := by
  obtain ⟨_, hA, _⟩ := h
  have hf := (ctext_first (hok c List.mem_cons_self)).1
  rcases r with _ | ⟨d, r⟩
  · rw [List.map_cons, List.map_nil, joinB_one] at hA
    have he := hA.1
    refine ⟨by rw [he]; exact hA, .inl (bt_out (by omega)), by omega, s.size, .inl he, ⟨by show s.size + 0 = _; omega, Nat.le_refl _, fun k hk => absurd hk (by show ¬ k < 0; omega)⟩, by rw [bt_out (Nat.le_refl _)]; decide⟩
  · obtain ⟨h1, h2, h3⟩ := At.cons hA rfl
    have hd := ctext_first (hok d (by simp))
    have hj := join_first (r := r.map ctext) (sep := bSp) hd.1
    have h4 := h3.2.2 0 hj.1
    rw [hj.2, Nat.add_zero] at h4
    exact ⟨h1, .inr h2, by have := h1.2.1; omega, _, .inr ⟨rfl, h2⟩, h3, by rw [h4]; exact hd.2⟩
theorem NX.start (cs : List Clause) (hok : ∀ x ∈ cs, okc x) : NX (qtext cs) cs 0 0 := by
  refine ⟨.inl rfl, ⟨by rw [Nat.zero_add]; rfl, Nat.le_refl _, fun k _ => by rw [Nat.zero_add]; rfl⟩, ?_⟩
  rcases cs with _ | ⟨c, r⟩
  · rw [bt_out (by show (0 : Nat) ≤ 0; omega)]; decide
  · have hd := ctext_first (hok c List.mem_cons_self)
    have hj := join_first (r := r.map ctext) (sep := bSp) hd.1
    show bt (joinB (ctext c :: r.map ctext) bSp) 0 ≠ 32
    rw [hj.2]; exact hd.2
end Go.Proofs.Ytfikilpkaobiiaa
