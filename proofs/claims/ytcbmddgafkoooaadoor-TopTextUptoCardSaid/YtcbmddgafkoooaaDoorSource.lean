/-
  DERIVED. The walks of text.Source and of the closure in it. Conditions: the text's size. By an AI agent.
-/
import Derived.Test.YtcbmddgafkoooaaDoorPlainOf
import Derived.Test.YtcbmddgafkoooaaDoorShownAt
namespace Go.Proofs.YtcbmddgafkoooaaDoor
open Go.RowKit

/-- the variable in block b holds v -/
def Var (w : World) (b : Nat) (v : Int) : Prop := w.heap[b]? = some (.cells #[.int .i64 v] 3 (0, 0))
theorem Var.lt {w : World} {b : Nat} {v : Int} (h : Var w b v) : b < w.heap.size := by
  rcases Nat.lt_or_ge b w.heap.size with h' | h'
  · exact h'
  · unfold Var at h; rw [Array.getElem?_eq_none h'] at h; cases h
theorem Var.cell {w : World} {b : Nat} {v : Int} (h : Var w b v) : w.cell? ⟨b, 0, none⟩ = some (.int .i64 v) := by rw [Lib.cell_of_heap h]; rfl
theorem Var.free {w : World} {b : Nat} {v : Int} (h : Var w b v) : w.frozen? ⟨b, 0, none⟩ = false := Lib.frozen_of_heap h 0
theorem Var.set_ {w : World} {b : Nat} {v : Int} (h : Var w b v) (u : Int) : Var (w.setCell ⟨b, 0, none⟩ (.int .i64 u)) b u := by
  unfold Var at h ⊢; simp [World.setCell, Array.getElem?_modify, h]
theorem Var.far {w : World} {b c : Nat} {v : Int} (h : Var w b v) (hne : b ≠ c) (u : Value) : Var (w.setCell ⟨c, 0, none⟩ u) b v := (Below.heap_setCell _ _ _ _ hne).trans h
theorem Var.below {w w' : World} {B b : Nat} {v : Int} (h : Var w b v) (hb : Below B w w') (hB : b < B) : Var w' b v := (hb.block b hB).trans h
theorem Var.alloc {w : World} {b : Nat} {v : Int} (h : Var w b v) (o : Obj) : Var (w.alloc o) b v := (Below.heap_alloc w o b h.lt).trans h
theorem Var.new (w : World) (v : Int) : Var (w.alloc (.cells #[.int .i64 v] 3)) w.heap.size v := heap_alloc_new w _
theorem Var.drewN {w : World} {b : Nat} {v : Int} (h : Var w b v) (n : Nat) : Var (w.drewN n) b v := h

set_option maxHeartbeats 1000000 in
set_option maxRecDepth 100000 in
theorem source1_hit (s : ByteArray) (x : Sp) (p b f : Int) (w : World) (sb pb bb fb : Nat) (hs : w.cell? ⟨sb, 0, none⟩ = some (.string s)) (hsb : sb < w.heap.size) (hp : Var w pb p) (hb : Var w bb b) (hf : Var w fb f)
    (n1 : fb ≠ bb) (h1 : x.frm ≤ x.to_) (h2 : x.to_ ≤ s.size) (h3 : s.size ≤ 1048576) (hsh : x.show_.size ≤ 4294967280) (ha0 : 0 ≤ shownAt x) (ha1 : shownAt x ≤ s.size + 1) (hn : (shown s x).size ≤ 4294967280) (hb0 : 0 ≤ b) (hb1 : b ≤ 4611686018427387904)
    (c1 : f < 0) (c2 : b ≤ p) (c3 : p < b + (shown s x).size) :
    Calls Tryd.prog 43 #[spV x, .pointer (some ⟨sb, 0, none⟩), .pointer (some ⟨fb, 0, none⟩), .pointer (some ⟨pb, 0, none⟩), .pointer (some ⟨bb, 0, none⟩)] w fun e w' => e = .returned (.tuple #[]) ∧ w.heap.size ≤ w'.heap.size ∧ Var w' fb (shownAt x + p - b) ∧ Var w' bb (b + (shown s x).size) ∧ (∀ k, k ≠ fb → k ≠ bb → k < w.heap.size → w'.heap[k]? = w.heap[k]?) ∧ Below (min fb bb) w w' := by
  have hsA : ∀ o, (w.alloc o).cell? ⟨sb, 0, none⟩ = some (.string s) := fun o => (World.cell?_alloc_lt w o _ hsb).trans hs
  have g1 : decide (f < 0) = true := by simp; omega
  have g2 : decide (b ≤ p) = true := by simp; omega
  have g3 : decide (p < b + ((shown s x).size : Int)) = true := by simp; omega
  have HP := Lib.hid hp
  have HBb := Lib.hid hb
  have HF := Lib.hid hf
  have HX : Hid (spV x = .agg #[.int .i64 x.kind, .int .i64 x.frm, .int .i64 x.to_, .string x.text, .string x.show_, .int .i64 x.id, .bool x.strong]) := rfl
  rw [HX.out]
  clear hs hp hb hf
  go_enter Tryd.func43, Tryd.ntmps43
  go_wp2_with fail
  rw [← HX.out]
  refine (plainIn_any s x _ h1 h2 (by omega) hsh).mono ?_
  rintro e w1 ⟨rfl, hb1'⟩
  rw [show shownV s x = .tuple #[.string (shown s x), .int .i64 (shownAt x)] from rfl]
  have hz := hb1'.size
  simp only [World.size_alloc] at hz
  have hbw : Below w.heap.size w w1 := ((Below.refl _ _).alloc (Nat.le_refl _) _).trans (hb1'.mono (by simp))
  have vp := HP.out.below hbw HP.out.lt
  have vb := HBb.out.below hbw HBb.out.lt
  have vf := HF.out.below hbw HF.out.lt
  have p0 := vp.cell
  have b0 := vb.cell
  have f0 := vf.cell
  have f1 := vf.free
  have vb2 := vb.far (Ne.symm n1) (.int .i64 (shownAt x + p - b))
  have b2 := vb2.cell
  have b3 := vb2.free
  have R : Hid (w.heap.size ≤ ((w1.setCell ⟨fb, 0, none⟩ (.int .i64 (shownAt x + p - b))).setCell ⟨bb, 0, none⟩ (.int .i64 (b + (shown s x).size))).heap.size ∧ Var ((w1.setCell ⟨fb, 0, none⟩ (.int .i64 (shownAt x + p - b))).setCell ⟨bb, 0, none⟩ (.int .i64 (b + (shown s x).size))) fb (shownAt x + p - b) ∧ Var ((w1.setCell ⟨fb, 0, none⟩ (.int .i64 (shownAt x + p - b))).setCell ⟨bb, 0, none⟩ (.int .i64 (b + (shown s x).size))) bb (b + (shown s x).size) ∧
      (∀ k, k ≠ fb → k ≠ bb → k < w.heap.size → ((w1.setCell ⟨fb, 0, none⟩ (.int .i64 (shownAt x + p - b))).setCell ⟨bb, 0, none⟩ (.int .i64 (b + (shown s x).size))).heap[k]? = w.heap[k]?) ∧ Below (min fb bb) w ((w1.setCell ⟨fb, 0, none⟩ (.int .i64 (shownAt x + p - b))).setCell ⟨bb, 0, none⟩ (.int .i64 (b + (shown s x).size)))) :=
    ⟨by simp [World.setCell]; omega, (vf.set_ _).far n1 _, vb2.set_ _, fun k k1 k2 k3 => (Below.heap_setCell _ _ _ _ k2).trans ((Below.heap_setCell _ _ _ _ k1).trans (hbw.block k k3)),
      ((hbw.mono (Nat.le_trans (Nat.min_le_left _ _) (Nat.le_of_lt HF.out.lt))).setCell (p := ⟨fb, 0, none⟩) (Nat.min_le_left _ _) _).setCell (p := ⟨bb, 0, none⟩) (Nat.min_le_right _ _) _⟩
  clear hbw hb1' vp vb vf vb2 HP HBb HF
  go_wp2_with fail
  go_end0
  exact ⟨rfl, R.out⟩

set_option maxHeartbeats 1000000 in
set_option maxRecDepth 100000 in
theorem source1_miss (s : ByteArray) (x : Sp) (p b f : Int) (w : World) (sb pb bb fb : Nat) (hs : w.cell? ⟨sb, 0, none⟩ = some (.string s)) (hsb : sb < w.heap.size) (hp : Var w pb p) (hb : Var w bb b) (hf : Var w fb f)
    (h1 : x.frm ≤ x.to_) (h2 : x.to_ ≤ s.size) (h3 : s.size ≤ 1048576) (hsh : x.show_.size ≤ 4294967280) (hn : (shown s x).size ≤ 4294967280) (hb0 : 0 ≤ b) (hb1 : b ≤ 4611686018427387904)
    (hm : 0 ≤ f ∨ (f < 0 ∧ p < b) ∨ (f < 0 ∧ b ≤ p ∧ b + (shown s x).size ≤ p)) :
    Calls Tryd.prog 43 #[spV x, .pointer (some ⟨sb, 0, none⟩), .pointer (some ⟨fb, 0, none⟩), .pointer (some ⟨pb, 0, none⟩), .pointer (some ⟨bb, 0, none⟩)] w fun e w' => e = .returned (.tuple #[]) ∧ w.heap.size ≤ w'.heap.size ∧ Var w' bb (b + (shown s x).size) ∧ (∀ k, k ≠ bb → k < w.heap.size → w'.heap[k]? = w.heap[k]?) ∧ Below bb w w' := by
  have hsA : ∀ o, (w.alloc o).cell? ⟨sb, 0, none⟩ = some (.string s) := fun o => (World.cell?_alloc_lt w o _ hsb).trans hs
  have HP := Lib.hid hp
  have HBb := Lib.hid hb
  have HF := Lib.hid hf
  have HX : Hid (spV x = .agg #[.int .i64 x.kind, .int .i64 x.frm, .int .i64 x.to_, .string x.text, .string x.show_, .int .i64 x.id, .bool x.strong]) := rfl
  rw [HX.out]
  clear hs hp hb hf
  go_enter Tryd.func43, Tryd.ntmps43
  go_wp2_with fail
  rw [← HX.out]
  refine (plainIn_any s x _ h1 h2 (by omega) hsh).mono ?_
  rintro e w1 ⟨rfl, hb1'⟩
  rw [show shownV s x = .tuple #[.string (shown s x), .int .i64 (shownAt x)] from rfl]
  have hz := hb1'.size
  simp only [World.size_alloc] at hz
  have hbw : Below w.heap.size w w1 := ((Below.refl _ _).alloc (Nat.le_refl _) _).trans (hb1'.mono (by simp))
  have vp := HP.out.below hbw HP.out.lt
  have vb := HBb.out.below hbw HBb.out.lt
  have vf := HF.out.below hbw HF.out.lt
  have p0 := vp.cell
  have b0 := vb.cell
  have b1 := vb.free
  have f0 := vf.cell
  have R : Hid (w.heap.size ≤ (w1.setCell ⟨bb, 0, none⟩ (.int .i64 (b + (shown s x).size))).heap.size ∧ Var (w1.setCell ⟨bb, 0, none⟩ (.int .i64 (b + (shown s x).size))) bb (b + (shown s x).size) ∧
      (∀ k, k ≠ bb → k < w.heap.size → (w1.setCell ⟨bb, 0, none⟩ (.int .i64 (b + (shown s x).size))).heap[k]? = w.heap[k]?) ∧ Below bb w (w1.setCell ⟨bb, 0, none⟩ (.int .i64 (b + (shown s x).size)))) :=
    ⟨by simp [World.setCell]; omega, vb.set_ _, fun k k2 k3 => (Below.heap_setCell _ _ _ _ k2).trans (hbw.block k k3), (hbw.mono (Nat.le_of_lt HBb.out.lt)).setCell (p := ⟨bb, 0, none⟩) (Nat.le_refl _) _⟩
  clear hbw hb1' vp vb vf HP HBb HF
  rcases hm with hm | hm | hm
  · have g1 : decide (f < 0) = false := by simp; omega
    clear hm
    go_wp2_with fail
    go_end0
    exact ⟨rfl, R.out⟩
  · have g1 : decide (f < 0) = true := by simp; omega
    have g2 : decide (b ≤ p) = false := by simp; omega
    clear hm
    go_wp2_with fail
    go_end0
    exact ⟨rfl, R.out⟩
  · have g1 : decide (f < 0) = true := by simp; omega
    have g2 : decide (b ≤ p) = true := by simp; omega
    have g3 : decide (p < b + ((shown s x).size : Int)) = false := by simp; omega
    clear hm
    go_wp2_with fail
    go_end0
    exact ⟨rfl, R.out⟩

theorem srcF_room {s : ByteArray} {l q : List Sp} {p : Int} (h : spans s = l ++ q) (hs : s.size ≤ 1048576) : 0 ≤ (srcF s p l).1 ∧ (srcF s p l).1 ≤ 4398046511104 := by
  have hsp := fun x hx => spans_at s x (by rw [h]; exact List.mem_append_left _ hx)
  obtain ⟨h1, _⟩ := srcF_is (s := s) p l hsp
  have hlen : (srcL s l).length ≤ l.length * (s.size + 2) := by
    have : ∀ l : List Sp, (∀ x ∈ l, OkT s x) → (srcL s l).length ≤ l.length * (s.size + 2) := by
      intro l
      induction l with
      | nil => intro _; simp [srcL]
      | cons x l ih =>
        intro h
        have h1 := shown_le (h x (List.mem_cons_self ..))
        have h2 := ih (fun y hy => h y (List.mem_cons_of_mem _ hy))
        have e : (srcL s (x :: l)).length = (shown s x).size + (srcL s l).length := by
          unfold srcL; rw [List.flatMap_cons, List.length_append]; simp
        rw [e, List.length_cons, Nat.add_mul]
        omega
    exact this l (fun x hx => spans_ok s x (by rw [h]; exact List.mem_append_left _ hx))
  have hl : l.length ≤ s.size := by have := (cont_le (spans_cont s)).2; rw [h] at this; simp at this; omega
  have hm : l.length * (s.size + 2) ≤ 1048576 * 1048578 := Nat.mul_le_mul (by omega) (by omega)
  rw [h1]
  omega

set_option maxHeartbeats 2000000 in
set_option maxRecDepth 100000 in
theorem source_any (s : ByteArray) (p : Int) (w : World) (hs : s.size ≤ 1048576) :
    Calls Tryd.prog 17 #[.string s, .int .i64 p] w fun e w' => e = .returned (srcV s p) ∧ Below w.heap.size w w' := by
  have he : ∀ args w, (callFunc 43 args).run Tryd.prog w = .ok (.enter 43 args) w := Go.Proofs.enters_of Tryd.func43 (by kernel_rfl) rfl
  obtain ⟨W, hW⟩ : ∃ W : World, W = (((w.alloc (.cells #[.string s] 9)).alloc (.cells #[.int .i64 p] 3)).alloc (.cells #[.int .i64 0] 3)).alloc (.cells #[.int .i64 (-1)] 3) := ⟨_, rfl⟩
  have hWs : W.heap.size = w.heap.size + 4 := by rw [hW]; simp
  have hWc : W.cell? ⟨w.heap.size, 0, none⟩ = some (.string s) := by
    rw [hW]
    refine (World.cell?_alloc_lt _ _ _ (by simp; omega)).trans ((World.cell?_alloc_lt _ _ _ (by simp; omega)).trans ((World.cell?_alloc_lt _ _ _ (by simp)).trans ?_))
    exact (Blk.new w 9 #[.string s]).cell 0
  have v0 : Var W (w.heap.size + 1) p := by
    have := Var.new (w.alloc (.cells #[.string s] 9)) p
    simp only [World.size_alloc] at this
    rw [hW]; exact (this.alloc _).alloc _
  have v1 : Var W (w.heap.size + 1 + 1) 0 := by
    have := Var.new ((w.alloc (.cells #[.string s] 9)).alloc (.cells #[.int .i64 p] 3)) 0
    simp only [World.size_alloc] at this
    rw [hW]; exact this.alloc _
  have v2 : Var W (w.heap.size + 1 + 1 + 1) (-1) := by
    have := Var.new (((w.alloc (.cells #[.string s] 9)).alloc (.cells #[.int .i64 p] 3)).alloc (.cells #[.int .i64 0] 3)) (-1)
    simp only [World.size_alloc] at this
    rw [hW]; exact this
  have hbelW : Below w.heap.size w W := by rw [hW]; exact ((((Below.refl _ _).alloc (Nat.le_refl _) _).alloc (by simp) _).alloc (by simp; omega) _).alloc (by simp; omega) _
  have HE := each_any s 43 #[.pointer (some ⟨w.heap.size, 0, none⟩), .pointer (some ⟨w.heap.size + 1 + 1 + 1, 0, none⟩), .pointer (some ⟨w.heap.size + 1, 0, none⟩), .pointer (some ⟨w.heap.size + 1 + 1, 0, none⟩)] W (by omega)
    (fun w1 l w2 => W.heap.size ≤ w1.heap.size ∧ w1.heap.size ≤ w2.heap.size ∧ w2.cell? ⟨w.heap.size, 0, none⟩ = some (.string s) ∧ Var w2 (w.heap.size + 1) p ∧ Var w2 (w.heap.size + 1 + 1) (srcF s p l).1 ∧ Var w2 (w.heap.size + 1 + 1 + 1) (srcF s p l).2 ∧ (∀ k, W.heap.size ≤ k → k < w1.heap.size → w2.heap[k]? = w1.heap[k]?) ∧ Below w.heap.size w1 w2) he
    (fun w1 hb => by
      have hz := hb.size
      exact ⟨hz, Nat.le_refl _, (hb.cell (p := ⟨w.heap.size, 0, none⟩) (by show w.heap.size < _; omega)).trans hWc, v0.below hb (by omega), v1.below hb (by omega), v2.below hb (by omega), fun _ _ _ => rfl, Below.refl _ _⟩)
    (fun w1 l w2 o hb ⟨a0, a1, a2, a3, a4, a5, a6, a7⟩ => ⟨a0, by simp; omega, (World.cell?_alloc_lt w2 o _ (by show w.heap.size < _; omega)).trans a2, a3.alloc o, a4.alloc o, a5.alloc o, fun k h1 h2 => (Below.heap_alloc w2 o k (by omega)).trans (a6 k h1 h2), a7.alloc (by omega) o⟩)
    (fun w1 l w2 ⟨a0, a1, a2, a3, a4, a5, a6, a7⟩ => ⟨a1, fun q hq hq' => World.cell?_of_block (a6 q.block hq hq')⟩)
    (fun w1 l x w2 hb ⟨a0, a1, a2, a3, a4, a5, a6, a7⟩ ⟨r, hr⟩ => by
      have hx : x ∈ spans s := by rw [hr]; simp
      obtain ⟨_, m1, m2⟩ := cont_mem (spans_cont s) x hx
      have ok := spans_ok s x hx
      have hsl := shown_le ok
      obtain ⟨r0, r1⟩ := srcF_room (p := p) hr hs
      obtain ⟨c, hc, c1, c2, _⟩ := shown_at (spans_is s x hx) m1 m2
      rw [srcF_snoc]
      unfold srcStep
      by_cases hit : (srcF s p l).2 < 0 ∧ (srcF s p l).1 ≤ p ∧ p < (srcF s p l).1 + (shown s x).size
      · rw [if_pos hit]
        refine (source1_hit s x p _ _ w2 w.heap.size (w.heap.size + 1) (w.heap.size + 1 + 1) (w.heap.size + 1 + 1 + 1) a2 (by omega) a3 a4 a5 (by omega) (by omega) m2 hs (by have := ok.2; omega) (by omega) (by omega) (by omega) r0 (by omega) hit.1 hit.2.1 hit.2.2).mono ?_
        rintro e w3 ⟨rfl, h3, h4, h5, h6, h7⟩
        refine ⟨rfl, a0, by omega, ?_, ?_, h5, h4, fun k k1 k2 => (h6 k (by omega) (by omega) (by omega)).trans (a6 k k1 k2), a7.trans (h7.mono (by omega))⟩
        · exact (World.cell?_of_block (h6 w.heap.size (by omega) (by omega) (by omega))).trans a2
        · exact (h6 _ (by omega) (by omega) (by omega)).trans a3
      · rw [if_neg hit]
        refine (source1_miss s x p _ _ w2 w.heap.size (w.heap.size + 1) (w.heap.size + 1 + 1) (w.heap.size + 1 + 1 + 1) a2 (by omega) a3 a4 a5 (by omega) m2 hs (by have := ok.2; omega) (by omega) r0 (by omega) (by omega)).mono ?_
        rintro e w3 ⟨rfl, h3, h5, h6, h7⟩
        refine ⟨rfl, a0, by omega, ?_, ?_, h5, ?_, fun k k1 k2 => (h6 k (by omega) (by omega)).trans (a6 k k1 k2), a7.trans (h7.mono (by omega))⟩
        · exact (World.cell?_of_block (h6 w.heap.size (by omega) (by omega))).trans a2
        · exact (h6 _ (by omega) (by omega)).trans a3
        · exact (h6 _ (by omega) (by omega)).trans a5)
  have HE := Lib.hid HE
  have HB := Lib.hid hbelW
  obtain ⟨f1, f2⟩ := srcF_is (s := s) p (spans s) (spans_at s)
  obtain ⟨r0, r1⟩ := srcF_room (p := p) (l := spans s) (q := []) (by simp) hs
  obtain ⟨n, hn⟩ : ∃ n, n = (srcL s (spans s)).length := ⟨_, rfl⟩
  rw [← hn] at f1 f2
  obtain ⟨fo, hfo⟩ : ∃ fo, fo = (srcF s p (spans s)).2 := ⟨_, rfl⟩
  rw [f1] at r0 r1
  rw [← hfo] at f2
  have HV : Hid (srcV s p = if p < 0 ∨ (n : Int) < p then .tuple #[.int .i64 0, .int .i64 2] else if p = n then .tuple #[.int .i64 s.size, .int .i64 0] else .tuple #[.int .i64 fo, .int .i64 0]) := by
    show _ = _
    unfold srcV
    rw [← hn]
    by_cases c : p < 0 ∨ (n : Int) < p
    · rw [if_pos c, if_pos c]
    · rw [if_neg c, if_neg c]
      by_cases d : p = n
      · rw [if_pos d, if_pos d]
      · rw [if_neg d, if_neg d, f2, if_pos (by omega)]
  have HF1 := Lib.hid f1
  have HFO := Lib.hid hfo
  clear hbelW hWc v0 v1 v2 f1 f2 hn hfo
  go_enter Tryd.func17, Tryd.ntmps17
  go_wp2_with fail
  rw [← hW]
  refine HE.out.mono ?_
  rintro e w1 ⟨rfl, w0, hb0, a0, a1, a2, a3, a4, a5, _, a7⟩
  rw [HF1.out] at a4
  rw [← HFO.out] at a5
  have hz := hb0.size
  have R : Hid (Below w.heap.size w w1) := HB.out.trans ((hb0.mono (by omega)).trans a7)
  have p0 := a3.cell
  have b0 := a4.cell
  have f0 := a5.cell
  clear a3 a4 a5 a7 hb0
  by_cases c : p < 0 ∨ (n : Int) < p
  · rcases c with c | c
    · have HV2 := HV.out
      rw [if_pos (.inl c)] at HV2
      have HV2 := Lib.hid HV2
      have g1 : decide (p < 0) = true := by simp; omega
      clear c
      go_wp2_with fail
      go_ret2
      exact ⟨by rw [HV2.out]; rfl, R.out⟩
    · have HV2 := HV.out
      rw [if_pos (.inr c)] at HV2
      have HV2 := Lib.hid HV2
      have g1 : decide (p < 0) = false := by simp; omega
      have g2 : decide ((n : Int) < p) = true := by simp; omega
      clear c
      go_wp2_with fail
      go_ret2
      exact ⟨by rw [HV2.out]; rfl, R.out⟩
  · have g1 : decide (p < 0) = false := by simp; omega
    have g2 : decide ((n : Int) < p) = false := by simp; omega
    by_cases d : p = n
    · have HV2 := HV.out
      rw [if_neg c, if_pos d] at HV2
      have HV2 := Lib.hid HV2
      have g3 : (p == (n : Int)) = true := by simpa using d
      clear c d
      go_wp2_with fail
      go_ret2
      exact ⟨by rw [HV2.out]; rfl, R.out⟩
    · have HV2 := HV.out
      rw [if_neg c, if_neg d] at HV2
      have HV2 := Lib.hid HV2
      have g3 : (p == (n : Int)) = false := by simpa using d
      clear c d
      go_wp2_with fail
      go_ret2
      exact ⟨by rw [HV2.out]; rfl, R.out⟩
end Go.Proofs.YtcbmddgafkoooaaDoor
