/-
  DERIVED. The walk of text.replaced, whatever the closure. Conditions: the text's size. By an AI agent.
-/
import Derived.Test.YtcbmddgafkoooaaGreatDoorTextsOf
import Derived.Test.YtcbmddgafkoooaaGreatDoorPlainOf
import Derived.Deep.RegionHeld3
namespace Go.Proofs.YtcbmddgafkoooaaGreatDoor
open Go.RowKit

theorem own_stay {w w' : World} {base : Nat} {e : TypeId} {size n : Nat} {v : Value} {xs : List Value} (h : w.ownsRow base e size v n xs) (hb : ∀ k, base ≤ k → k < w.heap.size → w'.heap[k]? = w.heap[k]?) : w'.ownsRow base e size v n xs := by
  obtain ⟨h1, h2⟩ := h
  refine ⟨h1, ?_⟩
  rcases h2 with h2 | ⟨g, cap, cur, hv, hg, hh, r⟩
  · exact .inl h2
  · refine .inr ⟨g, cap, cur, hv, hg, ?_, r⟩
    rw [hb g hg (by rcases Nat.lt_or_ge g w.heap.size with h | h; exact h; rw [Array.getElem?_eq_none h] at hh; cases hh)]
    exact hh
theorem Bld.stay {b B : Nat} {bs : List Value} {w w' : World} (h : Bld b B bs w) (hbw : b < w.heap.size) (hb : ∀ k, b ≤ k → k < w.heap.size → w'.heap[k]? = w.heap[k]?) : Bld b B bs w' := by
  obtain ⟨h1, p, v, hp, hbk, hown⟩ := h
  exact ⟨h1, p, v, hp, (hb b (Nat.le_refl _) hbw).trans hbk, own_stay hown fun k hk hk' => hb k (by omega) hk'⟩

set_option maxHeartbeats 1000000 in
set_option maxRecDepth 100000 in
theorem replaced1_any (x : Sp) (w : World) (n0 b fb B : Nat) (bs : List Value) (f : FuncId) (caps : Array Value) (r : ByteArray) (Q : World → Prop) (he : ∀ args w, (callFunc f args).run Tryz.prog w = .ok (.enter f args) w)
    (hB : Bld b B bs w) (hf : w.cell? ⟨fb, 0, none⟩ = some (.func (.func f) #[] caps)) (hfb : fb < w.heap.size) (hBw : B ≤ w.heap.size) (hnb : n0 ≤ b) (hlen : bs.length + r.size ≤ 140737488355328)
    (hst : ∀ w1, w.heap.size ≤ w1.heap.size → Below w.heap.size w w1 → Calls Tryz.prog f (#[spV x] ++ caps) w1 fun e w' => e = .returned (.string r) ∧ Q w' ∧ w1.heap.size ≤ w'.heap.size ∧ ∀ k, n0 ≤ k → k < w1.heap.size → w'.heap[k]? = w1.heap[k]?)
    (hQ : ∀ w1 w2, Below n0 w1 w2 → Q w1 → Q w2) :
    Calls Tryz.prog 62 #[spV x, .pointer (some ⟨b, 0, none⟩), .pointer (some ⟨fb, 0, none⟩)] w fun e w' => e = .returned (.tuple #[]) ∧ Bld b B (bs ++ Lib.strCells r) w' ∧ Q w' ∧ w.heap.size ≤ w'.heap.size ∧ ∀ k, n0 ≤ k → k ≠ b → k < B → w'.heap[k]? = w.heap[k]? := by
  have HB := Lib.hid hB
  have hbB := hB.1
  clear hB
  have HQ := Lib.hid hQ
  have HST := Lib.hid hst
  clear hQ hst
  have hfA : ∀ o, (w.alloc o).cell? ⟨fb, 0, none⟩ = some (.func (.func f) #[] caps) := fun o => (World.cell?_alloc_lt w o _ hfb).trans hf
  clear hf
  have HX : Hid (spV x = .agg #[.int .i64 x.kind, .int .i64 x.frm, .int .i64 x.to_, .string x.text, .string x.show_, .int .i64 x.id, .bool x.strong]) := rfl
  rw [HX.out]
  go_enter Tryz.func62, Tryz.ntmps62
  go_wp2_with fail
  rw [← HX.out]
  refine (HST.out _ (by simp) ((Below.refl _ _).alloc (Nat.le_refl _) _)).mono ?_
  rintro e w1 ⟨rfl, q1, z1, k1⟩
  simp only [World.size_alloc] at z1
  have kk : Hid (∀ k, n0 ≤ k → k < w.heap.size → w1.heap[k]? = w.heap[k]?) := fun k h1 h2 => (k1 k h1 (by simp; omega)).trans (Below.heap_alloc w _ k h2)
  have HB1 : Hid (Bld b B bs w1) := (HB.out.stay (by omega) fun k h1 h2 => kk.out k (by omega) h2)
  have Q1 := Lib.hid q1
  clear HB q1 k1
  go_wp2_with fail
  refine (writeString_any b B bs r _ HB1.out hlen (by omega)).mono ?_
  rintro e w2 ⟨rfl, hB2, hK2⟩
  have z2 := hK2.1.size
  have R : Hid (Bld b B (bs ++ Lib.strCells r) w2 ∧ Q w2 ∧ w.heap.size ≤ w2.heap.size ∧ ∀ k, n0 ≤ k → k ≠ b → k < B → w2.heap[k]? = w.heap[k]?) :=
    ⟨hB2, HQ.out _ _ (hK2.1.mono hnb) Q1.out, by omega, fun k h1 h2 h3 => (hK2.2 k h3 h2).trans (kk.out k h1 (by omega))⟩
  clear hB2 hK2 HB1
  go_wp2
  go_end0
  exact ⟨rfl, R.out⟩

/-- what a replacement makes of spans, each with those ahead of it -/
def repP (r : List Sp → Sp → ByteArray) : List Sp → List Sp → List UInt8
  | _, [] => []
  | pre, x :: q => (r pre x).data.toList ++ repP r (pre ++ [x]) q
theorem repP_snoc (r : List Sp → Sp → ByteArray) : ∀ (l pre : List Sp) (x : Sp), repP r pre (l ++ [x]) = repP r pre l ++ (r (pre ++ l) x).data.toList
  | [], pre, x => by simp [repP]
  | y :: l, pre, x => by
    rw [List.cons_append]
    simp only [repP]
    rw [repP_snoc r l, List.append_assoc]
    simp
theorem repP_len (r : List Sp → Sp → ByteArray) (m : Nat) : ∀ (l pre : List Sp), (∀ p x q, l = p ++ x :: q → (r (pre ++ p) x).size ≤ m) → (repP r pre l).length ≤ l.length * m
  | [], _, _ => by simp [repP]
  | y :: l, pre, h => by
    have h1 := h [] y l rfl
    rw [List.append_nil] at h1
    have h2 := repP_len r m l (pre ++ [y]) (fun p x q e => by
      have := h (y :: p) x q (by rw [e]; rfl)
      simpa using this)
    simp only [repP]
    rw [List.length_append, List.length_cons, Nat.add_mul]
    have : (r pre y).data.toList.length = (r pre y).size := rfl
    omega

set_option maxHeartbeats 1000000 in
set_option maxRecDepth 100000 in
theorem replaced_any (s : ByteArray) (f : FuncId) (caps : Array Value) (w : World) (hs : s.size ≤ 1048576) (r : List Sp → Sp → ByteArray) (J : List Sp → World → Prop) (he : ∀ args w, (callFunc f args).run Tryz.prog w = .ok (.enter f args) w)
    (h0 : J [] w) (hJ : ∀ l w1 w2, Below w.heap.size w1 w2 → J l w1 → J l w2)
    (hst : ∀ l x w1, w.heap.size ≤ w1.heap.size → J l w1 → (∃ q, spans s = l ++ x :: q) → Calls Tryz.prog f (#[spV x] ++ caps) w1 fun e w' => e = .returned (.string (r l x)) ∧ J (l ++ [x]) w' ∧ w1.heap.size ≤ w'.heap.size ∧ ∀ k, w.heap.size ≤ k → k < w1.heap.size → w'.heap[k]? = w1.heap[k]?)
    (hlen : ∀ l x q, spans s = l ++ x :: q → (r l x).size ≤ 2097152) :
    Calls Tryz.prog 42 #[.string s, .func (.func f) #[] caps] w fun e w' => e = .returned (.string ⟨(repP r [] (spans s)).toArray⟩) ∧ J (spans s) w' ∧ w.heap.size ≤ w'.heap.size := by
  have hen : ∀ args w, (callFunc 62 args).run Tryz.prog w = .ok (.enter 62 args) w := Go.Proofs.enters_of Tryz.func62 (by kernel_rfl) rfl
  obtain ⟨W, hW⟩ : ∃ W : World, W = (w.alloc (.cells #[.func (.func f) #[] caps] 58)).alloc (.cells #[.pointer none, .slice none 0 0] 44) := ⟨_, rfl⟩
  have hWs : W.heap.size = w.heap.size + 2 := by rw [hW]; simp
  have hWb : W.heap[w.heap.size + 1]? = some (.cells #[.pointer none, .slice none 0 0] 44 (0, 0)) := by
    have := heap_alloc_new (w.alloc (.cells #[.func (.func f) #[] caps] 58)) (.cells #[.pointer none, .slice none 0 0] 44)
    rw [hW]; simpa using this
  have hWc : W.cell? ⟨w.heap.size, 0, none⟩ = some (.func (.func f) #[] caps) := by rw [hW]; simp
  have hbelW : Below w.heap.size w W := by rw [hW]; exact ((Below.refl _ _).alloc (Nat.le_refl _) _).alloc (by simp) _
  have HE := each_any s 62 #[.pointer (some ⟨w.heap.size + 1, 0, none⟩), .pointer (some ⟨w.heap.size, 0, none⟩)] W (by omega)
    (fun w1 l w2 => W.heap.size ≤ w1.heap.size ∧ w1.heap.size ≤ w2.heap.size ∧ w2.cell? ⟨w.heap.size, 0, none⟩ = some (.func (.func f) #[] caps) ∧ Bld (w.heap.size + 1) w1.heap.size (Lib.byteCells (repP r [] l)) w2 ∧ J l w2 ∧ ∀ k, W.heap.size ≤ k → k < w1.heap.size → w2.heap[k]? = w1.heap[k]?) hen
    (fun w1 hb => by
      have hz := hb.size
      exact ⟨hz, Nat.le_refl _, (hb.cell (p := ⟨w.heap.size, 0, none⟩) (by show w.heap.size < _; omega)).trans hWc, Bld.fresh (by omega) ((hb.block _ (by omega)).trans hWb), hJ _ _ _ (hbelW.trans (hb.mono (by omega))) h0, fun _ _ _ => rfl⟩)
    (fun w1 l w2 o hb ⟨a0, a1, a2, a3, a4, a5⟩ => ⟨a0, by simp; omega, (World.cell?_alloc_lt w2 o _ (by show w.heap.size < _; omega)).trans a2, a3.alloc a1 o, hJ _ _ _ ((Below.refl _ _).alloc (by omega) o) a4, fun k h1 h2 => (Below.heap_alloc w2 o k (by omega)).trans (a5 k h1 h2)⟩)
    (fun w1 l w2 ⟨a0, a1, a2, a3, a4, a5⟩ => ⟨a1, fun p hp hp' => World.cell?_of_block (a5 p.block hp hp')⟩)
    (fun w1 l x w2 hb ⟨a0, a1, a2, a3, a4, a5⟩ ⟨q, hq⟩ => by
      have hll : (repP r [] l).length ≤ l.length * 2097152 := repP_len r 2097152 l [] (fun p y t e => by
        rw [List.nil_append]
        exact hlen p y (t ++ x :: q) (by rw [hq, e]; simp))
      have hl : l.length ≤ s.size := by have := (cont_le (spans_cont s)).2; rw [hq] at this; simp at this; omega
      have hrx := hlen l x q hq
      refine (replaced1_any x w2 w.heap.size (w.heap.size + 1) w.heap.size w1.heap.size _ f caps (r l x) (fun w' => J (l ++ [x]) w') he a3 a2 (by omega) a1 (by omega) (by rw [Lib.byteCells_length]; omega)
        (fun w3 z3 b3 => (hst l x w3 (by omega) (hJ _ _ _ (b3.mono (by omega)) a4) ⟨q, hq⟩)) (fun _ _ hb h => hJ _ _ _ hb h)).mono ?_
      rintro e w3 ⟨rfl, h3, h4, h5, h6⟩
      refine ⟨rfl, a0, by omega, ?_, ?_, h4, fun k k1 k2 => (h6 k (by omega) (by omega) k2).trans (a5 k k1 k2)⟩
      · exact (World.cell?_of_block (h6 w.heap.size (Nat.le_refl _) (by omega) (by omega))).trans a2
      · rw [repP_snoc, byteCells_append, List.nil_append]; exact h3)
  have HE := Lib.hid HE
  have HB := Lib.hid hbelW
  have HJ := Lib.hid hJ
  clear hbelW hWb hWc hJ hst hlen h0
  go_enter Tryz.func42, Tryz.ntmps42
  go_wp2_with fail
  rw [← hW]
  refine HE.out.mono ?_
  rintro e w1 ⟨rfl, w0, hb0, a0, a1, a2, a3, a4, a5⟩
  have hz := hb0.size
  have A3 := Lib.hid a3
  have A4 := Lib.hid a4
  clear a3 a4 a5 hb0 a2
  go_wp2_with fail
  refine (string_any (w.heap.size + 1) w0.heap.size ⟨(repP r [] (spans s)).toArray⟩ w1 A3.out).mono ?_
  rintro e w2 ⟨rfl, hb2⟩
  have hz2 := hb2.size
  have R2 : Hid (J (spans s) w2) := HJ.out _ _ _ (hb2.mono (by omega)) A4.out
  clear hb2
  go_wp2
  go_ret
  exact ⟨rfl, R2.out, by omega⟩
end Go.Proofs.YtcbmddgafkoooaaGreatDoor
