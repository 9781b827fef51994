/-
  DERIVED. The walks of text.replaced (whatever the closure), text.Retarget and its closure, the law TextLed's plain side, florref1.RetargetOf, text.LinkText and florlaw1.hasBracket. Conditions: the texts' sizes. By an AI agent.
-/
import Derived.Test.YtcbmddgafkoooaaDoorTextsOf
import Derived.Test.YtcbmddgafkoooaaDoorPlainOf
import Derived.Deep.RegionHeld3
import Derived.Test.YtcbmddgafkoooaaDoorRefSpans
import Derived.Test.YtcbmddgafkoooaaDoorRefLinkMath
namespace Go.Proofs.YtcbmddgafkoooaaDoor
open Go.RowKit

theorem own_stay {w w' : World} {base : Nat} {e : TypeId} {size n : Nat} {v : Value} {xs : List Value} (h : w.ownsRow base e size v n xs) (hb : ∀ k, base ≤ k → k < w.heap.size → w'.heap[k]? = w.heap[k]?) : w'.ownsRow base e size v n xs := by
  obtain ⟨h1, h2⟩ := h
  refine ⟨h1, ?_⟩
  rcases h2 with h2 | ⟨g, cap, cur, hv, hg, hh, r⟩
  · exact .inl h2
  · refine .inr ⟨g, cap, cur, hv, hg, ?_, r⟩
    rw [hb g hg (by rcases Nat.lt_or_ge g w.heap.size with h | h; exact h; rw [Array.getElem?_eq_none h] at hh; cases hh)]
    exact hh
theorem Bld.stay {b B : Nat} {bs : List Value} {w w' : World} (h : Bld b B bs w) (hbw : b < w.heap.size) (hb : ∀ k, b ≤ k → k < w.heap.size → w'.heap[k]? = w.heap[k]?) : Bld b B bs w' := by
  obtain ⟨h1, p, v, hp, hbk, hown⟩ := h
  exact ⟨h1, p, v, hp, (hb b (Nat.le_refl _) hbw).trans hbk, own_stay hown fun k hk hk' => hb k (by omega) hk'⟩

set_option maxHeartbeats 1000000 in
set_option maxRecDepth 100000 in
theorem replaced1_any (x : Sp) (w : World) (n0 b fb B : Nat) (bs : List Value) (f : FuncId) (caps : Array Value) (r : ByteArray) (Q : World → Prop) (he : ∀ args w, (callFunc f args).run Tryd.prog w = .ok (.enter f args) w)
    (hB : Bld b B bs w) (hf : w.cell? ⟨fb, 0, none⟩ = some (.func (.func f) #[] caps)) (hfb : fb < w.heap.size) (hBw : B ≤ w.heap.size) (hnb : n0 ≤ b) (hlen : bs.length + r.size ≤ 140737488355328)
    (hst : ∀ w1, w.heap.size ≤ w1.heap.size → Below w.heap.size w w1 → Calls Tryd.prog f (#[spV x] ++ caps) w1 fun e w' => e = .returned (.string r) ∧ Q w' ∧ w1.heap.size ≤ w'.heap.size ∧ ∀ k, n0 ≤ k → k < w1.heap.size → w'.heap[k]? = w1.heap[k]?)
    (hQ : ∀ w1 w2, Below n0 w1 w2 → Q w1 → Q w2) :
    Calls Tryd.prog 61 #[spV x, .pointer (some ⟨b, 0, none⟩), .pointer (some ⟨fb, 0, none⟩)] w fun e w' => e = .returned (.tuple #[]) ∧ Bld b B (bs ++ Lib.strCells r) w' ∧ Q w' ∧ w.heap.size ≤ w'.heap.size ∧ ∀ k, n0 ≤ k → k ≠ b → k < B → w'.heap[k]? = w.heap[k]? := by
  have HB := Lib.hid hB
  have hbB := hB.1
  clear hB
  have HQ := Lib.hid hQ
  have HST := Lib.hid hst
  clear hQ hst
  have hfA : ∀ o, (w.alloc o).cell? ⟨fb, 0, none⟩ = some (.func (.func f) #[] caps) := fun o => (World.cell?_alloc_lt w o _ hfb).trans hf
  clear hf
  have HX : Hid (spV x = .agg #[.int .i64 x.kind, .int .i64 x.frm, .int .i64 x.to_, .string x.text, .string x.show_, .int .i64 x.id, .bool x.strong]) := rfl
  rw [HX.out]
  go_enter Tryd.func61, Tryd.ntmps61
  go_wp2_with fail
  rw [← HX.out]
  refine (HST.out _ (by simp) ((Below.refl _ _).alloc (Nat.le_refl _) _)).mono ?_
  rintro e w1 ⟨rfl, q1, z1, k1⟩
  simp only [World.size_alloc] at z1
  have kk : Hid (∀ k, n0 ≤ k → k < w.heap.size → w1.heap[k]? = w.heap[k]?) := fun k h1 h2 => (k1 k h1 (by simp; omega)).trans (Below.heap_alloc w _ k h2)
  have HB1 : Hid (Bld b B bs w1) := (HB.out.stay (by omega) fun k h1 h2 => kk.out k (by omega) h2)
  have Q1 := Lib.hid q1
  clear HB q1 k1
  go_wp2_with fail
  refine (writeString_any b B bs r _ HB1.out hlen (by omega)).mono ?_
  rintro e w2 ⟨rfl, hB2, hK2⟩
  have z2 := hK2.1.size
  have R : Hid (Bld b B (bs ++ Lib.strCells r) w2 ∧ Q w2 ∧ w.heap.size ≤ w2.heap.size ∧ ∀ k, n0 ≤ k → k ≠ b → k < B → w2.heap[k]? = w.heap[k]?) :=
    ⟨hB2, HQ.out _ _ (hK2.1.mono hnb) Q1.out, by omega, fun k h1 h2 h3 => (hK2.2 k h3 h2).trans (kk.out k h1 (by omega))⟩
  clear hB2 hK2 HB1
  go_wp2
  go_end0
  exact ⟨rfl, R.out⟩

/-- what a replacement makes of spans, each with those ahead of it -/
def repP (r : List Sp → Sp → ByteArray) : List Sp → List Sp → List UInt8
  | _, [] => []
  | pre, x :: q => (r pre x).data.toList ++ repP r (pre ++ [x]) q
theorem repP_snoc (r : List Sp → Sp → ByteArray) : ∀ (l pre : List Sp) (x : Sp), repP r pre (l ++ [x]) = repP r pre l ++ (r (pre ++ l) x).data.toList
  | [], pre, x => by simp [repP]
  | y :: l, pre, x => by
    rw [List.cons_append]
    simp only [repP]
    rw [repP_snoc r l, List.append_assoc]
    simp
theorem repP_len (r : List Sp → Sp → ByteArray) (m : Nat) : ∀ (l pre : List Sp), (∀ p x q, l = p ++ x :: q → (r (pre ++ p) x).size ≤ m) → (repP r pre l).length ≤ l.length * m
  | [], _, _ => by simp [repP]
  | y :: l, pre, h => by
    have h1 := h [] y l rfl
    rw [List.append_nil] at h1
    have h2 := repP_len r m l (pre ++ [y]) (fun p x q e => by
      have := h (y :: p) x q (by rw [e]; rfl)
      simpa using this)
    simp only [repP]
    rw [List.length_append, List.length_cons, Nat.add_mul]
    have : (r pre y).data.toList.length = (r pre y).size := rfl
    omega

set_option maxHeartbeats 1000000 in
set_option maxRecDepth 100000 in
theorem replaced_any (s : ByteArray) (f : FuncId) (caps : Array Value) (w : World) (hs : s.size ≤ 1048576) (r : List Sp → Sp → ByteArray) (J : List Sp → World → Prop) (he : ∀ args w, (callFunc f args).run Tryd.prog w = .ok (.enter f args) w)
    (h0 : J [] w) (hJ : ∀ l w1 w2, Below w.heap.size w1 w2 → J l w1 → J l w2)
    (hst : ∀ l x w1, w.heap.size ≤ w1.heap.size → J l w1 → (∃ q, spans s = l ++ x :: q) → Calls Tryd.prog f (#[spV x] ++ caps) w1 fun e w' => e = .returned (.string (r l x)) ∧ J (l ++ [x]) w' ∧ w1.heap.size ≤ w'.heap.size ∧ ∀ k, w.heap.size ≤ k → k < w1.heap.size → w'.heap[k]? = w1.heap[k]?)
    (hlen : ∀ l x q, spans s = l ++ x :: q → (r l x).size ≤ 2097152) :
    Calls Tryd.prog 33 #[.string s, .func (.func f) #[] caps] w fun e w' => e = .returned (.string ⟨(repP r [] (spans s)).toArray⟩) ∧ J (spans s) w' ∧ w.heap.size ≤ w'.heap.size := by
  have hen : ∀ args w, (callFunc 61 args).run Tryd.prog w = .ok (.enter 61 args) w := Go.Proofs.enters_of Tryd.func61 (by kernel_rfl) rfl
  obtain ⟨W, hW⟩ : ∃ W : World, W = (w.alloc (.cells #[.func (.func f) #[] caps] 64)).alloc (.cells #[.pointer none, .slice none 0 0] 49) := ⟨_, rfl⟩
  have hWs : W.heap.size = w.heap.size + 2 := by rw [hW]; simp
  have hWb : W.heap[w.heap.size + 1]? = some (.cells #[.pointer none, .slice none 0 0] 49 (0, 0)) := by
    have := heap_alloc_new (w.alloc (.cells #[.func (.func f) #[] caps] 64)) (.cells #[.pointer none, .slice none 0 0] 49)
    rw [hW]; simpa using this
  have hWc : W.cell? ⟨w.heap.size, 0, none⟩ = some (.func (.func f) #[] caps) := by rw [hW]; simp
  have hbelW : Below w.heap.size w W := by rw [hW]; exact ((Below.refl _ _).alloc (Nat.le_refl _) _).alloc (by simp) _
  have HE := each_any s 61 #[.pointer (some ⟨w.heap.size + 1, 0, none⟩), .pointer (some ⟨w.heap.size, 0, none⟩)] W (by omega)
    (fun w1 l w2 => W.heap.size ≤ w1.heap.size ∧ w1.heap.size ≤ w2.heap.size ∧ w2.cell? ⟨w.heap.size, 0, none⟩ = some (.func (.func f) #[] caps) ∧ Bld (w.heap.size + 1) w1.heap.size (Lib.byteCells (repP r [] l)) w2 ∧ J l w2 ∧ ∀ k, W.heap.size ≤ k → k < w1.heap.size → w2.heap[k]? = w1.heap[k]?) hen
    (fun w1 hb => by
      have hz := hb.size
      exact ⟨hz, Nat.le_refl _, (hb.cell (p := ⟨w.heap.size, 0, none⟩) (by show w.heap.size < _; omega)).trans hWc, Bld.fresh (by omega) ((hb.block _ (by omega)).trans hWb), hJ _ _ _ (hbelW.trans (hb.mono (by omega))) h0, fun _ _ _ => rfl⟩)
    (fun w1 l w2 o hb ⟨a0, a1, a2, a3, a4, a5⟩ => ⟨a0, by simp; omega, (World.cell?_alloc_lt w2 o _ (by show w.heap.size < _; omega)).trans a2, a3.alloc a1 o, hJ _ _ _ ((Below.refl _ _).alloc (by omega) o) a4, fun k h1 h2 => (Below.heap_alloc w2 o k (by omega)).trans (a5 k h1 h2)⟩)
    (fun w1 l w2 ⟨a0, a1, a2, a3, a4, a5⟩ => ⟨a1, fun p hp hp' => World.cell?_of_block (a5 p.block hp hp')⟩)
    (fun w1 l x w2 hb ⟨a0, a1, a2, a3, a4, a5⟩ ⟨q, hq⟩ => by
      have hll : (repP r [] l).length ≤ l.length * 2097152 := repP_len r 2097152 l [] (fun p y t e => by
        rw [List.nil_append]
        exact hlen p y (t ++ x :: q) (by rw [hq, e]; simp))
      have hl : l.length ≤ s.size := by have := (cont_le (spans_cont s)).2; rw [hq] at this; simp at this; omega
      have hrx := hlen l x q hq
      refine (replaced1_any x w2 w.heap.size (w.heap.size + 1) w.heap.size w1.heap.size _ f caps (r l x) (fun w' => J (l ++ [x]) w') he a3 a2 (by omega) a1 (by omega) (by rw [Lib.byteCells_length]; omega)
        (fun w3 z3 b3 => (hst l x w3 (by omega) (hJ _ _ _ (b3.mono (by omega)) a4) ⟨q, hq⟩)) (fun _ _ hb h => hJ _ _ _ hb h)).mono ?_
      rintro e w3 ⟨rfl, h3, h4, h5, h6⟩
      refine ⟨rfl, a0, by omega, ?_, ?_, h4, fun k k1 k2 => (h6 k (by omega) (by omega) k2).trans (a5 k k1 k2)⟩
      · exact (World.cell?_of_block (h6 w.heap.size (Nat.le_refl _) (by omega) (by omega))).trans a2
      · rw [repP_snoc, byteCells_append, List.nil_append]; exact h3)
  have HE := Lib.hid HE
  have HB := Lib.hid hbelW
  have HJ := Lib.hid hJ
  clear hbelW hWb hWc hJ hst hlen h0
  go_enter Tryd.func33, Tryd.ntmps33
  go_wp2_with fail
  rw [← hW]
  refine HE.out.mono ?_
  rintro e w1 ⟨rfl, w0, hb0, a0, a1, a2, a3, a4, a5⟩
  have hz := hb0.size
  have A3 := Lib.hid a3
  have A4 := Lib.hid a4
  clear a3 a4 a5 hb0 a2
  go_wp2_with fail
  refine (string_any (w.heap.size + 1) w0.heap.size ⟨(repP r [] (spans s)).toArray⟩ w1 A3.out).mono ?_
  rintro e w2 ⟨rfl, hb2⟩
  have hz2 := hb2.size
  have R2 : Hid (J (spans s) w2) := HJ.out _ _ _ (hb2.mono (by omega)) A4.out
  clear hb2
  go_wp2
  go_ret
  exact ⟨rfl, R2.out, by omega⟩
end Go.Proofs.YtcbmddgafkoooaaDoor

namespace Go.Proofs.YtcbmddgafkoooaaDoor
open Go.RowKit

/-- a link's text lies in it -/
def LkP (x : Sp) : Prop := x.kind = 4 → x.frm + 2 + x.text.size + 2 ≤ x.to_
theorem tokA_lkp (s : ByteArray) (a : Nat) : LkP (tokA s a) := fun h => by
  have LI := tokL_inv (tokA_link h)
  obtain ⟨h1, h2, h3, h4⟩ := LI.es
  rw [h4, LI.fr]; omega
theorem toks_lkp (s : ByteArray) (a : Nat) : ∀ x ∈ toks s a, LkP x := by
  have key : ∀ n a, ∀ x ∈ toksN s n a, LkP x := by
    intro n
    induction n with
    | zero => intro a x hx; cases hx
    | succ n ih =>
      intro a x hx
      simp only [toksN] at hx
      split at hx
      · rcases List.mem_cons.1 hx with rfl | hx
        · exact tokA_lkp s a
        · exact ih _ _ hx
      · cases hx
  exact key _ a
theorem strong_lkp {l : List Sp} (h : ∀ x ∈ l, LkP x) : ∀ x ∈ strong l, LkP x := by
  intro x hx
  obtain ⟨j, hj, rfl⟩ := List.mem_mapIdx.1 hx
  have g := h _ (List.getElem_mem hj)
  intro hk
  refine g ?_
  have e := strBy_link (l0 := l) (j := j) (List.getElem?_eq_getElem hj)
  rw [show ((strBy l j l[j]).kind == 4) = true from beq_iff_eq.2 hk] at e
  simpa using e.symm
theorem merge_lkp : ∀ {l acc : List Sp}, (∀ x ∈ l, LkP x) → (∀ x ∈ acc, LkP x) → ∀ x ∈ merge acc l, LkP x
  | [], acc, _, h2 => h2
  | x :: l, acc, h1, h2 => show ∀ y ∈ merge (mstep acc x) l, LkP y from merge_lkp (fun y hy => h1 y (List.mem_cons_of_mem _ hy)) (fun y hy => by
      unfold mstep at hy
      cases e : acc.getLast? with
      | none => rw [e] at hy; simp at hy; subst hy; exact h1 _ (List.mem_cons_self ..)
      | some z =>
        rw [e] at hy
        dsimp only at hy
        split at hy
        · rename_i c
          rcases List.mem_append.1 hy with hy | hy
          · exact h2 y ((List.dropLast_sublist acc).subset hy)
          · simp at hy; subst hy
            intro hk
            have hk : z.kind = 4 := hk
            simp only [Bool.and_eq_true, beq_iff_eq] at c
            omega
        · rcases List.mem_append.1 hy with hy | hy
          · exact h2 y hy
          · simp at hy; subst hy; exact h1 _ (List.mem_cons_self ..))
theorem spans_lkp (s : ByteArray) : ∀ x ∈ spans s, LkP x := by
  intro x hx
  obtain ⟨y, hy, rfl⟩ := List.mem_map.1 hx
  have h := merge_lkp (strong_lkp (toks_lkp s 0)) (fun _ h => by cases h) y hy
  unfold fillT
  split
  · rename_i k
    intro hk
    have hk : y.kind = 4 := hk
    omega
  · exact h

/-- what stands in a span's place -/
def retR (s : ByteArray) (n : Nat) (U : ByteArray) (pre : List Sp) (x : Sp) : ByteArray :=
  if x.kind = 4 ∧ lk pre = n then (⟨#[91, 91]⟩ ++ U) ++ s.extract (x.frm + 2 + x.text.size) x.to_ else s.extract x.frm x.to_

set_option maxHeartbeats 1000000 in
set_option maxRecDepth 100000 in
theorem retarget1_no (s : ByteArray) (x : Sp) (w : World) (sb : Nat) (q1 q2 q3 : Value) (hsb : sb < w.heap.size) (hs : w.cell? ⟨sb, 0, none⟩ = some (.string s)) (hk : (x.kind == 4) = false) (h1 : x.frm ≤ x.to_) (h2 : x.to_ ≤ s.size) :
    Calls Tryd.prog 34 #[spV x, q1, q2, q3, .pointer (some ⟨sb, 0, none⟩)] w fun e w' => e = .returned (.string (s.extract x.frm x.to_)) ∧ Below w.heap.size w w' := by
  have hsA : ∀ o, (w.alloc o).cell? ⟨sb, 0, none⟩ = some (.string s) := fun o => (World.cell?_alloc_lt w o _ hsb).trans hs
  have i1 : (0 : Int) ≤ (x.frm : Int) := by omega
  have i2 : (x.frm : Int) ≤ (x.to_ : Int) := by omega
  have i3 : (x.to_ : Int) ≤ (s.size : Int) := by omega
  have K := Blk.new w 29 #[.int .i64 x.kind, .int .i64 x.frm, .int .i64 x.to_, .string x.text, .string x.show_, .int .i64 x.id, .bool x.strong]
  have q0 := K.cell 0
  have q1' := K.cell 1
  have q2' := K.cell 2
  clear hs K
  rw [spV_eq]
  go_enter Tryd.func34, Tryd.ntmps34
  go_wp2
  try go_region
  all_goals try go_wp2
  all_goals go_ret
  all_goals exact ⟨rfl, by repeat (first | exact Below.refl _ _ | apply Below.drew | exact (Below.refl _ _).alloc (Nat.le_refl _) _)⟩

/-- the world behind n++ -/
theorem ret_world {w : World} {nb lb sb n m : Nat} {s : ByteArray} {o : Obj} (hnb : nb < w.heap.size) (hn : w.heap[nb]? = some (.cells #[.int .i64 ((m : Int) - 1)] 3 (0, 0))) (_hlb : lb < w.heap.size) (hlk : w.cell? ⟨lb, 0, none⟩ = some (.int .i64 n)) (_hsb : sb < w.heap.size) (hs : w.cell? ⟨sb, 0, none⟩ = some (.string s))
    (hne1 : nb ≠ lb) (hne2 : nb ≠ sb) :
    (w.setCell ⟨nb, 0, none⟩ (.int .i64 m)).cell? ⟨nb, 0, none⟩ = some (.int .i64 m) ∧ (w.setCell ⟨nb, 0, none⟩ (.int .i64 m)).cell? ⟨lb, 0, none⟩ = some (.int .i64 n) ∧ (w.setCell ⟨nb, 0, none⟩ (.int .i64 m)).cell? ⟨sb, 0, none⟩ = some (.string s) ∧
    (w.alloc o).cell? ⟨nb, 0, none⟩ = some (.int .i64 ((m : Int) - 1)) ∧ (w.alloc o).frozen? ⟨nb, 0, none⟩ = false ∧
    Hid (Below nb w ((w.setCell ⟨nb, 0, none⟩ (.int .i64 m)).alloc o) ∧ ((w.setCell ⟨nb, 0, none⟩ (.int .i64 m)).alloc o).heap[nb]? = some (.cells #[.int .i64 m] 3 (0, 0)) ∧ ∀ k, k ≠ nb → k < w.heap.size → ((w.setCell ⟨nb, 0, none⟩ (.int .i64 m)).alloc o).heap[k]? = w.heap[k]?) := by
  have hz : (w.setCell ⟨nb, 0, none⟩ (.int .i64 m)).heap.size = w.heap.size := by simp [World.setCell]
  have hA : (w.alloc o).heap[nb]? = some (.cells #[.int .i64 ((m : Int) - 1)] 3 (0, 0)) := (Below.heap_alloc w _ nb hnb).trans hn
  have hc : (w.alloc o).cell? ⟨nb, 0, none⟩ = some (.int .i64 ((m : Int) - 1)) := by rw [Lib.cell_of_heap hA]; rfl
  refine ⟨World.cell?_setCell_same' _ _ _ (by rw [Lib.cell_of_heap hn]; rfl), (World.cell?_setCell_other _ _ _ _ (fun e => hne1 (by injection e))).trans hlk, (World.cell?_setCell_other _ _ _ _ (fun e => hne2 (by injection e))).trans hs, hc, Lib.frozen_of_heap hA 0,
    ((Below.refl nb w).setCell (p := ⟨nb, 0, none⟩) (Nat.le_refl _) _).alloc (by omega) _, ?_, fun k h1 h2 => (Below.heap_alloc _ _ k (by omega)).trans (Below.heap_setCell _ _ _ _ h1)⟩
  refine (Below.heap_alloc _ _ nb (by omega)).trans ?_
  simp [World.setCell, Array.getElem?_modify, hn]

set_option maxHeartbeats 1000000 in
set_option maxRecDepth 100000 in
theorem retarget1_other (s : ByteArray) (x : Sp) (w : World) (nb lb sb : Nat) (m n : Nat) (q3 : Value) (hnb : nb < w.heap.size) (hn : w.heap[nb]? = some (.cells #[.int .i64 ((m : Int) - 1)] 3 (0, 0))) (hlb : lb < w.heap.size) (hlk : w.cell? ⟨lb, 0, none⟩ = some (.int .i64 n)) (hsb : sb < w.heap.size) (hs : w.cell? ⟨sb, 0, none⟩ = some (.string s))
    (hne1 : nb ≠ lb) (hne2 : nb ≠ sb) (hk : (x.kind == 4) = true) (hmn : ((m : Int) == (n : Int)) = false) (hm : m ≤ 4294967280) (h1 : x.frm ≤ x.to_) (h2 : x.to_ ≤ s.size) :
    Calls Tryd.prog 34 #[spV x, .pointer (some ⟨nb, 0, none⟩), .pointer (some ⟨lb, 0, none⟩), q3, .pointer (some ⟨sb, 0, none⟩)] w fun e w' => e = .returned (.string (s.extract x.frm x.to_)) ∧ Below nb w w' ∧ w'.heap[nb]? = some (.cells #[.int .i64 m] 3 (0, 0)) ∧ ∀ k, k ≠ nb → k < w.heap.size → w'.heap[k]? = w.heap[k]? := by
  have i1 : (0 : Int) ≤ (x.frm : Int) := by omega
  have i2 : (x.frm : Int) ≤ (x.to_ : Int) := by omega
  have i3 : (x.to_ : Int) ≤ (s.size : Int) := by omega
  obtain ⟨n2, l2, s2, n0, f0, R⟩ := ret_world (o := .cells #[.int .i64 x.kind, .int .i64 x.frm, .int .i64 x.to_, .string x.text, .string x.show_, .int .i64 x.id, .bool x.strong] 29) hnb hn hlb hlk hsb hs hne1 hne2
  have q0 := (Blk.new w 29 #[.int .i64 x.kind, .int .i64 x.frm, .int .i64 x.to_, .string x.text, .string x.show_, .int .i64 x.id, .bool x.strong]).cell 0
  clear hn hlk hs
  rw [spV_eq]
  go_enter Tryd.func34, Tryd.ntmps34
  go_wp2_with fail
  go_ret
  exact ⟨rfl, R.out⟩

set_option maxHeartbeats 1000000 in
set_option maxRecDepth 100000 in
theorem retarget1_here (s U : ByteArray) (x : Sp) (w : World) (nb lb tb sb : Nat) (m : Nat) (hnb : nb < w.heap.size) (hn : w.heap[nb]? = some (.cells #[.int .i64 ((m : Int) - 1)] 3 (0, 0))) (hlb : lb < w.heap.size) (hlk : w.cell? ⟨lb, 0, none⟩ = some (.int .i64 m)) (hsb : sb < w.heap.size) (hs : w.cell? ⟨sb, 0, none⟩ = some (.string s))
    (htb : tb < w.heap.size) (ht : w.cell? ⟨tb, 0, none⟩ = some (.string U)) (hne1 : nb ≠ lb) (hne2 : nb ≠ sb) (hne3 : nb ≠ tb) (hk : (x.kind == 4) = true) (hm : m ≤ 4294967280) (h1 : x.frm + 2 + x.text.size ≤ x.to_) (h2 : x.to_ ≤ s.size) (h3 : s.size ≤ 4294967280) (hU : U.size ≤ 4294967280) :
    Calls Tryd.prog 34 #[spV x, .pointer (some ⟨nb, 0, none⟩), .pointer (some ⟨lb, 0, none⟩), .pointer (some ⟨tb, 0, none⟩), .pointer (some ⟨sb, 0, none⟩)] w fun e w' => e = .returned (.string ((⟨#[91, 91]⟩ ++ U) ++ s.extract (x.frm + 2 + x.text.size) x.to_)) ∧ Below nb w w' ∧ w'.heap[nb]? = some (.cells #[.int .i64 m] 3 (0, 0)) ∧ ∀ k, k ≠ nb → k < w.heap.size → w'.heap[k]? = w.heap[k]? := by
  have i0 : (0 : Int) ≤ (x.frm : Int) := by omega
  have i1 : (0 : Int) ≤ (x.frm : Int) + 2 + (x.text.size : Int) := by omega
  have i2 : (x.frm : Int) + 2 + (x.text.size : Int) ≤ (x.to_ : Int) := by omega
  have i3 : (x.to_ : Int) ≤ (s.size : Int) := by omega
  have i4 : (x.text.size : Int) ≤ 4294967280 := by omega
  have i5 : ((x.frm : Int) + 2 + (x.text.size : Int)).toNat = x.frm + 2 + x.text.size := by omega
  have t2 : (w.setCell ⟨nb, 0, none⟩ (.int .i64 m)).cell? ⟨tb, 0, none⟩ = some (.string U) := (World.cell?_setCell_other _ _ _ _ (fun e => hne3 (by injection e))).trans ht
  obtain ⟨n2, l2, s2, n0, f0, R⟩ := ret_world (o := .cells #[.int .i64 x.kind, .int .i64 x.frm, .int .i64 x.to_, .string x.text, .string x.show_, .int .i64 x.id, .bool x.strong] 29) hnb hn hlb hlk hsb hs hne1 hne2
  have q0 := (Blk.new w 29 #[.int .i64 x.kind, .int .i64 x.frm, .int .i64 x.to_, .string x.text, .string x.show_, .int .i64 x.id, .bool x.strong]).cell 0
  clear hn hlk hs ht
  rw [spV_eq]
  have hmm : ((m : Int) == (m : Int)) = true := by simp
  go_enter Tryd.func34, Tryd.ntmps34
  go_wp2_with fail
  go_quiet (fail)
  go_wp2
  go_ret
  exact ⟨rfl, bdrew R.out.1 _, R.out.2⟩
end Go.Proofs.YtcbmddgafkoooaaDoor

namespace Go.Proofs.YtcbmddgafkoooaaDoor
open Go.RowKit

/-- the text with another target, as the code makes it -/
def retOut (s : ByteArray) (n : Nat) (U : ByteArray) : ByteArray := ⟨(repP (retR s n U) [] (spans s)).toArray⟩
def boundV (o : ByteArray) : Value := if 2000 < o.size then .tuple #[.string ⟨#[]⟩, .int .i64 4] else .tuple #[.string o, .int .i64 0]
theorem bounded_any (o : ByteArray) (w : World) (ho : o.size ≤ 140737488355328) : Calls Tryd.prog 35 #[.string o] w fun e w' => e = .returned (boundV o) ∧ w = w' := by
  by_cases h : 2000 < o.size
  · have HV : Hid (boundV o = .tuple #[.string ⟨#[]⟩, .int .i64 4]) := by show _ = _; unfold boundV; rw [if_pos h]
    have h2 : (2000 : Int) < (o.size : Int) := by omega
    clear h
    go_enter Tryd.func35, Tryd.ntmps35
    go_wp2
    go_ret2
    exact ⟨by rw [HV.out]; rfl, rfl⟩
  · have HV : Hid (boundV o = .tuple #[.string o, .int .i64 0]) := by show _ = _; unfold boundV; rw [if_neg h]
    have h2 : (o.size : Int) ≤ 2000 := by omega
    clear h
    go_enter Tryd.func35, Tryd.ntmps35
    go_wp2
    go_ret2
    exact ⟨by rw [HV.out]; rfl, rfl⟩

theorem retR_size (s : ByteArray) (n : Nat) (U : ByteArray) (pre : List Sp) (x : Sp) (hs : s.size ≤ 1048576) (hU : U.size ≤ 100) : (retR s n U pre x).size ≤ 2097152 := by
  unfold retR
  split
  · rw [ByteArray.size_append, ByteArray.size_append]
    have := ext_le s (x.frm + 2 + x.text.size) x.to_
    have : (⟨#[91, 91]⟩ : ByteArray).size = 2 := rfl
    omega
  · have := ext_le s x.frm x.to_; omega

set_option maxHeartbeats 2000000 in
set_option maxRecDepth 100000 in
theorem retarget_neg (s U : ByteArray) (k : Int) (w : World) (hk : k < 0) :
    Calls Tryd.prog 9 #[.string s, .int .i64 k, .string U] w fun e w' => e = .returned (.tuple #[.string ⟨#[]⟩, .int .i64 7]) ∧ Below w.heap.size w w' := by
  have hd : decide (k < 0) = true := by simp; omega
  go_enter Tryd.func9, Tryd.ntmps9
  go_wp2_with fail
  go_quiet (fail)
  go_wp2_with fail
  go_ret2
  exact ⟨rfl, bdrew ((((Below.refl _ _).alloc (Nat.le_refl _) _).alloc (by simp) _).alloc (by simp; omega) _) _⟩

theorem ct_of {w w1 : World} {o0 o1 o2 : Obj} (hb1 : Below (((w.alloc o0).alloc o1).alloc o2).drew.heap.size (((w.alloc o0).alloc o1).alloc o2).drew w1) {v : Value} {t : TypeId} (h : o2 = .cells #[v] t) : w1.cell? ⟨w.heap.size + 1 + 1, 0, none⟩ = some v ∧ w.heap.size + 3 ≤ w1.heap.size := by
  subst h
  have hz := hb1.size
  refine ⟨(hb1.cell (by simp)).trans ?_, by simpa using hz⟩
  have := (Blk.new ((w.alloc o0).alloc o1) t #[v]).cell 0
  simp only [World.size_alloc] at this
  exact this

set_option maxHeartbeats 2000000 in
set_option maxRecDepth 100000 in
theorem retarget_none (s U : ByteArray) (k : Nat) (w : World) (hs : s.size ≤ 1048576) (hk : lk (spans s) ≤ k) :
    Calls Tryd.prog 9 #[.string s, .int .i64 k, .string U] w fun e w' => e = .returned (.tuple #[.string ⟨#[]⟩, .int .i64 7]) ∧ Below w.heap.size w w' := by
  have hd : decide ((k : Int) < 0) = false := by simp
  have hn := textsK_lk (spans s)
  obtain ⟨n, hnn⟩ : ∃ n, n = (textsK 4 (spans s)).length := ⟨_, rfl⟩
  have hge : decide (n ≤ k) = true := by simp; omega
  have HN := Lib.hid hnn
  clear hnn hn hk
  go_enter Tryd.func9, Tryd.ntmps9
  go_wp2_with fail
  go_region_held3 (fun w' => w'.cell? ⟨w.heap.size, 0, none⟩ = some (.string s) ∧ w'.cell? ⟨w.heap.size + 1, 0, none⟩ = some (.int .i64 k))
    (first | go_keep | (obtain ⟨a1, a2⟩ := ‹_ ∧ _›; exact ⟨(hb1.cell (by simp <;> omega)).trans a1, (hb1.cell (by simp <;> omega)).trans a2⟩))
    (first | (go_at_call 31; refine (links_any s _ hs).mono ?_; rintro e w1 ⟨v, rfl, hown1, hb1⟩; rw [← HN.out] at hown1; obtain ⟨A, c, rfl, hRd⟩ := own_reads hown1; clear hown1 hRd))
  have hbw : Below w.heap.size w w1 := ((((Below.refl w.heap.size w).alloc (Nat.le_refl _) _).alloc (by simp) _).alloc (by simp; omega) _).drew.trans (hb1.mono (by simp; omega))
  have HB := Lib.hid hbw
  clear hb1 hbw
  go_wp2_with fail
  go_ret2
  exact ⟨rfl, HB.out⟩

set_option maxHeartbeats 2000000 in
set_option maxRecDepth 100000 in
theorem retarget_name (s U : ByteArray) (k : Nat) (w : World) (hs : s.size ≤ 1048576) (hk : k < lk (spans s)) (hU : isTgt U = false) (hUs : U.size ≤ 4294967280) :
    Calls Tryd.prog 9 #[.string s, .int .i64 k, .string U] w fun e w' => e = .returned (.tuple #[.string ⟨#[]⟩, .int .i64 3]) ∧ Below w.heap.size w w' := by
  have hd : decide ((k : Int) < 0) = false := by simp
  have hn := textsK_lk (spans s)
  obtain ⟨n, hnn⟩ : ∃ n, n = (textsK 4 (spans s)).length := ⟨_, rfl⟩
  have hge : decide (n ≤ k) = false := by simp; omega
  have HN := Lib.hid hnn
  clear hnn hn hk
  go_enter Tryd.func9, Tryd.ntmps9
  go_wp2_with fail
  go_region_held3 (fun w' => w'.cell? ⟨w.heap.size, 0, none⟩ = some (.string s) ∧ w'.cell? ⟨w.heap.size + 1, 0, none⟩ = some (.int .i64 k))
    (first | go_keep | (obtain ⟨a1, a2⟩ := ‹_ ∧ _›; exact ⟨(hb1.cell (by simp <;> omega)).trans a1, (hb1.cell (by simp <;> omega)).trans a2⟩))
    (first | (go_at_call 31; refine (links_any s _ hs).mono ?_; rintro e w1 ⟨v, rfl, hown1, hb1⟩; rw [← HN.out] at hown1; obtain ⟨A, c, rfl, hRd⟩ := own_reads hown1; clear hown1 hRd))
  have hbw : Below w.heap.size w w1 := ((((Below.refl w.heap.size w).alloc (Nat.le_refl _) _).alloc (by simp) _).alloc (by simp; omega) _).drew.trans (hb1.mono (by simp; omega))
  obtain ⟨q5, _⟩ := ct_of hb1 rfl
  have HB := Lib.hid hbw
  clear hb1 hbw
  go_wp2_with fail
  refine (isTarget_any U _ hUs).mono ?_
  rintro e w2 ⟨rfl, rfl⟩
  rw [hU]
  go_wp2_with fail
  go_ret2
  exact ⟨rfl, HB.out⟩

set_option maxHeartbeats 2000000 in
set_option maxRecDepth 100000 in
theorem retarget_yes (s U : ByteArray) (k : Nat) (w : World) (hs : s.size ≤ 1048576) (hk : k < lk (spans s)) (hU : isTgt U = true) :
    Calls Tryd.prog 9 #[.string s, .int .i64 k, .string U] w fun e w' => e = .returned (boundV (retOut s k U)) ∧ Below w.heap.size w w' := by
  have hUs := (isTgt_facts hU).2.1
  have he : ∀ args w, (callFunc 34 args).run Tryd.prog w = .ok (.enter 34 args) w := Go.Proofs.enters_of Tryd.func34 (by kernel_rfl) rfl
  have hd : decide ((k : Int) < 0) = false := by simp
  have hn := textsK_lk (spans s)
  obtain ⟨n, hnn⟩ : ∃ n, n = (textsK 4 (spans s)).length := ⟨_, rfl⟩
  have hge : decide (n ≤ k) = false := by simp; omega
  have HN := Lib.hid hnn
  have HE := Lib.hid he
  clear hnn hn hk he
  go_enter Tryd.func9, Tryd.ntmps9
  go_wp2_with fail
  go_region_held3 (fun w' => w'.cell? ⟨w.heap.size, 0, none⟩ = some (.string s) ∧ w'.cell? ⟨w.heap.size + 1, 0, none⟩ = some (.int .i64 k))
    (first | go_keep | (obtain ⟨a1, a2⟩ := ‹_ ∧ _›; exact ⟨(hb1.cell (by simp <;> omega)).trans a1, (hb1.cell (by simp <;> omega)).trans a2⟩))
    (first | (go_at_call 31; refine (links_any s _ hs).mono ?_; rintro e w1 ⟨v, rfl, hown1, hb1⟩; rw [← HN.out] at hown1; obtain ⟨A, c, rfl, hRd⟩ := own_reads hown1; clear hown1 hRd))
  have hbw : Below w.heap.size w w1 := ((((Below.refl w.heap.size w).alloc (Nat.le_refl _) _).alloc (by simp) _).alloc (by simp; omega) _).drew.trans (hb1.mono (by simp; omega))
  obtain ⟨q5, hz1⟩ := ct_of hb1 rfl
  obtain ⟨q3, q4⟩ := ‹_ ∧ _›
  have q3A : ∀ o, (w1.alloc o).cell? ⟨w.heap.size, 0, none⟩ = some (.string s) := fun o => (World.cell?_alloc_lt w1 o _ (by show w.heap.size < _; omega)).trans q3
  have HB := Lib.hid hbw
  have HQ := Lib.hid (And.intro q3 (And.intro q4 q5))
  clear hb1 hbw q3 q4
  go_wp2_with fail
  refine (isTarget_any U _ (by omega)).mono ?_
  rintro e w2 ⟨rfl, rfl⟩
  rw [hU]
  go_wp2_with fail
  refine (replaced_any s 34 #[.pointer (some ⟨w1.heap.size, 0, none⟩), .pointer (some ⟨w.heap.size + 1, 0, none⟩), .pointer (some ⟨w.heap.size + 1 + 1, 0, none⟩), .pointer (some ⟨w.heap.size, 0, none⟩)] _ hs (retR s k U)
    (fun l w2 => w1.heap.size < w2.heap.size ∧ w2.heap[w1.heap.size]? = some (.cells #[.int .i64 ((lk l : Nat) - 1 : Int)] 3 (0, 0)) ∧ w2.cell? ⟨w.heap.size, 0, none⟩ = some (.string s) ∧ w2.cell? ⟨w.heap.size + 1, 0, none⟩ = some (.int .i64 k) ∧ w2.cell? ⟨w.heap.size + 1 + 1, 0, none⟩ = some (.string U) ∧ Below w.heap.size w w2)
    HE.out ?_ ?_ ?_ (fun l x q _ => retR_size s k U l x hs hUs)).mono ?_
  · refine ⟨by simp, ?_, ?_, ?_, ?_, HB.out.alloc (by omega) _⟩
    · have := heap_alloc_new w1 (.cells #[.int .i64 (-1)] 3); rw [lk_nil]; exact this
    · exact q3A _
    · exact (World.cell?_alloc_lt w1 _ _ (by show w.heap.size + 1 < _; omega)).trans HQ.out.2.1
    · exact (World.cell?_alloc_lt w1 _ _ (by show w.heap.size + 1 + 1 < _; omega)).trans HQ.out.2.2
  · rintro l w2 w3 hb ⟨a0, a1, a2, a3, a4, a5⟩
    have hz := hb.size
    simp only [World.size_alloc] at hb
    exact ⟨by omega, (hb.block _ (by omega)).trans a1, (hb.cell (p := ⟨w.heap.size, 0, none⟩) (by show w.heap.size < _; omega)).trans a2, (hb.cell (p := ⟨w.heap.size + 1, 0, none⟩) (by show w.heap.size + 1 < _; omega)).trans a3, (hb.cell (p := ⟨w.heap.size + 1 + 1, 0, none⟩) (by show w.heap.size + 1 + 1 < _; omega)).trans a4, a5.trans (hb.mono (by omega))⟩
  · rintro l x w2 hz2 ⟨a0, a1, a2, a3, a4, a5⟩ ⟨q, hq⟩
    simp only [World.size_alloc] at hz2 ⊢
    have hx : x ∈ spans s := by rw [hq]; simp
    obtain ⟨_, m1, m2⟩ := cont_mem (spans_cont s) x hx
    have hl : l.length ≤ s.size := by have := (cont_le (spans_cont s)).2; rw [hq] at this; simp at this; omega
    have hlk : lk l ≤ l.length := by rw [← textsK_lk]; exact textsK_len 4 l
    by_cases e4 : x.kind = 4
    · have hkk : (x.kind == 4) = true := by simpa using e4
      have hlp := spans_lkp s x hx e4
      have hlx : ((lk (l ++ [x]) : Nat) - 1 : Int) = (lk l : Int) := by rw [lk_append, lk_cons, if_pos e4, lk_nil]; omega
      by_cases en : lk l = k
      · subst en
        refine (retarget1_here s U x w2 w1.heap.size (w.heap.size + 1) (w.heap.size + 1 + 1) w.heap.size (lk l) a0 a1 (by omega) a3 (by omega) a2 (by omega) a4 (by omega) (by omega) (by omega) hkk (by omega) (by omega) m2 (by omega) (by omega)).mono ?_
        rintro e w3 ⟨rfl, c1, c2, c3⟩
        have hz3 := c1.size
        refine ⟨?_, ⟨by omega, by rw [hlx]; exact c2, (World.cell?_of_block (a := ⟨w.heap.size, 0, none⟩) (c3 (w.heap.size) (by omega) (by omega))).trans a2, (World.cell?_of_block (a := ⟨w.heap.size + 1, 0, none⟩) (c3 (w.heap.size + 1) (by omega) (by omega))).trans a3, (World.cell?_of_block (a := ⟨w.heap.size + 1 + 1, 0, none⟩) (c3 (w.heap.size + 1 + 1) (by omega) (by omega))).trans a4, a5.trans (c1.mono (by omega))⟩, hz3, fun j j1 j2 => c3 j (by omega) j2⟩
        unfold retR; rw [if_pos ⟨e4, rfl⟩]
      · refine (retarget1_other s x w2 w1.heap.size (w.heap.size + 1) w.heap.size (lk l) k _ a0 a1 (by omega) a3 (by omega) a2 (by omega) (by omega) hkk (by simp; omega) (by omega) (by omega) m2).mono ?_
        rintro e w3 ⟨rfl, c1, c2, c3⟩
        have hz3 := c1.size
        refine ⟨?_, ⟨by omega, by rw [hlx]; exact c2, (World.cell?_of_block (a := ⟨w.heap.size, 0, none⟩) (c3 (w.heap.size) (by omega) (by omega))).trans a2, (World.cell?_of_block (a := ⟨w.heap.size + 1, 0, none⟩) (c3 (w.heap.size + 1) (by omega) (by omega))).trans a3, (World.cell?_of_block (a := ⟨w.heap.size + 1 + 1, 0, none⟩) (c3 (w.heap.size + 1 + 1) (by omega) (by omega))).trans a4, a5.trans (c1.mono (by omega))⟩, hz3, fun j j1 j2 => c3 j (by omega) j2⟩
        unfold retR; rw [if_neg (fun h => en h.2)]
    · have hlx : lk (l ++ [x]) = lk l := by rw [lk_append, lk_cons, if_neg e4, lk_nil]; rfl
      refine (retarget1_no s x w2 w.heap.size _ _ _ (by omega) a2 (by simpa using e4) (by omega) m2).mono ?_
      rintro e w3 ⟨rfl, c1⟩
      have hz3 := c1.size
      refine ⟨?_, ⟨by omega, by rw [hlx]; exact (c1.block _ a0).trans a1, (c1.cell (p := ⟨w.heap.size, 0, none⟩) (by show w.heap.size < _; omega)).trans a2, (c1.cell (p := ⟨w.heap.size + 1, 0, none⟩) (by show w.heap.size + 1 < _; omega)).trans a3, (c1.cell (p := ⟨w.heap.size + 1 + 1, 0, none⟩) (by show w.heap.size + 1 + 1 < _; omega)).trans a4, a5.trans (c1.mono (by omega))⟩, hz3, fun j _ j2 => c1.block j j2⟩
      unfold retR; rw [if_neg (fun h => e4 h.1)]
  · rintro e w2 ⟨rfl, ⟨_, _, _, _, _, hb5⟩, hz2⟩
    have HB5 := Lib.hid hb5
    have hlen : (retOut s k U).size ≤ 140737488355328 := by
      have h1 := repP_len (retR s k U) 2097152 (spans s) [] (fun p x q _ => retR_size s k U _ x hs hUs)
      have h2 := (cont_le (spans_cont s)).2
      have h3 : (retOut s k U).size = (repP (retR s k U) [] (spans s)).length := by unfold retOut; simp [ByteArray.size]
      have h4 : (spans s).length * 2097152 ≤ 1048576 * 2097152 := Nat.mul_le_mul_right _ (by omega)
      omega
    clear hb5
    rw [show (⟨(repP (retR s k U) [] (spans s)).toArray⟩ : ByteArray) = retOut s k U from rfl]
    go_wp2_with fail
    refine (bounded_any (retOut s k U) _ hlen).mono ?_
    rintro e w3 ⟨rfl, rfl⟩
    by_cases hbig : 2000 < (retOut s k U).size
    · have HV : Hid (boundV (retOut s k U) = .tuple #[.string ⟨#[]⟩, .int .i64 4]) := by show _ = _; unfold boundV; rw [if_pos hbig]
      rw [HV.out]
      clear hbig
      go_wp2
      go_ret2
      exact ⟨by rw [HV.out]; rfl, HB5.out⟩
    · have HV : Hid (boundV (retOut s k U) = .tuple #[.string (retOut s k U), .int .i64 0]) := by show _ = _; unfold boundV; rw [if_neg hbig]
      rw [HV.out]
      clear hbig
      go_wp2
      go_ret2
      exact ⟨by rw [HV.out]; rfl, HB5.out⟩
end Go.Proofs.YtcbmddgafkoooaaDoor

namespace Go.Proofs.YtcbmddgafkoooaaDoor
open Go.RowKit

theorem rep_plain (s : ByteArray) (n : Nat) (U : ByteArray) : ∀ (l pre : List Sp) (a b : Nat), Cont a l b → b ≤ s.size → (∀ p y q, l = p ++ y :: q → y.kind = 4 → lk (pre ++ p) ≠ n) → repP (retR s n U) pre l = (s.data.toList.drop a).take (b - a)
  | [], pre, a, b, hc, _, _ => by
    have : a = b := hc
    subst this
    simp [repP]
  | y :: l, pre, a, b, hc, hb, h => by
    have h1 := rep_plain s n U l (pre ++ [y]) y.to_ b hc.2.2 hb (fun p z q e hz => by
      have := h (y :: p) z q (by rw [e]; rfl) hz
      simpa using this)
    have hle := (cont_le hc.2.2).1
    have hy : retR s n U pre y = s.extract y.frm y.to_ := by
      unfold retR
      rw [if_neg (fun c => by
        have := h [] y l rfl c.1
        rw [List.append_nil] at this
        exact this c.2)]
    simp only [repP]
    rw [h1, hy, ext_list2, hc.1]
    have e1 : b - a = (y.to_ - a) + (b - y.to_) := by have := hc.2.1; omega
    rw [e1, List.take_add, List.drop_drop]
    congr 3
    have := hc.2.1; omega

theorem lk_prefix {p q : List Sp} {y : Sp} (h : y.kind = 4) : lk p < lk (p ++ y :: q) := by rw [lk_append, lk_cons, if_pos h]; omega

theorem cat_eq {l u : List UInt8} {f e t : Nat} (h0 : l[f]? = some 91) (h1 : l[f + 1]? = some 91) (he : e ≤ t) :
    l.take f ++ (([91, 91] ++ (u ++ (l.drop e).take (t - e))) ++ (l.drop t).take (l.length - t)) = l.take (f + 2) ++ (u ++ l.drop e) := by
  have a1 : l.take (f + 2) = l.take f ++ [91, 91] := by
    rw [show f + 2 = f + 1 + 1 from rfl, List.take_add_one, List.take_add_one, h0, h1]; simp
  have a2 : l.drop e = (l.drop e).take (t - e) ++ l.drop t := by
    have := List.take_append_drop (t - e) (l.drop e)
    rw [List.drop_drop, show e + (t - e) = t by omega] at this
    exact this.symm
  have a3 : (l.drop t).take (l.length - t) = l.drop t := List.take_of_length_le (by rw [List.length_drop]; exact Nat.le_refl _)
  rw [a3, a1]
  conv => rhs; rw [a2]
  simp only [List.append_assoc]
theorem bt_get {s : ByteArray} {i : Nat} {c : UInt8} (h : bt s i = c.toNat) : s.data.toList[i]? = some c := by
  have hx := bt_in (s := s) (i := i) (by omega)
  rw [bt_at hx] at h
  rw [List.getElem?_eq_getElem (show i < s.data.toList.length from hx)]
  exact congrArg some (UInt8.toNat_inj.1 (by
    have : ((s[i].toNat : Nat) : Int) = (c.toNat : Int) := h
    show s[i].toNat = c.toNat
    omega))
theorem repP_append (r : List Sp → Sp → ByteArray) : ∀ (l pre q : List Sp), repP r pre (l ++ q) = repP r pre l ++ repP r (pre ++ l) q
  | [], pre, q => by simp [repP]
  | y :: l, pre, q => by
    rw [List.cons_append]
    simp only [repP]
    rw [repP_append r l]
    simp
theorem retR_here {s U : ByteArray} {n : Nat} {pre : List Sp} {x : Sp} (h2 : x.kind = 4) (h3 : lk pre = n) : (retR s n U pre x).data.toList = [91, 91] ++ (U.data.toList ++ (s.data.toList.drop (x.frm + 2 + x.text.size)).take (x.to_ - (x.frm + 2 + x.text.size))) := by
  unfold retR
  rw [if_pos ⟨h2, h3⟩, ByteArray.data_append, ByteArray.data_append, Array.toList_append, Array.toList_append, ext_list2, List.append_assoc]

theorem retOut_eq {s U : ByteArray} {n : Nat} (hn : n < lk (spans s)) (hU : isTgt U = true) :
    ∃ F1 F2 x f, spans s = F1 ++ x :: F2 ∧ x.kind = 4 ∧ lk F1 = n ∧ spans (retOut s n U) = F1 ++ { x with text := U, to_ := f x.to_ } :: F2.map (mv f) := by
  obtain ⟨F1, F2, x, e, h1, h2, h3, h4, h5, h6, h7, h8, b0, b1, h9⟩ := spans_ret hn hU
  refine ⟨F1, F2, x, shF e (x.frm + 2 + U.size), h1, h2, h3, ?_⟩
  rw [← h9]
  have hE : retOut s n U = retS s U x.frm e := by
    apply ba_ext
    have r1 := rep_plain s n U F1 [] 0 x.frm h4 (by omega) (fun p y q e hy => by
      rw [List.nil_append]
      have := lk_prefix (p := p) (q := q) hy
      rw [← e] at this; omega)
    have r2 := rep_plain s n U F2 (F1 ++ [x]) x.to_ s.size h8 (Nat.le_refl _) (fun p y q e hy => by
      rw [lk_append, lk_append, lk_cons, if_pos h2]; omega)
    rw [List.drop_zero, Nat.sub_zero] at r1
    show repP (retR s n U) [] (spans s) = _
    rw [h1, repP_append, r1, List.nil_append]
    simp only [repP]
    rw [r2, retR_here h2 h3, h5, retS_list]
    exact cat_eq (bt_get b0) (bt_get b1) (by omega)
  rw [hE]

/-- what the spans of the new text are, each held against its own -/
theorem led_at {s U : ByteArray} {n : Nat} (hn : n < lk (spans s)) (hU : isTgt U = true) :
    (spans (retOut s n U)).length = (spans s).length ∧ ∀ (i : Nat) (x : Sp), (spans s)[i]? = some x → ∃ f t : Nat, (spans (retOut s n U))[i]? = some { x with frm := f, to_ := t, text := if x.kind = 4 ∧ lk ((spans s).take i) = n then U else x.text } := by
  obtain ⟨F1, F2, x, f, h1, h2, h3, h4⟩ := retOut_eq hn hU
  rw [h1, h4]
  refine ⟨by simp, fun i y hy => ?_⟩
  rcases Nat.lt_trichotomy i F1.length with g | g | g
  · rw [List.getElem?_append_left g] at hy ⊢
    refine ⟨y.frm, y.to_, ?_⟩
    rw [hy, if_neg]
    rintro ⟨k4, hl⟩
    rw [List.take_append_of_le_length (by omega)] at hl
    obtain ⟨p, q, e, hp⟩ : ∃ p q, F1 = p ++ y :: q ∧ p = F1.take i := by
      refine ⟨F1.take i, F1.drop (i + 1), ?_, rfl⟩
      have := List.take_append_drop i F1
      rw [List.drop_eq_getElem_cons g] at this
      rw [List.getElem?_eq_getElem g] at hy
      injection hy with hy
      rw [hy] at this
      exact this.symm
    rw [← hp] at hl
    have := lk_prefix (p := p) (q := q) k4
    rw [← e] at this
    omega
  · subst g
    rw [List.getElem?_append_right (Nat.le_refl _), Nat.sub_self] at hy ⊢
    injection hy with hy
    subst hy
    refine ⟨x.frm, f x.to_, ?_⟩
    rw [if_pos ⟨h2, by rw [List.take_left']; exact h3; rfl⟩]
    rfl
  · rw [List.getElem?_append_right (by omega)] at hy ⊢
    obtain ⟨j, hj⟩ : ∃ j, i - F1.length = j + 1 := ⟨i - F1.length - 1, by omega⟩
    rw [hj, List.getElem?_cons_succ] at hy ⊢
    refine ⟨f y.frm, f y.to_, ?_⟩
    rw [List.getElem?_map, hy, if_neg]
    · rfl
    · rintro ⟨_, hl⟩
      rw [List.take_append, lk_append, List.take_of_length_le (by omega), hj, List.take_succ_cons, lk_cons, if_pos h2] at hl
      omega
end Go.Proofs.YtcbmddgafkoooaaDoor

namespace Go.Proofs.YtcbmddgafkoooaaDoor
open Go.RowKit

theorem retOut_at {s U : ByteArray} {n : Nat} {F1 F2 : List Sp} {x : Sp} (h : spans s = F1 ++ x :: F2) (h2 : x.kind = 4) (h3 : lk F1 = n) : retOut s n U = (s.extract 0 (x.frm + 2) ++ U) ++ s.extract (x.frm + 2 + x.text.size) s.size := by
  have hc := spans_cont s
  rw [h] at hc
  obtain ⟨p, c1, c2⟩ := cont_split hc
  have hp : x.frm = p := c2.1
  subst hp
  have c3 := c2.2.2
  have c4 := c2.2.1
  have c5 := (cont_le c3).1
  obtain ⟨e, g1, g2, g3, b0, b1, g6, _, g8⟩ := (spans_is s x (by rw [h]; simp)).e4 h2
  have hto : e + 2 ≤ x.to_ := by rcases g8 with ⟨c, _⟩ | ⟨c, _, _⟩ <;> omega
  have hts : x.frm + 2 + x.text.size = e := by rw [g3, ByteArray.size_extract]; omega
  have hE : retOut s n U = retS s U x.frm e := by
    apply ba_ext
    have r1 := rep_plain s n U F1 [] 0 x.frm c1 (by omega) (fun p y q e hy => by
      rw [List.nil_append]
      have := lk_prefix (p := p) (q := q) hy
      rw [← e] at this; omega)
    have r2 := rep_plain s n U F2 (F1 ++ [x]) x.to_ s.size c3 (Nat.le_refl _) (fun p y q e hy => by
      rw [lk_append, lk_append, lk_cons, if_pos h2]; omega)
    rw [List.drop_zero, Nat.sub_zero] at r1
    show repP (retR s n U) [] (spans s) = _
    rw [h, repP_append, r1, List.nil_append]
    simp only [repP]
    rw [r2, retR_here h2 h3, hts, retS_list]
    exact cat_eq (bt_get b0) (bt_get b1) (by omega)
  rw [hE, hts]
  rfl

/-- what RetargetOf answers, and Retarget too -/
def rtgV (s : ByteArray) (k : Int) (U : ByteArray) : Value :=
  if k < 0 ∨ (lk (spans s) : Int) ≤ k then .tuple #[.string ⟨#[]⟩, .int .i64 7]
  else if isTgt U = false then .tuple #[.string ⟨#[]⟩, .int .i64 3]
  else boundV (retOut s k.toNat U)
theorem retarget_any (s U : ByteArray) (k : Int) (w : World) (hs : s.size ≤ 1048576) (hU : U.size ≤ 1048576) :
    Calls Tryd.prog 9 #[.string s, .int .i64 k, .string U] w fun e w' => e = .returned (rtgV s k U) ∧ Below w.heap.size w w' := by
  unfold rtgV
  by_cases h0 : k < 0
  · rw [if_pos (.inl h0)]; exact retarget_neg s U k w h0
  · obtain ⟨n, rfl⟩ : ∃ n : Nat, k = n := ⟨k.toNat, by omega⟩
    by_cases h1 : lk (spans s) ≤ n
    · rw [if_pos (.inr (by omega))]; exact retarget_none s U n w hs h1
    · rw [if_neg (by omega)]
      cases h2 : isTgt U
      · rw [if_pos rfl]; exact retarget_name s U n w hs (by omega) h2 (by omega)
      · rw [if_neg (by decide)]
        exact retarget_yes s U n w hs (by omega) h2

set_option maxHeartbeats 4000000 in
set_option maxRecDepth 100000 in
theorem rretarget_any (s U : ByteArray) (p : Int) (w : World) (hs : s.size ≤ 1048576) (hU : U.size ≤ 1048576) :
    Calls Tryd.prog 28 #[.string s, .int .i64 p, .string U] w fun e w' => e = .returned (rtgV s p U) ∧ Below w.heap.size w w' := by
  obtain ⟨L, hL⟩ : ∃ L, L = spans s := ⟨_, rfl⟩
  have hll : L.length ≤ 1048576 := by rw [hL]; have := (cont_le (spans_cont s)).2; omega
  have HL := Lib.hid hL
  clear hL
  go_enter Tryd.func28, Tryd.ntmps28
  go_wp2_with fail
  refine (rspans_any s _ hs).mono ?_
  rintro e w2 ⟨v, rfl, hown, hb⟩
  rw [← HL.out] at hown
  obtain ⟨A, c, rfl, hnc, hA⟩ := own_shape hown
  have hz2' := hb.size
  go_wp2_with fail
  go_loopg [8, 15] L.length (fun gg s8 s15 wr => ∃ k : Nat, k + gg = L.length ∧ s15 = .int .i64 k ∧ s8 = .int .i64 (lk (L.take k) : Nat) ∧ Hid (p < 0 ∨ (lk (L.take k) : Int) ≤ p) ∧ Below w2.heap.size w2 wr)
  case atStart => exact ⟨0, by omega, rfl, rfl, by show _ ∨ _; rw [List.take_zero, lk_nil]; omega, Below.refl _ _⟩
  case round =>
    obtain ⟨k, hkg, rfl, rfl, HP, hbel⟩ := hrel
    by_cases hk : k < L.length
    · obtain ⟨g, rfl⟩ := hA (by omega)
      obtain ⟨x, hx⟩ : ∃ x, L[k]? = some x := ⟨_, List.getElem?_eq_getElem hk⟩
      obtain ⟨c0, c1, c2, c3, c4, c5, c6⟩ := sp_cells hown hbel hx
      have hxm : x ∈ spans s := by rw [← HL.out]; exact List.mem_of_getElem? hx
      obtain ⟨_, m1, m2⟩ := cont_mem (spans_cont s) x hxm
      have hts := (spans_ok s x hxm).1
      have hlp := spans_lkp s x hxm
      have hdec : spans s = L.take k ++ x :: L.drop (k + 1) := by
        rw [← HL.out]
        have e1 := List.take_append_drop k L
        rw [List.drop_eq_getElem_cons hk] at e1
        rw [List.getElem?_eq_getElem hk] at hx
        injection hx with hx
        rw [hx] at e1
        exact e1.symm
      have hnx : lk (L.take (k + 1)) = lk (L.take k) + (if x.kind = 4 then 1 else 0) := by
        rw [List.take_add_one, hx]
        show lk (L.take k ++ [x]) = _
        rw [lk_append, lk_cons, lk_nil, Nat.add_zero]
      have hlke : lk (spans s) = lk (L.take k) + ((if x.kind = 4 then 1 else 0) + lk (L.drop (k + 1))) := by rw [hdec, lk_append, lk_cons]
      have hlk2 : lk (L.take k) ≤ L.length := by
        have h2 := textsK_len 4 (L.take k)
        rw [textsK_lk] at h2
        have h3 : (L.take k).length ≤ L.length := by rw [List.length_take]; omega
        omega
      obtain ⟨m, hm⟩ : ∃ m, m = lk (L.take k) := ⟨_, rfl⟩
      rw [← hm] at HP hnx hlke hlk2 ⊢
      have ik : (k : Int) < (L.length : Int) := by omega
      have ik0 : (0 : Int) ≤ (k : Int) := by omega
      have hzz := hbel.size
      have HM := Lib.hid hm
      have HDEC := Lib.hid hdec
      have HLKE := Lib.hid hlke
      have im : (m : Int) ≤ 1048576 := by omega
      have im0 : (0 : Int) ≤ (m : Int) := by omega
      clear hx hxm hdec hm hlke
      cases hk4 : (x.kind == 4)
      · have k4 : ¬ x.kind = 4 := by simpa using hk4
        rw [if_neg k4, Nat.add_zero] at hnx
        have HNX := Lib.hid hnx
        have g4 : (x.kind != 4) = true := by simpa using k4
        clear k4 hnx hlp
        go_wp2_with fail
        go_roundg (L.length - (k + 1))
        case measure => omega
        case rel => exact ⟨k + 1, by omega, by go_num, by rw [HNX.out]; rfl, by rw [HNX.out]; exact HP, hbel.alloc (by omega) _⟩
      · have k4 : x.kind = 4 := by simpa using hk4
        rw [if_pos k4] at hnx
        have HNX := Lib.hid hnx
        have g4 : (x.kind != 4) = false := by rw [k4]; rfl
        have hlp2 := hlp k4
        have HK4 := Lib.hid k4
        clear k4 hnx hlp
        cases hmp : ((m : Int) == p)
        · have hne : (m : Int) ≠ p := by simpa using hmp
          have HP2 : Hid (p < 0 ∨ ((m + 1 : Nat) : Int) ≤ p) := by show _ ∨ _; have := HP.out; omega
          clear hne hlp2
          go_wp2_with fail
          go_roundg (L.length - (k + 1))
          case measure => omega
          case rel => exact ⟨k + 1, by omega, by go_num, by rw [HNX.out]; go_num, by rw [HNX.out]; exact HP2, hbel.alloc (by omega) _⟩
        · have hpe : (m : Int) = p := by simpa using hmp
          have hro := retOut_at (U := U) (n := m) HDEC.out HK4.out HM.out.symm
          have hV : rtgV s p U = if isTgt U = false then .tuple #[.string ⟨#[]⟩, .int .i64 3] else boundV (retOut s m U) := by
            have := HLKE.out
            rw [if_pos HK4.out] at this
            unfold rtgV
            rw [if_neg (by omega)]
            rw [show p.toNat = m by omega]
          have hosz : ((s.extract 0 (x.frm + 2) ++ U) ++ s.extract (x.frm + 2 + x.text.size) s.size).size ≤ 4194304 := by
            rw [ByteArray.size_append, ByteArray.size_append]
            have := ext_le s 0 (x.frm + 2)
            have := ext_le s (x.frm + 2 + x.text.size) s.size
            omega
          obtain ⟨o, hoo⟩ : ∃ o, o = retOut s m U := ⟨_, rfl⟩
          rw [← hoo] at hro hV
          rw [← hro] at hosz
          have HRO := Lib.hid hro.symm
          have HV0 := Lib.hid hV
          have i0 : (0 : Int) ≤ (x.frm : Int) := by omega
          have i1 : (x.frm : Int) + 2 ≤ (s.size : Int) := by omega
          have i2 : (0 : Int) ≤ (x.frm : Int) + 2 + (x.text.size : Int) := by omega
          have i3 : (x.frm : Int) + 2 + (x.text.size : Int) ≤ (s.size : Int) := by omega
          have i4 : (x.text.size : Int) ≤ 4294967280 := by omega
          have i5 : ((x.frm : Int) + 2 + (x.text.size : Int)).toNat = x.frm + 2 + x.text.size := by omega
          have i6 : ((x.frm : Int) + 2).toNat = x.frm + 2 := by omega
          have z1 : IntKind.i64.wrap ((x.frm : Int) + 2) = (x.frm : Int) + 2 := IntWalk.i64_in _ (by omega)
          have z2 : IntKind.i64.wrap ((x.frm : Int) + 2 + (x.text.size : Int)) = (x.frm : Int) + 2 + (x.text.size : Int) := IntWalk.i64_in _ (by omega)
          have q1 : (s.extract 0 (x.frm + 2)).size ≤ 1048576 := by have := ext_le s 0 (x.frm + 2); omega
          have q2 : (s.extract (x.frm + 2 + x.text.size) s.size).size ≤ 1048576 := by have := ext_le s (x.frm + 2 + x.text.size) s.size; omega
          have HB : Hid (Below w.heap.size w wr) := hb.trans (hbel.mono hz2')
          clear hpe hro hV hoo hlp2
          go_upto_region 7 with (fail)
          go_quiet (fail)
          rw [HRO.out]
          have HB2 : Hid (Below w.heap.size w ((wr.alloc (.cells #[.int .i64 x.kind, .int .i64 x.frm, .int .i64 x.to_, .string x.text, .string x.show_, .int .i64 x.id, .bool x.strong] 29)).drewN nq)) := bdrew (HB.out.alloc (by omega) _) nq
          clear z1 z2 hbel hb hown c0 c1 c2 c3 c4 c5 c6
          go_wp2_with fail
          refine (rIsTarget_any U _ (by omega)).mono ?_
          rintro e w3 ⟨rfl, hb3⟩
          have HB3 : Hid (Below w.heap.size w w3) := HB2.out.trans (hb3.mono (by have := HB2.out.size; exact this))
          clear hb3
          cases ht : isTgt U
          · have HV : Hid (rtgV s p U = .tuple #[.string ⟨#[]⟩, .int .i64 3]) := by show _ = _; rw [HV0.out, if_pos ht]
            clear ht
            go_wp2_with fail
            go_ret2
            exact ⟨by rw [HV.out]; rfl, HB3.out⟩
          · have hv1 : rtgV s p U = boundV o := by rw [HV0.out, if_neg (by rw [ht]; decide)]
            clear ht
            by_cases hbig : 2000 < o.size
            · have HV : Hid (rtgV s p U = .tuple #[.string ⟨#[]⟩, .int .i64 4]) := by show _ = _; rw [hv1]; unfold boundV; rw [if_pos hbig]
              have gb : (2000 : Int) < (o.size : Int) := by omega
              clear hv1 hbig
              go_wp2_with fail
              go_ret2
              exact ⟨by rw [HV.out]; rfl, HB3.out⟩
            · have HV : Hid (rtgV s p U = .tuple #[.string o, .int .i64 0]) := by show _ = _; rw [hv1]; unfold boundV; rw [if_neg hbig]
              have gb : (o.size : Int) ≤ 2000 := by omega
              clear hv1 hbig
              go_wp2_with fail
              go_ret2
              exact ⟨by rw [HV.out]; rfl, HB3.out⟩
    · obtain rfl : k = L.length := by omega
      have hP := HP.out
      rw [List.take_length, HL.out] at hP
      have HV : Hid (rtgV s p U = .tuple #[.string ⟨#[]⟩, .int .i64 7]) := by show _ = _; unfold rtgV; rw [if_pos hP]
      have HB : Hid (Below w.heap.size w wr) := hb.trans (hbel.mono hz2')
      clear hP hb hbel hown
      go_wp2_with fail
      go_ret2
      exact ⟨by rw [HV.out]; rfl, HB.out⟩

set_option maxHeartbeats 1000000 in
theorem hasBracket_any (s : ByteArray) (w : World) (hs : s.size ≤ 4294967280) :
    Calls Tryd.prog 27 #[.string s] w fun e w' => e = .returned (.bool (decide (upto brB s 0 < s.size))) ∧ w = w' := by
  go_enter Tryd.func27, Tryd.ntmps27
  go_wp2
  go_loop [6] (fun i => ∃ k : Nat, k ≤ s.size ∧ i = .int .i64 k ∧ Hid (upto brB s k = upto brB s 0)) (fun i => s.size - (intOf i).toNat)
  case atStart => exact ⟨0, Nat.zero_le _, rfl, rfl⟩
  case round =>
    obtain ⟨k, hk, rfl, hu⟩ := hrel
    by_cases hlt : k < s.size
    · have i0 : (0 : Int) ≤ (k : Int) := by omega
      have i1 : (k : Int) < (s.size : Int) := by omega
      have hb := bt_at hlt
      cases q1 : ((s[k].toNat : Int) == 91)
      · cases q2 : ((s[k].toNat : Int) == 93)
        · have HU : Hid (upto brB s (k + 1) = upto brB s 0) := (upto_go hlt (by
            cases c : brB (bt s k) with
            | false => rfl
            | true => rw [hb] at c; rcases (brB_iff _).1 c with c | c <;> (simp at q1 q2; omega))).symm.trans hu.out
          clear hb
          go_wp2_with fail
          go_round
          case rel => exact ⟨k + 1, by omega, by go_num, HU⟩
          case measure => simp [intOf]; omega
        · have HV : Hid (true = decide (upto brB s 0 < s.size)) := by
            show _ = _
            rw [← hu.out, upto_stop (by rw [hb]; exact (brB_iff _).2 (.inr (by simpa using q2)))]
            simp [hlt]
          clear hb
          go_wp2_with fail
          go_ret
          exact ⟨ret_boolS HV.out, rfl⟩
      · have HV : Hid (true = decide (upto brB s 0 < s.size)) := by
          show _ = _
          rw [← hu.out, upto_stop (by rw [hb]; exact (brB_iff _).2 (.inl (by simpa using q1)))]
          simp [hlt]
        clear hb
        go_wp2_with fail
        go_ret
        exact ⟨ret_boolS HV.out, rfl⟩
    · obtain rfl : k = s.size := by omega
      have HV : Hid (false = decide (upto brB s 0 < s.size)) := by
        show _ = _
        rw [← hu.out, upto_out (Nat.le_refl _)]
        simp
      go_wp2_with fail
      go_ret
      exact ⟨ret_boolS HV.out, rfl⟩

theorem brS_asc : Asc ⟨#[91, 93]⟩ := by
  intro i h
  have : i < 2 := h
  match i, this with
  | 0, _ => exact (by decide : (91 : UInt8).toNat < 128)
  | 1, _ => exact (by decide : (93 : UInt8).toNat < 128)
/-- what LinkText answers -/
def ltV (t sh : ByteArray) : Value :=
  if isTgt t = false then .tuple #[.string ⟨#[]⟩, .int .i64 3]
  else if upto brB sh 0 < sh.size then .tuple #[.string ⟨#[]⟩, .int .i64 1]
  else if sh.size = 0 then .tuple #[.string (⟨#[91, 91]⟩ ++ t ++ ⟨#[93, 93]⟩), .int .i64 0]
  else .tuple #[.string (⟨#[91, 91]⟩ ++ t ++ ⟨#[124]⟩ ++ sh ++ ⟨#[93, 93]⟩), .int .i64 0]
set_option maxHeartbeats 1000000 in
set_option maxRecDepth 100000 in
theorem linkText_any (t sh : ByteArray) (w : World) (ht : t.size ≤ 1048576) (hs : sh.size ≤ 1048576) :
    Calls Tryd.prog 25 #[.string t, .string sh] w fun e w' => e = .returned (ltV t sh) ∧ Below w.heap.size w w' := by
  cases h1 : isTgt t
  · have HV : Hid (ltV t sh = .tuple #[.string ⟨#[]⟩, .int .i64 3]) := by show _ = _; unfold ltV; rw [if_pos h1]
    go_enter Tryd.func25, Tryd.ntmps25
    go_wp2_with fail
    refine (isTarget_any t _ (by omega)).mono ?_
    rintro e w1 ⟨rfl, rfl⟩
    rw [h1]
    go_wp2_with fail
    go_ret2
    exact ⟨by rw [HV.out]; rfl, Below.refl _ _⟩
  · cases h2 : decide (upto brB sh 0 < sh.size)
    · have n2 := of_decide_eq_false h2
      by_cases h3 : sh.size = 0
      · have HV : Hid (ltV t sh = .tuple #[.string (⟨#[91, 91]⟩ ++ t ++ ⟨#[93, 93]⟩), .int .i64 0]) := by show _ = _; unfold ltV; rw [if_neg (by rw [h1]; decide), if_neg n2, if_pos h3]
        have hem : sh.toList.isEmpty = true := by rw [Lib.toList_data, empty_of h3]; rfl
        have H2 : Hid (decide (upto (isAny (⟨#[91, 93]⟩ : ByteArray).data.toList) sh 0 < sh.size) = false) := h2
        clear n2 h3 h2
        go_enter Tryd.func25, Tryd.ntmps25
        go_wp2_with fail
        refine (isTarget_any t _ (by omega)).mono ?_
        rintro e w1 ⟨rfl, rfl⟩
        rw [h1]
        go_wp2_with fail
        refine (containsAny_asc ⟨#[91, 93]⟩ brS_asc (by decide) (by decide) sh _ (by omega)).mono ?_
        rintro e w1 ⟨rfl, hb⟩
        rw [H2.out]
        have HB := Lib.hid hb
        clear hb
        go_wp2_with fail
        go_ret2
        exact ⟨by rw [HV.out]; rfl, HB.out⟩
      · have HV : Hid (ltV t sh = .tuple #[.string (⟨#[91, 91]⟩ ++ t ++ ⟨#[124]⟩ ++ sh ++ ⟨#[93, 93]⟩), .int .i64 0]) := by show _ = _; unfold ltV; rw [if_neg (by rw [h1]; decide), if_neg n2, if_neg h3]
        have hem : sh.toList.isEmpty = false := notEmpty_of (by omega)
        have H2 : Hid (decide (upto (isAny (⟨#[91, 93]⟩ : ByteArray).data.toList) sh 0 < sh.size) = false) := h2
        clear n2 h3 h2
        go_enter Tryd.func25, Tryd.ntmps25
        go_wp2_with fail
        refine (isTarget_any t _ (by omega)).mono ?_
        rintro e w1 ⟨rfl, rfl⟩
        rw [h1]
        go_wp2_with fail
        refine (containsAny_asc ⟨#[91, 93]⟩ brS_asc (by decide) (by decide) sh _ (by omega)).mono ?_
        rintro e w1 ⟨rfl, hb⟩
        rw [H2.out]
        have HB := Lib.hid hb
        clear hb
        go_wp2_with fail
        go_ret2
        exact ⟨by rw [HV.out]; rfl, HB.out⟩
    · have HV : Hid (ltV t sh = .tuple #[.string ⟨#[]⟩, .int .i64 1]) := by show _ = _; unfold ltV; rw [if_neg (by rw [h1]; decide), if_pos (of_decide_eq_true h2)]
      have H2 : Hid (decide (upto (isAny (⟨#[91, 93]⟩ : ByteArray).data.toList) sh 0 < sh.size) = true) := h2
      clear h2
      go_enter Tryd.func25, Tryd.ntmps25
      go_wp2_with fail
      refine (isTarget_any t _ (by omega)).mono ?_
      rintro e w1 ⟨rfl, rfl⟩
      rw [h1]
      go_wp2_with fail
      refine (containsAny_asc ⟨#[91, 93]⟩ brS_asc (by decide) (by decide) sh _ (by omega)).mono ?_
      rintro e w1 ⟨rfl, hb⟩
      rw [H2.out]
      have HB := Lib.hid hb
      clear hb
      go_wp2_with fail
      go_ret2
      exact ⟨by rw [HV.out]; rfl, HB.out⟩
end Go.Proofs.YtcbmddgafkoooaaDoor
