/-
  DERIVED. The walks of strings.Builder's copyCheck, WriteString, String, of a builder that lies ahead of the rows that it is given. Conditions: Go's own limit. By an AI agent (after the shelf's own proofs, turned to this program).
  The walks of strings.Builder's WriteString and String. Conditions: Go's own limit. By an AI agent (after the shelf's own proofs, turned to this program).
  The walk of strings.Builder's String of whatever it holds. Conditions: none. By an AI agent (after the shelf's own proofs, turned to this program).
  The walk of text.each, for whatever closure keeps a relation. Conditions: the text's size.
  The walk of text.plainIn. Conditions: a span that lies in the text.
  The walk of the closure in text.PlainOf. Conditions: a span that lies in the text.
  The walk of text.PlainOf. Conditions: the text's size.
  The walks of text.textsOf and of the closure in it. Conditions: the text's size.
  The walk of text.Tags. Conditions: the text's size.
  By an AI agent.
-/
import Derived.Test.YtdabgfjglkoadaaGreatDoorKd26
import Derived.Lib.Builder
import Derived.Lib.AppendStr
import Derived.Lib.UnsafeStr
import Derived.Laws.Externs
import Derived.Shelf.Abstract
import Derived.Test.YtdabgfjglkoadaaGreatDoorKd27
namespace Go.Proofs.YtdabgfjglkoadaaGreatDoor
open Go.RowKit

/-- a builder in block b; its bytes lie from block B on -/
def Bld (b B : Nat) (bs : List Value) (w : World) : Prop :=
  b < B ∧ ∃ p v, (p = .pointer none ∨ p = .pointer (some ⟨b, 0, none⟩)) ∧ w.heap[b]? = some (.cells #[p, v] 63 (0, 0)) ∧ w.ownsRow B 5 1 v bs.length bs

/-- nothing turned but block b and blocks from B on -/
def Keep (b B : Nat) (w w' : World) : Prop := Below b w w' ∧ ∀ k, k < B → k ≠ b → w'.heap[k]? = w.heap[k]?
theorem Keep.refl (b B : Nat) (w : World) : Keep b B w w := ⟨Below.refl _ _, fun _ _ _ => rfl⟩
theorem Keep.trans {b B : Nat} {a w w' : World} (h : Keep b B a w) (k : Keep b B w w') : Keep b B a w' := ⟨h.1.trans k.1, fun i hi hne => (k.2 i hi hne).trans (h.2 i hi hne)⟩
theorem Keep.alloc {b B : Nat} {a w : World} (h : Keep b B a w) (hB : B ≤ w.heap.size) (hb : b ≤ w.heap.size) (o : Obj) : Keep b B a (w.alloc o) :=
  ⟨h.1.alloc hb o, fun i hi hne => (Below.heap_alloc w o i (by omega)).trans (h.2 i hi hne)⟩
theorem Keep.cell {b B : Nat} {a w : World} (h : Keep b B a w) {p : Addr} (hp : p.block < B) (hne : p.block ≠ b) : w.cell? p = a.cell? p := World.cell?_of_block (h.2 p.block hp hne)
theorem Keep.frozen {b B : Nat} {a w : World} (h : Keep b B a w) {p : Addr} (hp : p.block < B) (hne : p.block ≠ b) : w.frozen? p = a.frozen? p := World.frozen?_of_block (h.2 p.block hp hne)
theorem Bld.alloc {b B : Nat} {bs : List Value} {w : World} (h : Bld b B bs w) (hB : B ≤ w.heap.size) (o : Obj) : Bld b B bs (w.alloc o) := by
  obtain ⟨hb, p, v, hp, hbk, hown⟩ := h
  exact ⟨hb, p, v, hp, (Below.heap_alloc w o b (by omega)).trans hbk, hown.alloc o⟩
theorem Bld.fresh {b B : Nat} {w : World} (hb : b < B) (h : w.heap[b]? = some (.cells #[.pointer none, .slice none 0 0] 63 (0, 0))) : Bld b B [] w :=
  ⟨hb, _, _, .inl rfl, h, World.ownsRow_nil _ _ _ _⟩

end Go.Proofs.YtdabgfjglkoadaaGreatDoor
namespace Go.Proofs.YtdabgfjglkoadaaGreatDoor
open Go.RowKit

end Go.Proofs.YtdabgfjglkoadaaGreatDoor
namespace Go.Proofs.YtdabgfjglkoadaaGreatDoor
open Go.RowKit

end Go.Proofs.YtdabgfjglkoadaaGreatDoor
namespace Go.Proofs.YtdabgfjglkoadaaGreatDoor
open Go.RowKit

set_option maxHeartbeats 1000000 in
set_option maxRecDepth 100000 in
theorem each_any (s : ByteArray) (f : FuncId) (caps : Array Value) (w : World) (hs : s.size ≤ 4294967280) (I : World → List Sp → World → Prop) (he : ∀ args w, (callFunc f args).run Tryz.prog w = .ok (.enter f args) w)
    (h0 : ∀ w1, Below w.heap.size w w1 → I w1 [] w1)
    (hal : ∀ w1 l w2 o, Below w.heap.size w w1 → I w1 l w2 → I w1 l (w2.alloc o))
    (hrd : ∀ w1 l w2, I w1 l w2 → w1.heap.size ≤ w2.heap.size ∧ ∀ p : Addr, w.heap.size ≤ p.block → p.block < w1.heap.size → w2.cell? p = w1.cell? p)
    (hst : ∀ w1 l x w2, Below w.heap.size w w1 → I w1 l w2 → (∃ r, spans s = l ++ x :: r) → Calls Tryz.prog f (#[spV x] ++ caps) w2 fun e w3 => e = .returned (.tuple #[]) ∧ I w1 (l ++ [x]) w3) :
    Calls Tryz.prog 95 #[.string s, .func (.func f) #[] caps] w fun e w' => e = .returned (.tuple #[]) ∧ ∃ w1, Below w.heap.size w w1 ∧ I w1 (spans s) w' := by
  have H0 := Lib.hid h0
  have HAL := Lib.hid hal
  have HRD := Lib.hid hrd
  have HST := Lib.hid hst
  clear h0 hal hrd hst
  go_enter Tryz.func95, Tryz.ntmps95
  go_wp2_with fail
  refine (spans_any s _ hs).mono ?_
  rintro e w1 ⟨v, rfl, hown, hb⟩
  obtain ⟨A, c, rfl, hnc, hA⟩ := own_shape hown
  obtain ⟨L, hL⟩ : ∃ L, L = spans s := ⟨_, rfl⟩
  rw [← hL] at hown hnc hA
  have HL := Lib.hid hL
  rw [← hL]
  clear hL
  have hlen : L.length ≤ 4294967280 := by
    rw [HL.out]; have := (cont_le (spans_cont s)).2; omega
  go_wp2
  go_loopg [9] L.length (fun gg s9 wr => ∃ k : Nat, k + gg = L.length ∧ s9 = .int .i64 k ∧ Hid (I w1 (L.take k) wr))
  case atStart => exact ⟨0, by omega, rfl, by rw [List.take_zero]; exact H0.out w1 hb⟩
  case round =>
    obtain ⟨k, hkg, rfl, HI⟩ := hrel
    by_cases hk : k < L.length
    · obtain ⟨g, rfl⟩ := hA (by omega)
      obtain ⟨x, hx⟩ : ∃ x, L[k]? = some x := ⟨_, List.getElem?_eq_getElem hk⟩
      obtain ⟨z1, z2⟩ := HRD.out w1 _ wr HI.out
      have hg := hown.lt g rfl
      obtain ⟨c0, c1, c2, c3, c4, c5, c6⟩ : wr.cell? ⟨g, k * 7, none⟩ = some (.int .i64 x.kind) ∧ wr.cell? ⟨g, k * 7 + 1, none⟩ = some (.int .i64 x.frm) ∧ wr.cell? ⟨g, k * 7 + 2, none⟩ = some (.int .i64 x.to_) ∧ wr.cell? ⟨g, k * 7 + 3, none⟩ = some (.string x.text) ∧
          wr.cell? ⟨g, k * 7 + 4, none⟩ = some (.string x.show_) ∧ wr.cell? ⟨g, k * 7 + 5, none⟩ = some (.int .i64 x.id) ∧ wr.cell? ⟨g, k * 7 + 6, none⟩ = some (.bool x.strong) := by
        obtain ⟨c0, c1, c2, c3, c4, c5, c6⟩ := sp_cells hown (Below.refl _ _) hx
        refine ⟨?_, ?_, ?_, ?_, ?_, ?_, ?_⟩
        all_goals first
          | exact (z2 ⟨g, k * 7, none⟩ hg.1 hg.2).trans c0
          | exact (z2 ⟨g, k * 7 + 1, none⟩ hg.1 hg.2).trans c1
          | exact (z2 ⟨g, k * 7 + 2, none⟩ hg.1 hg.2).trans c2
          | exact (z2 ⟨g, k * 7 + 3, none⟩ hg.1 hg.2).trans c3
          | exact (z2 ⟨g, k * 7 + 4, none⟩ hg.1 hg.2).trans c4
          | exact (z2 ⟨g, k * 7 + 5, none⟩ hg.1 hg.2).trans c5
          | exact (z2 ⟨g, k * 7 + 6, none⟩ hg.1 hg.2).trans c6
      have HX := Lib.hid hx
      have ik : (k : Int) < (L.length : Int) := by omega
      have ik0 : (0 : Int) ≤ (k : Int) := by omega
      have HC := fun o => HST.out w1 (L.take k) x (wr.alloc o) hb (HAL.out w1 _ wr o hb HI.out) ⟨L.drop (k + 1), by
        rw [← HL.out]
        have e1 := List.take_append_drop k L
        rw [List.drop_eq_getElem_cons hk] at e1
        rw [List.getElem?_eq_getElem hk] at hx
        injection hx with hx
        rw [hx] at e1
        exact e1.symm⟩
      have HC := Lib.hid HC
      clear hx z1 z2
      go_wp2_with fail
      refine (HC.out _).mono ?_
      rintro e w3 ⟨rfl, hi3⟩
      have HI3 : Hid (I w1 (L.take (k + 1)) w3) := by
        show I _ _ _
        rw [List.take_add_one, HX.out]; exact hi3
      clear hi3 HC HI
      go_wp2
      go_roundg (L.length - (k + 1))
      case measure => omega
      case rel => exact ⟨k + 1, by omega, by go_num, HI3⟩
    · obtain rfl : k = L.length := by omega
      have HE : Hid (∃ w1, Below w.heap.size w w1 ∧ I w1 (spans s) wr) := ⟨w1, hb, by rw [← HL.out]; have := HI.out; rwa [List.take_length] at this⟩
      clear HI
      go_wp2
      go_end0
      exact ⟨rfl, HE.out⟩
end Go.Proofs.YtdabgfjglkoadaaGreatDoor
namespace Go.Proofs.YtdabgfjglkoadaaGreatDoor
open Go.RowKit

/-- what a span shows -/
def shown (s : ByteArray) (x : Sp) : ByteArray :=
  if x.kind = 2 ∨ x.kind = 3 then x.text
  else if x.kind = 4 then (if x.show_.size = 0 then x.text else x.show_)
  else if x.kind = 7 then noB
  else s.extract x.frm x.to_
end Go.Proofs.YtdabgfjglkoadaaGreatDoor
namespace Go.Proofs.YtdabgfjglkoadaaGreatDoor
open Go.RowKit

theorem Bld.below {b B : Nat} {bs : List Value} {w w' : World} (h : Bld b B bs w) (hB : B ≤ w.heap.size) (hb : Below w.heap.size w w') : Bld b B bs w' := by
  obtain ⟨h1, p, v, hp, hbk, hown⟩ := h
  exact ⟨h1, p, v, hp, (hb.block b (by omega)).trans hbk, own_below hown hb⟩
theorem Keep.below {b B : Nat} {a w w' : World} (h : Keep b B a w) (hB : B ≤ w.heap.size) (hbB : b < B) (hb : Below w.heap.size w w') : Keep b B a w' :=
  ⟨h.1.trans (hb.mono (by omega)), fun k hk hne => (hb.block k (by omega)).trans (h.2 k hk hne)⟩

end Go.Proofs.YtdabgfjglkoadaaGreatDoor
namespace Go.Proofs.YtdabgfjglkoadaaGreatDoor
open Go.RowKit

/-- what is shown of spans, and of a text -/
def plainL (s : ByteArray) (l : List Sp) : List UInt8 := l.flatMap fun x => (shown s x).data.toList
def plain (s : ByteArray) : ByteArray := ⟨(plainL s (spans s)).toArray⟩
end Go.Proofs.YtdabgfjglkoadaaGreatDoor
namespace Go.Proofs.YtdabgfjglkoadaaGreatDoor
open Go.RowKit

/-- a slice of one-cell elements in a variable of its own (block b); its rows lie from block B on -/
def Acc (t e : TypeId) (b B : Nat) (xs : List Value) (w : World) : Prop := b < B ∧ ∃ v, w.heap[b]? = some (.cells #[v] t (0, 0)) ∧ w.ownsRow B e 1 v xs.length xs
theorem Acc.alloc {t e : TypeId} {b B : Nat} {xs : List Value} {w : World} (h : Acc t e b B xs w) (hB : B ≤ w.heap.size) (o : Obj) : Acc t e b B xs (w.alloc o) := by
  obtain ⟨hb, v, hbk, hown⟩ := h
  exact ⟨hb, v, (Below.heap_alloc w o b (by omega)).trans hbk, hown.alloc o⟩
theorem Acc.fresh {t e : TypeId} {b B : Nat} {w : World} (hb : b < B) (h : w.heap[b]? = some (.cells #[.slice none 0 0] t (0, 0))) : Acc t e b B [] w := ⟨hb, _, h, World.ownsRow_nil _ _ _ _⟩
theorem Acc.below {t e : TypeId} {b B : Nat} {xs : List Value} {w w' : World} (h : Acc t e b B xs w) (hB : B ≤ w.heap.size) (hb : Below w.heap.size w w') : Acc t e b B xs w' := by
  obtain ⟨h1, v, hbk, hown⟩ := h
  exact ⟨h1, v, (hb.block b (by omega)).trans hbk, own_below hown hb⟩
/-- the variable's slice is stored anew behind an append -/
theorem keep_store {b B : Nat} {w w2 : World} {row : Option Nat} (hg : w.grownBy w2 row) (hB : B ≤ w.heap.size) (hr : ∀ k, row = some k → B ≤ k) (hbB : b < B) (i : Nat) (u : Value) : Keep b B w (w2.setCell ⟨b, i, none⟩ u) :=
  ⟨((Below.refl b _).grown hg (by omega) (fun k hk => by have := hr k hk; omega)).setCell (p := ⟨b, i, none⟩) (Nat.le_refl _) _, fun k hk hne' => (Below.heap_setCell _ _ _ _ (fun e => hne' (by simp [e]))).trans (hg.block k (by omega) (fun e => by have := hr k e.symm; omega))⟩
theorem acc_store {t e : TypeId} {b B n : Nat} {xs : List Value} {v v2 : Value} {w w2 : World} {row : Option Nat} (hg : w.grownBy w2 row) (hB : B ≤ w.heap.size) (hr : ∀ k, row = some k → B ≤ k) (hbB : b < B)
    (hbk : w.heap[b]? = some (.cells #[v] t (0, 0))) (hn : n = xs.length) (hown : w2.ownsRow B e 1 v2 n xs) : Acc t e b B xs (w2.setCell ⟨b, 0, none⟩ v2) := by
  subst hn
  refine ⟨hbB, v2, ?_, ownsRow_setCell_below hown hbB _⟩
  have h2 : w2.heap[b]? = some (.cells #[v] t (0, 0)) := (hg.block b (by omega) (fun e => by have := hr b e.symm; omega)).trans hbk
  simp [World.setCell, Array.getElem?_modify, h2]

/-- the variable itself behind an append -/
theorem after_app {t : TypeId} {b B : Nat} {v : Value} {w w2 : World} {o1 o2 : Obj} {row : Option Nat} (hbk : w.heap[b]? = some (.cells #[v] t (0, 0))) (hg : ((w.alloc o1).alloc o2).grownBy w2 row) (hr : ∀ k, row = some k → B ≤ k) (hbB : b < B) (hBw : B ≤ w.heap.size) :
    w2.cell? ⟨b, 0, none⟩ = some v ∧ w2.frozen? ⟨b, 0, none⟩ = false := by
  have h2 : w2.heap[b]? = some (.cells #[v] t (0, 0)) := (hg.block b (by simp; omega) (fun e => by have := hr b e.symm; omega)).trans ((Below.heap_alloc _ o2 b (by simp; omega)).trans ((Below.heap_alloc w o1 b (by omega)).trans hbk))
  exact ⟨by rw [Lib.cell_of_heap h2]; rfl, Lib.frozen_of_heap h2 0⟩

theorem str_info : (Tryz.prog.info? 9).map (fun i => (i.zero, i.size, i.bytes)) = some (some (.string ⟨#[]⟩), 1, 16) := by kernel_rfl
theorem spV_eq (x : Sp) : spV x = .agg #[.int .i64 x.kind, .int .i64 x.frm, .int .i64 x.to_, .string x.text, .string x.show_, .int .i64 x.id, .bool x.strong] := rfl

set_option maxHeartbeats 1000000 in
set_option maxRecDepth 100000 in
theorem textsOf1_no (x : Sp) (k : Int) (w : World) (kb : Nat) (q : Value) (hk : w.cell? ⟨kb, 0, none⟩ = some (.int .i64 k)) (hkb : kb < w.heap.size) (hn : (x.kind == k) = false) :
    Calls Tryz.prog 96 #[spV x, .pointer (some ⟨kb, 0, none⟩), q] w fun e w' => e = .returned (.tuple #[]) ∧ Below w.heap.size w w' := by
  have hkA : ∀ o, (w.alloc o).cell? ⟨kb, 0, none⟩ = some (.int .i64 k) := fun o => (World.cell?_alloc_lt w o _ hkb).trans hk
  clear hk
  rw [spV_eq]
  go_enter Tryz.func96, Tryz.ntmps96
  go_wp2
  go_end0
  exact ⟨rfl, (Below.refl _ _).alloc (Nat.le_refl _) _⟩

set_option maxHeartbeats 1000000 in
set_option maxRecDepth 100000 in
theorem textsOf1_yes (x : Sp) (k : Int) (w : World) (kb lb B : Nat) (ts : List Value) (hA : Acc 47 9 lb B ts w) (hk : w.cell? ⟨kb, 0, none⟩ = some (.int .i64 k)) (hkb : kb < w.heap.size) (hBw : B ≤ w.heap.size) (hlen : ts.length ≤ 4294967280) (hn : (x.kind == k) = true) :
    Calls Tryz.prog 96 #[spV x, .pointer (some ⟨kb, 0, none⟩), .pointer (some ⟨lb, 0, none⟩)] w fun e w' => e = .returned (.tuple #[]) ∧ Acc 47 9 lb B (ts ++ [.string x.text]) w' ∧ Keep lb B w w' := by
  obtain ⟨i0, hi, hz0, hz1, hz2⟩ := info_parts str_info
  have hkA : ∀ o, (w.alloc o).cell? ⟨kb, 0, none⟩ = some (.int .i64 k) := fun o => (World.cell?_alloc_lt w o _ hkb).trans hk
  obtain ⟨hlB, v, hbk, hown⟩ := hA
  obtain ⟨A, c, rfl, _⟩ := own_reads hown
  have hlA : ∀ o, (w.alloc o).cell? ⟨lb, 0, none⟩ = some (.slice A ts.length c) := fun o => (World.cell?_alloc_lt w o _ (by show lb < _; omega)).trans (by rw [Lib.cell_of_heap hbk]; rfl)
  have HBK := Lib.hid hbk
  have hlt := hown.lt
  have HLT := Lib.hid hlt
  clear hk hbk hlt
  rw [spV_eq]
  go_enter Tryz.func96, Tryz.ntmps96
  go_wp2_with (at_builtin; refine wpList_append_own_at _ rfl _ _ 47 rfl B 9 i0 (.string ⟨#[]⟩) 1 16 Tryz.underlying47 hi hz0 hz1 hz2 rfl (by decide) _ ts.length _ rfl ((hown.alloc _).alloc _) ⟨w.heap.size + 1, 0, none⟩ 1 1 [.string x.text] rfl rfl (cells_new _ _ [.string x.text] _ (by simp)) (by intro u hu; simp at hu; subst hu; rfl) (by unfold maxLen; omega) (by omega) (by simp; omega) ?_; intro v2 w2 hown2 hg2 _ _; obtain ⟨A2, c2, rfl, _⟩ := own_reads hown2; obtain ⟨d2, f2⟩ := after_app HBK.out hg2 (fun g h => (HLT.out g h).1) hlB hBw)
  have hr : ∀ g, (Value.slice A ts.length c).ownBlock = some g → B ≤ g := fun g h => (HLT.out g h).1
  have R1 := acc_store (n := ts.length + 1) (xs := ts ++ [.string x.text]) hg2 (by simp; omega) hr hlB (((Below.heap_alloc _ _ lb (by simp; omega)).trans (Below.heap_alloc w _ lb (by omega))).trans HBK.out) (by simp) hown2
  have R2 := (((Keep.refl lb B w).alloc hBw (by omega) (.cells #[.int .i64 x.kind, .int .i64 x.frm, .int .i64 x.to_, .string x.text, .string x.show_, .int .i64 x.id, .bool x.strong] 129)).alloc (by simp; omega) (by simp; omega) (.cells #[.string x.text] 9)).trans (keep_store hg2 (by simp; omega) hr hlB 0 (.slice A2 (ts.length + 1) c2))
  have R1 := Lib.hid R1
  have R2 := Lib.hid R2
  clear hg2 hown2 hr
  go_wp2
  go_end0
  exact ⟨rfl, R1.out, R2.out⟩

/-- the texts of the spans of a kind -/
def textsK (k : Int) (l : List Sp) : List Value := l.flatMap fun x => if x.kind = k then [.string x.text] else []
theorem textsK_snoc (k : Int) (l : List Sp) (x : Sp) : textsK k (l ++ [x]) = textsK k l ++ (if x.kind = k then [.string x.text] else []) := by simp [textsK]
theorem textsK_len (k : Int) : ∀ l : List Sp, (textsK k l).length ≤ l.length
  | [] => Nat.le_refl _
  | x :: l => by
    have := textsK_len k l
    unfold textsK at this ⊢
    rw [List.flatMap_cons, List.length_append, List.length_cons]
    split
    · rw [List.length_singleton]; omega
    · rw [List.length_nil]; omega
theorem textsOf1_any (x : Sp) (k : Int) (w : World) (kb lb B : Nat) (ts : List Value) (hA : Acc 47 9 lb B ts w) (hk : w.cell? ⟨kb, 0, none⟩ = some (.int .i64 k)) (hkb : kb < w.heap.size) (hBw : B ≤ w.heap.size) (hlen : ts.length ≤ 4294967280) :
    Calls Tryz.prog 96 #[spV x, .pointer (some ⟨kb, 0, none⟩), .pointer (some ⟨lb, 0, none⟩)] w fun e w' => e = .returned (.tuple #[]) ∧ Acc 47 9 lb B (ts ++ (if x.kind = k then [.string x.text] else [])) w' ∧ Keep lb B w w' := by
  by_cases h : x.kind = k
  · rw [if_pos h]
    exact textsOf1_yes x k w kb lb B ts hA hk hkb hBw hlen (by simpa using h)
  · rw [if_neg h]
    refine (textsOf1_no x k w kb _ hk hkb (by simpa using h)).mono fun e w' ⟨h1, h2⟩ => ⟨h1, ?_, ?_⟩
    · rw [List.append_nil]; exact hA.below hBw h2
    · exact (Keep.refl _ _ _).below hBw hA.1 h2

set_option maxHeartbeats 1000000 in
set_option maxRecDepth 100000 in
theorem textsOf_any (s : ByteArray) (k : Int) (w : World) (hs : s.size ≤ 1048576) :
    Calls Tryz.prog 76 #[.string s, .int .i64 k] w fun e w' => ∃ v, e = .returned v ∧ w'.ownsRow w.heap.size 9 1 v (textsK k (spans s)).length (textsK k (spans s)) ∧ Below w.heap.size w w' := by
  have he : ∀ args w, (callFunc 96 args).run Tryz.prog w = .ok (.enter 96 args) w := Go.Proofs.enters_of Tryz.func96 (by kernel_rfl) rfl
  obtain ⟨W, hW⟩ : ∃ W : World, W = (w.alloc (.cells #[.int .i64 k] 3)).alloc (.cells #[.slice none 0 0] 47) := ⟨_, rfl⟩
  have hWs : W.heap.size = w.heap.size + 2 := by rw [hW]; simp
  have hWb : W.heap[w.heap.size + 1]? = some (.cells #[.slice none 0 0] 47 (0, 0)) := by
    have := heap_alloc_new (w.alloc (.cells #[.int .i64 k] 3)) (.cells #[.slice none 0 0] 47)
    rw [hW]; simpa using this
  have hWc : W.cell? ⟨w.heap.size, 0, none⟩ = some (.int .i64 k) := by rw [hW]; simp
  have hbelW : Below w.heap.size w W := by rw [hW]; exact ((Below.refl _ _).alloc (Nat.le_refl _) _).alloc (by simp) _
  have HE := each_any s 96 #[.pointer (some ⟨w.heap.size, 0, none⟩), .pointer (some ⟨w.heap.size + 1, 0, none⟩)] W (by omega)
    (fun w1 l w2 => W.heap.size ≤ w1.heap.size ∧ w1.heap.size ≤ w2.heap.size ∧ w2.cell? ⟨w.heap.size, 0, none⟩ = some (.int .i64 k) ∧ Acc 47 9 (w.heap.size + 1) w1.heap.size (textsK k l) w2 ∧ Keep (w.heap.size + 1) w1.heap.size w1 w2) he
    (fun w1 hb => by
      have hz := hb.size
      exact ⟨hz, Nat.le_refl _, (hb.cell (p := ⟨w.heap.size, 0, none⟩) (by show w.heap.size < _; omega)).trans hWc, Acc.fresh (by omega) ((hb.block _ (by omega)).trans hWb), Keep.refl _ _ _⟩)
    (fun w1 l w2 o hb ⟨a0, a1, a2, a3, a4⟩ => ⟨a0, by simp; omega, (World.cell?_alloc_lt w2 o _ (by show w.heap.size < _; omega)).trans a2, a3.alloc a1 o, a4.alloc a1 (by omega) o⟩)
    (fun w1 l w2 ⟨a0, a1, a2, a3, a4⟩ => ⟨a1, fun p hp hp' => a4.cell hp' (by omega)⟩)
    (fun w1 l x w2 hb ⟨a0, a1, a2, a3, a4⟩ ⟨r, hr⟩ => by
      have hll := textsK_len k l
      have hl : l.length ≤ s.size := by have := (cont_le (spans_cont s)).2; rw [hr] at this; simp at this; omega
      refine (textsOf1_any x k w2 w.heap.size (w.heap.size + 1) w1.heap.size _ a3 a2 (by omega) a1 (by omega)).mono ?_
      rintro e w3 ⟨rfl, h3, h4⟩
      refine ⟨rfl, a0, Nat.le_trans a1 h4.1.size, ?_, ?_, a4.trans h4⟩
      · exact (World.cell?_of_block (h4.2 w.heap.size (by omega) (by omega))).trans a2
      · rw [textsK_snoc]; exact h3)
  have HE := Lib.hid HE
  have HB := Lib.hid hbelW
  clear hbelW hWb hWc
  go_enter Tryz.func76, Tryz.ntmps76
  go_wp2_with fail
  rw [← hW]
  refine HE.out.mono ?_
  rintro e w1 ⟨rfl, w0, hb0, a0, a1, a2, ⟨_, v, hbk, hown⟩, a4⟩
  have hz := hb0.size
  have hc1 : w1.cell? ⟨w.heap.size + 1, 0, none⟩ = some v := by rw [Lib.cell_of_heap hbk]; rfl
  have R : Hid (w1.ownsRow w.heap.size 9 1 v (textsK k (spans s)).length (textsK k (spans s)) ∧ Below w.heap.size w w1) := ⟨hown.mono (by omega), HB.out.trans ((hb0.mono (by omega)).trans (a4.1.mono (by omega)))⟩
  clear a4 hb0 a2 hown hbk
  go_wp2
  go_ret
  exact ⟨_, rfl, R.out.1, R.out.2⟩

end Go.Proofs.YtdabgfjglkoadaaGreatDoor
namespace Go.Proofs.YtdabgfjglkoadaaGreatDoor
open Go.RowKit

set_option maxHeartbeats 1000000 in
theorem tags_any (s : ByteArray) (w : World) (hs : s.size ≤ 1048576) :
    Calls Tryz.prog 66 #[.string s] w fun e w' => ∃ v, e = .returned v ∧ w'.ownsRow w.heap.size 9 1 v (textsK 6 (spans s)).length (textsK 6 (spans s)) ∧ Below w.heap.size w w' := by
  go_enter Tryz.func66, Tryz.ntmps66
  go_wp2_with fail
  refine (textsOf_any s 6 _ hs).mono ?_
  rintro e w1 ⟨v, rfl, h1, h2⟩
  have H := Lib.hid (And.intro h1 h2)
  clear h1 h2
  go_wp2
  go_ret
  exact ⟨_, rfl, H.out.1, H.out.2⟩

end Go.Proofs.YtdabgfjglkoadaaGreatDoor
