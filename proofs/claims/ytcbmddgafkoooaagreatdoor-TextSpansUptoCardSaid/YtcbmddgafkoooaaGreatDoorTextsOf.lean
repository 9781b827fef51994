/-
  DERIVED. The walks of text.textsOf and of the closure in it. Conditions: the text's size. By an AI agent.
-/
import Derived.Test.YtcbmddgafkoooaaGreatDoorPlainOf
import Derived.Test.YtcbmddgafkoooaaGreatDoorRetokSpans
namespace Go.Proofs.YtcbmddgafkoooaaGreatDoor
open Go.RowKit

/-- a slice of one-cell elements in a variable of its own (block b); its rows lie from block B on -/
def Acc (t e : TypeId) (b B : Nat) (xs : List Value) (w : World) : Prop := b < B ∧ ∃ v, w.heap[b]? = some (.cells #[v] t (0, 0)) ∧ w.ownsRow B e 1 v xs.length xs
theorem Acc.alloc {t e : TypeId} {b B : Nat} {xs : List Value} {w : World} (h : Acc t e b B xs w) (hB : B ≤ w.heap.size) (o : Obj) : Acc t e b B xs (w.alloc o) := by
  obtain ⟨hb, v, hbk, hown⟩ := h
  exact ⟨hb, v, (Below.heap_alloc w o b (by omega)).trans hbk, hown.alloc o⟩
theorem Acc.fresh {t e : TypeId} {b B : Nat} {w : World} (hb : b < B) (h : w.heap[b]? = some (.cells #[.slice none 0 0] t (0, 0))) : Acc t e b B [] w := ⟨hb, _, h, World.ownsRow_nil _ _ _ _⟩
theorem Acc.below {t e : TypeId} {b B : Nat} {xs : List Value} {w w' : World} (h : Acc t e b B xs w) (hB : B ≤ w.heap.size) (hb : Below w.heap.size w w') : Acc t e b B xs w' := by
  obtain ⟨h1, v, hbk, hown⟩ := h
  exact ⟨h1, v, (hb.block b (by omega)).trans hbk, own_below hown hb⟩
/-- the variable's slice is stored anew behind an append -/
theorem keep_store {b B : Nat} {w w2 : World} {row : Option Nat} (hg : w.grownBy w2 row) (hB : B ≤ w.heap.size) (hr : ∀ k, row = some k → B ≤ k) (hbB : b < B) (i : Nat) (u : Value) : Keep b B w (w2.setCell ⟨b, i, none⟩ u) :=
  ⟨((Below.refl b _).grown hg (by omega) (fun k hk => by have := hr k hk; omega)).setCell (p := ⟨b, i, none⟩) (Nat.le_refl _) _, fun k hk hne' => (Below.heap_setCell _ _ _ _ (fun e => hne' (by simp [e]))).trans (hg.block k (by omega) (fun e => by have := hr k e.symm; omega))⟩
theorem acc_store {t e : TypeId} {b B n : Nat} {xs : List Value} {v v2 : Value} {w w2 : World} {row : Option Nat} (hg : w.grownBy w2 row) (hB : B ≤ w.heap.size) (hr : ∀ k, row = some k → B ≤ k) (hbB : b < B)
    (hbk : w.heap[b]? = some (.cells #[v] t (0, 0))) (hn : n = xs.length) (hown : w2.ownsRow B e 1 v2 n xs) : Acc t e b B xs (w2.setCell ⟨b, 0, none⟩ v2) := by
  subst hn
  refine ⟨hbB, v2, ?_, ownsRow_setCell_below hown hbB _⟩
  have h2 : w2.heap[b]? = some (.cells #[v] t (0, 0)) := (hg.block b (by omega) (fun e => by have := hr b e.symm; omega)).trans hbk
  simp [World.setCell, Array.getElem?_modify, h2]

/-- the variable itself behind an append -/
theorem after_app {t : TypeId} {b B : Nat} {v : Value} {w w2 : World} {o1 o2 : Obj} {row : Option Nat} (hbk : w.heap[b]? = some (.cells #[v] t (0, 0))) (hg : ((w.alloc o1).alloc o2).grownBy w2 row) (hr : ∀ k, row = some k → B ≤ k) (hbB : b < B) (hBw : B ≤ w.heap.size) :
    w2.cell? ⟨b, 0, none⟩ = some v ∧ w2.frozen? ⟨b, 0, none⟩ = false := by
  have h2 : w2.heap[b]? = some (.cells #[v] t (0, 0)) := (hg.block b (by simp; omega) (fun e => by have := hr b e.symm; omega)).trans ((Below.heap_alloc _ o2 b (by simp; omega)).trans ((Below.heap_alloc w o1 b (by omega)).trans hbk))
  exact ⟨by rw [Lib.cell_of_heap h2]; rfl, Lib.frozen_of_heap h2 0⟩

theorem str_info : (Tryz.prog.info? 9).map (fun i => (i.zero, i.size, i.bytes)) = some (some (.string ⟨#[]⟩), 1, 16) := by kernel_rfl
theorem spV_eq (x : Sp) : spV x = .agg #[.int .i64 x.kind, .int .i64 x.frm, .int .i64 x.to_, .string x.text, .string x.show_, .int .i64 x.id, .bool x.strong] := rfl

set_option maxHeartbeats 1000000 in
set_option maxRecDepth 100000 in
theorem textsOf1_no (x : Sp) (k : Int) (w : World) (kb : Nat) (q : Value) (hk : w.cell? ⟨kb, 0, none⟩ = some (.int .i64 k)) (hkb : kb < w.heap.size) (hn : (x.kind == k) = false) :
    Calls Tryz.prog 61 #[spV x, .pointer (some ⟨kb, 0, none⟩), q] w fun e w' => e = .returned (.tuple #[]) ∧ Below w.heap.size w w' := by
  have hkA : ∀ o, (w.alloc o).cell? ⟨kb, 0, none⟩ = some (.int .i64 k) := fun o => (World.cell?_alloc_lt w o _ hkb).trans hk
  clear hk
  rw [spV_eq]
  go_enter Tryz.func61, Tryz.ntmps61
  go_wp2
  go_end0
  exact ⟨rfl, (Below.refl _ _).alloc (Nat.le_refl _) _⟩

set_option maxHeartbeats 1000000 in
set_option maxRecDepth 100000 in
theorem textsOf1_yes (x : Sp) (k : Int) (w : World) (kb lb B : Nat) (ts : List Value) (hA : Acc 31 9 lb B ts w) (hk : w.cell? ⟨kb, 0, none⟩ = some (.int .i64 k)) (hkb : kb < w.heap.size) (hBw : B ≤ w.heap.size) (hlen : ts.length ≤ 4294967280) (hn : (x.kind == k) = true) :
    Calls Tryz.prog 61 #[spV x, .pointer (some ⟨kb, 0, none⟩), .pointer (some ⟨lb, 0, none⟩)] w fun e w' => e = .returned (.tuple #[]) ∧ Acc 31 9 lb B (ts ++ [.string x.text]) w' ∧ Keep lb B w w' := by
  obtain ⟨i0, hi, hz0, hz1, hz2⟩ := info_parts str_info
  have hkA : ∀ o, (w.alloc o).cell? ⟨kb, 0, none⟩ = some (.int .i64 k) := fun o => (World.cell?_alloc_lt w o _ hkb).trans hk
  obtain ⟨hlB, v, hbk, hown⟩ := hA
  obtain ⟨A, c, rfl, _⟩ := own_reads hown
  have hlA : ∀ o, (w.alloc o).cell? ⟨lb, 0, none⟩ = some (.slice A ts.length c) := fun o => (World.cell?_alloc_lt w o _ (by show lb < _; omega)).trans (by rw [Lib.cell_of_heap hbk]; rfl)
  have HBK := Lib.hid hbk
  have hlt := hown.lt
  have HLT := Lib.hid hlt
  clear hk hbk hlt
  rw [spV_eq]
  go_enter Tryz.func61, Tryz.ntmps61
  go_wp2_with (at_builtin; refine wpList_append_own_at _ rfl _ _ 31 rfl B 9 i0 (.string ⟨#[]⟩) 1 16 Tryz.underlying31 hi hz0 hz1 hz2 rfl (by decide) _ ts.length _ rfl ((hown.alloc _).alloc _) ⟨w.heap.size + 1, 0, none⟩ 1 1 [.string x.text] rfl rfl (cells_new _ _ [.string x.text] _ (by simp)) (by intro u hu; simp at hu; subst hu; rfl) (by unfold maxLen; omega) (by omega) (by simp; omega) ?_; intro v2 w2 hown2 hg2 _ _; obtain ⟨A2, c2, rfl, _⟩ := own_reads hown2; obtain ⟨d2, f2⟩ := after_app HBK.out hg2 (fun g h => (HLT.out g h).1) hlB hBw)
  have hr : ∀ g, (Value.slice A ts.length c).ownBlock = some g → B ≤ g := fun g h => (HLT.out g h).1
  have R1 := acc_store (n := ts.length + 1) (xs := ts ++ [.string x.text]) hg2 (by simp; omega) hr hlB (((Below.heap_alloc _ _ lb (by simp; omega)).trans (Below.heap_alloc w _ lb (by omega))).trans HBK.out) (by simp) hown2
  have R2 := (((Keep.refl lb B w).alloc hBw (by omega) (.cells #[.int .i64 x.kind, .int .i64 x.frm, .int .i64 x.to_, .string x.text, .string x.show_, .int .i64 x.id, .bool x.strong] 27)).alloc (by simp; omega) (by simp; omega) (.cells #[.string x.text] 9)).trans (keep_store hg2 (by simp; omega) hr hlB 0 (.slice A2 (ts.length + 1) c2))
  have R1 := Lib.hid R1
  have R2 := Lib.hid R2
  clear hg2 hown2 hr
  go_wp2
  go_end0
  exact ⟨rfl, R1.out, R2.out⟩

/-- the texts of the spans of a kind -/
def textsK (k : Int) (l : List Sp) : List Value := l.flatMap fun x => if x.kind = k then [.string x.text] else []
theorem textsK_snoc (k : Int) (l : List Sp) (x : Sp) : textsK k (l ++ [x]) = textsK k l ++ (if x.kind = k then [.string x.text] else []) := by simp [textsK]
theorem textsK_len (k : Int) : ∀ l : List Sp, (textsK k l).length ≤ l.length
  | [] => Nat.le_refl _
  | x :: l => by
    have := textsK_len k l
    unfold textsK at this ⊢
    rw [List.flatMap_cons, List.length_append, List.length_cons]
    split
    · rw [List.length_singleton]; omega
    · rw [List.length_nil]; omega
theorem textsK_lk : ∀ l : List Sp, (textsK 4 l).length = lk l
  | [] => rfl
  | x :: l => by
    have := textsK_lk l
    unfold textsK at this ⊢
    rw [List.flatMap_cons, List.length_append, lk_cons, this]
    split <;> rfl
theorem textsOf1_any (x : Sp) (k : Int) (w : World) (kb lb B : Nat) (ts : List Value) (hA : Acc 31 9 lb B ts w) (hk : w.cell? ⟨kb, 0, none⟩ = some (.int .i64 k)) (hkb : kb < w.heap.size) (hBw : B ≤ w.heap.size) (hlen : ts.length ≤ 4294967280) :
    Calls Tryz.prog 61 #[spV x, .pointer (some ⟨kb, 0, none⟩), .pointer (some ⟨lb, 0, none⟩)] w fun e w' => e = .returned (.tuple #[]) ∧ Acc 31 9 lb B (ts ++ (if x.kind = k then [.string x.text] else [])) w' ∧ Keep lb B w w' := by
  by_cases h : x.kind = k
  · rw [if_pos h]
    exact textsOf1_yes x k w kb lb B ts hA hk hkb hBw hlen (by simpa using h)
  · rw [if_neg h]
    refine (textsOf1_no x k w kb _ hk hkb (by simpa using h)).mono fun e w' ⟨h1, h2⟩ => ⟨h1, ?_, ?_⟩
    · rw [List.append_nil]; exact hA.below hBw h2
    · exact (Keep.refl _ _ _).below hBw hA.1 h2

set_option maxHeartbeats 1000000 in
set_option maxRecDepth 100000 in
theorem textsOf_any (s : ByteArray) (k : Int) (w : World) (hs : s.size ≤ 1048576) :
    Calls Tryz.prog 39 #[.string s, .int .i64 k] w fun e w' => ∃ v, e = .returned v ∧ w'.ownsRow w.heap.size 9 1 v (textsK k (spans s)).length (textsK k (spans s)) ∧ Below w.heap.size w w' := by
  have he : ∀ args w, (callFunc 61 args).run Tryz.prog w = .ok (.enter 61 args) w := Go.Proofs.enters_of Tryz.func61 (by kernel_rfl) rfl
  obtain ⟨W, hW⟩ : ∃ W : World, W = (w.alloc (.cells #[.int .i64 k] 3)).alloc (.cells #[.slice none 0 0] 31) := ⟨_, rfl⟩
  have hWs : W.heap.size = w.heap.size + 2 := by rw [hW]; simp
  have hWb : W.heap[w.heap.size + 1]? = some (.cells #[.slice none 0 0] 31 (0, 0)) := by
    have := heap_alloc_new (w.alloc (.cells #[.int .i64 k] 3)) (.cells #[.slice none 0 0] 31)
    rw [hW]; simpa using this
  have hWc : W.cell? ⟨w.heap.size, 0, none⟩ = some (.int .i64 k) := by rw [hW]; simp
  have hbelW : Below w.heap.size w W := by rw [hW]; exact ((Below.refl _ _).alloc (Nat.le_refl _) _).alloc (by simp) _
  have HE := each_any s 61 #[.pointer (some ⟨w.heap.size, 0, none⟩), .pointer (some ⟨w.heap.size + 1, 0, none⟩)] W (by omega)
    (fun w1 l w2 => W.heap.size ≤ w1.heap.size ∧ w1.heap.size ≤ w2.heap.size ∧ w2.cell? ⟨w.heap.size, 0, none⟩ = some (.int .i64 k) ∧ Acc 31 9 (w.heap.size + 1) w1.heap.size (textsK k l) w2 ∧ Keep (w.heap.size + 1) w1.heap.size w1 w2) he
    (fun w1 hb => by
      have hz := hb.size
      exact ⟨hz, Nat.le_refl _, (hb.cell (p := ⟨w.heap.size, 0, none⟩) (by show w.heap.size < _; omega)).trans hWc, Acc.fresh (by omega) ((hb.block _ (by omega)).trans hWb), Keep.refl _ _ _⟩)
    (fun w1 l w2 o hb ⟨a0, a1, a2, a3, a4⟩ => ⟨a0, by simp; omega, (World.cell?_alloc_lt w2 o _ (by show w.heap.size < _; omega)).trans a2, a3.alloc a1 o, a4.alloc a1 (by omega) o⟩)
    (fun w1 l w2 ⟨a0, a1, a2, a3, a4⟩ => ⟨a1, fun p hp hp' => a4.cell hp' (by omega)⟩)
    (fun w1 l x w2 hb ⟨a0, a1, a2, a3, a4⟩ ⟨r, hr⟩ => by
      have hll := textsK_len k l
      have hl : l.length ≤ s.size := by have := (cont_le (spans_cont s)).2; rw [hr] at this; simp at this; omega
      refine (textsOf1_any x k w2 w.heap.size (w.heap.size + 1) w1.heap.size _ a3 a2 (by omega) a1 (by omega)).mono ?_
      rintro e w3 ⟨rfl, h3, h4⟩
      refine ⟨rfl, a0, Nat.le_trans a1 h4.1.size, ?_, ?_, a4.trans h4⟩
      · exact (World.cell?_of_block (h4.2 w.heap.size (by omega) (by omega))).trans a2
      · rw [textsK_snoc]; exact h3)
  have HE := Lib.hid HE
  have HB := Lib.hid hbelW
  clear hbelW hWb hWc
  go_enter Tryz.func39, Tryz.ntmps39
  go_wp2_with fail
  rw [← hW]
  refine HE.out.mono ?_
  rintro e w1 ⟨rfl, w0, hb0, a0, a1, a2, ⟨_, v, hbk, hown⟩, a4⟩
  have hz := hb0.size
  have hc1 : w1.cell? ⟨w.heap.size + 1, 0, none⟩ = some v := by rw [Lib.cell_of_heap hbk]; rfl
  have R : Hid (w1.ownsRow w.heap.size 9 1 v (textsK k (spans s)).length (textsK k (spans s)) ∧ Below w.heap.size w w1) := ⟨hown.mono (by omega), HB.out.trans ((hb0.mono (by omega)).trans (a4.1.mono (by omega)))⟩
  clear a4 hb0 a2 hown hbk
  go_wp2
  go_ret
  exact ⟨_, rfl, R.out.1, R.out.2⟩

set_option maxHeartbeats 1000000 in
theorem links_any (s : ByteArray) (w : World) (hs : s.size ≤ 1048576) :
    Calls Tryz.prog 13 #[.string s] w fun e w' => ∃ v, e = .returned v ∧ w'.ownsRow w.heap.size 9 1 v (textsK 4 (spans s)).length (textsK 4 (spans s)) ∧ Below w.heap.size w w' := by
  go_enter Tryz.func13, Tryz.ntmps13
  go_wp2_with fail
  refine (textsOf_any s 4 _ hs).mono ?_
  rintro e w1 ⟨v, rfl, h1, h2⟩
  have H := Lib.hid (And.intro h1 h2)
  clear h1 h2
  go_wp2
  go_ret
  exact ⟨_, rfl, H.out.1, H.out.2⟩
end Go.Proofs.YtcbmddgafkoooaaGreatDoor
