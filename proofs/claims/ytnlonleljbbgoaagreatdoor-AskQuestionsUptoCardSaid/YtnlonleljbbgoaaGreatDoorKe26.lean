/-
  DERIVED. The walks of text.textsOf and of the closure in it. Conditions: the text's size.
  When a text behind a hash is one tag. Plain law. Conditions: none.
  By an AI agent.
-/
import Derived.Test.YtnlonleljbbgoaaGreatDoorKe25
import Derived.Test.YtnlonleljbbgoaaGreatDoorKe23
import Derived.Test.YtnlonleljbbgoaaGreatDoorKe24
namespace Go.Proofs.YtnlonleljbbgoaaGreatDoor
open Go.RowKit

/-- a slice of one-cell elements in a variable of its own (block b); its rows lie from block B on -/
def Acc (t e : TypeId) (b B : Nat) (xs : List Value) (w : World) : Prop := b < B ∧ ∃ v, w.heap[b]? = some (.cells #[v] t (0, 0)) ∧ w.ownsRow B e 1 v xs.length xs
theorem Acc.alloc {t e : TypeId} {b B : Nat} {xs : List Value} {w : World} (h : Acc t e b B xs w) (hB : B ≤ w.heap.size) (o : Obj) : Acc t e b B xs (w.alloc o) := by
  obtain ⟨hb, v, hbk, hown⟩ := h
  exact ⟨hb, v, (Below.heap_alloc w o b (by omega)).trans hbk, hown.alloc o⟩
theorem Acc.fresh {t e : TypeId} {b B : Nat} {w : World} (hb : b < B) (h : w.heap[b]? = some (.cells #[.slice none 0 0] t (0, 0))) : Acc t e b B [] w := ⟨hb, _, h, World.ownsRow_nil _ _ _ _⟩
theorem Acc.below {t e : TypeId} {b B : Nat} {xs : List Value} {w w' : World} (h : Acc t e b B xs w) (hB : B ≤ w.heap.size) (hb : Below w.heap.size w w') : Acc t e b B xs w' := by
  obtain ⟨h1, v, hbk, hown⟩ := h
  exact ⟨h1, v, (hb.block b (by omega)).trans hbk, own_below hown hb⟩
/-- the variable's slice is stored anew behind an append -/
theorem keep_store {b B : Nat} {w w2 : World} {row : Option Nat} (hg : w.grownBy w2 row) (hB : B ≤ w.heap.size) (hr : ∀ k, row = some k → B ≤ k) (hbB : b < B) (i : Nat) (u : Value) : Keep b B w (w2.setCell ⟨b, i, none⟩ u) :=
  ⟨((Below.refl b _).grown hg (by omega) (fun k hk => by have := hr k hk; omega)).setCell (p := ⟨b, i, none⟩) (Nat.le_refl _) _, fun k hk hne' => (Below.heap_setCell _ _ _ _ (fun e => hne' (by simp [e]))).trans (hg.block k (by omega) (fun e => by have := hr k e.symm; omega))⟩
theorem acc_store {t e : TypeId} {b B n : Nat} {xs : List Value} {v v2 : Value} {w w2 : World} {row : Option Nat} (hg : w.grownBy w2 row) (hB : B ≤ w.heap.size) (hr : ∀ k, row = some k → B ≤ k) (hbB : b < B)
    (hbk : w.heap[b]? = some (.cells #[v] t (0, 0))) (hn : n = xs.length) (hown : w2.ownsRow B e 1 v2 n xs) : Acc t e b B xs (w2.setCell ⟨b, 0, none⟩ v2) := by
  subst hn
  refine ⟨hbB, v2, ?_, ownsRow_setCell_below hown hbB _⟩
  have h2 : w2.heap[b]? = some (.cells #[v] t (0, 0)) := (hg.block b (by omega) (fun e => by have := hr b e.symm; omega)).trans hbk
  simp [World.setCell, Array.getElem?_modify, h2]

/-- the variable itself behind an append -/
theorem after_app {t : TypeId} {b B : Nat} {v : Value} {w w2 : World} {o1 o2 : Obj} {row : Option Nat} (hbk : w.heap[b]? = some (.cells #[v] t (0, 0))) (hg : ((w.alloc o1).alloc o2).grownBy w2 row) (hr : ∀ k, row = some k → B ≤ k) (hbB : b < B) (hBw : B ≤ w.heap.size) :
    w2.cell? ⟨b, 0, none⟩ = some v ∧ w2.frozen? ⟨b, 0, none⟩ = false := by
  have h2 : w2.heap[b]? = some (.cells #[v] t (0, 0)) := (hg.block b (by simp; omega) (fun e => by have := hr b e.symm; omega)).trans ((Below.heap_alloc _ o2 b (by simp; omega)).trans ((Below.heap_alloc w o1 b (by omega)).trans hbk))
  exact ⟨by rw [Lib.cell_of_heap h2]; rfl, Lib.frozen_of_heap h2 0⟩

theorem str_info : (Tryz.prog.info? 9).map (fun i => (i.zero, i.size, i.bytes)) = some (some (.string ⟨#[]⟩), 1, 16) := by kernel_rfl
theorem spV_eq (x : Sp) : spV x = .agg #[.int .i64 x.kind, .int .i64 x.frm, .int .i64 x.to_, .string x.text, .string x.show_, .int .i64 x.id, .bool x.strong] := rfl

set_option maxHeartbeats 1000000 in
set_option maxRecDepth 100000 in
theorem textsOf1_no (x : Sp) (k : Int) (w : World) (kb : Nat) (q : Value) (hk : w.cell? ⟨kb, 0, none⟩ = some (.int .i64 k)) (hkb : kb < w.heap.size) (hn : (x.kind == k) = false) :
    Calls Tryz.prog 221 #[spV x, .pointer (some ⟨kb, 0, none⟩), q] w fun e w' => e = .returned (.tuple #[]) ∧ Below w.heap.size w w' := by
  have hkA : ∀ o, (w.alloc o).cell? ⟨kb, 0, none⟩ = some (.int .i64 k) := fun o => (World.cell?_alloc_lt w o _ hkb).trans hk
  clear hk
  rw [spV_eq]
  go_enter Tryz.func221, Tryz.ntmps221
  go_wp2
  go_end0
  exact ⟨rfl, (Below.refl _ _).alloc (Nat.le_refl _) _⟩

set_option maxHeartbeats 1000000 in
set_option maxRecDepth 100000 in
theorem textsOf1_yes (x : Sp) (k : Int) (w : World) (kb lb B : Nat) (ts : List Value) (hA : Acc 92 9 lb B ts w) (hk : w.cell? ⟨kb, 0, none⟩ = some (.int .i64 k)) (hkb : kb < w.heap.size) (hBw : B ≤ w.heap.size) (hlen : ts.length ≤ 4294967280) (hn : (x.kind == k) = true) :
    Calls Tryz.prog 221 #[spV x, .pointer (some ⟨kb, 0, none⟩), .pointer (some ⟨lb, 0, none⟩)] w fun e w' => e = .returned (.tuple #[]) ∧ Acc 92 9 lb B (ts ++ [.string x.text]) w' ∧ Keep lb B w w' := by
  obtain ⟨i0, hi, hz0, hz1, hz2⟩ := info_parts str_info
  have hkA : ∀ o, (w.alloc o).cell? ⟨kb, 0, none⟩ = some (.int .i64 k) := fun o => (World.cell?_alloc_lt w o _ hkb).trans hk
  obtain ⟨hlB, v, hbk, hown⟩ := hA
  obtain ⟨A, c, rfl, _⟩ := own_reads hown
  have hlA : ∀ o, (w.alloc o).cell? ⟨lb, 0, none⟩ = some (.slice A ts.length c) := fun o => (World.cell?_alloc_lt w o _ (by show lb < _; omega)).trans (by rw [Lib.cell_of_heap hbk]; rfl)
  have HBK := Lib.hid hbk
  have hlt := hown.lt
  have HLT := Lib.hid hlt
  clear hk hbk hlt
  rw [spV_eq]
  go_enter Tryz.func221, Tryz.ntmps221
  go_wp2_with (at_builtin; refine wpList_append_own_at _ rfl _ _ 92 rfl B 9 i0 (.string ⟨#[]⟩) 1 16 Tryz.underlying92 hi hz0 hz1 hz2 rfl (by decide) _ ts.length _ rfl ((hown.alloc _).alloc _) ⟨w.heap.size + 1, 0, none⟩ 1 1 [.string x.text] rfl rfl (cells_new _ _ [.string x.text] _ (by simp)) (by intro u hu; simp at hu; subst hu; rfl) (by unfold maxLen; omega) (by omega) (by simp; omega) ?_; intro v2 w2 hown2 hg2 _ _; obtain ⟨A2, c2, rfl, _⟩ := own_reads hown2; obtain ⟨d2, f2⟩ := after_app HBK.out hg2 (fun g h => (HLT.out g h).1) hlB hBw)
  have hr : ∀ g, (Value.slice A ts.length c).ownBlock = some g → B ≤ g := fun g h => (HLT.out g h).1
  have R1 := acc_store (n := ts.length + 1) (xs := ts ++ [.string x.text]) hg2 (by simp; omega) hr hlB (((Below.heap_alloc _ _ lb (by simp; omega)).trans (Below.heap_alloc w _ lb (by omega))).trans HBK.out) (by simp) hown2
  have R2 := (((Keep.refl lb B w).alloc hBw (by omega) (.cells #[.int .i64 x.kind, .int .i64 x.frm, .int .i64 x.to_, .string x.text, .string x.show_, .int .i64 x.id, .bool x.strong] 132)).alloc (by simp; omega) (by simp; omega) (.cells #[.string x.text] 9)).trans (keep_store hg2 (by simp; omega) hr hlB 0 (.slice A2 (ts.length + 1) c2))
  have R1 := Lib.hid R1
  have R2 := Lib.hid R2
  clear hg2 hown2 hr
  go_wp2
  go_end0
  exact ⟨rfl, R1.out, R2.out⟩

/-- the texts of the spans of a kind -/
def textsK (k : Int) (l : List Sp) : List Value := l.flatMap fun x => if x.kind = k then [.string x.text] else []
theorem textsK_snoc (k : Int) (l : List Sp) (x : Sp) : textsK k (l ++ [x]) = textsK k l ++ (if x.kind = k then [.string x.text] else []) := by simp [textsK]
theorem textsK_len (k : Int) : ∀ l : List Sp, (textsK k l).length ≤ l.length
  | [] => Nat.le_refl _
  | x :: l => by
    have := textsK_len k l
    unfold textsK at this ⊢
    rw [List.flatMap_cons, List.length_append, List.length_cons]
    split
    · rw [List.length_singleton]; omega
    · rw [List.length_nil]; omega
theorem textsOf1_any (x : Sp) (k : Int) (w : World) (kb lb B : Nat) (ts : List Value) (hA : Acc 92 9 lb B ts w) (hk : w.cell? ⟨kb, 0, none⟩ = some (.int .i64 k)) (hkb : kb < w.heap.size) (hBw : B ≤ w.heap.size) (hlen : ts.length ≤ 4294967280) :
    Calls Tryz.prog 221 #[spV x, .pointer (some ⟨kb, 0, none⟩), .pointer (some ⟨lb, 0, none⟩)] w fun e w' => e = .returned (.tuple #[]) ∧ Acc 92 9 lb B (ts ++ (if x.kind = k then [.string x.text] else [])) w' ∧ Keep lb B w w' := by
  by_cases h : x.kind = k
  · rw [if_pos h]
    exact textsOf1_yes x k w kb lb B ts hA hk hkb hBw hlen (by simpa using h)
  · rw [if_neg h]
    refine (textsOf1_no x k w kb _ hk hkb (by simpa using h)).mono fun e w' ⟨h1, h2⟩ => ⟨h1, ?_, ?_⟩
    · rw [List.append_nil]; exact hA.below hBw h2
    · exact (Keep.refl _ _ _).below hBw hA.1 h2

set_option maxHeartbeats 1000000 in
set_option maxRecDepth 100000 in
theorem textsOf_any (s : ByteArray) (k : Int) (w : World) (hs : s.size ≤ 1048576) :
    Calls Tryz.prog 195 #[.string s, .int .i64 k] w fun e w' => ∃ v, e = .returned v ∧ w'.ownsRow w.heap.size 9 1 v (textsK k (spans s)).length (textsK k (spans s)) ∧ Below w.heap.size w w' := by
  have he : ∀ args w, (callFunc 221 args).run Tryz.prog w = .ok (.enter 221 args) w := Go.Proofs.enters_of Tryz.func221 (by kernel_rfl) rfl
  obtain ⟨W, hW⟩ : ∃ W : World, W = (w.alloc (.cells #[.int .i64 k] 3)).alloc (.cells #[.slice none 0 0] 92) := ⟨_, rfl⟩
  have hWs : W.heap.size = w.heap.size + 2 := by rw [hW]; simp
  have hWb : W.heap[w.heap.size + 1]? = some (.cells #[.slice none 0 0] 92 (0, 0)) := by
    have := heap_alloc_new (w.alloc (.cells #[.int .i64 k] 3)) (.cells #[.slice none 0 0] 92)
    rw [hW]; simpa using this
  have hWc : W.cell? ⟨w.heap.size, 0, none⟩ = some (.int .i64 k) := by rw [hW]; simp
  have hbelW : Below w.heap.size w W := by rw [hW]; exact ((Below.refl _ _).alloc (Nat.le_refl _) _).alloc (by simp) _
  have HE := each_any s 221 #[.pointer (some ⟨w.heap.size, 0, none⟩), .pointer (some ⟨w.heap.size + 1, 0, none⟩)] W (by omega)
    (fun w1 l w2 => W.heap.size ≤ w1.heap.size ∧ w1.heap.size ≤ w2.heap.size ∧ w2.cell? ⟨w.heap.size, 0, none⟩ = some (.int .i64 k) ∧ Acc 92 9 (w.heap.size + 1) w1.heap.size (textsK k l) w2 ∧ Keep (w.heap.size + 1) w1.heap.size w1 w2) he
    (fun w1 hb => by
      have hz := hb.size
      exact ⟨hz, Nat.le_refl _, (hb.cell (p := ⟨w.heap.size, 0, none⟩) (by show w.heap.size < _; omega)).trans hWc, Acc.fresh (by omega) ((hb.block _ (by omega)).trans hWb), Keep.refl _ _ _⟩)
    (fun w1 l w2 o hb ⟨a0, a1, a2, a3, a4⟩ => ⟨a0, by simp; omega, (World.cell?_alloc_lt w2 o _ (by show w.heap.size < _; omega)).trans a2, a3.alloc a1 o, a4.alloc a1 (by omega) o⟩)
    (fun w1 l w2 ⟨a0, a1, a2, a3, a4⟩ => ⟨a1, fun p hp hp' => a4.cell hp' (by omega)⟩)
    (fun w1 l x w2 hb ⟨a0, a1, a2, a3, a4⟩ ⟨r, hr⟩ => by
      have hll := textsK_len k l
      have hl : l.length ≤ s.size := by have := (cont_le (spans_cont s)).2; rw [hr] at this; simp at this; omega
      refine (textsOf1_any x k w2 w.heap.size (w.heap.size + 1) w1.heap.size _ a3 a2 (by omega) a1 (by omega)).mono ?_
      rintro e w3 ⟨rfl, h3, h4⟩
      refine ⟨rfl, a0, Nat.le_trans a1 h4.1.size, ?_, ?_, a4.trans h4⟩
      · exact (World.cell?_of_block (h4.2 w.heap.size (by omega) (by omega))).trans a2
      · rw [textsK_snoc]; exact h3)
  have HE := Lib.hid HE
  have HB := Lib.hid hbelW
  clear hbelW hWb hWc
  go_enter Tryz.func195, Tryz.ntmps195
  go_wp2_with fail
  rw [← hW]
  refine HE.out.mono ?_
  rintro e w1 ⟨rfl, w0, hb0, a0, a1, a2, ⟨_, v, hbk, hown⟩, a4⟩
  have hz := hb0.size
  have hc1 : w1.cell? ⟨w.heap.size + 1, 0, none⟩ = some v := by rw [Lib.cell_of_heap hbk]; rfl
  have R : Hid (w1.ownsRow w.heap.size 9 1 v (textsK k (spans s)).length (textsK k (spans s)) ∧ Below w.heap.size w w1) := ⟨hown.mono (by omega), HB.out.trans ((hb0.mono (by omega)).trans (a4.1.mono (by omega)))⟩
  clear a4 hb0 a2 hown hbk
  go_wp2
  go_ret
  exact ⟨_, rfl, R.out.1, R.out.2⟩

end Go.Proofs.YtnlonleljbbgoaaGreatDoor
namespace Go.Proofs.YtnlonleljbbgoaaGreatDoor
open Go.RowKit

/-- a hash, and a text -/
def hS (s : ByteArray) : ByteArray := ⟨#[35]⟩ ++ s
/-- is it the text of a tag? -/
def tagFull (s : ByteArray) : Bool := decide (upto (notB tagB) s 0 = s.size) && isTagB s
theorem hS_size (s : ByteArray) : (hS s).size = s.size + 1 := by
  unfold hS
  rw [ByteArray.size_append]
  show 1 + s.size = _
  omega
theorem hS_zero (s : ByteArray) : bt (hS s) 0 = 35 := by
  unfold hS
  rw [bt_app, if_pos (show 0 < (⟨#[35]⟩ : ByteArray).size from Nat.one_pos)]
  rfl
theorem hS_succ (s : ByteArray) (i : Nat) : bt (hS s) (i + 1) = bt s i := by
  unfold hS
  rw [bt_app, if_neg (show ¬ i + 1 < (⟨#[35]⟩ : ByteArray).size by show ¬ i + 1 < 1; omega)]
  rfl
theorem hS_upto (p : Int → Bool) (s : ByteArray) {i : Nat} (hi : i ≤ s.size) : upto p (hS s) (i + 1) = upto p s i + 1 := by
  refine upto_eq (by have := upto_ge p s i; omega) (by rw [hS_size]; have := upto_le (stop := p) hi; omega) (fun j h1 h2 => ?_) ?_
  · obtain ⟨k, rfl⟩ : ∃ k, j = k + 1 := ⟨j - 1, by omega⟩
    rw [hS_succ]
    exact upto_mid (i := i) (by omega) (by omega)
  · rcases Nat.lt_or_ge (upto p s i) s.size with h | h
    · right
      rw [hS_succ]
      exact upto_at h
    · left
      rw [hS_size]
      have := upto_le (stop := p) hi
      omega
theorem hS_text (s : ByteArray) : (hS s).extract 1 (s.size + 1) = s := by
  unfold hS
  apply ByteArray.ext
  simp [ByteArray.data_extract]
/-- the conditions of a tag, of the text itself -/
theorem tag_conds (s : ByteArray) : (upto (notB tagB) (hS s) 1 = (hS s).size ∧ tagOk (hS s) 0 (hS s).size) ↔ tagFull s = true := by
  have e1 : upto (notB tagB) (hS s) 1 = upto (notB tagB) s 0 + 1 := hS_upto _ s (Nat.zero_le _)
  have e2 : upto letB (hS s) 1 = upto letB s 0 + 1 := hS_upto _ s (Nat.zero_le _)
  have e3 : bt (hS s) 1 = bt s 0 := hS_succ s 0
  unfold tagOk tagFull isTagB letTo
  rw [Nat.zero_add, e1, e2, e3, hS_size]
  simp only [Bool.and_eq_true, decide_eq_true_iff, Bool.not_eq_true', beq_eq_false_iff_ne, ne_eq]
  constructor
  · rintro ⟨h1, h2, h3, h4, h5⟩
    obtain ⟨k, hk⟩ : ∃ k, s.size = k + 1 := ⟨s.size - 1, by omega⟩
    rw [Nat.add_sub_cancel, hk, hS_succ] at h5
    refine ⟨by omega, ⟨⟨by omega, by omega⟩, h4⟩, ?_⟩
    rw [hk, Nat.add_sub_cancel]
    exact h5
  · rintro ⟨h1, ⟨⟨h2, h3⟩, h4⟩, h5⟩
    obtain ⟨k, hk⟩ : ∃ k, s.size = k + 1 := ⟨s.size - 1, by omega⟩
    refine ⟨by omega, by omega, by omega, h4, ?_⟩
    rw [Nat.add_sub_cancel, hk, hS_succ]
    rw [hk, Nat.add_sub_cancel] at h5
    exact h5
/-- what a tag among the spans is -/
theorem tag_span (t : ByteArray) : ∀ x ∈ spans t, x.kind = 6 → x.text = t.extract (x.frm + 1) x.to_ ∧ upto (notB tagB) t (x.frm + 1) = x.to_ ∧ tagOk t x.frm x.to_ ∧ x.frm < t.size := by
  refine spans_all t (P := fun x => x.kind = 6 → x.text = t.extract (x.frm + 1) x.to_ ∧ upto (notB tagB) t (x.frm + 1) = x.to_ ∧ tagOk t x.frm x.to_ ∧ x.frm < t.size) (fun a ha => ?_) (fun x b h => h) (fun x h g => by omega)
  intro hk
  have hS := tokA_is t a
  rcases tokA_cases t a with h | h | h | h | h | h | h
  · exfalso
    generalize tokA t a = x at h hk
    unfold tokE at h; split at h
    · injection h with h; subst h; exact absurd hk (by show (2 : Int) ≠ 6; decide)
    · cases h
  · exfalso
    generalize tokA t a = x at h hk
    unfold tokC at h; dsimp only at h; split at h
    · injection h with h; subst h; exact absurd hk (by show (3 : Int) ≠ 6; decide)
    · cases h
  · exfalso
    generalize tokA t a = x at h hk
    unfold tokL at h; dsimp only at h; split at h
    · split at h
      · injection h with h; subst h; exact absurd hk (by show (4 : Int) ≠ 6; decide)
      · split at h
        · injection h with h; subst h; exact absurd hk (by show (4 : Int) ≠ 6; decide)
        · cases h
    · cases h
  · exfalso
    generalize tokA t a = x at h hk
    unfold tokR at h; dsimp only at h; split at h
    · injection h with h; subst h; exact absurd hk (by show (5 : Int) ≠ 6; decide)
    · cases h
  · generalize tokA t a = x at h hk ⊢
    unfold tokT at h; dsimp only at h; split at h
    · rename_i c
      injection h with h; subst h
      exact ⟨rfl, rfl, c.2.2, ha⟩
    · cases h
  · exfalso
    generalize tokA t a = x at h hk
    unfold tokB at h; split at h
    · injection h with h; subst h; exact absurd hk (by show (7 : Int) ≠ 6; decide)
    · cases h
  · exfalso
    rw [h] at hk
    exact absurd hk (by show (1 : Int) ≠ 6; decide)
/-- a text behind a hash is one tag if it is the text of a tag -/
theorem tag_of_full {s : ByteArray} (h : tagFull s = true) : textsK 6 (spans (hS s)) = [.string s] := by
  obtain ⟨h1, h2⟩ := (tag_conds s).2 h
  have b0 := hS_zero s
  have hT : tokT (hS s) 0 = some ⟨6, 0, (hS s).size, (hS s).extract 1 (hS s).size, noB, 0, false⟩ := by
    unfold tokT
    dsimp only
    rw [Nat.zero_add, h1, if_pos ⟨b0, .inl rfl, h2⟩]
  have hA : tokA (hS s) 0 = ⟨6, 0, (hS s).size, s, noB, 0, false⟩ := by
    have hE : tokE (hS s) 0 = none := by unfold tokE; rw [if_neg (by rw [b0]; exact fun h => absurd h.1 (by decide))]
    have hC : tokC (hS s) 0 = none := by unfold tokC; dsimp only; rw [if_neg (by rw [b0]; exact fun h => absurd h.1 (by decide))]
    have hL : tokL (hS s) 0 = none := tokL_head (by rw [b0]; exact fun h => absurd h.1 (by decide))
    have hR : tokR (hS s) 0 = none := tokR_head (by rw [b0]; exact fun h => absurd h.1 (by decide))
    unfold tokA
    rw [hE, hC, hL, hR, hT, show (hS s).size = s.size + 1 from hS_size s, hS_text]
    rfl
  have hK : toks (hS s) 0 = [⟨6, 0, (hS s).size, s, noB, 0, false⟩] := by
    rw [toks_step (by rw [hS_size]; omega), hA, toks_end (Nat.le_refl _)]
  have hSt : ∃ b, strong (toks (hS s) 0) = [⟨6, 0, (hS s).size, s, noB, 0, b⟩] := by
    rw [hK]
    exact ⟨_, rfl⟩
  obtain ⟨b, hb⟩ := hSt
  unfold spans
  rw [hb]
  rfl
/-- and only then -/
theorem full_of_tag {s : ByteArray} (h : textsK 6 (spans (hS s)) = [.string s]) : tagFull s = true := by
  have hm : Value.string s ∈ textsK 6 (spans (hS s)) := by rw [h]; simp
  unfold textsK at hm
  obtain ⟨x, hx, hv⟩ := List.mem_flatMap.1 hm
  by_cases hk : x.kind = 6
  · rw [if_pos hk] at hv
    have hs : s = x.text := by simpa using hv
    obtain ⟨t1, t2, t3, t4⟩ := tag_span (hS s) x hx hk
    have hz : s.size = min x.to_ (hS s).size - (x.frm + 1) := by
      have := congrArg ByteArray.size hs
      rw [t1, ByteArray.size_extract] at this
      exact this
    have hle : x.to_ ≤ (hS s).size := by rw [← t2]; exact upto_le (by omega)
    have hge := upto_ge letB (hS s) (x.frm + 1)
    have h1 := t3.1
    rw [hS_size] at hle hz t4
    have hf : x.frm = 0 := by omega
    have ht : x.to_ = (hS s).size := by rw [hS_size]; omega
    rw [hf, ht] at t2 t3
    exact (tag_conds s).1 ⟨t2, t3⟩
  · rw [if_neg hk] at hv
    cases hv
end Go.Proofs.YtnlonleljbbgoaaGreatDoor
