/-
  DERIVED. What Parts cuts: the plain law; the walks of text.Parts and of the two closures in it. Conditions: the text's size. By an AI agent.
-/
import Derived.Test.YtcbmddgafkoooaaGreatDoorTextsOf
import Derived.Test.YtcbmddgafkoooaaGreatDoorShownAt
import Derived.Deep.RegionLaw
import Derived.Laws.EntriesVeiled
namespace Go.Proofs.YtcbmddgafkoooaaGreatDoor
open Go.RowKit

/-! plain law: what Parts cuts -/
def cutP (s : ByteArray) (f t : Nat) : List ByteArray := if f < t then [s.extract f t] else []
def pcut (x : Sp) : Prop := x.kind = 4 ∨ x.kind = 5 ∨ x.kind = 6
instance (x : Sp) : Decidable (pcut x) := by unfold pcut; infer_instance
def pstep (s : ByteArray) (st : Nat × List ByteArray) (x : Sp) : Nat × List ByteArray :=
  if pcut x then (x.to_, st.2 ++ (cutP s st.1 x.frm ++ cutP s x.frm x.to_)) else st
def partsF (s : ByteArray) (l : List Sp) : Nat × List ByteArray := l.foldl (pstep s) (0, [])
theorem partsF_snoc (s : ByteArray) (l : List Sp) (x : Sp) : partsF s (l ++ [x]) = pstep s (partsF s l) x := by simp [partsF]
def parts (s : ByteArray) : List ByteArray := (partsF s (spans s)).2 ++ cutP s (partsF s (spans s)).1 s.size
def strV (l : List ByteArray) : List Value := l.map .string
theorem strV_app (a b : List ByteArray) : strV (a ++ b) = strV a ++ strV b := by simp [strV]
theorem cutP_len (s : ByteArray) (f t : Nat) : (cutP s f t).length ≤ 1 := by unfold cutP; split <;> simp
/-- the pieces cover the text so far -/
theorem partsF_is (s : ByteArray) : ∀ (l : List Sp) {p : Nat}, Cont 0 l p → p ≤ s.size → (partsF s l).1 ≤ p ∧ (partsF s l).2.length ≤ 2 * l.length ∧ (partsF s l).2.flatMap (fun b => b.data.toList) = s.data.toList.take (partsF s l).1 := by
  intro l
  refine snoc_ind (P := fun l => ∀ {p : Nat}, Cont 0 l p → p ≤ s.size → (partsF s l).1 ≤ p ∧ (partsF s l).2.length ≤ 2 * l.length ∧ (partsF s l).2.flatMap (fun b => b.data.toList) = s.data.toList.take (partsF s l).1) ?_ ?_ l
  · intro p h hp
    exact ⟨Nat.zero_le _, Nat.zero_le _, rfl⟩
  · intro l x ih p h hp
    obtain ⟨b, h1, h2⟩ := cont_split h
    obtain ⟨g1, g2, g3⟩ := h2
    have g3 : x.to_ = p := g3
    obtain ⟨i1, i2, i3⟩ := ih h1 (by omega)
    rw [partsF_snoc]
    unfold pstep
    by_cases hc : pcut x
    · rw [if_pos hc]
      have c1 := cutP_len s (partsF s l).1 x.frm
      have c2 := cutP_len s x.frm x.to_
      refine ⟨by show x.to_ ≤ p; omega, by simp only [List.length_append, List.length_cons, List.length_nil]; omega, ?_⟩
      show ((partsF s l).2 ++ (cutP s (partsF s l).1 x.frm ++ cutP s x.frm x.to_)).flatMap _ = s.data.toList.take x.to_
      rw [List.flatMap_append, List.flatMap_append, i3]
      have e : ∀ f t, f ≤ t → s.data.toList.take f ++ (cutP s f t).flatMap (fun b => b.data.toList) = s.data.toList.take t := by
        intro f t hft
        unfold cutP
        split
        · rw [List.flatMap_cons, List.flatMap_nil, List.append_nil, ext_list2, ← List.take_add, show f + (t - f) = t by omega]
        · have : f = t := by omega
          rw [this, List.flatMap_nil, List.append_nil]
      rw [← List.append_assoc, e _ _ (by omega), e _ _ (by omega)]
    · rw [if_neg hc]
      refine ⟨by omega, by simp only [List.length_append, List.length_cons, List.length_nil]; omega, i3⟩
theorem parts_cat (s : ByteArray) : (parts s).flatMap (fun b => b.data.toList) = s.data.toList := by
  obtain ⟨h1, _, h3⟩ := partsF_is s (spans s) (spans_cont s) (Nat.le_refl _)
  unfold parts
  rw [List.flatMap_append, h3]
  unfold cutP
  split
  · rw [List.flatMap_cons, List.flatMap_nil, List.append_nil, ext_list2, ← List.take_add, show (partsF s (spans s)).1 + (s.size - (partsF s (spans s)).1) = s.size by omega]
    exact List.take_of_length_le (Nat.le_of_eq (Lib.size_eq s).symm)
  · rw [List.flatMap_nil, List.append_nil]
    exact List.take_of_length_le (by have := Lib.size_eq s; omega)
theorem parts_len (s : ByteArray) : (parts s).length ≤ 2 * s.size + 1 := by
  obtain ⟨_, h2, _⟩ := partsF_is s (spans s) (spans_cont s) (Nat.le_refl _)
  have := (cont_le (spans_cont s)).2
  have := cutP_len s (partsF s (spans s)).1 s.size
  unfold parts
  rw [List.length_append]
  omega

/-! the walks -/
/-- what the closure cut leaves: the list in block pb (rows from B on), the place in block nb -/
def P1 (nb pb B : Nat) (v : Value) (xs : List Value) (t : Nat) (w w' : World) : Prop :=
  (∃ v', w'.heap[pb]? = some (.cells #[v'] 31 (0, 0)) ∧ w'.ownsRow B 9 1 v' xs.length xs ∧ (v'.ownBlock = v.ownBlock ∨ v'.ownBlock = none ∨ ∃ g, v'.ownBlock = some g ∧ w.heap.size ≤ g)) ∧ w'.heap[nb]? = some (.cells #[.int .i64 t] 3 (0, 0)) ∧
  w.heap.size ≤ w'.heap.size ∧ (∀ k, k < w.heap.size → k ≠ nb → k ≠ pb → v.ownBlock ≠ some k → w'.heap[k]? = w.heap[k]?) ∧ Below (min nb pb) w w'

set_option maxHeartbeats 1000000 in
set_option maxRecDepth 100000 in
theorem parts1_no (t f : Nat) (w : World) (nb : Nat) (q1 q2 : Value) (hn : w.heap[nb]? = some (.cells #[.int .i64 f] 3 (0, 0))) (h : t ≤ f) :
    Calls Tryz.prog 44 #[.int .i64 t, .pointer (some ⟨nb, 0, none⟩), q1, q2] w fun e w' => e = .returned (.tuple #[]) ∧ w' = w.setCell ⟨nb, 0, none⟩ (.int .i64 t) := by
  have c0 : w.cell? ⟨nb, 0, none⟩ = some (.int .i64 f) := by rw [Lib.cell_of_heap hn]; rfl
  have f0 : w.frozen? ⟨nb, 0, none⟩ = false := Lib.frozen_of_heap hn 0
  have hi : (t : Int) ≤ (f : Int) := by omega
  clear hn
  go_enter Tryz.func44, Tryz.ntmps44
  go_wp2_with fail
  go_end0
  exact ⟨rfl, rfl⟩

theorem after_app1 {t : TypeId} {b B : Nat} {v : Value} {W w2 : World} {row : Option Nat} (hbk : W.heap[b]? = some (.cells #[v] t (0, 0))) (hg : W.grownBy w2 row) (hr : ∀ k, row = some k → B ≤ k) (hbB : b < B) (hBw : B ≤ W.heap.size) :
    w2.cell? ⟨b, 0, none⟩ = some v ∧ w2.frozen? ⟨b, 0, none⟩ = false := by
  have h2 : w2.heap[b]? = some (.cells #[v] t (0, 0)) := (hg.block b (by omega) (fun e => by have := hr b e.symm; omega)).trans hbk
  exact ⟨by rw [Lib.cell_of_heap h2]; rfl, Lib.frozen_of_heap h2 0⟩

theorem p1_post {w w2 : World} {nb pb B n : Nat} {xs : List Value} {v v2 f : Value} (o : Obj) (hg : ((w.alloc o).drew).grownBy w2 v.ownBlock) (hBw : B ≤ w.heap.size) (hr : ∀ k, v.ownBlock = some k → B ≤ k ∧ k < w.heap.size) (hpB : pb < B) (hnB : nb < B) (hne : nb ≠ pb)
    (hbk : w.heap[pb]? = some (.cells #[v] 31 (0, 0))) (hnk : w.heap[nb]? = some (.cells #[f] 3 (0, 0))) (hn : n = xs.length) (hown : w2.ownsRow B 9 1 v2 n xs) (h4 : v2.ownBlock = v.ownBlock ∨ v2.ownBlock = some ((w.alloc o).drew).heap.size) (t : Nat) :
    P1 nb pb B v xs t w ((w2.setCell ⟨pb, 0, none⟩ v2).setCell ⟨nb, 0, none⟩ (.int .i64 t)) := by
  subst hn
  have hz : w.heap.size + 1 ≤ w2.heap.size := by have := hg.size; simpa [World.drew] using this
  have blk : ∀ k, k < w.heap.size → v.ownBlock ≠ some k → w2.heap[k]? = w.heap[k]? := fun k hk hne' => (hg.block k (by show k < (w.alloc o).heap.size; simp; omega) (fun e => hne' e.symm)).trans (Below.heap_alloc w o k hk)
  have hp2 : w2.heap[pb]? = some (.cells #[v] 31 (0, 0)) := (blk pb (by omega) (fun e => by have := (hr pb e).1; omega)).trans hbk
  have hn2 : w2.heap[nb]? = some (.cells #[f] 3 (0, 0)) := (blk nb (by omega) (fun e => by have := (hr nb e).1; omega)).trans hnk
  refine ⟨⟨v2, ?_, ownsRow_setCell_below (ownsRow_setCell_below hown hpB _) hnB _, ?_⟩, ?_, ?_, ?_, ?_⟩
  · rw [Below.heap_setCell _ ⟨nb, 0, none⟩ _ pb (fun e => hne e.symm)]
    simp [World.setCell, Array.getElem?_modify, hp2]
  · rcases h4 with h | h
    · exact .inl h
    · exact .inr (.inr ⟨_, h, by show w.heap.size ≤ (w.alloc o).heap.size; simp⟩)
  · have : (w2.setCell ⟨pb, 0, none⟩ v2).heap[nb]? = some (.cells #[f] 3 (0, 0)) := (Below.heap_setCell _ ⟨pb, 0, none⟩ _ nb hne).trans hn2
    obtain ⟨u, hu⟩ : ∃ u, u = w2.setCell ⟨pb, 0, none⟩ v2 := ⟨_, rfl⟩
    rw [← hu] at this ⊢
    simp [World.setCell, Array.getElem?_modify, this]
  · simp [World.setCell]; omega
  · intro k hk h1 h2 h3
    exact (Below.heap_setCell _ ⟨nb, 0, none⟩ _ k h1).trans ((Below.heap_setCell _ ⟨pb, 0, none⟩ _ k h2).trans (blk k hk h3))
  · have b0 : Below (min nb pb) w ((w.alloc o).drew) := Below.drew ((Below.refl _ _).alloc (by omega) _)
    exact ((b0.grown hg (by show _ ≤ (w.alloc o).heap.size; simp; omega) (fun k hk => by have := (hr k hk).1; omega)).setCell (p := ⟨pb, 0, none⟩) (Nat.min_le_right _ _) _).setCell (p := ⟨nb, 0, none⟩) (Nat.min_le_left _ _) _

set_option maxHeartbeats 4000000 in
set_option maxRecDepth 100000 in
theorem parts1_yes (s : ByteArray) (t f : Nat) (w : World) (nb pb sb B : Nat) (ts : List Value) (v : Value) (hbk : w.heap[pb]? = some (.cells #[v] 31 (0, 0))) (hown : w.ownsRow B 9 1 v ts.length ts) (hpB : pb < B)
    (hn : w.heap[nb]? = some (.cells #[.int .i64 f] 3 (0, 0))) (hs : w.cell? ⟨sb, 0, none⟩ = some (.string s))
    (hnB : nb < B) (hsB : sb < B) (hBw : B ≤ w.heap.size) (h1 : nb ≠ pb) (hlen : ts.length ≤ 4294967280) (h : f < t) (ht : t ≤ s.size) :
    Calls Tryz.prog 44 #[.int .i64 t, .pointer (some ⟨nb, 0, none⟩), .pointer (some ⟨pb, 0, none⟩), .pointer (some ⟨sb, 0, none⟩)] w fun e w' => e = .returned (.tuple #[]) ∧ P1 nb pb B v (ts ++ [.string (s.extract f t)]) t w w' := by
  obtain ⟨i0, hi, hz0, hz1, hz2⟩ := info_parts str_info
  obtain ⟨A, c, rfl, _⟩ := own_reads hown
  have c0 : w.cell? ⟨nb, 0, none⟩ = some (.int .i64 f) := by rw [Lib.cell_of_heap hn]; rfl
  have c1 : w.cell? ⟨pb, 0, none⟩ = some (.slice A ts.length c) := by rw [Lib.cell_of_heap hbk]; rfl
  have j0 : (f : Int) < (t : Int) := by omega
  have j1 : (t : Int) ≤ (s.size : Int) := by omega
  have j2 : (0 : Int) ≤ (f : Int) := by omega
  have j3 : (f : Int) ≤ (t : Int) := by omega
  have hlt := hown.lt
  have HLT := Lib.hid hlt
  clear hlt
  have c1A : ∀ o, (w.alloc o).cell? ⟨pb, 0, none⟩ = some (.slice A ts.length c) := fun o => (World.cell?_alloc_lt w o _ (by show pb < _; omega)).trans c1
  have csA : ∀ o, (w.alloc o).cell? ⟨sb, 0, none⟩ = some (.string s) := fun o => (World.cell?_alloc_lt w o _ (by show sb < _; omega)).trans hs
  have cnA : ∀ o, (w.alloc o).cell? ⟨nb, 0, none⟩ = some (.int .i64 f) := fun o => (World.cell?_alloc_lt w o _ (by show nb < _; omega)).trans c0
  have RD : Reads ((w.alloc (.cells #[.string (s.extract f t)] 9)).drew) (w.heap.size + 1) 1 (some ⟨w.heap.size, 0, none⟩) 1 [.string (s.extract f t)] :=
    ⟨rfl, fun _ => ⟨_, rfl, Nat.lt_succ_self _, cells_new w _ [.string (s.extract f t)] _ rfl⟩⟩
  have HRD := Lib.hid RD
  have HBK := Lib.hid hbk
  have HN := Lib.hid hn
  have q1 := (Below.heap_alloc w (.cells #[.string (s.extract f t)] 9) pb (by omega)).trans hbk
  have q2 := (Below.heap_alloc w (.cells #[.string (s.extract f t)] 9) nb (by omega)).trans hn
  have Q1 : Hid (((w.alloc (.cells #[.string (s.extract f t)] 9)).drew).heap[pb]? = some (.cells #[.slice A ts.length c] 31 (0, 0))) := q1
  have Q2 : Hid (((w.alloc (.cells #[.string (s.extract f t)] 9)).drew).heap[nb]? = some (.cells #[.int .i64 f] 3 (0, 0))) := q2
  clear RD hbk hn q1 q2
  go_enter Tryz.func44, Tryz.ntmps44
  go_wp2_with fail
  go_region_law (refine step_append_any _ (by rfl) _ _ _ (by rfl) B 9 i0 (.string ⟨#[]⟩) 1 16 Tryz.underlying31 hi hz0 hz1 hz2 rfl (by decide) _ ts.length ts (by rfl) ((hown.alloc _).drew) (w.heap.size + 1) (some ⟨w.heap.size, 0, none⟩) 1 1 [.string (s.extract f t)] (by rfl) HRD.out (by intro u hu; simp at hu; subst hu; rfl) (by unfold maxLen; omega) (by omega) (by simp; omega) ?_; intro v2 w2 hown2 hg2 h42; obtain ⟨A2, c2, rfl, _⟩ := own_reads hown2; obtain ⟨d2, f2⟩ := after_app1 Q1.out hg2 (fun g h => (HLT.out g h).1) hpB (by simp; omega); obtain ⟨d3, f3⟩ := after_app1 Q2.out hg2 (fun g h => (HLT.out g h).1) hnB (by simp; omega); have R := Lib.hid (p1_post _ hg2 hBw HLT.out hpB hnB h1 HBK.out HN.out (by simp) hown2 h42 t); clear hown2 hg2 h42)
  all_goals
    have d3' : (w2.setCell ⟨pb, 0, none⟩ (.slice A2 (ts.length + 1) c2)).cell? ⟨nb, 0, none⟩ = some (.int .i64 f) := by rw [World.cell?_setCell_other _ _ _ _ (fun e => by injection e; omega)]; exact d3
    have f3' : (w2.setCell ⟨pb, 0, none⟩ (.slice A2 (ts.length + 1) c2)).frozen? ⟨nb, 0, none⟩ = false := by rw [World.frozen?_setCell]; exact f3
    go_wp2_with fail
    go_end0
    exact ⟨rfl, R.out⟩

theorem parts1_any (s : ByteArray) (t f : Nat) (w : World) (nb pb sb B : Nat) (ts : List Value) (v : Value) (hbk : w.heap[pb]? = some (.cells #[v] 31 (0, 0))) (hown : w.ownsRow B 9 1 v ts.length ts) (hpB : pb < B)
    (hn : w.heap[nb]? = some (.cells #[.int .i64 f] 3 (0, 0))) (hs : w.cell? ⟨sb, 0, none⟩ = some (.string s))
    (hnB : nb < B) (hsB : sb < B) (hBw : B ≤ w.heap.size) (h1 : nb ≠ pb) (hlen : ts.length ≤ 4294967280) (ht : t ≤ s.size) :
    Calls Tryz.prog 44 #[.int .i64 t, .pointer (some ⟨nb, 0, none⟩), .pointer (some ⟨pb, 0, none⟩), .pointer (some ⟨sb, 0, none⟩)] w fun e w' => e = .returned (.tuple #[]) ∧ P1 nb pb B v (ts ++ strV (cutP s f t)) t w w' := by
  unfold cutP
  by_cases h : f < t
  · rw [if_pos h]
    exact parts1_yes s t f w nb pb sb B ts v hbk hown hpB hn hs hnB hsB hBw h1 hlen h ht
  · rw [if_neg h]
    refine (parts1_no t f w nb _ _ hn (by omega)).mono fun e w' ⟨e1, e2⟩ => ⟨e1, ?_⟩
    subst e2
    have hx : ts ++ strV [] = ts := by simp [strV]
    rw [hx]
    refine ⟨⟨v, (Below.heap_setCell _ ⟨nb, 0, none⟩ _ pb (fun e => h1 e.symm)).trans hbk, ownsRow_setCell_below hown hnB _, .inl rfl⟩, ?_, by simp [World.setCell], fun k _ h2 _ _ => Below.heap_setCell _ ⟨nb, 0, none⟩ _ k h2, (Below.refl _ _).setCell (p := ⟨nb, 0, none⟩) (Nat.min_le_left _ _) _⟩
    simp [World.setCell, Array.getElem?_modify, hn]

theorem own_new {w : World} {B C g : Nat} {v v' : Value} (h : v'.ownBlock = v.ownBlock ∨ v'.ownBlock = none ∨ ∃ g, v'.ownBlock = some g ∧ C ≤ g) (hv : ∀ k, v.ownBlock = some k → B ≤ k ∧ k < w.heap.size) (hg : w.heap.size ≤ g) (hC : g < C) : v'.ownBlock ≠ some g := by
  intro e
  rcases h with h | h | ⟨k, h, hk⟩
  · have := (hv g (h ▸ e)).2; omega
  · rw [h] at e; cases e
  · rw [h] at e; injection e; omega

/-- the closure cut, as it lies in its variable -/
def pcutV (nb pb sb : Nat) : Value := .func (.func 44) #[] #[.pointer (some ⟨nb, 0, none⟩), .pointer (some ⟨pb, 0, none⟩), .pointer (some ⟨sb, 0, none⟩)]

set_option maxHeartbeats 1000000 in
set_option maxRecDepth 100000 in
theorem parts2_no (x : Sp) (w : World) (q : Value) (h : ¬ pcut x) :
    Calls Tryz.prog 45 #[spV x, q] w fun e w' => e = .returned (.tuple #[]) ∧ Below w.heap.size w w' := by
  unfold pcut at h
  have e4 : (x.kind == 4) = false := by simp; omega
  have e5 : (x.kind == 5) = false := by simp; omega
  have e6 : (x.kind == 6) = false := by simp; omega
  clear h
  rw [spV_eq]
  go_enter Tryz.func45, Tryz.ntmps45
  go_wp2
  go_end0
  exact ⟨rfl, (Below.refl _ _).alloc (Nat.le_refl _) _⟩

set_option maxHeartbeats 4000000 in
set_option maxRecDepth 100000 in
theorem parts2_yes (s : ByteArray) (x : Sp) (f : Nat) (w : World) (cb nb pb sb B : Nat) (ts : List Value) (v : Value) (hbk : w.heap[pb]? = some (.cells #[v] 31 (0, 0))) (hown : w.ownsRow B 9 1 v ts.length ts) (hpB : pb < B)
    (hn : w.heap[nb]? = some (.cells #[.int .i64 f] 3 (0, 0))) (hs : w.cell? ⟨sb, 0, none⟩ = some (.string s)) (hcut : w.cell? ⟨cb, 0, none⟩ = some (pcutV nb pb sb))
    (hnB : nb < B) (hsB : sb < B) (hcB : cb < B) (hBw : B ≤ w.heap.size) (h1 : nb ≠ pb) (h2 : sb ≠ nb) (h3 : sb ≠ pb) (h4 : cb ≠ nb) (h5 : cb ≠ pb) (hlen : ts.length ≤ 4294967200) (hx1 : x.frm ≤ x.to_) (hx2 : x.to_ ≤ s.size) (hk : pcut x) :
    Calls Tryz.prog 45 #[spV x, .pointer (some ⟨cb, 0, none⟩)] w fun e w' => e = .returned (.tuple #[]) ∧ ∃ w1 w2 v1, Below w.heap.size w w1 ∧ P1 nb pb B v (ts ++ strV (cutP s f x.frm)) x.frm w1 w2 ∧ w2.heap[pb]? = some (.cells #[v1] 31 (0, 0)) ∧ P1 nb pb B v1 (ts ++ strV (cutP s f x.frm ++ cutP s x.frm x.to_)) x.to_ w2 w' := by
  have he : ∀ args w, (callFunc 44 args).run Tryz.prog w = .ok (.enter 44 args) w := Go.Proofs.enters_of Tryz.func44 (by kernel_rfl) rfl
  obtain ⟨W, hW⟩ : ∃ W : World, W = w.alloc (.cells #[.int .i64 x.kind, .int .i64 x.frm, .int .i64 x.to_, .string x.text, .string x.show_, .int .i64 x.id, .bool x.strong] 27) := ⟨_, rfl⟩
  have hWs : W.heap.size = w.heap.size + 1 := by rw [hW]; simp
  have hWk : ∀ k, k < w.heap.size → W.heap[k]? = w.heap[k]? := fun k hk' => by rw [hW]; exact Below.heap_alloc w _ k hk'
  have hWx : W.heap[w.heap.size]? = some (.cells #[.int .i64 x.kind, .int .i64 x.frm, .int .i64 x.to_, .string x.text, .string x.show_, .int .i64 x.id, .bool x.strong] 27 (0, 0)) := by rw [hW]; exact heap_alloc_new w _
  have hbW : Below w.heap.size w W := by rw [hW]; exact (Below.refl _ _).alloc (Nat.le_refl _) _
  have hWc : W.cell? ⟨cb, 0, none⟩ = some (pcutV nb pb sb) := (World.cell?_of_block (hWk cb (by omega))).trans hcut
  have hWsc : W.cell? ⟨sb, 0, none⟩ = some (.string s) := (World.cell?_of_block (hWk sb (by omega))).trans hs
  have hvlt := hown.lt
  have hownW : W.ownsRow B 9 1 v ts.length ts := own_below hown hbW
  have C1 := parts1_any s x.frm f W nb pb sb B ts v ((hWk pb (by omega)).trans hbk) hownW hpB ((hWk nb (by omega)).trans hn) hWsc hnB hsB (by omega) h1 (by omega) (by omega)
  have x1 : W.cell? ⟨w.heap.size, 1, none⟩ = some (.int .i64 x.frm) := by rw [Lib.cell_of_heap hWx]; rfl
  have hcA : ∀ o, (w.alloc o).cell? ⟨cb, 0, none⟩ = some (.func (.func 44) #[] #[.pointer (some ⟨nb, 0, none⟩), .pointer (some ⟨pb, 0, none⟩), .pointer (some ⟨sb, 0, none⟩)]) := fun o => (World.cell?_alloc_lt w o _ (by show cb < _; omega)).trans hcut
  have c1 := Lib.hid C1
  have HB := Lib.hid hbW
  have HVL := Lib.hid hvlt
  have HWX := Lib.hid hWx
  have HWC := Lib.hid hWc
  have HWS := Lib.hid hWsc
  have HSZ := Lib.hid hWs
  have HW := Lib.hid hW
  clear hbk hown hn hs hcut hWs hWk hWx hbW hvlt hownW hWc hWsc C1 hW x1
  have hk3 : (x.kind == 4) = true ∨ ((x.kind == 4) = false ∧ (x.kind == 5) = true) ∨ ((x.kind == 4) = false ∧ (x.kind == 5) = false ∧ (x.kind == 6) = true) := by
    unfold pcut at hk
    rcases hk with h | h | h <;> simp [h]
  have hl1 := cutP_len s f x.frm
  clear hk
  rw [spV_eq]
  rcases hk3 with e4 | ⟨e4, e5⟩ | ⟨e4, e5, e6⟩
  all_goals
    go_enter Tryz.func45, Tryz.ntmps45
    go_wp2_with fail
    rw [← HW.out]
    refine c1.out.mono ?_
    rintro e w3 ⟨rfl, HP⟩
    have HP0 := Lib.hid HP
    obtain ⟨⟨v1, p1, p2, p3⟩, p4, p5, p6, p7⟩ := HP
    have hWs := HSZ.out
    have ob : ∀ k, k < B → v.ownBlock ≠ some k := fun k hk e => by have := (HVL.out k e).1; omega
    have ob2 : v.ownBlock ≠ some w.heap.size := fun e => by have := (HVL.out _ e).2; omega
    have y1 : w3.cell? ⟨cb, 0, none⟩ = some (.func (.func 44) #[] #[.pointer (some ⟨nb, 0, none⟩), .pointer (some ⟨pb, 0, none⟩), .pointer (some ⟨sb, 0, none⟩)]) := (World.cell?_of_block (p6 cb (by omega) h4 h5 (ob cb hcB))).trans HWC.out
    have y2 : w3.cell? ⟨sb, 0, none⟩ = some (.string s) := (World.cell?_of_block (p6 sb (by omega) h2 h3 (ob sb hsB))).trans HWS.out
    have y3 : w3.cell? ⟨w.heap.size, 2, none⟩ = some (.int .i64 x.to_) := by
      rw [Lib.cell_of_heap ((p6 w.heap.size (by omega) (by omega) (by omega) ob2).trans HWX.out)]; rfl
    have C2 := parts1_any s x.to_ x.frm w3 nb pb sb B _ v1 p1 p2 hpB p4 y2 hnB hsB (by omega) h1 (by rw [List.length_append]; unfold strV; rw [List.length_map]; omega) hx2
    rw [List.append_assoc, ← strV_app] at C2
    have c2 := Lib.hid C2
    have HP1 := Lib.hid p1
    clear p1 p2 p3 p4 p6 p7 ob ob2 y2 C2 hWs
    go_wp2_with fail
    refine c2.out.mono ?_
    rintro e w4 ⟨rfl, HQ⟩
    have R : Hid (∃ w1 w2 v1, Below w.heap.size w w1 ∧ P1 nb pb B v (ts ++ strV (cutP s f x.frm)) x.frm w1 w2 ∧ w2.heap[pb]? = some (.cells #[v1] 31 (0, 0)) ∧ P1 nb pb B v1 (ts ++ strV (cutP s f x.frm ++ cutP s x.frm x.to_)) x.to_ w2 w4) := ⟨W, w3, v1, HB.out, HP0.out, HP1.out, HQ⟩
    clear HQ
    go_wp2
    go_end0
    exact ⟨rfl, R.out⟩

theorem p1_keep {nb pb B t : Nat} {v : Value} {xs : List Value} {w w' : World} (h : P1 nb pb B v xs t w w') (hv : ∀ k, v.ownBlock = some k → B ≤ k ∧ k < w.heap.size) {k : Nat} (hk : k < B) (hkw : k < w.heap.size) (h1 : k ≠ nb) (h2 : k ≠ pb) : w'.heap[k]? = w.heap[k]? :=
  h.2.2.2.1 k hkw h1 h2 (fun e => by have := (hv k e).1; omega)

/-- what the walk of Parts keeps -/
def PI (s : ByteArray) (n0 C : Nat) (w1 : World) (l : List Sp) (w2 : World) : Prop :=
  C ≤ w1.heap.size ∧ w1.heap.size ≤ w2.heap.size ∧ w2.cell? ⟨n0, 0, none⟩ = some (.string s) ∧ w2.cell? ⟨n0 + 1 + 1 + 1, 0, none⟩ = some (pcutV (n0 + 1 + 1) (n0 + 1) n0) ∧
  (∃ v, w2.heap[n0 + 1]? = some (.cells #[v] 31 (0, 0)) ∧ w2.ownsRow w1.heap.size 9 1 v (strV (partsF s l).2).length (strV (partsF s l).2)) ∧
  w2.heap[n0 + 1 + 1]? = some (.cells #[.int .i64 (partsF s l).1] 3 (0, 0)) ∧ (∀ k, C ≤ k → k < w1.heap.size → w2.heap[k]? = w1.heap[k]?) ∧ Below n0 w1 w2
theorem PI.keep {s : ByteArray} {n0 C : Nat} {w1 w2 w3 : World} {l : List Sp} (h : PI s n0 C w1 l w2) (hC : C = n0 + 4) (hb : Below w2.heap.size w2 w3) : PI s n0 C w1 l w3 := by
  obtain ⟨a0, a1, a2, a3, ⟨v, a4, a5⟩, a6, a7, a8⟩ := h
  have := hb.size
  exact ⟨a0, by omega, (hb.cell (p := ⟨n0, 0, none⟩) (by show n0 < _; omega)).trans a2, (hb.cell (p := ⟨n0 + 1 + 1 + 1, 0, none⟩) (by show n0 + 1 + 1 + 1 < _; omega)).trans a3, ⟨v, (hb.block _ (by omega)).trans a4, own_below a5 hb⟩, (hb.block _ (by omega)).trans a6, fun k k1 k2 => (hb.block k (by omega)).trans (a7 k k1 k2), a8.trans (hb.mono (by omega))⟩
theorem PI.step {s : ByteArray} {n0 C : Nat} {w1 w2 wa wb w3 : World} {l : List Sp} {x : Sp} {v v1 : Value} (h : PI s n0 C w1 l w2) (hC : C = n0 + 4) (hx : pcut x) (hv : w2.heap[n0 + 1]? = some (.cells #[v] 31 (0, 0)))
    (hb : Below w2.heap.size w2 wa) (hp : P1 (n0 + 1 + 1) (n0 + 1) w1.heap.size v (strV (partsF s l).2 ++ strV (cutP s (partsF s l).1 x.frm)) x.frm wa wb) (hv1 : wb.heap[n0 + 1]? = some (.cells #[v1] 31 (0, 0)))
    (hq : P1 (n0 + 1 + 1) (n0 + 1) w1.heap.size v1 (strV (partsF s l).2 ++ strV (cutP s (partsF s l).1 x.frm ++ cutP s x.frm x.to_)) x.to_ wb w3) : PI s n0 C w1 (l ++ [x]) w3 := by
  obtain ⟨a0, a1, a2, a3, ⟨v0, a4, a5⟩, a6, a7, a8⟩ := h
  have hzb := hb.size
  obtain rfl : v0 = v := by rw [a4] at hv; injection hv with hv; injection hv with hv; simpa using hv
  have l0 : ∀ k, v0.ownBlock = some k → w1.heap.size ≤ k ∧ k < wa.heap.size := fun k e => by have := a5.lt k e; omega
  obtain ⟨⟨v1', b1, b2, b3⟩, b4, b5, b6, b7⟩ := hp
  obtain rfl : v1' = v1 := by rw [b1] at hv1; injection hv1 with hv1; injection hv1 with hv1; simpa using hv1
  have l1 : ∀ k, v1'.ownBlock = some k → w1.heap.size ≤ k ∧ k < wb.heap.size := fun k e => b2.lt k e
  have kp : ∀ k, k < w1.heap.size → k ≠ n0 + 1 + 1 → k ≠ n0 + 1 → w3.heap[k]? = w2.heap[k]? := fun k k1 k2 k3 =>
    (p1_keep hq l1 k1 (by omega) k2 k3).trans ((p1_keep ⟨⟨v1', b1, b2, b3⟩, b4, b5, b6, b7⟩ l0 k1 (by omega) k2 k3).trans (hb.block k (by omega)))
  obtain ⟨⟨v2, c1, c2, _⟩, c4, c5, _, c7⟩ := hq
  have hF : partsF s (l ++ [x]) = (x.to_, (partsF s l).2 ++ (cutP s (partsF s l).1 x.frm ++ cutP s x.frm x.to_)) := by rw [partsF_snoc]; unfold pstep; rw [if_pos hx]
  rw [← strV_app] at c2
  refine ⟨a0, by omega, (World.cell?_of_block (kp n0 (by omega) (by omega) (by omega))).trans a2, (World.cell?_of_block (kp (n0 + 1 + 1 + 1) (by omega) (by omega) (by omega))).trans a3, ⟨v2, c1, by rw [hF]; exact c2⟩, by rw [hF]; exact c4, fun k k1 k2 => (kp k k2 (by omega) (by omega)).trans (a7 k k1 k2), ?_⟩
  exact ((a8.trans (hb.mono (by omega))).trans (b7.mono (by omega))).trans (c7.mono (by omega))

set_option maxHeartbeats 2000000 in
set_option maxRecDepth 100000 in
theorem parts_any (s : ByteArray) (w : World) (hs : s.size ≤ 1048576) :
    Calls Tryz.prog 22 #[.string s] w fun e w' => ∃ v, e = .returned v ∧ w'.ownsRow w.heap.size 9 1 v (strV (parts s)).length (strV (parts s)) ∧ Below w.heap.size w w' := by
  have he : ∀ args w, (callFunc 45 args).run Tryz.prog w = .ok (.enter 45 args) w := Go.Proofs.enters_of Tryz.func45 (by kernel_rfl) rfl
  have he1 : ∀ args w, (callFunc 44 args).run Tryz.prog w = .ok (.enter 44 args) w := Go.Proofs.enters_of Tryz.func44 (by kernel_rfl) rfl
  obtain ⟨o0, ho0⟩ : ∃ o : Obj, o = .cells #[.string s] 9 := ⟨_, rfl⟩
  obtain ⟨o1, ho1⟩ : ∃ o : Obj, o = .cells #[.slice none 0 0] 31 := ⟨_, rfl⟩
  obtain ⟨o2, ho2⟩ : ∃ o : Obj, o = .cells #[.int .i64 0] 3 := ⟨_, rfl⟩
  obtain ⟨o3, ho3⟩ : ∃ o : Obj, o = .cells #[.func (.func 44) #[] #[.pointer (some ⟨w.heap.size + 1 + 1, 0, none⟩), .pointer (some ⟨w.heap.size + 1, 0, none⟩), .pointer (some ⟨w.heap.size, 0, none⟩)]] 59 := ⟨_, rfl⟩
  obtain ⟨W, hW⟩ : ∃ W : World, W = (((w.alloc o0).alloc o1).alloc o2).alloc o3 := ⟨_, rfl⟩
  have hWs : W.heap.size = w.heap.size + 4 := by rw [hW]; simp
  have k0 : W.heap[w.heap.size]? = some o0 := by
    rw [hW]
    exact (Below.heap_alloc _ _ _ (by simp; omega)).trans ((Below.heap_alloc _ _ _ (by simp; omega)).trans ((Below.heap_alloc _ _ _ (by simp)).trans (heap_alloc_new w o0)))
  have k1 : W.heap[w.heap.size + 1]? = some o1 := by
    rw [hW]
    have := heap_alloc_new (w.alloc o0) o1
    simp only [World.size_alloc] at this
    exact (Below.heap_alloc _ _ _ (by simp)).trans ((Below.heap_alloc _ _ _ (by simp)).trans this)
  have k2 : W.heap[w.heap.size + 1 + 1]? = some o2 := by
    rw [hW]
    have := heap_alloc_new ((w.alloc o0).alloc o1) o2
    simp only [World.size_alloc] at this
    exact (Below.heap_alloc _ _ _ (by simp)).trans this
  have k3 : W.heap[w.heap.size + 1 + 1 + 1]? = some o3 := by
    rw [hW]
    have := heap_alloc_new (((w.alloc o0).alloc o1).alloc o2) o3
    simp only [World.size_alloc] at this
    exact this
  have hbelW : Below w.heap.size w W := by rw [hW]; exact ((((Below.refl _ _).alloc (Nat.le_refl _) _).alloc (by simp) _).alloc (by simp; omega) _).alloc (by simp; omega) _
  have HE := each_any s 45 #[.pointer (some ⟨w.heap.size + 1 + 1 + 1, 0, none⟩)] W (by omega) (PI s w.heap.size W.heap.size) he
    (fun w1 hb => by
      have hz := hb.size
      refine ⟨hz, Nat.le_refl _, ?_, ?_, ⟨.slice none 0 0, ?_, World.ownsRow_nil _ _ _ _⟩, ?_, fun _ _ _ => rfl, Below.refl _ _⟩
      · rw [Lib.cell_of_heap (((hb.block _ (by omega)).trans k0).trans (congrArg some ho0))]; rfl
      · rw [Lib.cell_of_heap (((hb.block _ (by omega)).trans k3).trans (congrArg some ho3))]; rfl
      · exact ((hb.block _ (by omega)).trans k1).trans (congrArg some ho1)
      · exact ((hb.block _ (by omega)).trans k2).trans (congrArg some ho2))
    (fun w1 l w2 o hb h => h.keep hWs ((Below.refl _ _).alloc (Nat.le_refl _) o))
    (fun w1 l w2 h => ⟨h.2.1, fun p hp hp' => World.cell?_of_block (h.2.2.2.2.2.2.1 p.block hp hp')⟩)
    (fun w1 l x w2 hb h ⟨r, hr⟩ => by
      by_cases hx : pcut x
      · obtain ⟨a0, a1, a2, a3, ⟨v, a4, a5⟩, a6, a7, a8⟩ := h
        have hc := spans_cont s
        rw [hr] at hc
        obtain ⟨b, g1, g2⟩ := cont_split hc
        have hb1 := (cont_le g2.2.2).1
        have hfx := g2.1
        have htx := g2.2.1
        obtain ⟨_, hl2, _⟩ := partsF_is s l g1 (by omega)
        have hll := (cont_le g1).2
        refine (parts2_yes s x (partsF s l).1 w2 (w.heap.size + 1 + 1 + 1) (w.heap.size + 1 + 1) (w.heap.size + 1) w.heap.size w1.heap.size _ v a4 a5 (by omega) a6 a2 a3 (by omega) (by omega) (by omega) a1 (by omega) (by omega) (by omega) (by omega) (by omega) (by unfold strV; rw [List.length_map]; omega) (by omega) (by omega) hx).mono ?_
        rintro e w3 ⟨rfl, wa, wb, v1, q1, q2, q3, q4⟩
        exact ⟨rfl, PI.step ⟨a0, a1, a2, a3, ⟨v, a4, a5⟩, a6, a7, a8⟩ hWs hx a4 q1 q2 q3 q4⟩
      · refine (parts2_no x w2 _ hx).mono ?_
        rintro e w3 ⟨rfl, hb3⟩
        have hF : partsF s (l ++ [x]) = partsF s l := by rw [partsF_snoc]; unfold pstep; rw [if_neg hx]
        have := h.keep hWs hb3
        unfold PI at this ⊢
        rw [hF]
        exact ⟨rfl, this⟩)
  have HE := Lib.hid HE
  have HB := Lib.hid hbelW
  have HWS := Lib.hid hWs
  clear hbelW hWs k0 k1 k2 k3
  obtain ⟨hf1, hf2, _⟩ := partsF_is s (spans s) (spans_cont s) (Nat.le_refl _)
  have hsl := (cont_le (spans_cont s)).2
  have HPT : Hid (strV (partsF s (spans s)).2 ++ strV (cutP s (partsF s (spans s)).1 s.size) = strV (parts s)) := by show _ = _; rw [← strV_app]; rfl
  obtain ⟨F, hF⟩ : ∃ F, F = partsF s (spans s) := ⟨_, rfl⟩
  rw [← hF] at hf1 hf2 HPT
  have HF := Lib.hid hF
  rw [ho0, ho1, ho2, ho3] at hW
  have HWE := Lib.hid hW
  clear hF hW ho0 ho1 ho2 ho3
  go_enter Tryz.func22, Tryz.ntmps22
  go_wp2_with fail
  rw [← HWE.out]
  refine HE.out.mono ?_
  rintro e w1 ⟨rfl, w0, hb0, hPI⟩
  unfold PI at hPI
  rw [← HF.out] at hPI
  obtain ⟨a0, a1, a2, a3, ⟨v, a4, a5⟩, a6, a7, a8⟩ := hPI
  have hz := hb0.size
  have hws := HWS.out
  have a3' : w1.cell? ⟨w.heap.size + 1 + 1 + 1, 0, none⟩ = some (.func (.func 44) #[] #[.pointer (some ⟨w.heap.size + 1 + 1, 0, none⟩), .pointer (some ⟨w.heap.size + 1, 0, none⟩), .pointer (some ⟨w.heap.size, 0, none⟩)]) := a3
  have C := parts1_any s s.size F.1 w1 (w.heap.size + 1 + 1) (w.heap.size + 1) w.heap.size w0.heap.size _ v a4 a5 (by omega) a6 a2 (by omega) (by omega) a1 (by omega) (by unfold strV; rw [List.length_map]; omega) (Nat.le_refl _)
  rw [HPT.out] at C
  have HC := Lib.hid C
  have B1 : Hid (Below w.heap.size w w1) := HB.out.trans ((hb0.mono (by omega)).trans a8)
  clear C a3 a4 a5 a6 a7 a8 hb0 hws
  go_wp2_with fail
  refine HC.out.mono ?_
  rintro e w2 ⟨rfl, ⟨v2, d1, d2, _⟩, d4, d5, _, d7⟩
  have hc1 : w2.cell? ⟨w.heap.size + 1, 0, none⟩ = some v2 := by rw [Lib.cell_of_heap d1]; rfl
  have hz0 := HWS.out
  have R : Hid (w2.ownsRow w.heap.size 9 1 v2 (strV (parts s)).length (strV (parts s)) ∧ Below w.heap.size w w2) := ⟨d2.mono (by omega), B1.out.trans (d7.mono (by omega))⟩
  clear d1 d2 d4 d7 HC B1 hz0
  go_wp2
  go_ret
  exact ⟨_, rfl, R.out.1, R.out.2⟩
end Go.Proofs.YtcbmddgafkoooaaGreatDoor
