/-
  DERIVED. The walk of the closure in text.Retarget. Conditions: a span that lies in the text. By an AI agent.
-/
import Derived.Test.YtcbmddgafkoooaaDoorReplaced
namespace Go.Proofs.YtcbmddgafkoooaaDoor
open Go.RowKit

/-- a link's text lies in it -/
def LkP (x : Sp) : Prop := x.kind = 4 → x.frm + 2 + x.text.size + 2 ≤ x.to_
theorem tokA_lkp (s : ByteArray) (a : Nat) : LkP (tokA s a) := fun h => by
  have LI := tokL_inv (tokA_link h)
  obtain ⟨h1, h2, h3, h4⟩ := LI.es
  rw [h4, LI.fr]; omega
theorem toks_lkp (s : ByteArray) (a : Nat) : ∀ x ∈ toks s a, LkP x := by
  have key : ∀ n a, ∀ x ∈ toksN s n a, LkP x := by
    intro n
    induction n with
    | zero => intro a x hx; cases hx
    | succ n ih =>
      intro a x hx
      simp only [toksN] at hx
      split at hx
      · rcases List.mem_cons.1 hx with rfl | hx
        · exact tokA_lkp s a
        · exact ih _ _ hx
      · cases hx
  exact key _ a
theorem strong_lkp {l : List Sp} (h : ∀ x ∈ l, LkP x) : ∀ x ∈ strong l, LkP x := by
  intro x hx
  obtain ⟨j, hj, rfl⟩ := List.mem_mapIdx.1 hx
  have g := h _ (List.getElem_mem hj)
  intro hk
  refine g ?_
  have e := strBy_link (l0 := l) (j := j) (List.getElem?_eq_getElem hj)
  rw [show ((strBy l j l[j]).kind == 4) = true from beq_iff_eq.2 hk] at e
  simpa using e.symm
theorem merge_lkp : ∀ {l acc : List Sp}, (∀ x ∈ l, LkP x) → (∀ x ∈ acc, LkP x) → ∀ x ∈ merge acc l, LkP x
  | [], acc, _, h2 => h2
  | x :: l, acc, h1, h2 => show ∀ y ∈ merge (mstep acc x) l, LkP y from merge_lkp (fun y hy => h1 y (List.mem_cons_of_mem _ hy)) (fun y hy => by
      unfold mstep at hy
      cases e : acc.getLast? with
      | none => rw [e] at hy; simp at hy; subst hy; exact h1 _ (List.mem_cons_self ..)
      | some z =>
        rw [e] at hy
        dsimp only at hy
        split at hy
        · rename_i c
          rcases List.mem_append.1 hy with hy | hy
          · exact h2 y ((List.dropLast_sublist acc).subset hy)
          · simp at hy; subst hy
            intro hk
            have hk : z.kind = 4 := hk
            simp only [Bool.and_eq_true, beq_iff_eq] at c
            omega
        · rcases List.mem_append.1 hy with hy | hy
          · exact h2 y hy
          · simp at hy; subst hy; exact h1 _ (List.mem_cons_self ..))
theorem spans_lkp (s : ByteArray) : ∀ x ∈ spans s, LkP x := by
  intro x hx
  obtain ⟨y, hy, rfl⟩ := List.mem_map.1 hx
  have h := merge_lkp (strong_lkp (toks_lkp s 0)) (fun _ h => by cases h) y hy
  unfold fillT
  split
  · rename_i k
    intro hk
    have hk : y.kind = 4 := hk
    omega
  · exact h

/-- what stands in a span's place -/
def retR (s : ByteArray) (n : Nat) (U : ByteArray) (pre : List Sp) (x : Sp) : ByteArray :=
  if x.kind = 4 ∧ lk pre = n then (⟨#[91, 91]⟩ ++ U) ++ s.extract (x.frm + 2 + x.text.size) x.to_ else s.extract x.frm x.to_

set_option maxHeartbeats 1000000 in
set_option maxRecDepth 100000 in
theorem retarget1_no (s : ByteArray) (x : Sp) (w : World) (sb : Nat) (q1 q2 q3 : Value) (hsb : sb < w.heap.size) (hs : w.cell? ⟨sb, 0, none⟩ = some (.string s)) (hk : (x.kind == 4) = false) (h1 : x.frm ≤ x.to_) (h2 : x.to_ ≤ s.size) :
    Calls Tryd.prog 34 #[spV x, q1, q2, q3, .pointer (some ⟨sb, 0, none⟩)] w fun e w' => e = .returned (.string (s.extract x.frm x.to_)) ∧ Below w.heap.size w w' := by
  have hsA : ∀ o, (w.alloc o).cell? ⟨sb, 0, none⟩ = some (.string s) := fun o => (World.cell?_alloc_lt w o _ hsb).trans hs
  have i1 : (0 : Int) ≤ (x.frm : Int) := by omega
  have i2 : (x.frm : Int) ≤ (x.to_ : Int) := by omega
  have i3 : (x.to_ : Int) ≤ (s.size : Int) := by omega
  have K := Blk.new w 29 #[.int .i64 x.kind, .int .i64 x.frm, .int .i64 x.to_, .string x.text, .string x.show_, .int .i64 x.id, .bool x.strong]
  have q0 := K.cell 0
  have q1' := K.cell 1
  have q2' := K.cell 2
  clear hs K
  rw [spV_eq]
  go_enter Tryd.func34, Tryd.ntmps34
  go_wp2
  try go_region
  all_goals try go_wp2
  all_goals go_ret
  all_goals exact ⟨rfl, by repeat (first | exact Below.refl _ _ | apply Below.drew | exact (Below.refl _ _).alloc (Nat.le_refl _) _)⟩

/-- the world behind n++ -/
theorem ret_world {w : World} {nb lb sb n m : Nat} {s : ByteArray} {o : Obj} (hnb : nb < w.heap.size) (hn : w.heap[nb]? = some (.cells #[.int .i64 ((m : Int) - 1)] 3 (0, 0))) (_hlb : lb < w.heap.size) (hlk : w.cell? ⟨lb, 0, none⟩ = some (.int .i64 n)) (_hsb : sb < w.heap.size) (hs : w.cell? ⟨sb, 0, none⟩ = some (.string s))
    (hne1 : nb ≠ lb) (hne2 : nb ≠ sb) :
    (w.setCell ⟨nb, 0, none⟩ (.int .i64 m)).cell? ⟨nb, 0, none⟩ = some (.int .i64 m) ∧ (w.setCell ⟨nb, 0, none⟩ (.int .i64 m)).cell? ⟨lb, 0, none⟩ = some (.int .i64 n) ∧ (w.setCell ⟨nb, 0, none⟩ (.int .i64 m)).cell? ⟨sb, 0, none⟩ = some (.string s) ∧
    (w.alloc o).cell? ⟨nb, 0, none⟩ = some (.int .i64 ((m : Int) - 1)) ∧ (w.alloc o).frozen? ⟨nb, 0, none⟩ = false ∧
    Hid (Below nb w ((w.setCell ⟨nb, 0, none⟩ (.int .i64 m)).alloc o) ∧ ((w.setCell ⟨nb, 0, none⟩ (.int .i64 m)).alloc o).heap[nb]? = some (.cells #[.int .i64 m] 3 (0, 0)) ∧ ∀ k, k ≠ nb → k < w.heap.size → ((w.setCell ⟨nb, 0, none⟩ (.int .i64 m)).alloc o).heap[k]? = w.heap[k]?) := by
  have hz : (w.setCell ⟨nb, 0, none⟩ (.int .i64 m)).heap.size = w.heap.size := by simp [World.setCell]
  have hA : (w.alloc o).heap[nb]? = some (.cells #[.int .i64 ((m : Int) - 1)] 3 (0, 0)) := (Below.heap_alloc w _ nb hnb).trans hn
  have hc : (w.alloc o).cell? ⟨nb, 0, none⟩ = some (.int .i64 ((m : Int) - 1)) := by rw [Lib.cell_of_heap hA]; rfl
  refine ⟨World.cell?_setCell_same' _ _ _ (by rw [Lib.cell_of_heap hn]; rfl), (World.cell?_setCell_other _ _ _ _ (fun e => hne1 (by injection e))).trans hlk, (World.cell?_setCell_other _ _ _ _ (fun e => hne2 (by injection e))).trans hs, hc, Lib.frozen_of_heap hA 0,
    ((Below.refl nb w).setCell (p := ⟨nb, 0, none⟩) (Nat.le_refl _) _).alloc (by omega) _, ?_, fun k h1 h2 => (Below.heap_alloc _ _ k (by omega)).trans (Below.heap_setCell _ _ _ _ h1)⟩
  refine (Below.heap_alloc _ _ nb (by omega)).trans ?_
  simp [World.setCell, Array.getElem?_modify, hn]

set_option maxHeartbeats 1000000 in
set_option maxRecDepth 100000 in
theorem retarget1_other (s : ByteArray) (x : Sp) (w : World) (nb lb sb : Nat) (m n : Nat) (q3 : Value) (hnb : nb < w.heap.size) (hn : w.heap[nb]? = some (.cells #[.int .i64 ((m : Int) - 1)] 3 (0, 0))) (hlb : lb < w.heap.size) (hlk : w.cell? ⟨lb, 0, none⟩ = some (.int .i64 n)) (hsb : sb < w.heap.size) (hs : w.cell? ⟨sb, 0, none⟩ = some (.string s))
    (hne1 : nb ≠ lb) (hne2 : nb ≠ sb) (hk : (x.kind == 4) = true) (hmn : ((m : Int) == (n : Int)) = false) (hm : m ≤ 4294967280) (h1 : x.frm ≤ x.to_) (h2 : x.to_ ≤ s.size) :
    Calls Tryd.prog 34 #[spV x, .pointer (some ⟨nb, 0, none⟩), .pointer (some ⟨lb, 0, none⟩), q3, .pointer (some ⟨sb, 0, none⟩)] w fun e w' => e = .returned (.string (s.extract x.frm x.to_)) ∧ Below nb w w' ∧ w'.heap[nb]? = some (.cells #[.int .i64 m] 3 (0, 0)) ∧ ∀ k, k ≠ nb → k < w.heap.size → w'.heap[k]? = w.heap[k]? := by
  have i1 : (0 : Int) ≤ (x.frm : Int) := by omega
  have i2 : (x.frm : Int) ≤ (x.to_ : Int) := by omega
  have i3 : (x.to_ : Int) ≤ (s.size : Int) := by omega
  obtain ⟨n2, l2, s2, n0, f0, R⟩ := ret_world (o := .cells #[.int .i64 x.kind, .int .i64 x.frm, .int .i64 x.to_, .string x.text, .string x.show_, .int .i64 x.id, .bool x.strong] 29) hnb hn hlb hlk hsb hs hne1 hne2
  have q0 := (Blk.new w 29 #[.int .i64 x.kind, .int .i64 x.frm, .int .i64 x.to_, .string x.text, .string x.show_, .int .i64 x.id, .bool x.strong]).cell 0
  clear hn hlk hs
  rw [spV_eq]
  go_enter Tryd.func34, Tryd.ntmps34
  go_wp2_with fail
  go_ret
  exact ⟨rfl, R.out⟩

set_option maxHeartbeats 1000000 in
set_option maxRecDepth 100000 in
theorem retarget1_here (s U : ByteArray) (x : Sp) (w : World) (nb lb tb sb : Nat) (m : Nat) (hnb : nb < w.heap.size) (hn : w.heap[nb]? = some (.cells #[.int .i64 ((m : Int) - 1)] 3 (0, 0))) (hlb : lb < w.heap.size) (hlk : w.cell? ⟨lb, 0, none⟩ = some (.int .i64 m)) (hsb : sb < w.heap.size) (hs : w.cell? ⟨sb, 0, none⟩ = some (.string s))
    (htb : tb < w.heap.size) (ht : w.cell? ⟨tb, 0, none⟩ = some (.string U)) (hne1 : nb ≠ lb) (hne2 : nb ≠ sb) (hne3 : nb ≠ tb) (hk : (x.kind == 4) = true) (hm : m ≤ 4294967280) (h1 : x.frm + 2 + x.text.size ≤ x.to_) (h2 : x.to_ ≤ s.size) (h3 : s.size ≤ 4294967280) (hU : U.size ≤ 4294967280) :
    Calls Tryd.prog 34 #[spV x, .pointer (some ⟨nb, 0, none⟩), .pointer (some ⟨lb, 0, none⟩), .pointer (some ⟨tb, 0, none⟩), .pointer (some ⟨sb, 0, none⟩)] w fun e w' => e = .returned (.string ((⟨#[91, 91]⟩ ++ U) ++ s.extract (x.frm + 2 + x.text.size) x.to_)) ∧ Below nb w w' ∧ w'.heap[nb]? = some (.cells #[.int .i64 m] 3 (0, 0)) ∧ ∀ k, k ≠ nb → k < w.heap.size → w'.heap[k]? = w.heap[k]? := by
  have i0 : (0 : Int) ≤ (x.frm : Int) := by omega
  have i1 : (0 : Int) ≤ (x.frm : Int) + 2 + (x.text.size : Int) := by omega
  have i2 : (x.frm : Int) + 2 + (x.text.size : Int) ≤ (x.to_ : Int) := by omega
  have i3 : (x.to_ : Int) ≤ (s.size : Int) := by omega
  have i4 : (x.text.size : Int) ≤ 4294967280 := by omega
  have i5 : ((x.frm : Int) + 2 + (x.text.size : Int)).toNat = x.frm + 2 + x.text.size := by omega
  have t2 : (w.setCell ⟨nb, 0, none⟩ (.int .i64 m)).cell? ⟨tb, 0, none⟩ = some (.string U) := (World.cell?_setCell_other _ _ _ _ (fun e => hne3 (by injection e))).trans ht
  obtain ⟨n2, l2, s2, n0, f0, R⟩ := ret_world (o := .cells #[.int .i64 x.kind, .int .i64 x.frm, .int .i64 x.to_, .string x.text, .string x.show_, .int .i64 x.id, .bool x.strong] 29) hnb hn hlb hlk hsb hs hne1 hne2
  have q0 := (Blk.new w 29 #[.int .i64 x.kind, .int .i64 x.frm, .int .i64 x.to_, .string x.text, .string x.show_, .int .i64 x.id, .bool x.strong]).cell 0
  clear hn hlk hs ht
  rw [spV_eq]
  have hmm : ((m : Int) == (m : Int)) = true := by simp
  go_enter Tryd.func34, Tryd.ntmps34
  go_wp2_with fail
  go_quiet (fail)
  go_wp2
  go_ret
  exact ⟨rfl, bdrew R.out.1 _, R.out.2⟩
end Go.Proofs.YtcbmddgafkoooaaDoor
