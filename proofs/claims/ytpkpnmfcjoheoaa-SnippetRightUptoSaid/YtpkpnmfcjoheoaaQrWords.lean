/-
  DERIVED. The walks of slices.AppendSeq, slices.Collect, find.wordsOf, find.Words and find.isWord. Conditions: the text's size. By an AI agent.
-/
import Derived.RangeFuncBox
import Derived.Maps.AppendAt
import Derived.Test.YtpkpnmfcjoheoaaQrIter
namespace Go.Proofs.Ytpkpnmfcjoheoaa
open Go.RowKit Go.Shelf

attribute [local go_sem] Oper.semAt_some

def wdV (x : Wd) : List Value := [.string x.text, .int .i64 x.frm, .int .i64 x.to_]
def rowsW (L : List Wd) : List Value := L.flatMap wdV
theorem rowsW_snoc (L : List Wd) (x : Wd) : rowsW (L ++ [x]) = rowsW L ++ wdV x := by simp [rowsW]
def wdZ : Value := .agg #[.string ⟨#[]⟩, .int .i64 0, .int .i64 0]
theorem wd_info : (Try.prog.info? 38).map (fun i => (i.zero, i.size, i.bytes)) = some (some wdZ, 3, 32) := by kernel_rfl
theorem wd_one (x : Wd) : ∀ u ∈ wdV x, u.oneCell' = true := by
  intro u hu
  unfold wdV at hu
  simp only [List.mem_cons, List.not_mem_nil, or_false] at hu
  rcases hu with rfl | rfl | rfl <;> rfl
theorem words_len (s : ByteArray) : ∀ (n f : Nat), s.size - f ≤ n → (wordsF s f).length ≤ s.size - f
  | 0, f, h => by rw [wordsF_out (by omega)]; exact Nat.zero_le _
  | n + 1, f, h => by
    by_cases hf : f < s.size
    · rw [wordsF_in hf, List.length_append]
      have := words_len s n (max (upto notWB s f) (f + 1)) (by omega)
      split
      · simp only [List.length_singleton]; omega
      · simp only [List.length_nil]; omega
    · rw [wordsF_out (by omega)]; exact Nat.zero_le _
theorem words_stops (n : Nat) (hn : 1 ≤ n) (Bs n₀ : Nat) (s : ByteArray) (hsz : s.size ≤ 4294967280) (w : World) (hB : Bs < n₀) (hn0 : n₀ ≤ w.heap.size) (hs : w.cell? ⟨Bs, 0, none⟩ = some (.string s)) :
    SeqStopsK Fence.wide n Try.prog 27 #[.pointer (some ⟨Bs, 0, none⟩)] encW (KB Bs) (fun ys => ys = wordsF s 0) (fun pre => pre <+: wordsF s 0) (wordsF s 0).length w := fun l J Jx W hW hJ _ hY h0 =>
  words1_in n hn l Bs n₀ s hsz J Jx hB hY W (Nat.le_trans hn0 hW.size) hJ ((hW.cell (p := ⟨Bs, 0, none⟩) (by show Bs < _; omega)).trans hs) h0

theorem new_cells (w : World) (g : Nat) (cs : List Value) (t : TypeId) (hg : g = w.heap.size) : ∀ j u, cs[j]? = some u → (w.alloc (.cells cs.toArray t)).cell? ((⟨g, 0, none⟩ : Addr).add j) = some u := by
  subst hg
  intro j u hu
  rw [Addr.add_lit, Nat.zero_add, (Blk.new w t cs.toArray).cell j]
  simpa using hu
theorem blk_own {β : Type} (B : Nat) (t : TypeId) (f : β → Array Value) : Own (fun s W => Blk W B t (f s)) := fun s X Y row hs hg hrow => by
  have hlt : B < X.heap.size := Blk.lt hs
  refine (hg.block B hlt (fun e => ?_)).trans hs
  obtain ⟨o, ho, hw⟩ := hrow B e.symm
  rw [show X.heap[B]? = _ from hs] at ho
  cases ho
  first | exact absurd hw (by decide) | (cases hw)

set_option maxRecDepth 100000 in
set_option maxHeartbeats 4000000 in
theorem appendSeq_any (s : ByteArray) (Bs : Nat) (w : World) (hsz : s.size ≤ 4294967280) (hB : Bs < w.heap.size) (hs : w.cell? ⟨Bs, 0, none⟩ = some (.string s)) :
    Calls Try.prog 26 #[.slice none 0 0, .func (.func 27) #[] #[.pointer (some ⟨Bs, 0, none⟩)]] w fun e W' => ∃ v, e = .returned v ∧ W'.ownsRow w.heap.size 38 3 v (wordsF s 0).length (rowsW (wordsF s 0)) ∧ Below w.heap.size w W' := by
  obtain ⟨i0, hi, hz0, hz1, hz2⟩ := info_parts wd_info
  have hlen := words_len s _ 0 (Nat.le_refl _)
  refine (callsIn_wide (n := 6)).1 ?_
  refine callsIn_of_wp_marks Try.func26 rfl trivial ?_ rfl
  simp only [Try.ntmps26, List.size_toArray, List.length_cons, List.length_nil, Nat.reduceAdd, Nat.reduceSub, Array.replicate_succ, Array.replicate_zero, List.push_toArray, List.append_toArray, List.nil_append, List.cons_append]
  gi_wp2
  have bO := Boxed.new w 32 (.slice none 0 0)
  have hB0 : Below w.heap.size w (w.alloc (.cells #[.slice none 0 0] 32)) := (Below.refl _ w).alloc (Nat.le_refl _) _
  refine wpIn_rangeFunc_ownH rfl (by decide) (gf := 27) (lb := #[.pointer (some ⟨Bs, 0, none⟩)]) rfl trivial (enters_of Try.func27 (by kernel_rfl) rfl)
    (words_stops (6 - 1) (by decide) Bs w.heap.size s hsz (w.alloc (.cells #[.slice none 0 0] 32)) hB (by simp) ((hB0.cell (p := ⟨Bs, 0, none⟩) hB).trans hs)) KB.trans (KB.put (Nat.lt_of_lt_of_le hB (by simp))) (Below.refl _ _) (fun _ => rfl)
    (fun pre W => (∃ v, Boxed W w.heap.size 32 v ∧ W.ownsRow w.heap.size 38 3 v pre.length (rowsW pre) ∧ True) ∧ Below w.heap.size w W)
    (fun _ _ _ => False)
    (OwnFrom.and (Own.from (holdsRow_own w.heap.size w.heap.size 32 38 3 (fun pre : List Wd => pre.length) (fun pre => rowsW pre) (fun _ _ => True)) _) (ownFrom_below (Nat.le_refl _) (by simp)))
    (fun _ _ _ _ _ hs _ _ => hs)
    ⟨⟨_, bO, World.ownsRow_nil _ _ _ _, trivial⟩, hB0⟩
    (fun x a' W => ∃ Bx, w.heap.size < Bx ∧ Blk W Bx 38 #[.string x.text, .int .i64 x.frm, .int .i64 x.to_] ∧ a' = { tmps := #[.slice none 0 0, .func (.func 27) #[] #[.pointer (some ⟨Bs, 0, none⟩)], .pointer (some ⟨w.heap.size, 0, none⟩), undef, .slice none 0 0, .pointer (some ⟨Bx, 0, none⟩), .func (.func 27) #[] #[.pointer (some ⟨Bs, 0, none⟩)], .agg #[.string x.text, .int .i64 x.frm, .int .i64 x.to_], undef, undef, undef, undef, undef], defers := [] })
    (fun x a' _ X Y row hs hg hr => by obtain ⟨Bx, h1, h2, h3⟩ := hs; exact ⟨Bx, h1, blk_own Bx 38 (fun (_ : Unit) => #[Value.string x.text, .int .i64 x.frm, .int .i64 x.to_]) () X Y row h2 hg (fun r e => (hr r e).2), h3⟩)
    ?assign ?body ?done ?stop
  case assign =>
    rintro l pre x W K ⟨⟨v, hv, hrow, _⟩, hB1⟩ hK
    simp only [encW]
    gi_wp2
    exact hK _ _ ((KeepsOthers.alloc _ _).from _) (KB.of_below ((Below.refl _ W).alloc hB1.size _) hB) ⟨⟨v, hv.alloc _, hrow.alloc _, trivial⟩, hB1.alloc hB1.size _⟩ ⟨W.heap.size, hv.lt, Blk.new W 38 _, rfl⟩
  case body =>
    rintro l pre x a' W hl ⟨r, hr⟩ ⟨⟨v, hv, hrow, _⟩, hB1⟩ ⟨Bx, hBx, bX, rfl⟩ hlt
    have hc := hv.cell
    have x0 := bX.cell 0
    have x1 := bX.cell 1
    have x2 := bX.cell 2
    have hlt2 : pre.length < s.size := by omega
    gi_wp2_with (gi_at_builtin; refine wpListIn_append_own _ rfl _ _ 32 rfl w.heap.size 38 i0 wdZ 3 32 Try.underlying32 hi hz0 hz1 hz2 rfl (by decide) _ _ _ rfl (hrow.alloc _) ⟨W.heap.size, 0, none⟩ 1 1 (wdV x) rfl rfl (new_cells _ _ (wdV x) _ rfl) (wd_one x) (by unfold maxLen; omega) (by omega) (by have := hB1.size; simp; omega) ?_; intro v' w1 hown' hgrow _; obtain ⟨g', cap', rfl⟩ := ownsRow_succ hown'; obtain ⟨hv1, hv2, hr2, hk2, hb2⟩ := hv.appended (by decide) hrow hB1.size (Nat.le_refl _) hown' hgrow; have hc1 := hv1.cell; have hf1 := hv1.frozen)
    exact ⟨hk2.from _, KB.of_below hb2 hB, ⟨⟨_, hv2, by rw [rowsW_snoc, List.length_append]; exact hr2, trivial⟩, hB1.trans hb2⟩⟩
  case done =>
    rintro D ys W hD rfl ⟨⟨v, hv, hrow, _⟩, hB1⟩ hK
    have hc := hv.cell
    gi_wp2
    refine ⟨by simp, .inl ⟨_, _, rfl, run_takeDeferred hK, ?_⟩⟩
    exact ⟨_, results_tmp rfl _ _ _, v, rfl, ownsRow_putObj hrow _ hK rfl, hB1.trans (belowK_b (w := w) (Nat.le_refl _) W D _ _ (by simp at hD; omega) hK rfl rfl)⟩
  case stop =>
    rintro D c pre W _ _ h _
    exact h.elim
end Go.Proofs.Ytpkpnmfcjoheoaa
