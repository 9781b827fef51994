/-
  DERIVED. slices.SortFunc at changes: the law that the walk of show.Changes asks for. Conditions: none. By an AI agent.
-/
import Derived.Test.YtnmgigfhcanplaaChWalk
import Derived.Test.YtnmgigfhcanplaaChShelf
import Derived.Shelf.SlSortCmp.WholeK
import Derived.Shelf.SlSortCmp.NoneTotal
import Derived.Shelf.Small.Strs
namespace Go.Proofs
open Go.Shelf Go.RowKit Go.Lib Go.Sort
namespace Ytnmgigfhcanplaa
set_option maxHeartbeats 1000000 in
theorem closure_any (x y : C) (W : World) : Calls Try.prog 10 #[.agg (chV x).toArray, .agg (chV y).toArray] W fun e w' => e = .returned (.int .i64 (cfC x y)) ∧ ∃ q os', w' = grow (W.drewN q) os' := by
  have hcon := fun W' => Any.strings_Compare Try.lays106 x.1 y.1 W'
  change ∀ W', Calls Try.prog 11 _ _ _ at hcon
  unfold cfC chV
  generalize Lib.compareBytes x.1.data.toList y.1.data.toList = r at hcon ⊢
  go_enter Try.func10, Try.ntmps10
  go_wp2_with (go_at_call 11; refine (hcon _).mono ?_; rintro e w' ⟨rfl, rfl⟩)
  go_ret
  exact ⟨rfl, 0, _, by rw [alloc_eq_grow, alloc_eq_grow, grow_grow]; rfl⟩
theorem cmpLays (blk off size : Nat) (w : World) : CmpLays Try.prog 10 #[] chV 2 cfC blk off size w :=
  fun _ _ _ _ x y => closure_any x y _
theorem grown_sort {w : World} {g n : Nat} {os : Array Obj} (d : Array C) : w.grownBy (sortWorldK chV 2 w g 0 n d os) (some g) := by
  unfold sortWorldK putRowK
  refine ⟨rfl, rfl, rfl, by simp, fun k hk hne => ?_⟩
  rw [heap_grow_old _ _ (by simpa using hk)]
  have : g ≠ k := fun e => hne (by rw [e])
  simp [putRow, mapBlock, Sort.ahead, Array.getElem?_modify, this]
theorem heap_sort {w : World} {g n : Nat} {os : Array Obj} {cur : Array Value} {T : TypeId} (d : Array C) (hb : w.heap[g]? = some (.cells cur T (0, 0))) :
    (sortWorldK chV 2 w g 0 n d os).heap[g]? = some (.cells (putCells id 0 (flatK chV 2 d) cur) T (0, 0)) := by
  unfold sortWorldK putRowK
  have hg : g < w.heap.size := (Array.getElem?_eq_some_iff.1 hb).1
  rw [heap_grow_old _ _ (by simpa using hg)]
  simp [putRow, mapBlock, Sort.ahead, Array.getElem?_modify, hb, onCells]
theorem flat_rows (M : List C) : (flatK chV 2 M.toArray).toList = rowsC M := by
  apply List.ext_getElem?
  intro k
  by_cases hk : k < M.length * 2
  · have hq : k / 2 < M.length := by omega
    obtain ⟨g0, g1⟩ := rowsC_get M (k / 2) M[k / 2] (by simp [hq])
    have e : (flatK chV 2 M.toArray).toList[k]? = some ((chV M[k / 2])[k % 2]!) := by simp [flatK, hk, hq]
    rw [e]
    rcases Nat.mod_two_eq_zero_or_one k with h | h
    · have e2 : k / 2 * 2 = k := by omega
      rw [e2] at g0; rw [g0, h]; rfl
    · have e2 : k / 2 * 2 + 1 = k := by omega
      rw [e2] at g1; rw [g1, h]; rfl
  · rw [List.getElem?_eq_none (by simp; omega), List.getElem?_eq_none (by rw [rowsC_len]; omega)]
theorem take_put (cur F : Array Value) (n : Nat) (hF : F.size = n) (h : n ≤ cur.size) : (putCells id 0 F cur).toList.take n = F.toList := by
  apply List.ext_getElem?
  intro j
  by_cases hj : j < n
  · rw [List.getElem?_take_of_lt hj, Array.getElem?_toList]
    simp [putCells, hF, hj, show j < cur.size by omega]
  · rw [List.getElem?_take_eq_none (by omega), List.getElem?_eq_none (by simp; omega)]
theorem sortLaw : SortLaw := by
  intro v out M w B hown hB hmem hnd hM hle
  rcases hown.2 with ⟨rfl, h0⟩ | ⟨g, cap, cur, rfl, hbase, hb, h1, h2, h3, h4⟩
  · have ho : out = [] := List.length_eq_zero_iff.1 h0
    subst ho
    have hMe : M = [] := List.eq_nil_iff_forall_not_mem.2 fun x hx => by have := (hmem x).1 hx; cases this
    subst hMe
    have h := AnyF.slices_SortFunc_none (P := Try.prog) (ρ := Try.sortCh_ren) { Try.sortCh with } none 0 (.func (.func 10) #[] #[]) w
    change Calls Try.prog 9 _ _ _ at h
    exact h.mono fun e w' ⟨he, hw⟩ => ⟨he, by subst hw; exact hown, rfl, by subst hw; exact .refl _ _⟩
  · have hg := (Array.getElem?_eq_some_iff.1 hb).1
    have hlen : out.length * 2 ≤ cur.size := by omega
    have hH : HoldsK chV 2 w g 0 out.toArray := by
      intro j hj
      have hj' : j < out.length * 2 := by simpa using hj
      refine ⟨?_, by simp [World.frozen?, hb]⟩
      have e1 : (cur.toList.take (out.length * 2))[j]? = (rowsC out)[j]? := by rw [h4]
      rw [List.getElem?_take_of_lt hj', ← flat_rows] at e1
      simp only [World.cell?, hb, Nat.zero_add]
      simp only [Option.isSome_none, Bool.false_eq_true, if_false]
      rw [← Array.getElem?_toList, e1]
      simp [hj', id]
    have eg : ∀ args w, (callFunc 10 args).run Try.prog w = .ok (.enter 10 args) w := enters_of Try.func10 (by kernel_rfl) rfl
    have h := AnyQ.slices_SortFunc Try.sortCh 2 Try.isAgg30 Try.sizeOf30 chV (fun _ => rfl) ch_one cfC swoC 10 #[] g 0 cap out.toArray w eg (cmpLays g 0 _ w) hH hg (by simp; omega)
    change Calls Try.prog 9 _ _ _ at h
    rw [List.size_toArray] at h
    refine h.mono ?_
    rintro e w' ⟨he, d', n, os, hp, hs, rfl⟩
    have hd : d'.toList = M := perm_sorted_eq (d := out.toArray) (by simpa using hp) (by simpa using hs) (by simpa using hnd) hM (by simpa using hmem)
    have hMl : M.length = out.length := by rw [← hd]; have := hp.1; simpa using this
    have hda : d' = M.toArray := by rw [← hd]
    refine ⟨he, ⟨by rw [rowsC_len, hMl], .inr ⟨g, cap, _, rfl, hbase, heap_sort _ hb, h1, h2, by simp [putCells, h3], ?_⟩⟩, hMl, (Below.refl B w).grown (grown_sort d') hB (fun k hk => by cases hk; exact hbase)⟩
    rw [hda, ← flat_rows]
    exact take_put _ _ _ (by simp [hMl]) hlen
end Ytnmgigfhcanplaa
end Go.Proofs
