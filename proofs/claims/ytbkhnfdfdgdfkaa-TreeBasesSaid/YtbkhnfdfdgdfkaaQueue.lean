/-
  DERIVED. A queue of ints that a call makes: popped at its front, pushed at its end. Conditions: none. By an AI agent.
-/
import Derived.Test.YtbkhnfdfdgdfkaaIMap
import Derived.ArgAppend
import Derived.Test.YtbkhnfdfdgdfkaaChecked
namespace Go.Proofs.Ytbkhnfdfdgdfkaa
open Go.RowKit

/-- a queue in a row of the call's own -/
def Qu (w : World) (base : Nat) (v : Value) (T : List Int) : Prop := ∃ ad cap, v = .slice (some ad) T.length cap ∧ T.length ≤ cap ∧ cap ≤ maxLen ∧ (0 < cap → ∃ g off cur, ad = ⟨g, off, none⟩ ∧ base ≤ g ∧ w.heap[g]? = some (.cells cur 3 (0, 0)) ∧ off + cap = cur.size ∧ ∀ (j : Nat) (x : Int), T[j]? = some x → cur[off + j]? = some (.int .i64 x))
/-- all blocks but rows of ints are as they were -/
def Kept3 (w w' : World) : Prop := ∀ (i : Nat) (o : Obj), w.heap[i]? = some o → (∀ cur, o ≠ Obj.cells cur 3 (0, 0)) → w'.heap[i]? = some o
section
variable {w w' : World} {base : Nat} {v : Value} {T : List Int}
theorem Qu.start (w : World) (hb : base ≤ w.heap.size) (x : Int) : Qu (w.alloc (.cells #[.int .i64 x] 3)) base (.slice (some ⟨w.heap.size, 0, none⟩) 1 1) [x] :=
  ⟨_, 1, rfl, Nat.le_refl _, by unfold maxLen; omega, fun _ => ⟨w.heap.size, 0, _, rfl, hb, heap_alloc_new w _, rfl, fun j y h => by
    rcases j with _ | j
    · obtain rfl : x = y := by simpa using h
      rfl
    · simp at h⟩⟩
theorem Qu.grown (h : Qu w base v T) {row : Option Nat} (hg : w.grownBy w' row) (hr : ∀ g cur, row = some g → w.heap[g]? ≠ some (.cells cur 3 (0, 0))) : Qu w' base v T := by
  obtain ⟨ad, cap, h1, h2, h3, h4⟩ := h
  refine ⟨ad, cap, h1, h2, h3, fun hc => ?_⟩
  obtain ⟨g, off, cur, e, hb, hh, r⟩ := h4 hc
  have hlt : g < w.heap.size := by
    rcases Nat.lt_or_ge g w.heap.size with g' | g'
    · exact g'
    · rw [Array.getElem?_eq_none g'] at hh; cases hh
  exact ⟨g, off, cur, e, hb, (hg.block g hlt (fun e => hr g cur e.symm hh)).trans hh, r⟩
theorem Qu.alloc (h : Qu w base v T) (o : Obj) : Qu (w.alloc o) base v T := h.grown (World.grownBy_alloc w o none) (fun _ _ e => by cases e)
theorem Qu.drewN (h : Qu w base v T) (q : Nat) : Qu (w.drewN q) base v T := h
theorem Qu.below (h : Qu w base v T) (hb : Below w.heap.size w w') : Qu w' base v T := by
  obtain ⟨ad, cap, h1, h2, h3, h4⟩ := h
  refine ⟨ad, cap, h1, h2, h3, fun hc => ?_⟩
  obtain ⟨g, off, cur, e, hb', hh, r⟩ := h4 hc
  have hlt : g < w.heap.size := by
    rcases Nat.lt_or_ge g w.heap.size with g' | g'
    · exact g'
    · rw [Array.getElem?_eq_none g'] at hh; cases hh
  exact ⟨g, off, cur, e, hb', (hb.block g hlt).trans hh, r⟩
theorem Qu.pop {A : Option Addr} {n c : Nat} {x : Int} (h : Qu w base (.slice A n c) (x :: T)) : ∃ g off, A = some ⟨g, off, none⟩ ∧ n = T.length + 1 ∧ n ≤ c ∧ g < w.heap.size ∧ w.cell? ⟨g, off, none⟩ = some (.int .i64 x) ∧ (c = 1 → Qu w base (.slice (some ⟨g, off, none⟩) (n - 1) (c - 1)) T) ∧ (c ≠ 1 → Qu w base (.slice (some ⟨g, off + 1, none⟩) (n - 1) (c - 1)) T) := by
  obtain ⟨ad, cap, h1, h2, h3, h4⟩ := h
  injection h1 with e1 e2 e3
  subst e1 e2 e3
  rw [List.length_cons] at h2
  obtain ⟨g, off, cur, rfl, hb, hh, hs, r⟩ := h4 (by omega)
  have hlt : g < w.heap.size := by
    rcases Nat.lt_or_ge g w.heap.size with g' | g'
    · exact g'
    · rw [Array.getElem?_eq_none g'] at hh; cases hh
  refine ⟨g, off, rfl, rfl, by rw [List.length_cons]; exact h2, hlt, (cell_of_row w g off cur _ _ hh).trans (r 0 x rfl), fun hc => ?_, fun hc => ?_⟩
  · exact ⟨_, c - 1, by rw [List.length_cons, Nat.add_sub_cancel], by omega, by omega, fun hc' => by omega⟩
  · refine ⟨_, c - 1, by rw [List.length_cons, Nat.add_sub_cancel], by omega, by omega, fun hc' => ⟨g, off + 1, cur, rfl, hb, hh, by omega, fun j y hj => ?_⟩⟩
    rw [show off + 1 + j = off + (j + 1) by omega]
    exact r (j + 1) y (by rw [List.getElem?_cons_succ]; exact hj)
theorem Qu.len {A : Option Addr} {n c : Nat} (h : Qu w base (.slice A n c) T) : n = T.length ∧ n ≤ c := by
  obtain ⟨ad, cap, h1, h2, h3, h4⟩ := h
  injection h1 with e1 e2 e3
  subst e1 e2 e3
  exact ⟨rfl, h2⟩
theorem Qu.slice (h : Qu w base v T) : ∃ A n c, v = .slice A n c := by
  obtain ⟨ad, cap, h1, _⟩ := h
  exact ⟨_, _, _, h1⟩
theorem int_row : (Try.prog.info? 3).map (fun i => (i.zero, i.size, i.bytes)) = some (some (.int .i64 0), 1, 8) := by kernel_rfl
theorem Qu.push (h : Qu w base v T) (hb : base ≤ w.heap.size) (hn : T.length ≤ 1000000) {ad : Addr} {c : Nat} {x : Int} (hx : w.cell? ad = some (.int .i64 x)) (ty : TypeId) :
    ∃ v' w', (Builtin.append_ #[27, 27] ty #[v, .slice (some ad) 1 c]).run Try.prog w = .ok v' w' ∧ Qu w' base v' (T ++ [x]) ∧ Below base w w' ∧ Kept3 w w' ∧ w.heap.size ≤ w'.heap.size := by
  obtain ⟨i, hi, hz, hs, hby⟩ := info_parts int_row
  obtain ⟨a0, cap, rfl, h2, h3, h4⟩ := h
  have hnews : ∀ j u, [Value.int .i64 x][j]? = some u → w.cell? (ad.add j) = some u := fun j u hu => by
    rcases j with _ | j
    · obtain rfl : Value.int .i64 x = u := by simpa using hu
      exact hx
    · simp at hu
  by_cases hroom : T.length + 1 ≤ cap
  · obtain ⟨g, off, cur, rfl, hbg, hh, hcs, r⟩ := h4 (by omega)
    have hcell : ∀ k, w.cell? ⟨g, k, none⟩ = cur[k]? := fun k => cell_of_row w g k cur _ _ hh
    have hin : off + T.length < cur.size := by omega
    have hrun := run_append_room_cells (P := Try.prog) w 27 ty 3 i Try.underlying27 hi g off T.length cap ad 1 c [.int .i64 x] (by rw [hs]; rfl) hnews (fun u hu => by
      obtain rfl : u = .int .i64 x := by simpa using hu
      rfl) hroom (fun j hj => by
        obtain rfl : j = 0 := by simpa using hj
        rw [hs, hcell, Nat.mul_one, Nat.add_zero, Array.getElem?_eq_getElem hin]; rfl) (fun j hj => by
        simp [World.frozen?, hh])
    rw [hs, Nat.mul_one] at hrun
    refine ⟨_, _, hrun, ?_⟩
    rw [show w.setCells g (off + T.length) [.int .i64 x] = w.setCell ⟨g, off + T.length, none⟩ (.int .i64 x) from rfl]
    have hh' : (w.setCell ⟨g, off + T.length, none⟩ (.int .i64 x)).heap[g]? = some (.cells (cur.setIfInBounds (off + T.length) (.int .i64 x)) 3 (0, 0)) := by
      simp [World.setCell, Array.getElem?_modify, hh]
    refine ⟨⟨_, cap, by rw [List.length_append]; rfl, by rw [List.length_append]; exact hroom, h3, fun _ => ⟨g, off, _, rfl, hbg, hh', by rw [Array.size_setIfInBounds]; exact hcs, fun j y hj => ?_⟩⟩, (Below.refl _ _).setCell (p := ⟨g, off + T.length, none⟩) hbg _, fun k o hk ho => ?_, by simp [World.setCell]⟩
    · rcases Nat.lt_or_ge j T.length with hjl | hjl
      · rw [List.getElem?_append_left hjl] at hj
        rw [Array.getElem?_setIfInBounds_ne (by omega)]
        exact r j y hj
      · rw [List.getElem?_append_right hjl] at hj
        have h0 : j - T.length = 0 := by
          have := (List.getElem?_eq_some_iff.1 hj).1
          simp at this; omega
        rw [h0] at hj
        obtain rfl : x = y := by simpa using hj
        obtain rfl : j = T.length := by omega
        rw [Array.getElem?_setIfInBounds_self_of_lt hin]
    · by_cases e : k = g
      · subst e
        rw [hh] at hk
        injection hk with hk
        exact absurd hk.symm (ho _)
      · rw [← hk]
        exact (Below.heap_setCell w ⟨g, off + T.length, none⟩ _ k e)
  · have holds : ∀ j u, (T.map (Value.int .i64))[j]? = some u → w.cell? (a0.add j) = some u := fun j u hu => by
      rw [List.getElem?_map, Option.map_eq_some_iff] at hu
      obtain ⟨y, hy, rfl⟩ := hu
      have := (List.getElem?_eq_some_iff.1 hy).1
      obtain ⟨g, off, cur, rfl, hbg, hh, hcs, r⟩ := h4 (by omega)
      rw [Addr.add_lit]
      exact (cell_of_row w g _ cur _ _ hh).trans (r j y hy)
    obtain ⟨v', w', hrun, hown, hg⟩ := run_append_arg_grows (P := Try.prog) w 27 ty 3 i (.int .i64 0) 1 8 Try.underlying27 hi hz hs hby rfl (by decide) a0 T.length cap (T.map (Value.int .i64)) (by rw [List.length_map, Nat.mul_one]) holds ad 1 c [.int .i64 x] rfl hnews (by omega) (by unfold maxLen; omega) (by omega)
    refine ⟨v', w', hrun, ?_, (Below.refl _ _).grown hg hb (fun _ e => by cases e), fun k o hk _ => ?_, hg.size⟩
    · obtain ⟨h5, h6⟩ := hown
      rcases h6 with ⟨_, h6⟩ | ⟨g, cap', cur, rfl, hbg, hh, hnc, hcm, hcs, htk⟩
      · omega
      · refine ⟨_, cap', by rw [List.length_append]; rfl, by rw [List.length_append]; exact hnc, hcm, fun _ => ⟨g, 0, cur, rfl, by omega, hh, by omega, fun j y hj => ?_⟩⟩
        have hjl := (List.getElem?_eq_some_iff.1 hj).1
        have e : (cur.toList.take ((T.length + 1) * 1))[j]? = some (.int .i64 y) := by
          rw [htk, show T.map (Value.int .i64) ++ [Value.int .i64 x] = (T ++ [x]).map (Value.int .i64) by simp, List.getElem?_map, hj]; rfl
        rw [List.getElem?_take] at e
        split at e
        · rw [Nat.zero_add]; simpa using e
        · cases e
    · have hlt : k < w.heap.size := by
        rcases Nat.lt_or_ge k w.heap.size with g' | g'
        · exact g'
        · rw [Array.getElem?_eq_none g'] at hk; cases hk
      exact (hg.block k hlt (by simp)).trans hk
theorem MapIn.kept3 {P : Program} {k e : TypeId} {α : Type} {lt : α → DU} {b n : Nat} {f : Int → Option α} (h : MapIn P k e lt w b n f) (hk : Kept3 w w') : MapIn P k e lt w' b n f := by
  obtain ⟨D, ⟨es, clock, h1, h2⟩, h3⟩ := h
  exact ⟨D, ⟨es, clock, hk _ _ h1 (fun _ e => by cases e), h2⟩, h3⟩
theorem Blk.kept3 {g : Nat} {t : TypeId} {cs : Array Value} (h : Blk w g t cs) (hk : Kept3 w w') (ht : t ≠ 3) : Blk w' g t cs :=
  hk _ _ h (fun _ e => by injection e with _ e; exact ht e)
end
end Go.Proofs.Ytbkhnfdfdgdfkaa
