/-
  DERIVED. A slice of structs that came in: its cells, row by row. Conditions: none. By an AI agent.
-/
import Derived.Test.YtpkpnmfcjoheoaaLawBase
import Derived.Deep.Slices
import Derived.Deep.Fields
import Derived.ChangeSame
namespace Go.Proofs.Ytpkpnmfcjoheoaa
open Go.ChangeShapes Go.WideShapes Go.Deep Go.RowKit

section
variable {H : Type} {enc : TypeId × Value → H} {P : Program} {w : World} {base : Nat} {spare : Nat → Bool} {held : Bool}
theorem open_slice_fields {t e : TypeId} {fs : Array Field} {fuel : Nat} {cs : List Value} {x : DataW H × List MemPlace} (ht : P.underlying t = some (.slice e)) (he : P.underlying e = some (.struct fs))
    (hone : oneCellFields P fs = true) (hC : P.cellsOf e = fs.size) (h : DataW.trod enc P w base spare held fuel t cs = some x) :
    (cs = [.slice none 0 0] ∧ x = (.nil, [])) ∨
    ∃ (a : Addr) (len cap m : Nat) (D : Nat → DataW H) (Pl : Nat → List MemPlace), cs = [.slice (some a) len cap] ∧ base ≤ a.block ∧ len ≤ cap ∧ cap ≤ maxLen ∧ m = (if spare a.block then cap else len) ∧
      x = (.slice ((List.range len).map D) ((List.range (m - len)).map fun j => D (len + j)), MemPlace.row a (m * fs.size) ++ (List.range m).flatMap Pl) ∧
      ∀ i, i < m → ∃ (ys : List (DataW H × List MemPlace)) (n : Nat), D i = .agg (ys.map (·.1)) ∧ Pl i = ys.flatMap (·.2) ∧ ys.length = fs.size ∧
        ∀ (j : Nat) (f : Field), fs[j]? = some f → ∃ (v : Value) (y : DataW H × List MemPlace), w.cell? (a.add (i * fs.size + j)) = some v ∧ ys[j]? = some y ∧ DataW.trod enc P w base spare held n f.type [v] = some y := by
  rcases open_slice ht h with h0 | ⟨a, len, cap, m, n, D, Pl, hcs, hb, hl, hm, hmm, hx, hi⟩
  · exact .inl h0
  · refine .inr ⟨a, len, cap, m, D, Pl, hcs, hb, hl, hm, hmm, by rw [hC] at hx; exact hx, fun i him => ?_⟩
    obtain ⟨cs', hc, ht'⟩ := hi i him
    rw [hC] at hc
    obtain ⟨ys, n', hn', hy, hlen, hyl, hf⟩ := DataW.trod_struct he ht'
    obtain ⟨_, hcl, hat⟩ := World.cells?_some hc
    simp only [Prod.mk.injEq] at hy
    refine ⟨ys, n', hy.1, hy.2, hyl, fun j f hj => ?_⟩
    obtain ⟨ho, hk⟩ := hone_of hone j f hj
    have hjl : j < fs.size := (Array.getElem?_eq_some_iff.1 hj).1
    have hcell := hat j hjl
    have hv : cs'[j]? = some (cs'[j]'(by omega)) := List.getElem?_eq_getElem (by omega)
    have h1 := hf j f hj
    rw [ho, hk] at h1
    have hone' : (cs'.drop j).take 1 = [cs'[j]'(by omega)] := by
      rw [List.drop_eq_getElem_cons (by omega)]
      rfl
    rw [hone'] at h1
    have hys : ys[j]? = some (ys[j]'(by omega)) := List.getElem?_eq_getElem (by omega)
    refine ⟨_, _, ?_, hys, h1.trans hys⟩
    rw [← Go.Deep.add_add, hcell, hv]
end

theorem exists_map {α β : Type} {g : α → β} {Q : α → Prop} : ∀ (l : List β), (∀ x ∈ l, ∃ a, x = g a ∧ Q a) → ∃ zs : List α, l = zs.map g ∧ ∀ a ∈ zs, Q a
  | [], _ => ⟨[], rfl, by simp⟩
  | x :: l, h => by
    obtain ⟨a, rfl, ha⟩ := h x (by simp)
    obtain ⟨zs, rfl, has⟩ := exists_map l (fun y hy => h y (List.mem_cons_of_mem _ hy))
    exact ⟨a :: zs, rfl, by
      intro b hb
      rcases List.mem_cons.1 hb with rfl | hb
      · exact ha
      · exact has b hb⟩

theorem flatten_at {size : Nat} : ∀ {rows : List (List Value)}, (∀ r ∈ rows, r.length = size) → ∀ i j, j < size → rows.flatten[i * size + j]? = (rows[i]?).bind (·[j]?)
  | [], _, i, j, _ => by simp
  | r :: rows, h, i, j, hj => by
    have hr := h r (by simp)
    cases i with
    | zero => simp [List.getElem?_append, hr, hj]
    | succ i =>
      have := flatten_at (rows := rows) (fun x hx => h x (List.mem_cons_of_mem _ hx)) i j hj
      rw [List.flatten_cons, List.getElem?_append_right (by rw [hr, Nat.succ_mul]; omega)]
      simp only [List.getElem?_cons_succ]
      rw [← this]
      congr 1
      rw [hr, Nat.succ_mul]; omega

theorem flatten_len {size : Nat} : ∀ {rows : List (List Value)}, (∀ r ∈ rows, r.length = size) → rows.flatten.length = rows.length * size
  | [], _ => by simp
  | r :: rows, h => by
    rw [List.flatten_cons, List.length_append, flatten_len (fun x hx => h x (List.mem_cons_of_mem _ hx)), h r (by simp), List.length_cons, Nat.succ_mul]; omega

/-- a slice of structs of one-cell fields that came in, row by row -/
theorem reads_structs {H : Type} {enc : TypeId × Value → H} {P : Program} {W : World} {r : Reach} {b0 : Nat} {t e : TypeId} {fs : Array Field} {v : Value} {d : DataW H} {p : List MemPlace} (ht : P.underlying t = some (.slice e)) (he : P.underlying e = some (.struct fs))
    (hone : oneCellFields P fs = true) (hc : P.cellsOf e = fs.size) (hpos : 0 < fs.size) (hv : Value.okWide P W r b0 t v) (h : DataW.Trod enc P W 0 (fun _ => true) true t v d p) (hp : ∀ x ∈ p, x.block < W.heap.size) (hfit : Fits P t d) :
    ∃ A len cap, ∃ rows : List (List Value), v = .slice A len cap ∧ rows.length = len ∧ len ≤ maxLen ∧ len * P.bytesOf e ≤ 140737488351232 ∧ Reads W W.heap.size fs.size A len rows.flatten ∧
      ∀ row ∈ rows, row.length = fs.size ∧ ∀ (j : Nat) (f : Field), fs[j]? = some f → ∃ (u : Value) (y : DataW H × List MemPlace) (n : Nat), row[j]? = some u ∧ DataW.trod enc P W 0 (fun _ => true) true n f.type [u] = some y ∧ Fits P f.type y.1 ∧ ∀ x ∈ y.2, x.block < W.heap.size := by
  obtain ⟨a0, len, cap, rfl⟩ := okWide_slice ht hv
  obtain ⟨fuel, hf⟩ := h
  rcases open_slice_fields ht he hone hc hf with ⟨hcs, hx⟩ | ⟨a, len', cap', m, D, Pl, hcs, _, hl, hm, hmm, hx, hi⟩
  · simp [Value.cells] at hcs
    obtain ⟨rfl, rfl, rfl⟩ := hcs
    exact ⟨none, 0, 0, [], rfl, rfl, Nat.zero_le _, by omega, Reads.none_, by simp⟩
  · simp [Value.cells] at hcs
    obtain ⟨rfl, rfl, rfl⟩ := hcs
    simp only [if_true] at hmm
    simp only [Prod.mk.injEq] at hx
    obtain ⟨rfl, rfl⟩ := hx
    have hs := hfit.slice ht
    simp only [List.length_map, List.length_range] at hs
    have hcell : ∀ i, i < len → ∃ row : List Value, row.length = fs.size ∧ (∀ j u, row[j]? = some u → W.cell? (a.add (i * fs.size + j)) = some u) ∧
        ∀ (j : Nat) (f : Field), fs[j]? = some f → ∃ (u : Value) (y : DataW H × List MemPlace) (n : Nat), row[j]? = some u ∧ DataW.trod enc P W 0 (fun _ => true) true n f.type [u] = some y ∧ Fits P f.type y.1 ∧ ∀ x ∈ y.2, x.block < W.heap.size := by
      intro i hil
      obtain ⟨ys, n, hD, hPl, hyl, hg⟩ := hi i (by omega)
      have hv : ∀ j, j < fs.size → ∃ u, W.cell? (a.add (i * fs.size + j)) = some u := fun j hj => by
        obtain ⟨u, y, hu, _⟩ := hg j fs[j] (Array.getElem?_eq_getElem hj)
        exact ⟨u, hu⟩
      refine ⟨(List.range fs.size).map fun j => (W.cell? (a.add (i * fs.size + j))).getD undef, by simp, ?_, ?_⟩
      · intro j u hu
        have hj : j < fs.size := by
          rcases Nat.lt_or_ge j fs.size with h | h
          · exact h
          · rw [List.getElem?_eq_none (by simpa using h)] at hu; cases hu
        obtain ⟨u', hu'⟩ := hv j hj
        rw [List.getElem?_map, List.getElem?_range hj] at hu
        simp only [Option.map_some, hu', Option.getD_some, Option.some.injEq] at hu
        rw [hu', hu]
      · intro j f hj
        obtain ⟨u, y, hu, hy, htr⟩ := hg j f hj
        have hjl : j < fs.size := (Array.getElem?_eq_some_iff.1 hj).1
        refine ⟨u, y, n, ?_, htr, ?_, ?_⟩
        · rw [List.getElem?_map, List.getElem?_range hjl]
          simp [hu]
        · have h1 := hfit.elem ht (d := D i) (List.mem_map.2 ⟨i, List.mem_range.2 hil, rfl⟩)
          rw [hD] at h1
          exact h1.part he hj (by rw [List.getElem?_map, hy]; rfl)
        · intro x hx
          refine hp x (List.mem_append_right _ (List.mem_flatMap.2 ⟨i, List.mem_range.2 (by omega), ?_⟩))
          rw [hPl]
          exact List.mem_flatMap.2 ⟨y, List.mem_of_getElem? hy, hx⟩
    obtain ⟨rows, hrl, hrows⟩ : ∃ rows : List (List Value), rows.length = len ∧ ∀ i row, rows[i]? = some row → row.length = fs.size ∧ (∀ j u, row[j]? = some u → W.cell? (a.add (i * fs.size + j)) = some u) ∧
        ∀ (j : Nat) (f : Field), fs[j]? = some f → ∃ (u : Value) (y : DataW H × List MemPlace) (n : Nat), row[j]? = some u ∧ DataW.trod enc P W 0 (fun _ => true) true n f.type [u] = some y ∧ Fits P f.type y.1 ∧ ∀ x ∈ y.2, x.block < W.heap.size := by
      refine ⟨(List.range len).map fun i => if h : i < len then Classical.choose (hcell i h) else [], by simp, ?_⟩
      intro i row hrow
      have hil : i < len := by
        rcases Nat.lt_or_ge i len with h | h
        · exact h
        · rw [List.getElem?_eq_none (by simpa using h)] at hrow; cases hrow
      rw [List.getElem?_map, List.getElem?_range hil] at hrow
      simp only [Option.map_some, dif_pos hil, Option.some.injEq] at hrow
      subst hrow
      exact Classical.choose_spec (hcell i hil)
    have hall : ∀ row ∈ rows, row.length = fs.size := fun row hrow => by
      obtain ⟨i, hi', rfl⟩ := List.mem_iff_getElem.1 hrow
      exact (hrows i _ (List.getElem?_eq_getElem hi')).1
    refine ⟨some a, len, cap, rows, rfl, hrl, by omega, Nat.le_trans (Nat.mul_le_mul_right _ (by omega)) hs, ⟨by rw [flatten_len hall, hrl], fun hn => ⟨a, rfl, ?_, ?_⟩⟩, ?_⟩
    · refine hp (.cell a.block a.off) (List.mem_append_left _ (MemPlace.mem_row.2 ⟨0, Nat.mul_pos (by omega) hpos, by simp⟩))
    · intro k u hu
      have hk : k / fs.size * fs.size + k % fs.size = k := by rw [Nat.mul_comm]; exact Nat.div_add_mod k fs.size
      have hmod := Nat.mod_lt k hpos
      rw [← hk, flatten_at hall _ _ hmod] at hu
      rw [← hk]
      cases hq : rows[k / fs.size]? with
      | none => rw [hq] at hu; cases hu
      | some row =>
        rw [hq] at hu
        exact (hrows _ _ hq).2.1 _ _ hu
    · intro row hrow
      obtain ⟨i, hi', rfl⟩ := List.mem_iff_getElem.1 hrow
      have := hrows i _ (List.getElem?_eq_getElem hi')
      exact ⟨this.1, this.2.2⟩

end Go.Proofs.Ytpkpnmfcjoheoaa
