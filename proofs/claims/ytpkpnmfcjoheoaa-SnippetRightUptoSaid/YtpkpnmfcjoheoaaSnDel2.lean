/-
  DERIVED. The walk of slices.DeleteFunc at []find.Word with Snippet's closure: what is left is a sublist. Conditions: sizes. By an AI agent.
-/
import Derived.Test.YtpkpnmfcjoheoaaSnDel
namespace Go.Proofs.Ytpkpnmfcjoheoaa
open Go.RowKit

def CR (W : World) (g : Nat) (Y : List Wd) : Prop := ∀ k x, Y[k]? = some x → W.cell? ⟨g, k * 3, none⟩ = some (.string x.text) ∧ W.cell? ⟨g, k * 3 + 1, none⟩ = some (.int .i64 x.frm) ∧ W.cell? ⟨g, k * 3 + 2, none⟩ = some (.int .i64 x.to_)
def FR (W : World) (g n : Nat) : Prop := ∃ cur, Blk W g 38 cur ∧ n * 3 ≤ cur.size
theorem CR.below {W W' : World} {B g : Nat} {Y : List Wd} (h : CR W g Y) (hb : Below B W W') (hg : g < B) : CR W' g Y := fun k x hx => by
  obtain ⟨h1, h2, h3⟩ := h k x hx
  exact ⟨(hb.cell (p := ⟨g, k * 3, none⟩) hg).trans h1, (hb.cell (p := ⟨g, k * 3 + 1, none⟩) hg).trans h2, (hb.cell (p := ⟨g, k * 3 + 2, none⟩) hg).trans h3⟩
theorem FR.below {W W' : World} {B g n : Nat} (h : FR W g n) (hb : Below B W W') (hg : g < B) : FR W' g n := by
  obtain ⟨cur, h1, h2⟩ := h
  exact ⟨cur, h1.below hb hg, h2⟩
theorem FR.lt {W : World} {g n : Nat} (h : FR W g n) : g < W.heap.size := by
  obtain ⟨cur, h1, h2⟩ := h
  exact h1.lt
theorem FR.set_ {W : World} {g n i : Nat} {u : Value} (h : FR W g n) : FR (W.setCell ⟨g, i, none⟩ u) g n := by
  obtain ⟨cur, h1, h2⟩ := h
  exact ⟨_, h1.set_ i u, by simpa using h2⟩
/-- an element is stored -/
theorem CR.put {W : World} {g n i : Nat} {Y : List Wd} (h : CR W g Y) (hF : FR W g n) (hi : i < n) (x : Wd) :
    CR (((W.setCell ⟨g, i * 3, none⟩ (.string x.text)).setCell ⟨g, i * 3 + 1, none⟩ (.int .i64 x.frm)).setCell ⟨g, i * 3 + 2, none⟩ (.int .i64 x.to_)) g (Y.set i x) := by
  obtain ⟨cur, h1, h2⟩ := hF
  have hb := ((h1.set_ (i * 3) (.string x.text)).set_ (i * 3 + 1) (.int .i64 x.frm)).set_ (i * 3 + 2) (.int .i64 x.to_)
  intro k y hy
  rw [List.getElem?_set] at hy
  by_cases hk : i = k
  · subst hk
    rw [if_pos rfl] at hy
    have hxy : x = y := by
      split at hy
      · injection hy
      · cases hy
    subst hxy
    refine ⟨?_, ?_, ?_⟩
    · rw [hb.cell, Array.getElem?_setIfInBounds, if_neg (by omega), Array.getElem?_setIfInBounds, if_neg (by omega), Array.getElem?_setIfInBounds, if_pos rfl, if_pos (by omega)]
    · rw [hb.cell, Array.getElem?_setIfInBounds, if_neg (by omega), Array.getElem?_setIfInBounds, if_pos rfl, if_pos (by simp; omega)]
    · rw [hb.cell, Array.getElem?_setIfInBounds, if_pos rfl, if_pos (by simp; omega)]
  · rw [if_neg hk] at hy
    obtain ⟨e1, e2, e3⟩ := h k y hy
    refine ⟨?_, ?_, ?_⟩
    · rw [World.cell?_setCell_other _ _ _ _ (fun e => by injection e with _ e; omega), World.cell?_setCell_other _ _ _ _ (fun e => by injection e with _ e; omega), World.cell?_setCell_other _ _ _ _ (fun e => by injection e with _ e; omega)]; exact e1
    · rw [World.cell?_setCell_other _ _ _ _ (fun e => by injection e with _ e; omega), World.cell?_setCell_other _ _ _ _ (fun e => by injection e with _ e; omega), World.cell?_setCell_other _ _ _ _ (fun e => by injection e with _ e; omega)]; exact e2
    · rw [World.cell?_setCell_other _ _ _ _ (fun e => by injection e with _ e; omega), World.cell?_setCell_other _ _ _ _ (fun e => by injection e with _ e; omega), World.cell?_setCell_other _ _ _ _ (fun e => by injection e with _ e; omega)]; exact e3
theorem setCells_below {B b : Nat} (hB : B ≤ b) : ∀ (vs : List Value) (o : Nat) (a w : World), Below B a w → Below B a (w.setCells b o vs)
  | [], _, _, _, h => h
  | v :: r, o, a, _, h => setCells_below hB r (o + 1) a _ (h.setCell (p := ⟨b, o, none⟩) hB v)
theorem setCells_size (b : Nat) : ∀ (vs : List Value) (o : Nat) (w : World), (w.setCells b o vs).heap.size = w.heap.size
  | [], _, _ => rfl
  | v :: r, o, w => by rw [World.setCells, setCells_size b r]; simp [World.setCell]
theorem CR.clear {W : World} {g i : Nat} {Y : List Wd} {vs : List Value} (h : CR W g Y) (F : List Wd) (hF : F = Y.take i) : CR (W.setCells g (i * 3) vs) g F := by
  intro k x hx
  rw [hF, List.getElem?_take] at hx
  have hk : k < i := by
    split at hx
    · assumption
    · cases hx
  rw [if_pos hk] at hx
  obtain ⟨e1, e2, e3⟩ := h k x hx
  exact ⟨(World.cell?_setCells_out g vs _ W _ (fun _ _ => .inl (by show k * 3 < i * 3; omega))).trans e1, (World.cell?_setCells_out g vs _ W _ (fun _ _ => .inl (by show k * 3 + 1 < i * 3; omega))).trans e2, (World.cell?_setCells_out g vs _ W _ (fun _ _ => .inl (by show k * 3 + 2 < i * 3; omega))).trans e3⟩
theorem CR.reads {W : World} {g : Nat} {Y : List Wd} (h : CR W g Y) (hg : g < W.heap.size) : Reads W W.heap.size 3 (some ⟨g, 0, none⟩) Y.length (rowsW Y) := by
  refine ⟨rowsW_len Y, fun _ => ⟨_, rfl, hg, fun j u hu => ?_⟩⟩
  have hj := (List.getElem?_eq_some_iff.1 hu).1
  rw [rowsW_len] at hj
  obtain ⟨x, hx⟩ : ∃ x, Y[j / 3]? = some x := ⟨_, List.getElem?_eq_getElem (by omega)⟩
  have h4 := fm_get wdV 3 wdV_len Y (j / 3) (j % 3) x hx (by omega)
  rw [show j / 3 * 3 + j % 3 = j by omega, ← rowsW_fm, hu] at h4
  obtain ⟨e1, e2, e3⟩ := h _ x hx
  rw [Addr.add_lit, Nat.zero_add]
  have h3 : j % 3 = 0 ∨ j % 3 = 1 ∨ j % 3 = 2 := by omega
  rcases h3 with h3 | h3 | h3
  · rw [h3] at h4
    obtain rfl : u = .string x.text := by simpa [wdV] using h4
    rw [show j = j / 3 * 3 by omega]; exact e1
  · rw [h3] at h4
    obtain rfl : u = .int .i64 x.frm := by simpa [wdV] using h4
    rw [show j = j / 3 * 3 + 1 by omega]; exact e2
  · rw [h3] at h4
    obtain rfl : u = .int .i64 x.to_ := by simpa [wdV] using h4
    rw [show j = j / 3 * 3 + 2 by omega]; exact e3
theorem own_cr {w : World} {base n g cap : Nat} {L : List Wd} (h : w.ownsRow base 38 3 (.slice (some ⟨g, 0, none⟩) n cap) n (rowsW L)) (hn : n = L.length) (_hp : 0 < n) : CR w g L ∧ FR w g n ∧ base ≤ g := by
  obtain ⟨A, c, e, hr⟩ := own_reads h
  injection e with e1 _ _
  subst e1
  refine ⟨fun k x hx => ?_, ?_⟩
  · obtain ⟨b, off, e, _, h1, h2, h3⟩ := wd_at hr hn hx
    injection e with e; injection e with e e'
    subst e e'
    simp only [Nat.zero_add] at h1 h2 h3
    exact ⟨h1, h2, h3⟩
  · rcases h.2 with ⟨e, _⟩ | ⟨g', cap', cur, e, hb, hh, hc1, _, hsz, _⟩
    · cases e
    · injection e with e1 _ e3
      injection e1 with e1; injection e1 with e1
      subst e1 e3
      exact ⟨⟨cur, hh, by omega⟩, hb⟩
theorem clear_run (W : World) (g i n cap : Nat) (hF : FR W g n) (hi : i < n) (ty : TypeId) :
    (Builtin.clear_ #[32] ty #[.slice (some ⟨g, i * 3, none⟩) (n - i) (cap - i)]).run Try.prog W = .ok (.tuple #[]) (W.setCells g (i * 3) (Builtin.zeroCells wdZ.cells (n - i)).toList) := by
  obtain ⟨cur, h1, h2⟩ := hF
  have hv : ∀ w, (zeroValue 38).run Try.prog w = .ok wdZ w := fun w => by
    obtain ⟨i0, hi0, hz0, hz1, hz2⟩ := info_parts wd_info
    simp [zeroValue, typeInfo, hi0, hz0]
  have hl : (Builtin.zeroCells wdZ.cells (n - i)).toList.length = (n - i) * 3 := by
    simp [Builtin.zeroCells, wdZ, Value.cells]
  have hst := run_storeCells_cells (P := Try.prog) g (i * 3) (Builtin.zeroCells wdZ.cells (n - i)).toList 0 W
    (fun j hj => by
      rw [hl] at hj
      rw [h1.cell, Array.getElem?_eq_getElem (by omega)]; rfl)
    (fun j _ => h1.frozen _)
    (fun v hv => by
      simp only [Builtin.zeroCells, Array.toList_map, List.mem_map] at hv
      obtain ⟨q, _, rfl⟩ := hv
      have hq : q % wdZ.cells.size = 0 ∨ q % wdZ.cells.size = 1 ∨ q % wdZ.cells.size = 2 := by
        show q % 3 = 0 ∨ q % 3 = 1 ∨ q % 3 = 2
        omega
      rcases hq with e | e | e <;> rw [e] <;> rfl)
  simp only [Nat.add_zero] at hst
  obtain ⟨m, hm⟩ : ∃ m, n - i = m + 1 := ⟨n - i - 1, by omega⟩
  rw [hm] at hst ⊢
  simp [Builtin.clear_, run_underlying Try.underlying32, hv, hst]
end Go.Proofs.Ytpkpnmfcjoheoaa
