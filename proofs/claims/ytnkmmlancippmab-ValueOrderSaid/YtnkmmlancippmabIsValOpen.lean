/-
  DERIVED. A value that came in is a tree in memory that was there. Conditions: none. By an AI agent.
-/
import Derived.Test.YtnkmmlancippmabLawBase
import Derived.Test.YtnkmmlancippmabIsVal
namespace Go.Proofs.Ytnkmmlancippmab
open Go.ChangeShapes Go.WideShapes Go.RowKit

theorem choose_list {α : Type} {p : Nat → α → Prop} : ∀ (n : Nat), (∀ i, i < n → ∃ a, p i a) → ∃ l : List α, l.length = n ∧ ∀ i a, l[i]? = some a → p i a
  | 0, _ => ⟨[], rfl, by simp⟩
  | n + 1, h => by
    obtain ⟨l, hl, hp⟩ := choose_list n (fun i hi => h i (by omega))
    obtain ⟨a, ha⟩ := h n (by omega)
    refine ⟨l ++ [a], by simp [hl], fun i b hb => ?_⟩
    rcases Nat.lt_or_ge i n with hi | hi
    · rw [List.getElem?_append_left (by omega)] at hb
      exact hp i b hb
    · rw [List.getElem?_append_right (by omega)] at hb
      obtain rfl : i = n := by
        rcases Nat.lt_or_ge (i - l.length) 1 with h1 | h1
        · omega
        · rw [List.getElem?_eq_none (by simpa using h1)] at hb; cases hb
      rw [hl, Nat.sub_self] at hb
      simp at hb
      subst hb
      exact ha

theorem plain_of_cell {w : World} {a : Addr} {k : Nat} {u : Value} (h : w.cell? (a.add k) = some u) : (k = 0 → a.spot = none) := fun hk => by
  subst hk
  simpa [Addr.add] using World.cell?_spot h

theorem cellsV : Try.prog.cellsOf 33 = 5 := by kernel_rfl
theorem cells_of_int : Try.prog.cellsOf 3 = 1 := by kernel_rfl
theorem cells_of_str : Try.prog.cellsOf 9 = 1 := by kernel_rfl
theorem cells_of_vals : Try.prog.cellsOf 31 = 1 := by kernel_rfl
theorem bytesV : Try.prog.bytesOf 33 = 64 := by kernel_rfl

theorem addr_add (b off k : Nat) : (⟨b, off, none⟩ : Addr).add k = ⟨b, off + k, none⟩ := by
  unfold Addr.add
  split
  · rename_i h; subst h; rfl
  · rfl

theorem isVal_of_trod {H : Type} {enc : TypeId × Value → H} {W : World} : ∀ (fuel : Nat) (cs : List Value) (x : DataW H × List MemPlace),
    DataW.trod enc Try.prog W 0 (fun _ => true) true fuel 33 cs = some x → (∀ y ∈ x.2, y.block < W.heap.size) → Fits Try.prog 33 x.1 → ∃ v, IsVal W W.heap.size fuel v cs := by
  intro fuel
  induction fuel using Nat.strongRecOn with
  | _ fuel ih =>
    intro cs x h hp hfit
    obtain ⟨xs, n, rfl, rfl, hlen, hxl, hf⟩ := DataW.trod_struct Try.underlying33 h
    rw [cellsV] at hlen
    match cs, hlen with
    | [u0, u1, u2, u3, u4], _ =>
      match xs, hxl with
      | [y0, y1, y2, y3, y4], _ =>
        have g0 : DataW.trod enc Try.prog W 0 (fun _ => true) true n 3 (([u0, u1, u2, u3, u4].drop 0).take (Try.prog.cellsOf 3)) = some y0 := hf 0 _ rfl
        rw [cells_of_int] at g0
        change DataW.trod enc Try.prog W 0 (fun _ => true) true n 3 [u0] = some y0 at g0
        have g1 : DataW.trod enc Try.prog W 0 (fun _ => true) true n 3 (([u0, u1, u2, u3, u4].drop 1).take (Try.prog.cellsOf 3)) = some y1 := hf 1 _ rfl
        rw [cells_of_int] at g1
        change DataW.trod enc Try.prog W 0 (fun _ => true) true n 3 [u1] = some y1 at g1
        have g2 : DataW.trod enc Try.prog W 0 (fun _ => true) true n 3 (([u0, u1, u2, u3, u4].drop 2).take (Try.prog.cellsOf 3)) = some y2 := hf 2 _ rfl
        rw [cells_of_int] at g2
        change DataW.trod enc Try.prog W 0 (fun _ => true) true n 3 [u2] = some y2 at g2
        have g3 : DataW.trod enc Try.prog W 0 (fun _ => true) true n 9 (([u0, u1, u2, u3, u4].drop 3).take (Try.prog.cellsOf 9)) = some y3 := hf 3 _ rfl
        rw [cells_of_str] at g3
        change DataW.trod enc Try.prog W 0 (fun _ => true) true n 9 [u3] = some y3 at g3
        have g4 : DataW.trod enc Try.prog W 0 (fun _ => true) true n 31 (([u0, u1, u2, u3, u4].drop 4).take (Try.prog.cellsOf 31)) = some y4 := hf 4 _ rfl
        rw [cells_of_vals] at g4
        change DataW.trod enc Try.prog W 0 (fun _ => true) true n 31 [u4] = some y4 at g4
        obtain ⟨k, e0, rfl, _⟩ := DataW.trod_int Try.underlying3 g0
        obtain ⟨i, e1, rfl, _⟩ := DataW.trod_int Try.underlying3 g1
        obtain ⟨t, e2, rfl, _⟩ := DataW.trod_int Try.underlying3 g2
        obtain ⟨s, e3, rfl, _⟩ := DataW.trod_string Try.underlying9 g3
        simp at e0 e1 e2 e3
        subst e0 e1 e2 e3
        have hs : s.size ≤ 140737488351232 := (hfit.part Try.underlying33 (j := 3) rfl rfl).string
        have hfit4 : Fits Try.prog 31 y4.1 := hfit.part Try.underlying33 (j := 4) rfl rfl
        have hp4 : ∀ y ∈ y4.2, y.block < W.heap.size := fun y hy => hp y (by simp [hy])
        rcases DataW.trod_slice Try.underlying31 g4 with ⟨hcs, hx⟩ | ⟨a, len, cap, elems, rest, m, rfl, hcs, hx, _, hl, hcap, hel, hi, hsp, _⟩
        · simp at hcs
          subst hcs
          exact ⟨.mk k i t s [], none, 0, 0, rfl, rfl, by omega, hs, fun h => absurd h (by omega)⟩
        · simp at hcs
          subst hcs hx
          rw [cellsV] at hi
          have hone : ∀ j, j < len → ∃ it, ∃ row : List Value, row.length = 5 ∧ (∀ q u, row[q]? = some u → W.cell? (a.add (j * 5 + q)) = some u) ∧ IsVal W W.heap.size m it row := by
            intro j hj
            have h1 := hi j hj
            rw [List.getElem?_eq_getElem (by omega)] at h1
            obtain ⟨row, hc, ht⟩ := Option.bind_eq_some_iff.1 h1
            obtain ⟨_, hrl, hat⟩ := World.cells?_some hc
            obtain ⟨v, hv⟩ := ih m (by omega) row _ ht (fun y hy => hp4 y (List.mem_append_right _ (List.mem_flatMap.2 ⟨_, List.mem_append_left _ (List.getElem_mem _), hy⟩)))
              (hfit4.elem Try.underlying31 (List.mem_map.2 ⟨_, List.getElem_mem _, rfl⟩))
            refine ⟨v, row, hrl, fun q u hu => ?_, hv⟩
            have hq : q < 5 := by
              rcases Nat.lt_or_ge q 5 with h | h
              · exact h
              · rw [List.getElem?_eq_none (by omega)] at hu; cases hu
            rw [← add_of_add, hat q hq, hu]
          obtain ⟨l, hll, hlp⟩ := choose_list len hone
          refine ⟨.mk k i t s l, some a, len, cap, rfl, hll, by unfold maxLen at hcap; omega, hs, fun hn => ?_⟩
          obtain ⟨b, off, spot⟩ := a
          obtain ⟨it0, row0, hr0, hc0, _⟩ := hone 0 hn
          have hspot : spot = none := by
            have := hc0 0 row0[0] (List.getElem?_eq_getElem (by omega))
            simpa [Addr.add] using World.cell?_spot this
          subst hspot
          have hb : b < W.heap.size := hp4 (.cell b off) (List.mem_append_left _ (MemPlace.mem_row.2 ⟨0, by rw [cellsV]; omega, by simp⟩))
          refine ⟨b, off, rfl, hb, fun j it hit => ?_⟩
          obtain ⟨row, hr, hc, hv⟩ := hlp j it hit
          refine ⟨row, hr, fun q u hu => ?_, IsVal.fuel _ _ _ hv⟩
          rw [Nat.add_assoc, ← addr_add]
          exact hc q u hu

end Go.Proofs.Ytnkmmlancippmab
