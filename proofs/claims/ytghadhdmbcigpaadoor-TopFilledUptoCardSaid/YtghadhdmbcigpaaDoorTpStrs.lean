/-
  DERIVED. A slice of strings that came in: its cells; no string is larger than its bulk. Conditions: none. By an AI agent.
-/
import Derived.Test.YtghadhdmbcigpaaDoorLawBase
import Derived.Test.YtghadhdmbcigpaaDoorBase
import Derived.Deep.Strs
namespace Go.Proofs.YtghadhdmbcigpaaDoor
open Go.ChangeShapes Go.WideShapes Go.Deep Go.RowKit

theorem bulk_mem {H : Type} : ∀ {ds : List (DataW H)} {d : DataW H}, d ∈ ds → Rows.uptoBulk d ≤ Rows.uptoBulkAll ds
  | [], _, h => by cases h
  | x :: r, d, h => by
    rw [Rows.uptoBulkAll]
    rcases List.mem_cons.1 h with rfl | h
    · omega
    · have := bulk_mem h; omega
theorem reads_strs {H : Type} {enc : TypeId × Value → H} {P : Program} {W : World} {r : Reach} {b0 : Nat} {t e : TypeId} {v : Value} {d : DataW H} {p : List MemPlace} (ht : P.underlying t = some (.slice e)) (he : P.underlying e = some .string)
    (hc : P.cellsOf e = 1) (hv : Value.okWide P W r b0 t v) (h : DataW.Trod enc P W 0 (fun _ => true) true t v d p) (hp : ∀ x ∈ p, x.block < W.heap.size) :
    ∃ A len cap, ∃ zs : List ByteArray, v = .slice A len cap ∧ len = zs.length ∧ Reads W W.heap.size 1 A len (zs.map .string) ∧ ∀ x ∈ zs, x.size ≤ Rows.uptoBulk d := by
  obtain ⟨a0, len, cap, rfl⟩ := okWide_slice ht hv
  obtain ⟨fuel, hf⟩ := h
  rcases open_strs ht he hc hf with ⟨hcs, hx⟩ | ⟨a, len', cap', m, Sx, hcs, _, hl, hm, hmm, hx, hcell⟩
  · simp [Value.cells] at hcs
    obtain ⟨rfl, rfl, rfl⟩ := hcs
    exact ⟨none, 0, 0, [], rfl, rfl, Reads.none_, by simp⟩
  · simp [Value.cells] at hcs
    obtain ⟨rfl, rfl, rfl⟩ := hcs
    simp only [Prod.mk.injEq] at hx
    obtain ⟨rfl, rfl⟩ := hx
    simp only [if_true] at hmm
    refine ⟨some a, len, cap, (List.range len).map Sx, rfl, by simp, ⟨by simp, fun hn => ⟨a, rfl, ?_, ?_⟩⟩, ?_⟩
    · exact hp (.cell a.block a.off) (by simp only [MemPlace.mem_row]; exact ⟨0, by omega, by simp⟩)
    · intro j u hu
      rw [List.map_map, List.getElem?_map] at hu
      have hj : j < len := by
        rcases Nat.lt_or_ge j len with h | h
        · exact h
        · rw [List.getElem?_eq_none (by simpa using h)] at hu; cases hu
      rw [List.getElem?_range hj] at hu
      simp only [Option.map_some, Option.some.injEq, Function.comp] at hu
      rw [(hcell j (by omega)).1, ← hu]
    · intro x hx
      obtain ⟨i, hi, rfl⟩ := List.mem_map.1 hx
      have h1 := bulk_mem (H := H) (d := .lit (.string (Sx i).data.toList)) (ds := (List.range len).map fun i => .lit (.string (Sx i).data.toList)) (List.mem_map.2 ⟨i, hi, rfl⟩)
      rw [Rows.uptoBulk] at h1
      rw [Rows.uptoBulk]
      have e : (Sx i).data.toList.length = (Sx i).size := rfl
      omega
end Go.Proofs.YtghadhdmbcigpaaDoor
