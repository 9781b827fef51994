/-
  DERIVED. Properties in a row; a property as an aggregate (for seats whose base has AV). Conditions: none. By an AI agent.
-/
import Derived.Test.YtbdcimakdiegnaaGreatDoorVa18
import Derived.Test.YtbdcimakdiegnaaGreatDoorVa16
namespace Go.Proofs.YtbdcimakdiegnaaGreatDoor
open Go.RowKit

/-- a property in memory, its items told apart -/
def AP (x : Pr × Value) : Value := .agg #[.string x.1.name, .int .i64 x.1.val.kind, .int .i64 x.1.val.int_, .int .i64 x.1.val.to_, .string x.1.val.text, x.2]
section
variable {w : World} {B : Nat} {A : Option Addr} {n c : Nat}
theorem RPr.len {l : List Pr} (h : RPr w B (.slice A n c) l) : n = l.length ∧ n ≤ c ∧ n * 80 ≤ 140737488351232 := by
  obtain ⟨A', n', c', M, h1, e, h2, h3, _⟩ := h
  injection e with e1 e2 e3
  subst e2 e3
  exact ⟨by rw [h2, ← h1, List.length_map], h3⟩
/-- a property in a row -/
theorem RPr.at_ {l : List Pr} (h : RPr w B (.slice A n c) l) {k : Nat} {x : Pr} (hk : l[k]? = some x) : ∃ b off Av nv cv, A = some ⟨b, off, none⟩ ∧ b < B ∧ w.cell? ⟨b, off + k * 6, none⟩ = some (.string x.name) ∧ w.cell? ⟨b, off + k * 6 + 1, none⟩ = some (.int .i64 x.val.kind) ∧ w.cell? ⟨b, off + k * 6 + 2, none⟩ = some (.int .i64 x.val.int_) ∧ w.cell? ⟨b, off + k * 6 + 3, none⟩ = some (.int .i64 x.val.to_) ∧ w.cell? ⟨b, off + k * 6 + 4, none⟩ = some (.string x.val.text) ∧ w.cell? ⟨b, off + k * 6 + 5, none⟩ = some (.slice Av nv cv) ∧ RV w B (.slice Av nv cv) x.val.items := by
  obtain ⟨A', n', c', M, h1, e, h2, h3, h4, h5⟩ := h
  injection e with e1 e2 e3
  subst e1 e2 e3
  obtain ⟨y, hy, rfl⟩ : ∃ y, M[k]? = some y ∧ y.1 = x := by
    rw [← h1, List.getElem?_map, Option.map_eq_some_iff] at hk
    exact hk
  obtain ⟨b, off, e, hb, hc⟩ := h4.plain_at (by omega) prV_len h2 hy
  have k1 := h5 y (List.mem_of_getElem? hy)
  obtain ⟨⟨nm, ⟨kx, ix, tx, sx, lx⟩⟩, v⟩ := y
  obtain ⟨Av, nv, cv, rfl⟩ := k1.slice
  exact ⟨b, off, Av, nv, cv, e, hb, hc 0 _ rfl, hc 1 _ rfl, hc 2 _ rfl, hc 3 _ rfl, hc 4 _ rfl, hc 5 _ rfl, k1⟩
end
end Go.Proofs.YtbdcimakdiegnaaGreatDoor
