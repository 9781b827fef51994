/-
  DERIVED. Values in memory: a value's five cells, its items one behind the other in a row below block B. Conditions: none. By an AI agent.
-/
import Derived.Test.YteichcpbfdjjkaaBase
import Derived.Test.YteichcpbfdjjkaaValueMath
namespace Go.Proofs.Yteichcpbfdjjkaa
open Go.RowKit

def IsVal (w : World) (B : Nat) : Nat → V → List Value → Prop
  | 0, _, _ => False
  | d + 1, .mk k n t s l, cs => ∃ A len cap, cs = [.int .i64 k, .int .i64 n, .int .i64 t, .string s, .slice A len cap] ∧ l.length = len ∧ len ≤ 9223372036854775807 ∧
      (0 < len → ∃ b off, A = some ⟨b, off, none⟩ ∧ b < B ∧ ∀ i it, l[i]? = some it → ∃ row, row.length = 5 ∧ (∀ j u, row[j]? = some u → w.cell? ⟨b, off + i * 5 + j, none⟩ = some u) ∧ IsVal w B d it row)

/-- items in a row -/
def IsItems (w : World) (B d : Nat) (l : List V) (A : Option Addr) (len : Nat) : Prop :=
  l.length = len ∧ len ≤ 9223372036854775807 ∧ (0 < len → ∃ b off, A = some ⟨b, off, none⟩ ∧ b < B ∧ ∀ i it, l[i]? = some it → ∃ row, row.length = 5 ∧ (∀ j u, row[j]? = some u → w.cell? ⟨b, off + i * 5 + j, none⟩ = some u) ∧ IsVal w B d it row)

theorem IsVal.form {w : World} {B d : Nat} {k n t : Int} {s : ByteArray} {l : List V} {cs : List Value} (h : IsVal w B (d + 1) (.mk k n t s l) cs) :
    ∃ A len cap, cs = [.int .i64 k, .int .i64 n, .int .i64 t, .string s, .slice A len cap] ∧ IsItems w B d l A len := by
  obtain ⟨A, len, cap, e, h1, h2, h4⟩ := h
  exact ⟨A, len, cap, e, h1, h2, h4⟩

theorem IsVal.keep {w w' : World} {B B' : Nat} (hk : ∀ p : Addr, p.block < B → w'.cell? p = w.cell? p) (hB : B ≤ B') : ∀ (d : Nat) (v : V) (cs : List Value), IsVal w B d v cs → IsVal w' B' d v cs
  | 0, _, _, h => h
  | d + 1, .mk k n t s l, cs, h => by
    obtain ⟨A, len, cap, e, h1, h2, h4⟩ := h
    refine ⟨A, len, cap, e, h1, h2, fun hn => ?_⟩
    obtain ⟨b, off, hA, hb, hi⟩ := h4 hn
    refine ⟨b, off, hA, by omega, fun i it hit => ?_⟩
    obtain ⟨row, hr, hc, hv⟩ := hi i it hit
    exact ⟨row, hr, fun j u hu => (hk ⟨b, off + i * 5 + j, none⟩ hb).trans (hc j u hu), IsVal.keep hk hB d it row hv⟩

theorem IsVal.below {w w' : World} {B : Nat} {d : Nat} {v : V} {cs : List Value} (h : IsVal w B d v cs) (hb : Below B w w') : IsVal w' B d v cs := IsVal.keep (fun _ hp => hb.cell hp) (Nat.le_refl _) d v cs h
theorem IsVal.alloc {w : World} {B : Nat} {d : Nat} {v : V} {cs : List Value} (h : IsVal w B d v cs) (hB : B ≤ w.heap.size) (o : Obj) : IsVal (w.alloc o) B d v cs := IsVal.keep (fun p hp => World.cell?_alloc_lt w o p (by omega)) (Nat.le_refl _) d v cs h
theorem IsVal.drewN {w : World} {B : Nat} {d : Nat} {v : V} {cs : List Value} (h : IsVal w B d v cs) (n : Nat) : IsVal (w.drewN n) B d v cs := IsVal.keep (w := w) (w' := w.drewN n) (fun _ _ => rfl) (Nat.le_refl _) d v cs h
theorem IsItems.keep {w w' : World} {B B' d : Nat} {l : List V} {A : Option Addr} {len : Nat} (h : IsItems w B d l A len) (hk : ∀ p : Addr, p.block < B → w'.cell? p = w.cell? p) (hB : B ≤ B') : IsItems w' B' d l A len := by
  obtain ⟨h1, h2, h4⟩ := h
  refine ⟨h1, h2, fun hn => ?_⟩
  obtain ⟨b, off, hA, hb, hi⟩ := h4 hn
  refine ⟨b, off, hA, by omega, fun i it hit => ?_⟩
  obtain ⟨row, hr, hc, hv⟩ := hi i it hit
  exact ⟨row, hr, fun j u hu => (hk ⟨b, off + i * 5 + j, none⟩ hb).trans (hc j u hu), IsVal.keep hk hB d it row hv⟩

/-- more fuel does not hurt -/
theorem IsVal.fuel {w : World} {B : Nat} : ∀ (d : Nat) (v : V) (cs : List Value), IsVal w B d v cs → IsVal w B (d + 1) v cs
  | 0, _, _, h => h.elim
  | d + 1, .mk k n t s l, cs, h => by
    obtain ⟨A, len, cap, e, h1, h2, h4⟩ := h
    refine ⟨A, len, cap, e, h1, h2, fun hn => ?_⟩
    obtain ⟨b, off, hA, hb, hi⟩ := h4 hn
    refine ⟨b, off, hA, hb, fun i it hit => ?_⟩
    obtain ⟨row, hr, hc, hv⟩ := hi i it hit
    exact ⟨row, hr, hc, IsVal.fuel d it row hv⟩
theorem IsVal.more {w : World} {B : Nat} {v : V} {cs : List Value} {d d' : Nat} (h : IsVal w B d v cs) (hd : d ≤ d') : IsVal w B d' v cs := by
  obtain ⟨n, rfl⟩ : ∃ n, d' = d + n := ⟨d' - d, by omega⟩
  induction n with
  | zero => exact h
  | succ n ih => exact IsVal.fuel _ _ _ (ih (by omega))

theorem IsVal.cells {w : World} {B : Nat} : ∀ {d : Nat} {v : V} {cs : List Value}, IsVal w B d v cs → ∃ k n t s A len cap, cs = [.int .i64 k, .int .i64 n, .int .i64 t, .string s, .slice A len cap]
  | 0, _, _, h => h.elim
  | _ + 1, .mk k n t s _, _, h => by
    obtain ⟨A, len, cap, e, _⟩ := h
    exact ⟨k, n, t, s, A, len, cap, e⟩

/-- an item's five cells -/
theorem IsItems.at_ {w : World} {B d : Nat} {l : List V} {A : Option Addr} {len k : Nat} (h : IsItems w B d l A len) (hk : k < len) :
    ∃ b off it x0 x1 x2 x3 x4 x5 x6, A = some ⟨b, off, none⟩ ∧ b < B ∧ l[k]? = some it ∧ IsVal w B d it [.int .i64 x0, .int .i64 x1, .int .i64 x2, .string x3, .slice x4 x5 x6] ∧
      w.cell? ⟨b, off + k * 5, none⟩ = some (.int .i64 x0) ∧ w.cell? ⟨b, off + k * 5 + 1, none⟩ = some (.int .i64 x1) ∧ w.cell? ⟨b, off + k * 5 + 2, none⟩ = some (.int .i64 x2) ∧ w.cell? ⟨b, off + k * 5 + 3, none⟩ = some (.string x3) ∧ w.cell? ⟨b, off + k * 5 + 4, none⟩ = some (.slice x4 x5 x6) := by
  obtain ⟨h1, h2, h4⟩ := h
  obtain ⟨b, off, hA, hb, hi⟩ := h4 (by omega)
  have hkl : k < l.length := by omega
  obtain ⟨row, hr, hc, hv⟩ := hi k l[k] (List.getElem?_eq_getElem hkl)
  obtain ⟨x0, x1, x2, x3, x4, x5, x6, rfl⟩ := hv.cells
  exact ⟨b, off, l[k], x0, x1, x2, x3, x4, x5, x6, hA, hb, List.getElem?_eq_getElem hkl, hv, hc 0 _ rfl, hc 1 _ rfl, hc 2 _ rfl, hc 3 _ rfl, hc 4 _ rfl⟩
end Go.Proofs.Yteichcpbfdjjkaa
