/-
  DERIVED. The walks of slices.Clip and slices.Equal at changes. Conditions: a length in reach. By an AI agent.
-/
import Derived.Test.YtnmgigfhcanplaaChOf
import Derived.Laws.StructEq
import Derived.WalkSpells
namespace Go.Proofs.Ytnmgigfhcanplaa
open Go.RowKit

theorem rowsC_len : ∀ M : List C, (rowsC M).length = M.length * 2
  | [] => rfl
  | a :: M => by show (_ :: _ :: rowsC M).length = _; simp [rowsC_len M]; omega
theorem rowsC_get : ∀ (M : List C) (k : Nat) (x : C), M[k]? = some x → (rowsC M)[k * 2]? = some (.string x.1) ∧ (rowsC M)[k * 2 + 1]? = some (.int .i64 x.2)
  | [], k, x, h => by simp at h
  | a :: M, 0, x, h => by
    obtain rfl : a = x := by simpa using h
    exact ⟨rfl, rfl⟩
  | a :: M, k + 1, x, h => by
    have := rowsC_get M k x (by simpa using h)
    have e : (k + 1) * 2 = k * 2 + 2 := by omega
    rw [e]
    exact this
theorem ch_at {w w' : World} {B b off n : Nat} {L : List C} {k : Nat} {x : C} (hc : ∀ j u, (rowsC L)[j]? = some u → w.cell? ⟨b, off + j, none⟩ = some u) (hx : L[k]? = some x) (hn : n = off + k * 2) (hb : b < B) (hbel : Below B w w') :
    w'.cell? ⟨b, n, none⟩ = some (.string x.1) ∧ w'.cell? ⟨b, n + 1, none⟩ = some (.int .i64 x.2) := by
  subst hn
  have h := rowsC_get L k x hx
  refine ⟨?_, ?_⟩
  · rw [hbel.cell (p := ⟨b, off + k * 2, none⟩) hb]; exact hc _ _ h.1
  · rw [hbel.cell (p := ⟨b, off + k * 2 + 1, none⟩) hb, Nat.add_assoc]; exact hc _ _ h.2

set_option maxHeartbeats 1000000 in
theorem clip_any (A : Option Addr) (n c : Nat) (w : World) (hnc : n ≤ c) (hn : n ≤ 4294967280) :
    Calls Try.prog 12 #[.slice A n c] w fun e w' => e = .returned (.slice A n n) ∧ w' = w := by
  have h0 : (0 : Int) ≤ (n : Int) := by omega
  have h1 : (n : Int) ≤ (c : Int) := by omega
  go_enter Try.func12, Try.ntmps12
  go_wp2
  go_ret
  exact ⟨rfl, rfl⟩

set_option maxHeartbeats 4000000 in
set_option maxRecDepth 100000 in
theorem eqCh_any (w : World) (L : List C) (A1 A2 : Option Addr) (n c1 c2 : Nat) (h1 : Reads w w.heap.size 2 A1 n (rowsC L)) (h2 : Reads w w.heap.size 2 A2 n (rowsC L)) (hn : n = L.length) (hlen : n ≤ 4294967280) :
    Calls Try.prog 6 #[.slice A1 n c1, .slice A2 n c2] w fun e w' => e = .returned (.bool true) ∧ Below w.heap.size w w' := by
  have P1 := fun h => Reads.plain h1 h (by omega)
  have P2 := fun h => Reads.plain h2 h (by omega)
  have P1 := Lib.hid P1
  have P2 := Lib.hid P2
  have HN := Lib.hid hn
  clear h1 h2 hn
  go_enter Try.func6, Try.ntmps6
  go_wp2_with fail
  go_loopg [13] n (fun gg s13 wr => ∃ k : Nat, k + gg = n ∧ s13 = .int .i64 k ∧ Below w.heap.size w wr)
  case atStart => exact ⟨0, by omega, rfl, Below.refl _ _⟩
  case round =>
    obtain ⟨k, hkg, rfl, hbel⟩ := hrel
    by_cases hk : k < n
    · obtain ⟨b1, o1, rfl, hb1, hc1⟩ := P1.out (by omega)
      obtain ⟨b2, o2, rfl, hb2, hc2⟩ := P2.out (by omega)
      obtain ⟨x, hx⟩ : ∃ x, L[k]? = some x := ⟨_, List.getElem?_eq_getElem (by have := HN.out; omega)⟩
      obtain ⟨p0, p1⟩ := ch_at hc1 hx rfl hb1 hbel
      obtain ⟨q0, q1⟩ := ch_at hc2 hx rfl hb2 hbel
      have ik : (k : Int) < (n : Int) := by omega
      have ik0 : (0 : Int) ≤ (k : Int) := by omega
      have HB := Lib.hid hbel
      clear hc1 hc2 hx hbel
      go_wp2_with fail
      go_quiet (fail)
      go_wp2_with fail
      have R := Lib.hid (bdrew HB.out nq)
      go_roundg (n - (k + 1))
      case measure => omega
      case rel => exact ⟨k + 1, by omega, by go_num, R.out⟩
    · have HB := Lib.hid hbel
      clear hbel
      have ik : ¬ (k : Int) < (n : Int) := by omega
      go_wp2
      go_ret
      exact ⟨rfl, HB.out⟩

end Go.Proofs.Ytnmgigfhcanplaa
