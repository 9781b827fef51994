/-
  DERIVED. The walks of slices.Clip and slices.Equal at lines of an outline, of florref1.TextError. Conditions: a length in reach. By an AI agent.
-/
import Derived.Test.YtbannbgokddfaaaDoorOutMath
import Derived.Test.YtbannbgokddfaaaDoorOutShelf
import Derived.Test.YtbannbgokddfaaaDoorCtlRef
import Derived.Laws.StructEq
import Derived.Deep.LoopGhost
import Derived.Deep.QuietTactic
import Derived.BigQuiet
import Derived.WalkSpells
namespace Go.Proofs.YtbannbgokddfaaaDoor
open Go.RowKit

def lnZ : Value := .agg #[.int .i64 0, .string ⟨#[]⟩]
theorem ln_info : (Tryd.prog.info? 28).map (fun i => (i.zero, i.size, i.bytes)) = some (some lnZ, 2, 24) := by kernel_rfl
theorem ln_one (x : Ln) : ∀ u ∈ lnV x, u.oneCell' = true := by
  intro u hu
  unfold lnV at hu
  simp only [List.mem_cons, List.not_mem_nil, or_false] at hu
  rcases hu with rfl | rfl <;> rfl
theorem new_cells (w : World) (g : Nat) (cs : List Value) (t : TypeId) (hg : g = w.heap.size) : ∀ j u, cs[j]? = some u → (w.alloc (.cells cs.toArray t)).cell? ((⟨g, 0, none⟩ : Addr).add j) = some u := by
  subst hg
  intro j u hu
  rw [Addr.add_lit, Nat.zero_add, (Blk.new w t cs.toArray).cell j]
  simpa using hu

theorem ln_at {w w' : World} {B b off n : Nat} {L : List Ln} {k : Nat} {x : Ln} (hc : ∀ j u, (flatL L)[j]? = some u → w.cell? ⟨b, off + j, none⟩ = some u) (hx : L[k]? = some x) (hn : n = off + k * 2) (hb : b < B) (hbel : Below B w w') :
    w'.cell? ⟨b, n, none⟩ = some (.int .i64 x.1) ∧ w'.cell? ⟨b, n + 1, none⟩ = some (.string (lnT x)) := by
  subst hn
  have key : ∀ i u, i < 2 → (lnV x)[i]? = some u → w'.cell? ⟨b, off + k * 2 + i, none⟩ = some u := by
    intro i u hi hu
    rw [hbel.cell (p := ⟨b, off + k * 2 + i, none⟩) hb, Nat.add_assoc]
    exact hc (k * 2 + i) u (by rw [flatL_at hx hi]; exact hu)
  exact ⟨key 0 _ (by omega) rfl, key 1 _ (by omega) rfl⟩

set_option maxHeartbeats 1000000 in
theorem clip_any (A : Option Addr) (n c : Nat) (w : World) (hnc : n ≤ c) (hn : n ≤ 4294967280) :
    Calls Tryd.prog 11 #[.slice A n c] w fun e w' => e = .returned (.slice A n n) ∧ w' = w := by
  have h0 : (0 : Int) ≤ (n : Int) := by omega
  have h1 : (n : Int) ≤ (c : Int) := by omega
  go_enter Tryd.func11, Tryd.ntmps11
  go_wp2
  go_ret
  exact ⟨rfl, rfl⟩

set_option maxHeartbeats 4000000 in
set_option maxRecDepth 100000 in
theorem eqLines_any (w : World) (L : List Ln) (A1 A2 : Option Addr) (n c1 c2 : Nat) (h1 : Reads w w.heap.size 2 A1 n (flatL L)) (h2 : Reads w w.heap.size 2 A2 n (flatL L)) (hn : n = L.length) (hlen : n ≤ 4294967280) :
    Calls Tryd.prog 6 #[.slice A1 n c1, .slice A2 n c2] w fun e w' => e = .returned (.bool true) ∧ Below w.heap.size w w' := by
  have P1 := fun h => Reads.plain h1 h (by omega)
  have P2 := fun h => Reads.plain h2 h (by omega)
  have P1 := Lib.hid P1
  have P2 := Lib.hid P2
  have HN := Lib.hid hn
  clear h1 h2 hn
  go_enter Tryd.func6, Tryd.ntmps6
  go_wp2_with fail
  go_loopg [13] n (fun gg s13 wr => ∃ k : Nat, k + gg = n ∧ s13 = .int .i64 k ∧ Below w.heap.size w wr)
  case atStart => exact ⟨0, by omega, rfl, Below.refl _ _⟩
  case round =>
    obtain ⟨k, hkg, rfl, hbel⟩ := hrel
    by_cases hk : k < n
    · obtain ⟨b1, o1, rfl, hb1, hc1⟩ := P1.out (by omega)
      obtain ⟨b2, o2, rfl, hb2, hc2⟩ := P2.out (by omega)
      obtain ⟨x, hx⟩ : ∃ x, L[k]? = some x := ⟨_, List.getElem?_eq_getElem (by have := HN.out; omega)⟩
      obtain ⟨p0, p1⟩ := ln_at hc1 hx rfl hb1 hbel
      obtain ⟨q0, q1⟩ := ln_at hc2 hx rfl hb2 hbel
      have ik : (k : Int) < (n : Int) := by omega
      have ik0 : (0 : Int) ≤ (k : Int) := by omega
      have HB := Lib.hid hbel
      clear hc1 hc2 hx hbel
      go_wp2_with fail
      go_quiet (fail)
      go_wp2_with fail
      have R := Lib.hid (bdrew HB.out nq)
      go_roundg (n - (k + 1))
      case measure => omega
      case rel => exact ⟨k + 1, by omega, by go_num, R.out⟩
    · have HB := Lib.hid hbel
      clear hbel
      have ik : ¬ (k : Int) < (n : Int) := by omega
      go_wp2
      go_ret
      exact ⟨rfl, HB.out⟩

set_option maxHeartbeats 400000 in
theorem textError_any (s : ByteArray) (w : World) (hs : s.size ≤ 140737488351232) :
    Calls Tryd.prog 14 #[.string s] w fun e w' => e = .returned (.int .i64 (chkE s)) ∧ w = w' := by
  by_cases h : 2000 < s.size
  · have HV : Hid (chkE s = 4) := by show _ = _; unfold chkE; rw [if_pos h]
    have h' : (2000 : Int) < (s.size : Int) := by omega
    clear h
    go_enter Tryd.func14, Tryd.ntmps14
    go_wp2
    go_ret
    exact ⟨by rw [HV.out]; rfl, rfl⟩
  · have h' : ¬ (2000 : Int) < (s.size : Int) := by omega
    cases hc : ctl s
    · have HV : Hid (chkE s = 0) := by show _ = _; unfold chkE; rw [if_neg h, if_neg (by rw [hc]; decide)]
      clear h
      go_enter Tryd.func14, Tryd.ntmps14
      go_wp2_with fail
      refine (below_any s _ hs).mono ?_
      rintro e w1 ⟨rfl, hw⟩
      rw [hc, ← hw]
      clear hw
      go_wp2
      go_ret
      exact ⟨by rw [HV.out]; rfl, rfl⟩
    · have HV : Hid (chkE s = 9) := by show _ = _; unfold chkE; rw [if_neg h, if_pos hc]
      clear h
      go_enter Tryd.func14, Tryd.ntmps14
      go_wp2_with fail
      refine (below_any s _ hs).mono ?_
      rintro e w1 ⟨rfl, hw⟩
      rw [hc, ← hw]
      clear hw
      go_wp2
      go_ret
      exact ⟨by rw [HV.out]; rfl, rfl⟩

theorem toL_nil {s : ByteArray} : s.data.toList = [] ↔ s.toList.isEmpty = true := by rw [Lib.toList_data]; simp
theorem toL_cons {s : ByteArray} : s.data.toList ≠ [] ↔ s.toList.isEmpty = false := by rw [Lib.toList_data]; simp
end Go.Proofs.YtbannbgokddfaaaDoor
