/-
  DERIVED. The walks of prop.find, prop.Get, prop.same and florkeep2.sameProps' closure. Conditions: sizes. By an AI agent.
-/
import Derived.Test.YteichcpbfdjjkaaPmVal
import Derived.Test.YteichcpbfdjjkaaBsPrAt
import Derived.Test.YteichcpbfdjjkaaBsCopyV
import Derived.Deep.LoopGhost
import Derived.Deep.RegionHeld3
namespace Go.Proofs.Yteichcpbfdjjkaa
open Go.RowKit

/-- the place of the first property with a name -/
def nmFrom : List Pr → ByteArray → Nat → Int
  | [], _, _ => -1
  | x :: l, s, k => if x.name = s then (k : Int) else nmFrom l s (k + 1)
def nmOf (l : List Pr) (s : ByteArray) : Int := nmFrom l s 0
theorem nmFrom_at {l : List Pr} {k : Nat} {x : Pr} (h : l[k]? = some x) (s : ByteArray) : nmFrom (l.drop k) s k = if x.name = s then (k : Int) else nmFrom (l.drop (k + 1)) s (k + 1) := by
  obtain ⟨hk, rfl⟩ := List.getElem?_eq_some_iff.1 h
  rw [List.drop_eq_getElem_cons hk, nmFrom]
theorem nmFrom_spec : ∀ (l : List Pr) (s : ByteArray) (k : Nat), (nmFrom l s k = -1 ∧ ∀ x ∈ l, x.name ≠ s) ∨ ∃ (i : Nat) (x : Pr), nmFrom l s k = ((k + i : Nat) : Int) ∧ l[i]? = some x ∧ x.name = s
  | [], _, _ => .inl ⟨by rw [nmFrom], by simp⟩
  | x :: l, s, k => by
    rw [nmFrom]
    by_cases h : x.name = s
    · rw [if_pos h]; exact .inr ⟨0, x, rfl, rfl, h⟩
    · rw [if_neg h]
      rcases nmFrom_spec l s (k + 1) with ⟨h1, h2⟩ | ⟨i, y, h1, h2, h3⟩
      · exact .inl ⟨h1, fun y hy => by
          rcases List.mem_cons.1 hy with rfl | hy
          · exact h
          · exact h2 y hy⟩
      · exact .inr ⟨i + 1, y, by rw [h1]; congr 1; omega, by simpa using h2, h3⟩
theorem nmOf_spec (l : List Pr) (s : ByteArray) : (nmOf l s = -1 ∧ ∀ x ∈ l, x.name ≠ s) ∨ ∃ (i : Nat) (x : Pr), nmOf l s = (i : Int) ∧ l[i]? = some x ∧ x.name = s := by
  rcases nmFrom_spec l s 0 with h | ⟨i, x, h1, h2⟩
  · exact .inl h
  · exact .inr ⟨i, x, by rw [nmOf, h1]; congr 1; omega, h2⟩

set_option maxHeartbeats 400000 in
theorem find1_any (x : Pr) (u : Value) (P : Nat) (s : ByteArray) (w : World) (hP : P < w.heap.size) (hc : w.cell? ⟨P, 0, none⟩ = some (.string s)) :
    Calls Try.prog 44 #[AP (x, u), .pointer (some ⟨P, 0, none⟩)] w fun e w' => e = .returned (.bool (decide (x.name = s))) ∧ Below w.heap.size w w' := by
  rw [dec_toList]
  have hc' : ∀ o, (w.alloc o).cell? ⟨P, 0, none⟩ = some (.string s) := fun o => (World.cell?_alloc_lt _ _ _ hP).trans hc
  dsimp only [AP]
  go_enter Try.func44, Try.ntmps44
  go_wp2_with fail
  go_ret
  exact ⟨rfl, (Below.refl _ _).alloc (Nat.le_refl _) _⟩

set_option maxHeartbeats 2000000 in
theorem indexP_any (l : List Pr) (A : Option Addr) (n c P : Nat) (s : ByteArray) (w : World) (B : Nat) (hB : B ≤ w.heap.size) (hP : P < w.heap.size) (hPc : w.cell? ⟨P, 0, none⟩ = some (.string s)) (h : RPr w B (.slice A n c) l) :
    Calls Try.prog 43 #[.slice A n c, .func (.func 44) #[] #[.pointer (some ⟨P, 0, none⟩)]] w fun e w' => e = .returned (.int .i64 (nmOf l s)) ∧ Below w.heap.size w w' := by
  obtain ⟨V, hV⟩ : ∃ V, V = nmOf l s := ⟨_, rfl⟩
  rw [← hV]
  have HV : Hid (V = nmFrom (l.drop 0) s 0) := hV
  have HN := Lib.hid h.len
  have H := Lib.hid h
  have HPC := Lib.hid hPc
  clear h hV hPc
  go_enter Try.func43, Try.ntmps43
  go_wp2_with fail
  go_loopg [8] n (fun gg s8 wr => ∃ k : Nat, k + gg = n ∧ s8 = .int .i64 (k : Int) ∧ Hid (V = nmFrom (l.drop k) s k) ∧ Hid (Below w.heap.size w wr))
  case atStart => exact ⟨0, by omega, rfl, HV, Below.refl _ _⟩
  case round =>
    obtain ⟨k, hkg, rfl, hno, hbel⟩ := hrel
    have hbg : n * 80 ≤ 140737488351232 := HN.out.2.2
    by_cases hk : k < n
    · obtain ⟨x, hx⟩ : ∃ x, l[k]? = some x := ⟨_, List.getElem?_eq_getElem (by have := HN.out.1; omega)⟩
      obtain ⟨b, off, Av, nv, cv, rfl, hbb, g0, g1, g2, g3, g4, g5, _⟩ := (H.out.below (hbel.out.mono hB)).at_ hx
      have hst := hno.out.trans (nmFrom_at hx s)
      have HX := Lib.hid (find1_any x (.slice Av nv cv) P s wr (Nat.lt_of_lt_of_le hP hbel.out.size) ((hbel.out.cell (p := ⟨P, 0, none⟩) hP).trans HPC.out))
      dsimp only [AP] at HX
      have j0 : (0 : Int) ≤ (k : Int) := by omega
      have j1 : (k : Int) < (n : Int) := by omega
      clear hx
      obtain ⟨q, hq⟩ : ∃ q, decide (x.name = s) = q := ⟨_, rfl⟩
      rw [hq] at HX
      cases q
      · have HS := Lib.hid (hst.trans (if_neg (of_decide_eq_false hq)))
        clear hst hq
        go_wp2_with fail
        refine HX.out.mono ?_
        rintro e w2 ⟨rfl, hb⟩
        have HB2 : Hid (Below w.heap.size w w2) := hbel.out.trans (hb.mono hbel.out.size)
        clear hb
        go_wp2_with fail
        go_roundg (n - (k + 1))
        case measure => omega
        case rel => exact ⟨k + 1, by omega, by go_num, HS, HB2⟩
      · have HS := Lib.hid (hst.trans (if_pos (of_decide_eq_true hq)))
        clear hst hq
        go_wp2_with fail
        refine HX.out.mono ?_
        rintro e w2 ⟨rfl, hb⟩
        have HB2 : Hid (Below w.heap.size w w2) := hbel.out.trans (hb.mono hbel.out.size)
        clear hb
        go_wp2_with fail
        go_ret
        exact ⟨by rw [HS.out]; rfl, HB2.out⟩
    · obtain rfl : n = k := by omega
      have HZ : Hid (V = -1) := hno.out.trans (by rw [List.drop_of_length_le (by rw [← HN.out.1]; exact Nat.le_refl _)]; rfl)
      go_wp2_with fail
      go_ret
      exact ⟨by rw [HZ.out]; rfl, hbel.out⟩
set_option maxHeartbeats 400000 in
theorem find_any (l : List Pr) (A : Option Addr) (n c : Nat) (s : ByteArray) (w : World) (B : Nat) (hB : B ≤ w.heap.size) (h : RPr w B (.slice A n c) l) :
    Calls Try.prog 26 #[.slice A n c, .string s] w fun e w' => e = .returned (.int .i64 (nmOf l s)) ∧ Below w.heap.size w w' := by
  have HX := Lib.hid (indexP_any l A n c w.heap.size s (w.alloc (.cells #[.string s] 9)) B (by simp; omega) (by simp) ((Blk.new w 9 #[.string s]).cell 0) (h.below ((Below.refl _ _).alloc hB _)))
  go_enter Try.func26, Try.ntmps26
  go_wp2_with fail
  refine HX.out.mono ?_
  rintro e w2 ⟨rfl, hb⟩
  go_wp2_with fail
  go_ret
  exact ⟨rfl, ((Below.refl _ _).alloc (Nat.le_refl _) _).trans (hb.mono (by simp))⟩
end Go.Proofs.Yteichcpbfdjjkaa
