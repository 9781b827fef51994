/-
  DERIVED. The walk of text.each, for whatever closure keeps a relation. Conditions: the text's size. By an AI agent.
-/
import Derived.Test.YtcbmddgafkoooaaDoorBuildString
namespace Go.Proofs.YtcbmddgafkoooaaDoor
open Go.RowKit

set_option maxHeartbeats 1000000 in
set_option maxRecDepth 100000 in
theorem each_any (s : ByteArray) (f : FuncId) (caps : Array Value) (w : World) (hs : s.size ≤ 4294967280) (I : World → List Sp → World → Prop) (he : ∀ args w, (callFunc f args).run Tryd.prog w = .ok (.enter f args) w)
    (h0 : ∀ w1, Below w.heap.size w w1 → I w1 [] w1)
    (hal : ∀ w1 l w2 o, Below w.heap.size w w1 → I w1 l w2 → I w1 l (w2.alloc o))
    (hrd : ∀ w1 l w2, I w1 l w2 → w1.heap.size ≤ w2.heap.size ∧ ∀ p : Addr, w.heap.size ≤ p.block → p.block < w1.heap.size → w2.cell? p = w1.cell? p)
    (hst : ∀ w1 l x w2, Below w.heap.size w w1 → I w1 l w2 → (∃ r, spans s = l ++ x :: r) → Calls Tryd.prog f (#[spV x] ++ caps) w2 fun e w3 => e = .returned (.tuple #[]) ∧ I w1 (l ++ [x]) w3) :
    Calls Tryd.prog 42 #[.string s, .func (.func f) #[] caps] w fun e w' => e = .returned (.tuple #[]) ∧ ∃ w1, Below w.heap.size w w1 ∧ I w1 (spans s) w' := by
  have H0 := Lib.hid h0
  have HAL := Lib.hid hal
  have HRD := Lib.hid hrd
  have HST := Lib.hid hst
  clear h0 hal hrd hst
  go_enter Tryd.func42, Tryd.ntmps42
  go_wp2_with fail
  refine (spans_any s _ hs).mono ?_
  rintro e w1 ⟨v, rfl, hown, hb⟩
  obtain ⟨A, c, rfl, hnc, hA⟩ := own_shape hown
  obtain ⟨L, hL⟩ : ∃ L, L = spans s := ⟨_, rfl⟩
  rw [← hL] at hown hnc hA
  have HL := Lib.hid hL
  rw [← hL]
  clear hL
  have hlen : L.length ≤ 4294967280 := by
    rw [HL.out]; have := (cont_le (spans_cont s)).2; omega
  go_wp2
  go_loopg [9] L.length (fun gg s9 wr => ∃ k : Nat, k + gg = L.length ∧ s9 = .int .i64 k ∧ Hid (I w1 (L.take k) wr))
  case atStart => exact ⟨0, by omega, rfl, by rw [List.take_zero]; exact H0.out w1 hb⟩
  case round =>
    obtain ⟨k, hkg, rfl, HI⟩ := hrel
    by_cases hk : k < L.length
    · obtain ⟨g, rfl⟩ := hA (by omega)
      obtain ⟨x, hx⟩ : ∃ x, L[k]? = some x := ⟨_, List.getElem?_eq_getElem hk⟩
      obtain ⟨z1, z2⟩ := HRD.out w1 _ wr HI.out
      have hg := hown.lt g rfl
      obtain ⟨c0, c1, c2, c3, c4, c5, c6⟩ : wr.cell? ⟨g, k * 7, none⟩ = some (.int .i64 x.kind) ∧ wr.cell? ⟨g, k * 7 + 1, none⟩ = some (.int .i64 x.frm) ∧ wr.cell? ⟨g, k * 7 + 2, none⟩ = some (.int .i64 x.to_) ∧ wr.cell? ⟨g, k * 7 + 3, none⟩ = some (.string x.text) ∧
          wr.cell? ⟨g, k * 7 + 4, none⟩ = some (.string x.show_) ∧ wr.cell? ⟨g, k * 7 + 5, none⟩ = some (.int .i64 x.id) ∧ wr.cell? ⟨g, k * 7 + 6, none⟩ = some (.bool x.strong) := by
        obtain ⟨c0, c1, c2, c3, c4, c5, c6⟩ := sp_cells hown (Below.refl _ _) hx
        refine ⟨?_, ?_, ?_, ?_, ?_, ?_, ?_⟩
        all_goals first
          | exact (z2 ⟨g, k * 7, none⟩ hg.1 hg.2).trans c0
          | exact (z2 ⟨g, k * 7 + 1, none⟩ hg.1 hg.2).trans c1
          | exact (z2 ⟨g, k * 7 + 2, none⟩ hg.1 hg.2).trans c2
          | exact (z2 ⟨g, k * 7 + 3, none⟩ hg.1 hg.2).trans c3
          | exact (z2 ⟨g, k * 7 + 4, none⟩ hg.1 hg.2).trans c4
          | exact (z2 ⟨g, k * 7 + 5, none⟩ hg.1 hg.2).trans c5
          | exact (z2 ⟨g, k * 7 + 6, none⟩ hg.1 hg.2).trans c6
      have HX := Lib.hid hx
      have ik : (k : Int) < (L.length : Int) := by omega
      have ik0 : (0 : Int) ≤ (k : Int) := by omega
      have HC := fun o => HST.out w1 (L.take k) x (wr.alloc o) hb (HAL.out w1 _ wr o hb HI.out) ⟨L.drop (k + 1), by
        rw [← HL.out]
        have e1 := List.take_append_drop k L
        rw [List.drop_eq_getElem_cons hk] at e1
        rw [List.getElem?_eq_getElem hk] at hx
        injection hx with hx
        rw [hx] at e1
        exact e1.symm⟩
      have HC := Lib.hid HC
      clear hx z1 z2
      go_wp2_with fail
      refine (HC.out _).mono ?_
      rintro e w3 ⟨rfl, hi3⟩
      have HI3 : Hid (I w1 (L.take (k + 1)) w3) := by
        show I _ _ _
        rw [List.take_add_one, HX.out]; exact hi3
      clear hi3 HC HI
      go_wp2
      go_roundg (L.length - (k + 1))
      case measure => omega
      case rel => exact ⟨k + 1, by omega, by go_num, HI3⟩
    · obtain rfl : k = L.length := by omega
      have HE : Hid (∃ w1, Below w.heap.size w w1 ∧ I w1 (spans s) wr) := ⟨w1, hb, by rw [← HL.out]; have := HI.out; rwa [List.take_length] at this⟩
      clear HI
      go_wp2
      go_end0
      exact ⟨rfl, HE.out⟩
end Go.Proofs.YtcbmddgafkoooaaDoor
