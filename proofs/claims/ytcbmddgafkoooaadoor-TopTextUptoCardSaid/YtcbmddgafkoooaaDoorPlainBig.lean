/-
  DERIVED. The walk of text.PlainOf, of texts up to four times as long. Conditions: the text's size. By an AI agent.
-/
import Derived.Test.YtcbmddgafkoooaaDoorPlainOf
namespace Go.Proofs.YtcbmddgafkoooaaDoor
open Go.RowKit

set_option maxHeartbeats 1000000 in
set_option maxRecDepth 100000 in
theorem plainOf_big (s : ByteArray) (w : World) (hs : s.size ≤ 4194304) :
    Calls Tryd.prog 20 #[.string s] w fun e w' => e = .returned (.string (plain s)) ∧ Below w.heap.size w w' := by
  have he : ∀ args w, (callFunc 48 args).run Tryd.prog w = .ok (.enter 48 args) w := Go.Proofs.enters_of Tryd.func48 (by kernel_rfl) rfl
  obtain ⟨W, hW⟩ : ∃ W : World, W = (w.alloc (.cells #[.string s] 9)).alloc (.cells #[.pointer none, .slice none 0 0] 49) := ⟨_, rfl⟩
  have hWs : W.heap.size = w.heap.size + 2 := by rw [hW]; simp
  have hWb : W.heap[w.heap.size + 1]? = some (.cells #[.pointer none, .slice none 0 0] 49 (0, 0)) := by
    have := heap_alloc_new (w.alloc (.cells #[.string s] 9)) (.cells #[.pointer none, .slice none 0 0] 49)
    rw [hW]; simpa using this
  have hWc : W.cell? ⟨w.heap.size, 0, none⟩ = some (.string s) := by rw [hW]; simp
  have hbelW : Below w.heap.size w W := by rw [hW]; exact ((Below.refl _ _).alloc (Nat.le_refl _) _).alloc (by simp) _
  have HE := each_any s 48 #[.pointer (some ⟨w.heap.size, 0, none⟩), .pointer (some ⟨w.heap.size + 1, 0, none⟩)] W (by omega)
    (fun w1 l w2 => W.heap.size ≤ w1.heap.size ∧ w1.heap.size ≤ w2.heap.size ∧ w2.cell? ⟨w.heap.size, 0, none⟩ = some (.string s) ∧ Bld (w.heap.size + 1) w1.heap.size (Lib.byteCells (plainL s l)) w2 ∧ Keep (w.heap.size + 1) w1.heap.size w1 w2) he
    (fun w1 hb => by
      have hz := hb.size
      exact ⟨hz, Nat.le_refl _, (hb.cell (p := ⟨w.heap.size, 0, none⟩) (by show w.heap.size < _; omega)).trans hWc, Bld.fresh (by omega) ((hb.block _ (by omega)).trans hWb), Keep.refl _ _ _⟩)
    (fun w1 l w2 o hb ⟨a0, a1, a2, a3, a4⟩ => ⟨a0, by simp; omega, (World.cell?_alloc_lt w2 o _ (by show w.heap.size < _; omega)).trans a2, a3.alloc a1 o, a4.alloc a1 (by omega) o⟩)
    (fun w1 l w2 ⟨a0, a1, a2, a3, a4⟩ => ⟨a1, fun p hp hp' => a4.cell hp' (by omega)⟩)
    (fun w1 l x w2 hb ⟨a0, a1, a2, a3, a4⟩ ⟨r, hr⟩ => by
      have hx : x ∈ spans s := by rw [hr]; simp
      obtain ⟨_, m1, m2⟩ := cont_mem (spans_cont s) x hx
      have ok := spans_ok s x hx
      have hll : (plainL s l).length ≤ l.length * (s.size + 2) := plainL_len (fun y hy => spans_ok s y (by rw [hr]; simp [hy]))
      have hl : l.length ≤ s.size := by have := (cont_le (spans_cont s)).2; rw [hr] at this; simp at this; omega
      have hm : l.length * (s.size + 2) ≤ 4194304 * 4194306 := Nat.mul_le_mul (by omega) (by omega)
      have hsl := shown_le ok
      refine (plainOf1_any s x w2 w.heap.size (w.heap.size + 1) w1.heap.size _ a3 a2 (by omega) a1 (by omega) m2 (by omega) (by have := ok.2; omega) (by rw [Lib.byteCells_length]; omega)).mono ?_
      rintro e w3 ⟨rfl, h3, h4⟩
      refine ⟨rfl, a0, Nat.le_trans a1 h4.1.size, ?_, ?_, a4.trans h4⟩
      · exact (World.cell?_of_block (h4.2 w.heap.size (by omega) (by omega))).trans a2
      · rw [plainL_snoc, byteCells_append]; exact h3)
  have HE := Lib.hid HE
  have HB := Lib.hid hbelW
  clear hbelW hWb hWc
  go_enter Tryd.func20, Tryd.ntmps20
  go_wp2_with fail
  rw [← hW]
  refine HE.out.mono ?_
  rintro e w1 ⟨rfl, w0, hb0, a0, a1, a2, a3, a4⟩
  have hz := hb0.size
  have R : Hid (Below w.heap.size w w1) := HB.out.trans ((hb0.mono (by omega)).trans (a4.1.mono (by omega)))
  have A3 := Lib.hid a3
  clear a3 a4 hb0 a2
  go_wp2_with fail
  refine (string_any (w.heap.size + 1) w0.heap.size (plain s) w1 A3.out).mono ?_
  rintro e w2 ⟨rfl, hb2⟩
  have R2 : Hid (Below w.heap.size w w2) := R.out.trans (hb2.mono (by omega))
  clear hb2
  go_wp2
  go_ret
  exact ⟨rfl, R2.out⟩
end Go.Proofs.YtcbmddgafkoooaaDoor
