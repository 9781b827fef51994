/-
  DERIVED. A reader of words in memory; the walks of day.reader's take, next, number and day. Conditions: sizes; the table of powers of ten is laid. By an AI agent.
-/
import Derived.Test.YtbdcimakdiegnaaGreatDoorRuNum
import Derived.Test.YtbdcimakdiegnaaGreatDoorVa15
import Derived.Deep.LoopGhost
namespace Go.Proofs.YtbdcimakdiegnaaGreatDoor
open Go.RowKit
open cal

/-- a reader of words in block rb; its words lie in block g -/
structure RW (w : World) (rb g : Nat) (xs : List ByteArray) : Prop where
  rd : ∃ off c, Blk w rb 80 #[.slice (some ⟨g, off, none⟩) xs.length c, .bool false] ∧ xs.length ≤ c ∧ ∀ j x, xs[j]? = some x → w.cell? ⟨g, off + j, none⟩ = some (.string x)
  ne : g ≠ rb
  lt : g < w.heap.size
  len : xs.length ≤ 1000
section
variable {w w' : World} {rb g : Nat} {xs : List ByteArray}
theorem RW.rlt (h : RW w rb g xs) : rb < w.heap.size := by
  obtain ⟨_, _, h1, _⟩ := h.rd
  exact h1.lt
theorem RW.keep (h : RW w rb g xs) (hs : w.heap.size ≤ w'.heap.size) (hr : w'.heap[rb]? = w.heap[rb]?) (hg : w'.heap[g]? = w.heap[g]?) : RW w' rb g xs := by
  obtain ⟨off, c, h1, h2, h3⟩ := h.rd
  refine ⟨⟨off, c, ?_, h2, fun j x hx => ?_⟩, h.ne, Nat.lt_of_lt_of_le h.lt hs, h.len⟩
  · exact hr.trans h1
  · exact (World.cell?_of_block (a := ⟨g, off + j, none⟩) hg).trans (h3 j x hx)
theorem RW.below (h : RW w rb g xs) (hb : Below w.heap.size w w') : RW w' rb g xs := h.keep hb.size (hb.block _ h.rlt) (hb.block _ h.lt)
theorem RW.set (h : RW w rb g xs) {k i : Nat} (hk : k ≠ rb) (hk' : k ≠ g) (v : Value) : RW (w.setCell ⟨k, i, none⟩ v) rb g xs :=
  h.keep (by simp [World.setCell]) (Below.heap_setCell _ ⟨k, i, none⟩ _ rb (fun e => hk e.symm)) (Below.heap_setCell _ ⟨k, i, none⟩ _ g (fun e => hk' e.symm))
end

set_option maxHeartbeats 1000000 in
theorem next_any (rb g : Nat) (x : ByteArray) (r : List ByteArray) (w : World) (h : RW w rb g (x :: r)) :
    Calls Tryz.prog 75 #[.pointer (some ⟨rb, 0, none⟩)] w fun e w' => e = .returned (.string x) ∧ RW w' rb g r ∧ w.grownBy w' (some rb) := by
  obtain ⟨off, c, h1, h2, h3⟩ := h.rd
  have c0 : w.cell? ⟨rb, 0, none⟩ = some (.slice (some ⟨g, off, none⟩) (r.length + 1) c) := h1.cell 0
  have f0 : w.frozen? ⟨rb, 0, none⟩ = false := h1.frozen 0
  have cx : w.cell? ⟨g, off, none⟩ = some (.string x) := h3 0 x rfl
  have hc : r.length + 1 ≤ c := h2
  have HF : Hid (∀ off' c', r.length ≤ c' → (r.length ≠ 0 → off' = off + 1) → RW (w.setCell ⟨rb, 0, none⟩ (.slice (some ⟨g, off', none⟩) r.length c')) rb g r ∧ w.grownBy (w.setCell ⟨rb, 0, none⟩ (.slice (some ⟨g, off', none⟩) r.length c')) (some rb)) := fun off' c' hc' ho => by
    refine ⟨⟨⟨off', c', h1.set_ 0 _, hc', fun j y hy => ?_⟩, h.ne, by simpa [World.setCell] using h.lt, by have := h.len; simp only [List.length_cons] at this; omega⟩, gr_set (World.grownBy.refl w (some rb)) 0 _⟩
    have hj := (List.getElem?_eq_some_iff.1 hy).1
    have := h3 (j + 1) y hy
    rw [ho (by omega), show off + 1 + j = off + (j + 1) by omega]
    exact (World.cell?_of_block (a := ⟨g, off + (j + 1), none⟩) (Below.heap_setCell _ ⟨rb, _, none⟩ _ g h.ne)).trans this
  clear h h1 h2 h3
  go_enter Tryz.func75, Tryz.ntmps75
  go_wp2_with fail
  all_goals
    go_ret
    exact ⟨rfl, HF.out _ _ (by omega) (by omega)⟩

set_option maxHeartbeats 1000000 in
theorem takeW_yes (rb g : Nat) (x : ByteArray) (r : List ByteArray) (w : World) (h : RW w rb g (x :: r)) :
    Calls Tryz.prog 68 #[.pointer (some ⟨rb, 0, none⟩), .string x] w fun e w' => e = .returned (.bool true) ∧ RW w' rb g r ∧ w.grownBy w' (some rb) := by
  obtain ⟨off, c, h1, h2, h3⟩ := h.rd
  have c0 : w.cell? ⟨rb, 0, none⟩ = some (.slice (some ⟨g, off, none⟩) (r.length + 1) c) := h1.cell 0
  have f0 : w.frozen? ⟨rb, 0, none⟩ = false := h1.frozen 0
  have cx : w.cell? ⟨g, off, none⟩ = some (.string x) := h3 0 x rfl
  have hc : r.length + 1 ≤ c := h2
  have HF : Hid (∀ off' c', r.length ≤ c' → (r.length ≠ 0 → off' = off + 1) → RW (w.setCell ⟨rb, 0, none⟩ (.slice (some ⟨g, off', none⟩) r.length c')) rb g r ∧ w.grownBy (w.setCell ⟨rb, 0, none⟩ (.slice (some ⟨g, off', none⟩) r.length c')) (some rb)) := fun off' c' hc' ho => by
    refine ⟨⟨⟨off', c', h1.set_ 0 _, hc', fun j y hy => ?_⟩, h.ne, by simpa [World.setCell] using h.lt, by have := h.len; simp only [List.length_cons] at this; omega⟩, gr_set (World.grownBy.refl w (some rb)) 0 _⟩
    have hj := (List.getElem?_eq_some_iff.1 hy).1
    have := h3 (j + 1) y hy
    rw [ho (by omega), show off + 1 + j = off + (j + 1) by omega]
    exact (World.cell?_of_block (a := ⟨g, off + (j + 1), none⟩) (Below.heap_setCell _ ⟨rb, _, none⟩ _ g h.ne)).trans this
  clear h h1 h2 h3
  go_enter Tryz.func68, Tryz.ntmps68
  go_wp2_with fail
  all_goals
    go_ret
    exact ⟨rfl, HF.out _ _ (by omega) (by omega)⟩

set_option maxHeartbeats 1000000 in
theorem takeW_no (rb g : Nat) (x : ByteArray) (xs : List ByteArray) (w : World) (h : RW w rb g xs) (hx : xs.head? ≠ some x) :
    Calls Tryz.prog 68 #[.pointer (some ⟨rb, 0, none⟩), .string x] w fun e w' => e = .returned (.bool false) ∧ w' = w := by
  obtain ⟨off, c, h1, h2, h3⟩ := h.rd
  cases xs with
  | nil =>
    have c0 : w.cell? ⟨rb, 0, none⟩ = some (.slice (some ⟨g, off, none⟩) 0 c) := h1.cell 0
    clear h h1 h2 h3
    go_enter Tryz.func68, Tryz.ntmps68
    go_wp2_with fail
    go_ret
    exact ⟨rfl, rfl⟩
  | cons y r =>
    have c0 : w.cell? ⟨rb, 0, none⟩ = some (.slice (some ⟨g, off, none⟩) (r.length + 1) c) := h1.cell 0
    have cx : w.cell? ⟨g, off, none⟩ = some (.string y) := h3 0 y rfl
    have hc : r.length + 1 ≤ c := h2
    have he : (y.toList == x.toList) = false := by
      rw [ba_eq, decide_eq_false_iff_not]
      intro e
      apply hx
      rw [List.head?_cons]
      congr 1
      exact ByteArray.ext (Array.ext' e)
    clear h h1 h2 h3 hx
    go_enter Tryz.func68, Tryz.ntmps68
    go_wp2_with fail
    go_ret
    exact ⟨rfl, rfl⟩

set_option maxHeartbeats 1000000 in
theorem numberW_any (rb g : Nat) (x : ByteArray) (n : Int) (r : List ByteArray) (w : World) (h : RW w rb g (x :: r)) (hx : plM x.data.toList = some n) (hz : x.size ≤ 400000) (hP : ∀ W, w.grownBy W (some rb) → Pow W) :
    Calls Tryz.prog 69 #[.pointer (some ⟨rb, 0, none⟩)] w fun e w' => e = .returned (.int .i64 n) ∧ RW w' rb g r ∧ w.grownBy w' (some rb) := by
  have HN := Lib.hid (next_any rb g x r w h)
  have HP : Hid (∀ W, w.grownBy W (some rb) → Calls Tryz.prog 73 #[.string x] W fun e w' => e = .returned (.tuple #[.int .i64 n, .bool true]) ∧ Below W.heap.size W w') := fun W hW => by
    refine (plainNumberD_any x W hz (hP W hW)).mono ?_
    rintro e w' ⟨n', rfl, h1, h2⟩
    rw [hx] at h1 ⊢
    rw [h1 n rfl]
    exact ⟨rfl, h2⟩
  clear h hx hP
  go_enter Tryz.func69, Tryz.ntmps69
  go_wp2_with fail
  refine HN.out.mono ?_
  rintro e w1 ⟨rfl, hr1, hg1⟩
  have HR1 := Lib.hid hr1
  have HG1 := Lib.hid hg1
  have HP1 := Lib.hid (HP.out w1 hg1)
  clear hr1 hg1 HN HP
  go_wp2_with fail
  refine HP1.out.mono ?_
  rintro e w2 ⟨rfl, hb2⟩
  have hr2 := HR1.out.below hb2
  have HG2 := Lib.hid (gr_below HG1.out hb2)
  obtain ⟨off, c, k1, k2, k3⟩ := hr2.rd
  have c1 : w2.cell? ⟨rb, 1, none⟩ = some (.bool false) := k1.cell 1
  have f1 : w2.frozen? ⟨rb, 1, none⟩ = false := k1.frozen 1
  have HF : Hid (RW (w2.setCell ⟨rb, 1, none⟩ (.bool false)) rb g r) := by
    refine ⟨⟨off, c, k1.set_ 1 _, k2, fun j y hy => ?_⟩, hr2.ne, by simpa [World.setCell] using hr2.lt, hr2.len⟩
    exact (World.cell?_of_block (a := ⟨g, off + j, none⟩) (Below.heap_setCell _ ⟨rb, _, none⟩ _ g hr2.ne)).trans (k3 j y hy)
  have HG : Hid (w.grownBy (w2.setCell ⟨rb, 1, none⟩ (.bool false)) (some rb)) := gr_set HG2.out 1 _
  clear hr2 k1 k2 k3 hb2 HP1 HR1 HG1 HG2
  go_wp2_with fail
  go_ret
  exact ⟨rfl, HF.out, HG.out⟩
end Go.Proofs.YtbdcimakdiegnaaGreatDoor
