/-
  DERIVED. The walks of find's reader.take. Conditions: sizes. By an AI agent.
-/
import Derived.Test.YtfikilpkaobiiaaQrQuery
namespace Go.Proofs.Ytfikilpkaobiiaa
open Go.RowKit

/-- the reader's block -/
def Rd (w : World) (g : Nat) (s : ByteArray) (i : Nat) (wr : Int) : Prop := Blk w g 46 #[.string s, .int .i64 (i : Int), .int .i64 wr]

set_option maxHeartbeats 1000000 in
theorem take_yes (g : Nat) (s : ByteArray) (i : Nat) (wr c : Int) (w : World) (h : Rd w g s i wr) (hc : 0 ≤ c) (hb : bt s i = c) (hsz : s.size ≤ 4294967280) :
    Calls Try.prog 12 #[.pointer (some ⟨g, 0, none⟩), .int .u8 c] w fun e w' => e = .returned (.bool true) ∧ ∃ n, w' = (w.drewN n).setCell ⟨g, 1, none⟩ (.int .i64 ((i + 1 : Nat) : Int)) := by
  have hi : i < s.size := bt_in (by omega)
  have hg : (s[i].toNat : Int) = c := by rw [← hb, bt_at hi]
  have d0 := Blk.cell h 0
  have d1 := Blk.cell h 1
  have f1 := Blk.frozen h 1
  have j0 : (0 : Int) ≤ (i : Int) := by omega
  have j1 : (i : Int) < (s.size : Int) := by omega
  have j2 : ((i : Int) == (s.size : Int)) = false := beq_eq_false_iff_ne.2 (by omega)
  have j3 : ((s[i].toNat : Int) != c) = false := by rw [hg]; simp
  clear h hb
  go_enter Try.func12, Try.ntmps12
  go_wp2_with fail
  go_quiet (fail)
  go_wp2_with fail
  go_ret
  exact ⟨rfl, _, by rw [show ((i + 1 : Nat) : Int) = (i : Int) + 1 by omega]⟩

set_option maxHeartbeats 1000000 in
theorem take_no (g : Nat) (s : ByteArray) (i : Nat) (wr c : Int) (w : World) (h : Rd w g s i wr) (hi : i ≤ s.size) (hb : bt s i ≠ c) :
    Calls Try.prog 12 #[.pointer (some ⟨g, 0, none⟩), .int .u8 c] w fun e w' => e = .returned (.bool false) ∧ ∃ n, w' = w.drewN n := by
  have d0 := Blk.cell h 0
  have d1 := Blk.cell h 1
  have j0 : (0 : Int) ≤ (i : Int) := by omega
  by_cases he : i = s.size
  · have j2 : ((i : Int) == (s.size : Int)) = true := beq_iff_eq.2 (by omega)
    clear h hb hi he
    go_enter Try.func12, Try.ntmps12
    go_wp2_with fail
    go_quiet (fail)
    go_wp2_with fail
    go_ret
    exact ⟨rfl, _, rfl⟩
  · have hi' : i < s.size := by omega
    have j1 : (i : Int) < (s.size : Int) := by omega
    have j2 : ((i : Int) == (s.size : Int)) = false := beq_eq_false_iff_ne.2 (by omega)
    have j3 : ((s[i].toNat : Int) != c) = true := bne_iff_ne.2 (fun e => hb (by rw [bt_at hi']; exact e))
    clear h hb hi he
    go_enter Try.func12, Try.ntmps12
    go_wp2_with fail
    go_quiet (fail)
    go_wp2_with fail
    go_ret
    exact ⟨rfl, _, rfl⟩
/-- nothing turned but block g and blocks from B on -/
def Kp (g B : Nat) (w w' : World) : Prop := Below g w w' ∧ w.heap.size ≤ w'.heap.size ∧ ∀ k, k < B → k ≠ g → w'.heap[k]? = w.heap[k]?
theorem Kp.refl (g B : Nat) (w : World) : Kp g B w w := ⟨Below.refl _ _, Nat.le_refl _, fun _ _ _ => rfl⟩
theorem Kp.trans {g B : Nat} {a w w' : World} (h : Kp g B a w) (k : Kp g B w w') : Kp g B a w' := ⟨h.1.trans k.1, Nat.le_trans h.2.1 k.2.1, fun i hi hne => (k.2.2 i hi hne).trans (h.2.2 i hi hne)⟩
theorem Kp.of_below {g B : Nat} {w w' : World} (h : Below B w w') (hg : g ≤ B) : Kp g B w w' := ⟨h.mono hg, h.size, fun k hk _ => h.block k hk⟩
theorem Kp.set_ {g B : Nat} (w : World) (i : Nat) (u : Value) : Kp g B w (w.setCell ⟨g, i, none⟩ u) :=
  ⟨(Below.refl _ _).setCell (p := ⟨g, i, none⟩) (Nat.le_refl _) _, by simp [World.setCell], fun k _ hne => Below.heap_setCell _ _ _ _ (fun e => hne (by simp [e]))⟩
end Go.Proofs.Ytfikilpkaobiiaa
