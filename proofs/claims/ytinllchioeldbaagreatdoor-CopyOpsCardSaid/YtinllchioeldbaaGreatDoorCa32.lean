/-
  DERIVED. The walk of the reference's StampedError: all kinds. Conditions: sizes. By an AI agent.
-/
import Derived.Test.YtinllchioeldbaaGreatDoorCa22
import Derived.Test.YtinllchioeldbaaGreatDoorCa25
import Derived.Test.YtinllchioeldbaaGreatDoorCa27
import Derived.Test.YtinllchioeldbaaGreatDoorCa24
namespace Go.Proofs.YtinllchioeldbaaGreatDoor
open Go.RowKit

set_option maxHeartbeats 4000000 in
set_option maxRecDepth 100000 in
theorem stamped_k0 (o : COp) (As Ai : Option Addr) (ns cs ni ci : Nat) (w : World) (hk : outI o.kind 1 6 = true) :
    Calls Tryz.prog 7 #[CA ⟨o, .slice As ns cs, .slice Ai ni ci⟩] w fun e w' => e = .returned (.int .i64 (cE o)) ∧ Below w.heap.size w w' := by
  have H1 := Lib.hid fun W => stampRange_any o.st W
  have HR6 : Hid (∀ W, Calls Tryz.prog 21 #[.int .i64 o.kind, .int .i64 1, .int .i64 6] W fun e w' => e = .returned (.bool false) ∧ w' = W) := fun W => by
    have := inRangeO_any o.kind 1 6 W
    rw [hk] at this
    exact this
  obtain ⟨E, hE⟩ : ∃ E, E = cE o := ⟨_, rfl⟩
  rw [← hE]
  unfold cE at hE
  rw [hk, if_pos rfl] at hE
  obtain ⟨s, hs1⟩ : ∃ q, q = stOk o.st := ⟨_, rfl⟩
  rw [← hs1] at hE H1
  clear hs1 hk
  have HE0 := Lib.hid hE
  clear hE
  obtain ⟨⟨t0, t1⟩, k, id, pa, le, ⟨⟨a0, a1⟩, a2⟩, oc, sp, nm, ⟨vk, vi, vt, vs, vl⟩⟩ := o
  dsimp only [CA, stA, Vl.kind, Vl.int_, Vl.to_, Vl.text, Vl.items] at H1 HR6 ⊢
  go_enter Tryz.func7, Tryz.ntmps7
  go_upto_region 1 with fail
  have KX := Blk.new w 33 #[.int .i64 t0, .int .i64 t1, .int .i64 k, .int .i64 id, .int .i64 pa, .int .i64 le, .int .i64 a0, .int .i64 a1, .int .i64 a2, .string oc, .slice As ns cs, .string nm, .int .i64 vk, .int .i64 vi, .int .i64 vt, .string vs, .slice Ai ni ci]
  have hbX : Below w.heap.size w (w.alloc (.cells #[.int .i64 t0, .int .i64 t1, .int .i64 k, .int .i64 id, .int .i64 pa, .int .i64 le, .int .i64 a0, .int .i64 a1, .int .i64 a2, .string oc, .slice As ns cs, .string nm, .int .i64 vk, .int .i64 vi, .int .i64 vt, .string vs, .slice Ai ni ci] 33)) := (Below.refl _ _).alloc (Nat.le_refl _) _
  generalize (w.alloc (.cells #[.int .i64 t0, .int .i64 t1, .int .i64 k, .int .i64 id, .int .i64 pa, .int .i64 le, .int .i64 a0, .int .i64 a1, .int .i64 a2, .string oc, .slice As ns cs, .string nm, .int .i64 vk, .int .i64 vi, .int .i64 vt, .string vs, .slice Ai ni ci] 33)) = X at KX hbX ⊢
  have x0 : X.cell? ⟨w.heap.size, 0, none⟩ = some (.int .i64 t0) := KX.cell 0
  have x1 : X.cell? ⟨w.heap.size, 1, none⟩ = some (.int .i64 t1) := KX.cell 1
  have HKX := Lib.hid KX
  have HBX := Lib.hid hbX
  clear KX hbX
  go_wp2_with fail
  refine (H1.out _).mono ?_
  rintro e w1 ⟨rfl, hb1⟩
  have K1 := HKX.out.below hb1 HKX.out.lt
  have HB1 : Hid (Below w.heap.size w w1) := HBX.out.trans (hb1.mono HBX.out.size)
  have y2 : w1.cell? ⟨w.heap.size, 2, none⟩ = some (.int .i64 k) := K1.cell 2
  clear x0 x1 hb1 K1
  cases s
  case false =>
    have HV := Lib.hid (HE0.out.trans (if_pos rfl))
    go_wp2_with fail
    go_ret
    exact ⟨by rw [HV.out]; rfl, HB1.out⟩
  have HV := Lib.hid (HE0.out.trans (if_neg (by decide)))
  go_wp2_with fail
  refine (HR6.out _).mono ?_
  rintro e w2 ⟨rfl, hw2⟩
  obtain rfl : w1 = w2 := hw2.symm
  go_wp2_with fail
  go_ret
  exact ⟨by rw [HV.out]; rfl, HB1.out⟩

/-- the reference's StampedError -/
theorem stamped_any (x : COm) (w : World) (B : Nat) (hB : B ≤ w.heap.size) (h : RC1 w B x) :
    Calls Tryz.prog 7 #[CA x] w fun e w' => e = .returned (.int .i64 (cE x.op)) ∧ Below w.heap.size w w' := by
  obtain ⟨As, ns, cs, Ai, ni, ci, hx⟩ := h.slices
  obtain ⟨o, sp, it⟩ := x
  injection hx with _ hx1 hx2
  subst hx1 hx2
  dsimp only
  cases hk : outI o.kind 1 6
  · have hr : 1 ≤ o.kind ∧ o.kind ≤ 6 := by
      unfold outI at hk
      have := of_decide_eq_false hk
      omega
    rcases (show o.kind = 1 ∨ o.kind = 2 ∨ o.kind = 3 ∨ o.kind = 4 ∨ o.kind = 5 ∨ o.kind = 6 by omega) with e | e | e | e | e | e
    · exact stamped_k1 o As Ai ns cs ni ci w B hB h e
    · exact stamped_k2 o As Ai ns cs ni ci w B hB h e
    · exact stamped_k3 o As Ai ns cs ni ci w B hB h e
    · exact stamped_k4 o As Ai ns cs ni ci w B hB h e
    · exact stamped_k5 o As Ai ns cs ni ci w B hB h e
    · exact stamped_k6 o As Ai ns cs ni ci w B hB h e
  · exact stamped_k0 o As Ai ns cs ni ci w hk
end Go.Proofs.YtinllchioeldbaaGreatDoor
