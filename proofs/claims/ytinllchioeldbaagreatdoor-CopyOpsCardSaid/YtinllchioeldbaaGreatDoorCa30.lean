/-
  DERIVED. The text of a copy's operation: copy.opText. Conditions: the operation is right. By an AI agent.
-/
import Derived.Test.YtinllchioeldbaaGreatDoorCa14
import Derived.Test.YtinllchioeldbaaGreatDoorCa18
import Derived.Test.YtinllchioeldbaaGreatDoorCa19
import Derived.Test.YtinllchioeldbaaGreatDoorCa15
import Derived.Test.YtinllchioeldbaaGreatDoorCa16
import Derived.Test.YtinllchioeldbaaGreatDoorCa17
namespace Go.Proofs.YtinllchioeldbaaGreatDoor
open Go.RowKit

theorem opText_any (x : COm) (w : World) (B : Nat) (hB : B ≤ w.heap.size) (h : RC1 w B x) (ok : OkO x.op) (hP : Pow w) :
    Calls Tryz.prog 28 #[CA x] w fun e w' => e = .returned (.string (opTx x.op)) ∧ (opTx x.op).size ≤ 1000000 ∧ Below w.heap.size w w' := by
  obtain ⟨As, ns, cs, Ai, ni, ci, hx⟩ := h.slices
  obtain ⟨o, sp, it⟩ := x
  dsimp only at hx h ok ⊢
  rw [hx] at h ⊢
  have hk := ok.k
  rcases (show o.kind = 1 ∨ o.kind = 2 ∨ o.kind = 3 ∨ o.kind = 4 ∨ o.kind = 5 ∨ o.kind = 6 by omega) with e | e | e | e | e | e
  · exact opText_k1 o As Ai ns cs ni ci w B hB h e ok hP
  · exact opText_k2 o As Ai ns cs ni ci w B hB h e ok hP
  · exact opText_k3 o As Ai ns cs ni ci w B hB h e ok hP
  · exact opText_k4 o As Ai ns cs ni ci w B hB h e ok hP
  · exact opText_k5 o As Ai ns cs ni ci w B hB h e ok hP
  · exact opText_k6 o As Ai ns cs ni ci w B hB h e ok hP
end Go.Proofs.YtinllchioeldbaaGreatDoor
