/-
  DERIVED. Joined texts, step by step. Conditions: none. By an AI agent.
-/
import Derived.Test.YtpkpnmfcjoheoaaQrText
namespace Go.Proofs.Ytpkpnmfcjoheoaa
open Go.RowKit

theorem joinB_nil (sep : ByteArray) : joinB [] sep = ⟨#[]⟩ := rfl
theorem joinB_one (x sep : ByteArray) : joinB [x] sep = x := by
  unfold joinB
  rw [List.map_cons, List.map_nil, Lib.join_one]
theorem joinB_cons (x y : ByteArray) (r : List ByteArray) (sep : ByteArray) : joinB (x :: y :: r) sep = x ++ sep ++ joinB (y :: r) sep := by
  apply ByteArray.ext
  unfold joinB
  simp [Lib.join, ByteArray.data_append]
end Go.Proofs.Ytpkpnmfcjoheoaa
