/-
  DERIVED. Plain law: the token at a place, by its first byte; the same of the text from that place on. Conditions: none. By an AI agent.
-/
import Derived.Test.YtcbmddgafkoooaaDoorSpanIs
namespace Go.Proofs.YtcbmddgafkoooaaDoor
open Go.RowKit

theorem same_tail {s : ByteArray} {a : Nat} (ha : a ≤ s.size) : Same (s.extract a s.size) s 0 a :=
  ⟨Nat.zero_le _, ha, by rw [List.drop_zero, ext_list]⟩
theorem tail_bt {s : ByteArray} {a : Nat} (ha : a ≤ s.size) (i : Nat) : bt (s.extract a s.size) i = bt s (a + i) := by
  have := (same_tail ha).at_ i
  rwa [Nat.zero_add] at this
theorem tail_ext {s : ByteArray} {a : Nat} (ha : a ≤ s.size) {i j : Nat} (h : i ≤ j) : (s.extract a s.size).extract i j = s.extract (a + i) (a + j) :=
  ((same_tail ha).ext (Nat.zero_le _) h (by omega) (by omega)).symm
theorem tail_size {s : ByteArray} {a : Nat} : (s.extract a s.size).size = s.size - a := by rw [ByteArray.size_extract]; omega

def byteK : Nat → Int
  | 0 => 92
  | 1 => 96
  | 2 => 91
  | 3 => 40
  | 4 => 35
  | _ => 42
theorem tokK_byte {k : Nat} {s : ByteArray} {a : Nat} {x : Sp} (h : tokK k s a = some x) : bt s a = byteK k := by
  unfold tokK at h
  split at h
  · exact tokE_byte h
  · exact tokC_byte h
  · exact (tokL_inv h).b0
  · unfold tokR at h; dsimp only at h; split at h
    · rename_i c; exact c.1
    · cases h
  · unfold tokT at h; dsimp only at h; split at h
    · rename_i c; exact c.1
    · cases h
  · unfold tokB at h; split at h
    · rename_i c
      rw [c.1]
      unfold byteK
      split <;> first | rfl | (exfalso; simp_all)
    · cases h
theorem byteK_inj {j k : Nat} (hk : k < 6) (hj : j < k) : byteK j ≠ byteK k := by
  match k, hk with
  | 1, _ => match j, hj with | 0, _ => decide
  | 2, _ => match j, hj with | 0, _ => decide | 1, _ => decide
  | 3, _ => match j, hj with | 0, _ => decide | 1, _ => decide | 2, _ => decide
  | 4, _ => match j, hj with | 0, _ => decide | 1, _ => decide | 2, _ => decide | 3, _ => decide
  | 5, _ => match j, hj with | 0, _ => decide | 1, _ => decide | 2, _ => decide | 3, _ => decide | 4, _ => decide
theorem tokA_of {k : Nat} {s : ByteArray} {a : Nat} {x : Sp} (hk : k < 6) (h : tokK k s a = some x) : tokA s a = x :=
  tokA_some hk (fun j hj => by
    cases e : tokK j s a with
    | none => rfl
    | some y => exact absurd ((tokK_byte e).symm.trans (tokK_byte h)) (byteK_inj hk hj)) h
theorem tokA_no {k : Nat} {s : ByteArray} {a : Nat} (hk : k < 6) (hb : bt s a = byteK k) (h : tokK k s a = none) : tokA s a = plainAt a :=
  tokA_none (fun j hj => by
    cases e : tokK j s a with
    | none => rfl
    | some y =>
      have h1 := (tokK_byte e).symm.trans hb
      rcases Nat.lt_trichotomy j k with g | g | g
      · exact absurd h1 (byteK_inj hk g)
      · subst g; rw [h] at e; cases e
      · exact absurd h1.symm (byteK_inj hj g))
theorem tokA_other {s : ByteArray} {a : Nat} (h : ∀ k, k < 6 → bt s a ≠ byteK k) : tokA s a = plainAt a :=
  tokA_none (fun j hj => by
    cases e : tokK j s a with
    | none => rfl
    | some y => exact absurd (tokK_byte e) (h j hj))

/-- the reference's token, as a value -/
def rtV (s : ByteArray) (a : Nat) : Value := spV (fillT s (tokA s a))
theorem rtV_plain {s : ByteArray} {a : Nat} (h : tokA s a = plainAt a) : rtV s a = .agg #[.int .i64 1, .int .i64 a, .int .i64 (a + 1), .string (s.extract a (a + 1)), .string ⟨#[]⟩, .int .i64 0, .bool false] := by
  unfold rtV; rw [h]; rfl
theorem rtV_of {k : Nat} {s : ByteArray} {a : Nat} {x : Sp} (hk : k < 6) (h : tokK k s a = some x) (h1 : x.kind ≠ 1) : rtV s a = spV x := by
  unfold rtV; rw [tokA_of hk h]; unfold fillT; rw [if_neg h1]
end Go.Proofs.YtcbmddgafkoooaaDoor
