/-
  DERIVED. The walk of find's Query.parts. Conditions: sizes. By an AI agent.
-/
import Derived.Test.YtpkpnmfcjoheoaaQrText
namespace Go.Proofs.Ytpkpnmfcjoheoaa
open Go.RowKit

theorem fm_get {α : Type} (enc : α → List Value) (c : Nat) (h : ∀ x, (enc x).length = c) : ∀ (M : List α) (k i : Nat) (x : α), M[k]? = some x → i < c → (M.flatMap enc)[k * c + i]? = (enc x)[i]?
  | [], k, i, x, hk, hi => by simp at hk
  | a :: M, 0, i, x, hk, hi => by
    obtain rfl : a = x := by simpa using hk
    rw [List.flatMap_cons, Nat.zero_mul, Nat.zero_add, List.getElem?_append_left (by rw [h]; exact hi)]
  | a :: M, k + 1, i, x, hk, hi => by
    have := fm_get enc c h M k i x (by simpa using hk) hi
    rw [List.flatMap_cons, List.getElem?_append_right (by rw [h, Nat.succ_mul]; omega), h, ← this]
    congr 1; rw [Nat.succ_mul]; omega
theorem Reads.plain_at {α : Type} {enc : α → List Value} {c : Nat} (hc0 : 0 < c) (henc : ∀ x, (enc x).length = c) {w : World} {B n : Nat} {A : Option Addr} {M : List α} (h : Reads w B c A n (M.flatMap enc)) (hn : n = M.length) {k : Nat} {x : α} (hk : M[k]? = some x) :
    ∃ b off, A = some ⟨b, off, none⟩ ∧ b < B ∧ ∀ i u, (enc x)[i]? = some u → w.cell? ⟨b, off + k * c + i, none⟩ = some u := by
  have hkl : k < M.length := (List.getElem?_eq_some_iff.1 hk).1
  obtain ⟨b, off, e, hb, hcell⟩ := h.plain (by omega) hc0
  refine ⟨b, off, e, hb, fun i u hu => ?_⟩
  rw [Nat.add_assoc]
  refine hcell _ _ ?_
  rw [fm_get enc c henc M k i x hk (by rw [← henc x]; exact (List.getElem?_eq_some_iff.1 hu).1)]
  exact hu
theorem paV_len (x : Part × Value) : (paV x).length = 2 := rfl
theorem clV_len (x : Clause × Value) : (clV x).length = 2 := rfl

/-- how many parts -/
def np (cs : List Clause) : Nat := (cs.map (·.parts.length)).sum
theorem np_take (cs : List Clause) (k : Nat) (c : Clause) (h : cs[k]? = some c) : np (cs.take (k + 1)) = np (cs.take k) + c.parts.length := by
  unfold np
  rw [List.take_add_one, h]
  simp
theorem np_le (cs : List Clause) : ∀ k, np (cs.take k) ≤ np cs := by
  induction cs with
  | nil => intro k; simp
  | cons c r ih =>
    intro k
    cases k with
    | zero => exact Nat.zero_le _
    | succ k =>
      have := ih k
      unfold np at this ⊢
      simp only [List.take_succ_cons, List.map_cons, List.sum_cons]
      omega

set_option maxHeartbeats 2000000 in
theorem parts_any (cs : List Clause) (v : Value) (w : World) (B : Nat) (hr : RC w B v cs) (hB : B ≤ w.heap.size) (hnp : np cs ≤ 4294967280) (hlen : cs.length ≤ 4294967280) :
    Calls Try.prog 30 #[.agg #[v]] w fun e w' => e = .returned (.int .i64 (np cs)) ∧ Below w.heap.size w w' := by
  obtain ⟨A, n, c, M, hM, rfl, hn, hrd, hin⟩ := hr
  have HR := Lib.hid hrd
  have HN := Lib.hid hn
  have HI := Lib.hid hin
  have HM := Lib.hid hM
  have hnl : n = cs.length := by rw [hn, ← hM, List.length_map]
  have hnb : n ≤ 4294967280 := by omega
  have HNL := Lib.hid hnl
  have HLE := Lib.hid (np_le cs)
  clear hrd hn hin hM hnl
  go_enter Try.func30, Try.ntmps30
  go_wp2_with fail
  go_loopg [3, 9] n (fun gg s3 s9 wr => ∃ k : Nat, k + gg = n ∧ s9 = .int .i64 (k : Int) ∧ s3 = .int .i64 (np (cs.take k) : Nat) ∧ Below w.heap.size w wr)
  case atStart => exact ⟨0, by omega, rfl, rfl, (Below.refl _ _).alloc (Nat.le_refl _) _⟩
  case round =>
    obtain ⟨k, hkg, rfl, rfl, hbel⟩ := hrel
    by_cases hk : k < n
    · obtain ⟨x, hx⟩ : ∃ x, M[k]? = some x := ⟨_, List.getElem?_eq_getElem (by have := HN.out; omega)⟩
      obtain ⟨b, off, rfl, hbb, hc⟩ := Reads.plain_at (by decide) clV_len HR.out HN.out hx
      have hbw : b < w.heap.size := by omega
      obtain ⟨cl, u⟩ := x
      have hck : cs[k]? = some cl := by rw [← HM.out, List.getElem?_map, hx]; rfl
      obtain ⟨A', n', c', M', hM', rfl, hn', _, _⟩ := HI.out _ (List.mem_of_getElem? hx)
      have hnl' : n' = cl.parts.length := by rw [hn', ← hM', List.length_map]
      have c0 : wr.cell? ⟨b, off + k * 2, none⟩ = some (.bool cl.neg) := (hbel.cell (p := ⟨b, off + k * 2, none⟩) hbw).trans (hc 0 _ rfl)
      have c1 : wr.cell? ⟨b, off + k * 2 + 1, none⟩ = some (.slice A' n' c') := (hbel.cell (p := ⟨b, off + k * 2 + 1, none⟩) hbw).trans (hc 1 _ rfl)
      have htk := np_take cs k cl hck
      rw [← hnl'] at htk
      have hle := HLE.out (k + 1)
      rw [htk] at hle
      obtain ⟨q, hq⟩ : ∃ q, q = np (cs.take k) := ⟨_, rfl⟩
      rw [← hq] at htk hle ⊢
      have HTK := Lib.hid htk
      have HB := Lib.hid hbel
      have hzz := hbel.size
      have j0 : (0 : Int) ≤ (k : Int) := by omega
      have j1 : (k : Int) < (n : Int) := by omega
      have hqb : q + n' ≤ 4294967280 := by omega
      clear hx hc hck hn' hM' hnl' htk hle hq hbel
      go_wp2_with fail
      go_roundg (n - (k + 1))
      case measure => omega
      case rel => exact ⟨k + 1, by omega, by go_num, by rw [HTK.out]; go_num, HB.out.alloc hzz _⟩
    · obtain rfl : k = n := by omega
      have htk : cs.take k = cs := List.take_of_length_le (by rw [HNL.out]; exact Nat.le_refl _)
      rw [htk]
      clear htk
      go_wp2_with fail
      go_ret
      exact ⟨rfl, hbel⟩
end Go.Proofs.Ytpkpnmfcjoheoaa
