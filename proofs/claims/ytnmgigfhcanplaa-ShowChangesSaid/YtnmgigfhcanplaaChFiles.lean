/-
  DERIVED. Lists of files in memory, and the walk of show.checkFiles. Conditions: the list has at most 500 files. By an AI agent.
-/
import Derived.Test.YtnmgigfhcanplaaProg
import Derived.Test.YtnmgigfhcanplaaBase
import Derived.Test.YtnmgigfhcanplaaChMath
import Derived.Deep.QuietTactic
import Derived.BigQuiet
import Derived.Deep.LoopGhost
import Derived.Laws.Cover1
namespace Go.Proofs.Ytnmgigfhcanplaa
open Go.RowKit

def rowsF (L : List F) : List Value := L.flatMap fun f => [.string f.1, .string f.2]
theorem rowsF_len : ∀ L : List F, (rowsF L).length = L.length * 2
  | [] => rfl
  | a :: L => by show (_ :: _ :: rowsF L).length = _; simp [rowsF_len L]; omega
theorem rowsF_get : ∀ (L : List F) (k : Nat) (h : k < L.length), (rowsF L)[k * 2]? = some (.string L[k].1) ∧ (rowsF L)[k * 2 + 1]? = some (.string L[k].2)
  | [], k, h => by simp at h
  | a :: L, 0, _ => ⟨rfl, rfl⟩
  | a :: L, k + 1, h => by
    have := rowsF_get L k (by simpa using h)
    have e : (k + 1) * 2 = k * 2 + 2 := by omega
    rw [e]
    exact this
theorem Reads.file {w : World} {B : Nat} {A : Option Addr} {L : List F} (h : Reads w B 2 A L.length (rowsF L)) {k : Nat} (hk : k < L.length) :
    ∃ ad, A = some ad ∧ ad.block < B ∧ w.cell? (ad.add (k * 2)) = some (.string L[k].1) ∧ w.cell? (ad.add (k * 2 + 1)) = some (.string L[k].2) := by
  obtain ⟨ad, e, hb, hc⟩ := h.2 (by omega)
  have := rowsF_get L k hk
  exact ⟨ad, e, hb, hc _ _ this.1, hc _ _ this.2⟩

open Classical in
/-- what checkFiles says -/
noncomputable def okC (L : List F) : Int := if okF L then 0 else 5
theorem okC_yes {L : List F} (h : okF L) : okC L = 0 := if_pos h
theorem okC_no {L : List F} (h : ¬ okF L) : okC L = 5 := if_neg h

set_option maxHeartbeats 1000000 in
set_option maxRecDepth 100000 in
theorem checkFiles_any (A : Option Addr) (cap : Nat) (L : List F) (w : World) (B : Nat) (hr : Reads w B 2 A L.length (rowsF L)) (hB : B ≤ w.heap.size) (hl : L.length ≤ 500) :
    Calls Try.prog 8 #[.slice A L.length cap] w fun e w' => e = .returned (.int .i64 (okC L)) ∧ Below w.heap.size w w' := by
  have HR := Lib.hid hr
  clear hr
  obtain ⟨n, hn⟩ : ∃ n, n = L.length := ⟨_, rfl⟩
  rw [← hn] at hl ⊢
  have HN := Lib.hid hn
  clear hn
  go_enter Try.func8, Try.ntmps8
  go_wp2_with fail
  go_loopg [3] n (fun gg s3 wr => ∃ k : Nat, n ≤ k + 1 + gg ∧ s3 = .int .i64 ((k : Int) + 1) ∧ Hid (∀ j (h : j + 1 < L.length), j < k → bl L[j].1 L[j + 1].1 = true) ∧ Below w.heap.size w wr)
  case atStart => exact ⟨0, by omega, rfl, fun j _ h => absurd h (by omega), Below.refl _ _⟩
  case round =>
    obtain ⟨k, hkg, rfl, hok, hbel⟩ := hrel
    by_cases hk : k + 1 < n
    · have hkl : k + 1 < L.length := by rw [← HN.out]; exact hk
      obtain ⟨ad, rfl, hab, c0, _c1⟩ := HR.out.file hkl
      obtain ⟨ad', e', _, c2, _c3⟩ := HR.out.file (k := k) (by omega)
      injection e' with e'
      subst e'
      have d0 := (hbel.cell (p := ad.add ((k + 1) * 2)) (by rw [block_of_add]; omega)).trans c0
      have d2 := (hbel.cell (p := ad.add (k * 2)) (by rw [block_of_add]; omega)).trans c2
      obtain ⟨p, hp⟩ : ∃ p, p = L[k + 1].1 := ⟨_, rfl⟩
      obtain ⟨q, hq⟩ : ∃ q, q = L[k].1 := ⟨_, rfl⟩
      rw [← hp] at d0
      rw [← hq] at d2
      have HP := Lib.hid hp
      have HQ := Lib.hid hq
      have hle := leq_bl p q
      have i1 : (k : Int) + 1 < (n : Int) := by omega
      have i0 : (0 : Int) ≤ (k : Int) + 1 := by omega
      have i2 : (0 : Int) ≤ (k : Int) := by omega
      have i3 : (k : Int) < (n : Int) := by omega
      have t1 : ((k : Int) + 1).toNat = k + 1 := by omega
      clear c0 _c1 c2 _c3 hp hq
      cases hb : bl q p
      · rw [hb] at hle
        have hno : ¬ okF L := fun h => by
          have := h k hkl
          rw [← HP.out, ← HQ.out, hb] at this; cases this
        have HC := Lib.hid (okC_no hno)
        clear hb hno
        go_wp2
        go_quiet (fail)
        go_wp2
        go_ret
        exact ⟨by rw [HC.out]; rfl, bdrew hbel _⟩
      · rw [hb] at hle
        have HB := Lib.hid hb
        clear hb
        go_wp2
        go_quiet (fail)
        go_wp2
        go_roundg (n - (k + 2))
        case measure => omega
        case rel =>
          refine ⟨k + 1, by omega, by go_num, ?_, bdrew hbel _⟩
          intro j hj hjk
          by_cases e : j = k
          · subst e; rw [← HP.out, ← HQ.out]; exact HB.out
          · exact hok.out j hj (by omega)
    · have hall : okF L := fun j hj => hok.out j hj (by rw [← HN.out] at hj; omega)
      have HC := Lib.hid (okC_yes hall)
      clear hall
      go_wp2
      go_ret
      exact ⟨by rw [HC.out]; rfl, hbel⟩
end Go.Proofs.Ytnmgigfhcanplaa
