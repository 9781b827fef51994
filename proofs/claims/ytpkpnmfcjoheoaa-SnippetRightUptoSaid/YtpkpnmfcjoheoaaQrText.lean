/-
  DERIVED. What find.partText and find.QueryText write; the walk of find.partText. Conditions: sizes. By an AI agent.
-/
import Derived.Test.YtpkpnmfcjoheoaaQrCheck
import Derived.Test.YtpkpnmfcjoheoaaQrShelf
namespace Go.Proofs.Ytpkpnmfcjoheoaa
open Go.RowKit

def joinB (xs : List ByteArray) (sep : ByteArray) : ByteArray := ⟨(Lib.join (xs.map (·.data.toList)) sep.data.toList).toArray⟩
theorem joinB_size (xs : List ByteArray) (sep : ByteArray) : (joinB xs sep).size = (Lib.join (xs.map (·.data.toList)) sep.data.toList).length := by
  show (Lib.join (xs.map (·.data.toList)) sep.data.toList).toArray.size = _
  simp
def bQ : ByteArray := ⟨#[34]⟩
def bSp : ByteArray := ⟨#[32]⟩
def bBar : ByteArray := ⟨#[124]⟩
def bMin : ByteArray := ⟨#[45]⟩
/-- the mark behind a part -/
def kmark (k : Int) : ByteArray := if k = 1 then ⟨#[42]⟩ else if k = 2 then ⟨#[126]⟩ else ⟨#[]⟩
def ptext (p : Part) : ByteArray := if p.kind = 3 then bQ ++ joinB p.words bSp ++ bQ else p.words.headD ⟨#[]⟩ ++ kmark p.kind
def ctext (c : Clause) : ByteArray := (if c.neg then bMin else ⟨#[]⟩) ++ joinB (c.parts.map ptext) bBar
def qtext (cs : List Clause) : ByteArray := joinB (cs.map ctext) bSp

theorem ckP_zero {p : Part} (h : ckP p = 0) : 0 ≤ p.kind ∧ p.kind ≤ 3 ∧ 0 < p.words.length ∧ (p.kind ≠ 3 → p.words.length = 1) ∧ ∀ x ∈ p.words, isW x := by
  unfold ckP at h
  by_cases h1 : p.kind < 0 ∨ 3 < p.kind
  · rw [if_pos h1] at h; cases h
  rw [if_neg h1] at h
  by_cases h2 : p.words.length = 0 ∨ (p.kind ≠ 3 ∧ p.words.length ≠ 1) ∨ (p.words.any fun x => !isWb x) = true
  · rw [if_pos h2] at h; cases h
  refine ⟨by omega, by omega, ?_, ?_, ?_⟩
  · rcases Nat.eq_zero_or_pos p.words.length with h3 | h3
    · exact absurd (.inl h3) h2
    · exact h3
  · intro h3
    rcases Nat.decEq p.words.length 1 with h4 | h4
    · exact absurd (.inr (.inl ⟨h3, h4⟩)) h2
    · exact h4
  · intro x hx
    rcases Classical.em (isW x) with h3 | h3
    · exact h3
    · exact absurd (.inr (.inr (List.any_eq_true.2 ⟨x, hx, by rw [isWb_no h3]; rfl⟩))) h2

theorem index_mark (k : Int) (hk : k = 0 ∨ k = 1 ∨ k = 2) (w : World) : (Instr.index 74 (.agg #[.string ⟨#[]⟩, .string ⟨#[42]⟩, .string ⟨#[126]⟩]) (.int .i64 k)).run Try.prog w = .ok (.string (kmark k)) w := by
  rcases hk with rfl | rfl | rfl
  all_goals exact (show _ = Result.ok _ w from by kernel_rfl)

set_option maxHeartbeats 2000000 in
theorem partText_any (p : Part) (v : Value) (w : World) (B : Nat) (hr : RW w B v p.words) (hB : B ≤ w.heap.size) (hk : ckP p = 0) (hbig : p.words.length ≤ 4294967280) (hs : ∀ x ∈ p.words, x.size ≤ 4294967280) (hj : (joinB p.words bSp).size ≤ 4294967280) :
    Calls Try.prog 32 #[.agg #[.int .i64 p.kind, v]] w fun e w' => e = .returned (.string (ptext p)) ∧ Below w.heap.size w w' := by
  obtain ⟨A, n, c, rfl, hn, hnc, hrd⟩ := hr
  obtain ⟨k0, k1, k2, k3, k4⟩ := ckP_zero hk
  by_cases h3 : p.kind = 3
  · have hpt : ptext p = bQ ++ joinB p.words bSp ++ bQ := by unfold ptext; rw [if_pos h3]
    rw [hpt, h3]
    obtain ⟨b, off, rfl, hbb, hc⟩ := hrd.plain (by omega) (by decide)
    have HJ : Hid (∀ w1, Below w.heap.size w w1 → Calls Try.prog 33 #[.slice (some ⟨b, off, none⟩) n c, .string bSp] w1 fun e w' => e = .returned (.string (joinB p.words bSp)) ∧ Below w1.heap.size w1 w') := by
      intro w1 hb
      have h := Try.strings_Join b off c p.words bSp w1 (fun j x hx => (hb.cell (p := ⟨b, off + j, none⟩) (by show b < _; omega)).trans (hc j (.string x) (by rw [List.getElem?_map, hx]; rfl))) (Nat.lt_of_lt_of_le (by omega : b < w.heap.size) hb.size) (by omega) (by omega) (by rw [← joinB_size]; omega)
      rw [← hn] at h
      exact h
    obtain ⟨J, hJ⟩ : ∃ J, J = joinB p.words bSp := ⟨_, rfl⟩
    rw [← hJ] at HJ hj ⊢
    clear hJ hpt h3 hc hrd hk k0 k1 k2 k3 k4 hs hn
    go_enter Try.func32, Try.ntmps32
    go_wp2_with fail
    refine (HJ.out _ ((Below.refl _ _).alloc (Nat.le_refl _) _)).mono ?_
    rintro e w1 ⟨rfl, hb1⟩
    have HB : Hid (Below w.heap.size w w1) := ((Below.refl w.heap.size w).alloc (Nat.le_refl _) _).trans (hb1.mono (by simp))
    clear hb1 HJ
    go_wp2_with fail
    go_ret
    exact ⟨rfl, HB.out⟩
  · obtain ⟨x, hx⟩ : ∃ x, p.words = [x] := List.length_eq_one_iff.1 (k3 h3)
    have hxs := hs x (by rw [hx]; exact List.mem_singleton.2 rfl)
    have hpt : ptext p = x ++ kmark p.kind := by unfold ptext; rw [if_neg h3, hx]; rfl
    rw [hpt]
    obtain ⟨b, off, rfl, hbb, hc⟩ := plain1_at hrd hn (k := 0) (x := x) (by rw [hx]; rfl)
    have hn1 : n = 1 := by rw [hn, hx]; rfl
    subst hn1
    have c0 : w.cell? ⟨b, off, none⟩ = some (.string x) := hc
    have cA : ∀ o, (w.alloc o).cell? ⟨b, off, none⟩ = some (.string x) := fun o => (World.cell?_alloc_lt w o _ (by show b < _; omega)).trans c0
    have hkk : p.kind = 0 ∨ p.kind = 1 ∨ p.kind = 2 := by omega
    clear hpt hrd hk k0 k1 k2 k3 k4 hs hn hx hc hj h3
    rcases hkk with hkk | hkk | hkk
    · have hix : ∀ W, (Instr.index 74 (.agg #[.string ⟨#[]⟩, .string ⟨#[42]⟩, .string ⟨#[126]⟩]) (.int .i64 0)).run Try.prog W = .ok (.string ⟨#[]⟩) W := fun W => index_mark 0 (by omega) W
      rw [hkk]
      clear hkk
      go_enter Try.func32, Try.ntmps32
      go_wp2_with fail
      go_quiet (fail)
      go_wp2_with fail
      go_ret
      exact ⟨rfl, bdrew ((Below.refl _ _).alloc (Nat.le_refl _) _) _⟩
    · have hix : ∀ W, (Instr.index 74 (.agg #[.string ⟨#[]⟩, .string ⟨#[42]⟩, .string ⟨#[126]⟩]) (.int .i64 1)).run Try.prog W = .ok (.string ⟨#[42]⟩) W := fun W => index_mark 1 (by omega) W
      rw [hkk]
      clear hkk
      go_enter Try.func32, Try.ntmps32
      go_wp2_with fail
      go_quiet (fail)
      go_wp2_with fail
      go_ret
      exact ⟨rfl, bdrew ((Below.refl _ _).alloc (Nat.le_refl _) _) _⟩
    · have hix : ∀ W, (Instr.index 74 (.agg #[.string ⟨#[]⟩, .string ⟨#[42]⟩, .string ⟨#[126]⟩]) (.int .i64 2)).run Try.prog W = .ok (.string ⟨#[126]⟩) W := fun W => index_mark 2 (by omega) W
      rw [hkk]
      clear hkk
      go_enter Try.func32, Try.ntmps32
      go_wp2_with fail
      go_quiet (fail)
      go_wp2_with fail
      go_ret
      exact ⟨rfl, bdrew ((Below.refl _ _).alloc (Nat.le_refl _) _) _⟩
end Go.Proofs.Ytpkpnmfcjoheoaa
