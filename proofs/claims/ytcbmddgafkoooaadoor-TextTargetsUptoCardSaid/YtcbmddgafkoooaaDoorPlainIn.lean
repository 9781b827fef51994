/-
  DERIVED. The walk of text.plainIn. Conditions: a span that lies in the text. By an AI agent.
-/
import Derived.Test.YtcbmddgafkoooaaDoorEach
namespace Go.Proofs.YtcbmddgafkoooaaDoor
open Go.RowKit

/-- what a span shows -/
def shown (s : ByteArray) (x : Sp) : ByteArray :=
  if x.kind = 2 ∨ x.kind = 3 then x.text
  else if x.kind = 4 then (if x.show_.size = 0 then x.text else x.show_)
  else if x.kind = 7 then noB
  else s.extract x.frm x.to_
/-- .. and where it begins -/
def shownAt (x : Sp) : Int :=
  if x.kind = 2 ∨ x.kind = 3 then x.frm + 1
  else if x.kind = 4 then (if x.show_.size = 0 then x.frm + 2 else x.to_ - 2 - x.show_.size)
  else if x.kind = 7 then x.to_
  else x.frm
def shownV (s : ByteArray) (x : Sp) : Value := .tuple #[.string (shown s x), .int .i64 (shownAt x)]

set_option maxHeartbeats 1000000 in
set_option maxRecDepth 100000 in
theorem plainIn_any (s : ByteArray) (x : Sp) (w : World) (h1 : x.frm ≤ x.to_) (h2 : x.to_ ≤ s.size) (hs : s.size ≤ 4294967280) (hsh : x.show_.size ≤ 4294967280) :
    Calls Tryd.prog 44 #[.string s, spV x] w fun e w' => e = .returned (shownV s x) ∧ Below w.heap.size w w' := by
  have m0 : (0 : Int) ≤ (x.frm : Int) := by omega
  have m1 : (x.frm : Int) ≤ (x.to_ : Int) := by omega
  have m2 : (x.to_ : Int) ≤ (s.size : Int) := by omega
  rw [show spV x = .agg #[.int .i64 x.kind, .int .i64 x.frm, .int .i64 x.to_, .string x.text, .string x.show_, .int .i64 x.id, .bool x.strong] from rfl]
  have K : Blk (w.alloc (.cells #[.int .i64 x.kind, .int .i64 x.frm, .int .i64 x.to_, .string x.text, .string x.show_, .int .i64 x.id, .bool x.strong] 29)) w.heap.size 29 _ := Blk.new _ _ _
  cases e2 : (x.kind == 2)
  case true =>
    have HV : Hid (shownV s x = .tuple #[.string x.text, .int .i64 (x.frm + 1)]) := by
      show _ = _; unfold shownV shown shownAt; rw [if_pos (.inl (by simpa using e2)), if_pos (.inl (by simpa using e2))]
    go_enter Tryd.func44, Tryd.ntmps44
    go_wp2
    go_quiet (fail)
    go_wp2
    go_ret2
    exact ⟨by rw [HV.out]; rfl, bdrew ((Below.refl _ _).alloc (Nat.le_refl _) _) _⟩
  cases e3 : (x.kind == 3)
  case true =>
    have HV : Hid (shownV s x = .tuple #[.string x.text, .int .i64 (x.frm + 1)]) := by
      show _ = _; unfold shownV shown shownAt; rw [if_pos (.inr (by simpa using e3)), if_pos (.inr (by simpa using e3))]
    go_enter Tryd.func44, Tryd.ntmps44
    go_wp2
    go_quiet (fail)
    go_wp2
    go_ret2
    exact ⟨by rw [HV.out]; rfl, bdrew ((Below.refl _ _).alloc (Nat.le_refl _) _) _⟩
  have n23 : ¬ (x.kind = 2 ∨ x.kind = 3) := by simp at e2 e3; omega
  have N23 := Lib.hid n23
  clear n23
  cases e4 : (x.kind == 4)
  case true =>
    by_cases h0 : x.show_.size = 0
    · have hem : x.show_.toList.isEmpty = true := by rw [Lib.toList_data, empty_of h0]; rfl
      have HV : Hid (shownV s x = .tuple #[.string x.text, .int .i64 (x.frm + 2)]) := by
        show _ = _; unfold shownV shown shownAt; rw [if_neg N23.out, if_neg N23.out, if_pos (show x.kind = 4 by simpa using e4), if_pos (show x.kind = 4 by simpa using e4), if_pos h0, if_pos h0]
      clear h0
      go_enter Tryd.func44, Tryd.ntmps44
      go_wp2
      go_quiet (fail)
      go_wp2
      go_ret2
      exact ⟨by rw [HV.out]; rfl, bdrew ((Below.refl _ _).alloc (Nat.le_refl _) _) _⟩
    · have hem : x.show_.toList.isEmpty = false := notEmpty_of (by omega)
      have HV : Hid (shownV s x = .tuple #[.string x.show_, .int .i64 (x.to_ - 2 - x.show_.size)]) := by
        show _ = _; unfold shownV shown shownAt; rw [if_neg N23.out, if_neg N23.out, if_pos (show x.kind = 4 by simpa using e4), if_pos (show x.kind = 4 by simpa using e4), if_neg h0, if_neg h0]
      clear h0
      go_enter Tryd.func44, Tryd.ntmps44
      go_wp2
      go_quiet (fail)
      go_wp2
      go_ret2
      exact ⟨by rw [HV.out]; rfl, bdrew ((Below.refl _ _).alloc (Nat.le_refl _) _) _⟩
  cases e7 : (x.kind == 7)
  case true =>
    have HV : Hid (shownV s x = .tuple #[.string ⟨#[]⟩, .int .i64 x.to_]) := by
      show _ = _; unfold shownV shown shownAt; rw [if_neg N23.out, if_neg N23.out, if_neg (show ¬ x.kind = 4 by simpa using e4), if_neg (show ¬ x.kind = 4 by simpa using e4), if_pos (show x.kind = 7 by simpa using e7), if_pos (show x.kind = 7 by simpa using e7)]; rfl
    go_enter Tryd.func44, Tryd.ntmps44
    go_wp2
    go_quiet (fail)
    go_wp2
    go_ret2
    exact ⟨by rw [HV.out]; rfl, bdrew ((Below.refl _ _).alloc (Nat.le_refl _) _) _⟩
  have HV : Hid (shownV s x = .tuple #[.string (s.extract x.frm x.to_), .int .i64 x.frm]) := by
    show _ = _; unfold shownV shown shownAt; rw [if_neg N23.out, if_neg N23.out, if_neg (show ¬ x.kind = 4 by simpa using e4), if_neg (show ¬ x.kind = 4 by simpa using e4), if_neg (show ¬ x.kind = 7 by simpa using e7), if_neg (show ¬ x.kind = 7 by simpa using e7)]
  go_enter Tryd.func44, Tryd.ntmps44
  go_wp2
  go_quiet (fail)
  go_wp2
  go_ret2
  exact ⟨by rw [HV.out]; rfl, bdrew ((Below.refl _ _).alloc (Nat.le_refl _) _) _⟩
end Go.Proofs.YtcbmddgafkoooaaDoor
