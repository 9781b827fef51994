/-
  DERIVED. What find.Snippet hands back; the walks of find.checkQuery and find.outside. Conditions: sizes. By an AI agent.
-/
import Derived.Test.YtpkpnmfcjoheoaaSnWin
import Derived.Maps.OwnSet
import Derived.StringKeys
namespace Go.Proofs.Ytpkpnmfcjoheoaa
open Go.RowKit Go.Maps

def mkV (x : Wd) : List Value := [.int .i64 x.frm, .int .i64 x.to_]
theorem mkV_len (x : Wd) : (mkV x).length = 2 := rfl
def mkZ : Value := .agg #[.int .i64 0, .int .i64 0]
theorem mk_info : (Try.prog.info? 35).map (fun i => (i.zero, i.size, i.bytes)) = some (some mkZ, 2, 16) := by kernel_rfl
theorem mk_one (x : Wd) : ∀ u ∈ mkV x, u.oneCell' = true := by
  intro u hu
  unfold mkV at hu
  simp only [List.mem_cons, List.not_mem_nil, or_false] at hu
  rcases hu with rfl | rfl <;> rfl
/-- a snippet that is right -/
def GoodP (s : ByteArray) (width : Int) (F T : Nat) (MK : List Wd) : Prop :=
  MK.Sublist (wordsF s 0) ∧ (∀ x ∈ MK, F ≤ x.frm ∧ x.to_ ≤ T) ∧ F ≤ T ∧ T ≤ s.size ∧ ((T : Int) - (F : Int) ≤ width ∨ ∃ x ∈ wordsF s 0, x.frm = F ∧ x.to_ = T)
theorem GoodP.zero (s : ByteArray) {width : Int} (h : 1 ≤ width) : GoodP s width 0 0 [] := ⟨List.nil_sublist _, (fun x hx => by cases hx), Nat.le_refl _, Nat.zero_le _, .inl (by show (0 : Int) - 0 ≤ width; omega)⟩
theorem words_mem {s : ByteArray} {x : Wd} (h : x ∈ wordsF s 0) : x.frm < x.to_ ∧ x.to_ ≤ s.size ∧ x.to_ - x.frm ≤ 30 ∧ x.text.size ≤ s.size := by
  obtain ⟨h0, h1, h2, h3, h4, h5⟩ := words_in s _ 0 (Nat.le_refl _) x h
  refine ⟨h1, h2, h5, ?_⟩
  rw [h4, low_size, ByteArray.size_extract]; omega
theorem GoodP.win {s : ByteArray} {width : Int} {f : Wd} {T : Nat} (hf : f ∈ wordsF s 0) (h : WinT (wordsF s 0) f width T) : f.frm ≤ T ∧ T ≤ s.size ∧ ((T : Int) - (f.frm : Int) ≤ width ∨ ∃ x ∈ wordsF s 0, x.frm = f.frm ∧ x.to_ = T) := by
  obtain ⟨h1, h2⟩ := h
  have hm := words_mem hf
  rcases h2 with h2 | ⟨y, hy, h2, h3⟩
  · exact ⟨by omega, by omega, .inr ⟨f, hf, rfl, h2.symm⟩⟩
  · have hy' := words_mem hy
    exact ⟨by omega, by omega, .inl (by omega)⟩
/-- words stand one behind the other -/
theorem words_pair (s : ByteArray) : ∀ (n f : Nat), s.size - f ≤ n → (wordsF s f).Pairwise fun x y => x.to_ ≤ y.frm
  | 0, f, h => by rw [wordsF_out (by omega)]; exact List.Pairwise.nil
  | n + 1, f, h => by
    by_cases hf : f < s.size
    · rw [wordsF_in hf]
      have ih := words_pair s n (max (upto notWB s f) (f + 1)) (by omega)
      have hin := words_in s _ (max (upto notWB s f) (f + 1)) (Nat.le_refl _)
      split
      · rw [List.singleton_append, List.pairwise_cons]
        refine ⟨fun y hy => ?_, ih⟩
        have := (hin y hy).1
        show upto notWB s f ≤ y.frm
        omega
      · exact ih
    · rw [wordsF_out (by omega)]; exact List.Pairwise.nil

/-- what Snippet hands back -/
def SnipP (s : ByteArray) (width : Int) (w : World) (e : Ending) (w' : World) : Prop :=
  ∃ (F T : Nat) (A : Option Addr) (m c : Nat) (MK : List Wd) (er : Int), e = .returned (.tuple #[.agg #[.int .i64 F, .int .i64 T, .slice A m c], .int .i64 er]) ∧ m = MK.length ∧ Reads w' w'.heap.size 2 A m (MK.flatMap mkV) ∧ ((er ≠ 0 ∧ F = 0 ∧ T = 0 ∧ MK = []) ∨ (er = 0 ∧ GoodP s width F T MK)) ∧ Below w.heap.size w w'

set_option maxHeartbeats 400000 in
theorem outside2_any (n : Int) (w : World) :
    Calls Try.prog 11 #[.int .i64 n, .int .i64 1, .int .i64 1000] w fun e w' => e = .returned (.bool (decide (n < 1 ∨ 1000 < n))) ∧ w' = w := by
  by_cases h1 : n < 1
  · go_enter Try.func11, Try.ntmps11
    go_wp2
    go_ret
    exact ⟨by simp [h1], rfl⟩
  · by_cases h2 : 1000 < n
    · have e1 : decide (n < 1 ∨ 1000 < n) = true := decide_eq_true (.inr h2)
      rw [e1]
      clear e1
      go_enter Try.func11, Try.ntmps11
      go_wp2
      go_ret
      exact ⟨rfl, rfl⟩
    · have e1 : decide (n < 1 ∨ 1000 < n) = false := decide_eq_false (by omega)
      rw [e1]
      go_enter Try.func11, Try.ntmps11
      go_wp2
      go_ret
      exact ⟨rfl, rfl⟩
set_option maxHeartbeats 1000000 in
theorem checkQuery_any (cs : List Clause) (v : Value) (w : World) (hr : RC w w.heap.size v cs) (hnp : np cs ≤ 4294967280) (hlen : cs.length ≤ 4294967280) (hq : (qtext cs).size ≤ 4294967280)
    (hw : ∀ c ∈ cs, ∀ p ∈ c.parts, p.words.length ≤ 4294967280 ∧ ∀ x ∈ p.words, x.size ≤ 4294967280) :
    Calls Try.prog 10 #[.agg #[v]] w fun e w' => (∃ er, e = .returned (.int .i64 er)) ∧ Below w.heap.size w w' := by
  have HQ : Hid (∀ o, Calls Try.prog 22 #[.agg #[v]] (w.alloc o) (QtP cs (w.alloc o))) := by
    intro o
    have hb : Below w.heap.size w (w.alloc o) := (Below.refl _ _).alloc (Nat.le_refl _) _
    have hr2 : RC (w.alloc o) w.heap.size v cs := hr.below hb
    exact queryText_any cs v (w.alloc o) w.heap.size hr2 hb.size hnp hlen hq hw
  obtain ⟨A, n, c, hv⟩ : ∃ A n c, v = .slice A n c := by
    obtain ⟨A, n, c, M, _, h, _⟩ := hr
    exact ⟨A, n, c, h⟩
  subst hv
  clear hr hnp hlen hq hw
  go_enter Try.func10, Try.ntmps10
  go_wp2_with fail
  refine (HQ.out _).mono ?_
  rintro e w1 ⟨o, er, rfl, _, hb⟩
  go_wp2_with fail
  go_ret
  exact ⟨⟨_, rfl⟩, ((Below.refl _ _).alloc (Nat.le_refl _) _).trans (hb.mono (by simp))⟩
end Go.Proofs.Ytpkpnmfcjoheoaa
