/-
  DERIVED. The walks of slices.Collect, find.wordsOf, find.Words and find.isWord. Conditions: the text's size. By an AI agent.
-/
import Derived.Test.YtpkpnmfcjoheoaaQrWords
namespace Go.Proofs.Ytpkpnmfcjoheoaa
open Go.RowKit

set_option maxHeartbeats 1000000 in
theorem collect_any (s : ByteArray) (Bs : Nat) (w : World) (hsz : s.size ≤ 4294967280) (hB : Bs < w.heap.size) (hs : w.cell? ⟨Bs, 0, none⟩ = some (.string s)) :
    Calls Try.prog 19 #[.func (.func 27) #[] #[.pointer (some ⟨Bs, 0, none⟩)]] w fun e W' => ∃ v, e = .returned v ∧ W'.ownsRow w.heap.size 38 3 v (wordsF s 0).length (rowsW (wordsF s 0)) ∧ Below w.heap.size w W' := by
  have HA := Lib.hid (appendSeq_any s Bs w hsz hB hs)
  clear hs
  go_enter Try.func19, Try.ntmps19
  go_wp2_with fail
  refine HA.out.mono ?_
  rintro e w1 ⟨v, rfl, ho, hb⟩
  go_wp2_with fail
  go_ret
  exact ⟨v, rfl, ho, hb⟩

set_option maxHeartbeats 1000000 in
theorem wordsOf_any (s : ByteArray) (w : World) :
    Calls Try.prog 20 #[.string s] w fun e w' => e = .returned (.func (.func 27) #[] #[.pointer (some ⟨w.heap.size, 0, none⟩)]) ∧ w' = w.alloc (.cells #[.string s] 9) := by
  go_enter Try.func20, Try.ntmps20
  go_wp2_with fail
  go_ret
  exact ⟨rfl, rfl⟩

set_option maxHeartbeats 1000000 in
theorem clipW_any (A : Option Addr) (n c : Nat) (w : World) (hnc : n ≤ c) (hn : n ≤ 4294967280) :
    Calls Try.prog 18 #[.slice A n c] w fun e w' => e = .returned (.slice A n n) ∧ w' = w := by
  have h0 : (0 : Int) ≤ (n : Int) := by omega
  have h1 : (n : Int) ≤ (c : Int) := by omega
  go_enter Try.func18, Try.ntmps18
  go_wp2
  go_ret
  exact ⟨rfl, rfl⟩

set_option maxHeartbeats 1000000 in
theorem words_any (s : ByteArray) (w : World) (hsz : s.size ≤ 4294967280) :
    Calls Try.prog 6 #[.string s] w fun e w' => ∃ A, e = .returned (.slice A (wordsF s 0).length (wordsF s 0).length) ∧ Reads w' w'.heap.size 3 A (wordsF s 0).length (rowsW (wordsF s 0)) ∧ Below w.heap.size w w' := by
  have hl := words_len s _ 0 (Nat.le_refl _)
  obtain ⟨L, hL⟩ : ∃ L, L = wordsF s 0 := ⟨_, rfl⟩
  have HC : Hid (∀ w1 Bs, Bs < w1.heap.size → w1.cell? ⟨Bs, 0, none⟩ = some (.string s) → Calls Try.prog 19 #[.func (.func 27) #[] #[.pointer (some ⟨Bs, 0, none⟩)]] w1 fun e W' => ∃ v, e = .returned v ∧ W'.ownsRow w1.heap.size 38 3 v L.length (rowsW L) ∧ Below w1.heap.size w1 W') := by
    intro w1 Bs h1 h2
    rw [hL]
    exact collect_any s Bs w1 hsz h1 h2
  rw [← hL] at hl ⊢
  clear hL
  obtain ⟨n, hn⟩ : ∃ n, n = L.length := ⟨_, rfl⟩
  rw [← hn] at hl HC ⊢
  clear hn
  go_enter Try.func6, Try.ntmps6
  go_wp2_with fail
  refine (wordsOf_any s w).mono ?_
  rintro e w1 ⟨rfl, rfl⟩
  have hb0 : Below w.heap.size w (w.alloc (.cells #[.string s] 9)) := (Below.refl _ _).alloc (Nat.le_refl _) _
  go_wp2_with fail
  refine (HC.out _ w.heap.size (by simp) (by rw [(Blk.new w 9 #[.string s]).cell 0]; rfl)).mono ?_
  rintro e w2 ⟨v, rfl, ho, hb2⟩
  obtain ⟨A, c, rfl, hr⟩ := own_reads ho
  have hnc : n ≤ c := by
    rcases ho.2 with ⟨h1, h2⟩ | ⟨g, cap, cur, h1, _, _, h2, _⟩
    · injection h1 with _ _ h3; omega
    · injection h1 with _ _ h3; omega
  have HR := Lib.hid hr
  have HB : Hid (Below w.heap.size w w2) := hb0.trans (hb2.mono (by simp))
  clear ho hr hb2 hb0 HC
  go_wp2_with fail
  refine (clipW_any A n c w2 hnc (by omega)).mono ?_
  rintro e w3 ⟨rfl, rfl⟩
  go_wp2_with fail
  go_ret
  exact ⟨A, rfl, HR.out, HB.out⟩

open Classical in
/-- whether a text is a word by itself -/
noncomputable def isWb (s : ByteArray) : Bool := decide (isW s)
open Classical in
theorem isWb_yes {s : ByteArray} (h : isW s) : isWb s = true := by unfold isWb; exact decide_eq_true h
open Classical in
theorem isWb_no {s : ByteArray} (h : ¬ isW s) : isWb s = false := by unfold isWb; exact decide_eq_false h
theorem tl_inj {a b : ByteArray} (h : a.toList = b.toList) : a = b := by
  rw [ByteArray.toList_eq, ByteArray.toList_eq] at h
  cases a with | mk x => cases b with | mk y => cases x; cases y; simp at h; rw [h]

set_option maxHeartbeats 1000000 in
theorem isWord_any (s : ByteArray) (w : World) (hsz : s.size ≤ 4294967280) :
    Calls Try.prog 38 #[.string s] w fun e w' => e = .returned (.bool (isWb s)) ∧ Below w.heap.size w w' := by
  have HW := Lib.hid (words_any s w hsz)
  by_cases h1 : (wordsF s 0).length = 1
  · obtain ⟨x, hx⟩ := List.length_eq_one_iff.1 h1
    rw [hx] at HW
    have hEq : ∀ b, (x.text.toList == s.toList) = b → isWb s = b := by
      intro b hb
      cases b with
      | true => exact isWb_yes (one_word hx (tl_inj (by simpa using hb)))
      | false =>
        refine isWb_no fun h => ?_
        have h2 := words_one h
        rw [hx] at h2
        injection h2 with h3 _
        rw [h3] at hb
        simp at hb
    have HE := Lib.hid hEq
    clear h1 hx hEq
    go_enter Try.func38, Try.ntmps38
    go_wp2_with fail
    refine HW.out.mono ?_
    rintro e w1 ⟨A, rfl, hr, hb⟩
    obtain ⟨b, off, rfl, hbb, hc⟩ := hr.plain (by simp) (by decide)
    have c0 : w1.cell? ⟨b, off, none⟩ = some (.string x.text) := hc 0 (.string x.text) rfl
    clear hr hc HW
    simp only [List.length_singleton]
    go_wp2_with fail
    go_ret
    exact ⟨by rw [HE.out _ rfl]; rfl, hb⟩
  · have hno : isWb s = false := isWb_no fun h => h1 (by rw [words_one h]; rfl)
    have HN := Lib.hid hno
    obtain ⟨n, hn⟩ : ∃ n, n = (wordsF s 0).length := ⟨_, rfl⟩
    rw [← hn] at HW h1
    have i1 : ((n : Int) == 1) = false := beq_eq_false_iff_ne.2 (by omega)
    clear hno hn
    go_enter Try.func38, Try.ntmps38
    go_wp2_with fail
    refine HW.out.mono ?_
    rintro e w1 ⟨A, rfl, hr, hb⟩
    clear hr HW
    go_wp2_with fail
    go_ret
    exact ⟨by rw [HN.out]; rfl, hb⟩
end Go.Proofs.Ytpkpnmfcjoheoaa
