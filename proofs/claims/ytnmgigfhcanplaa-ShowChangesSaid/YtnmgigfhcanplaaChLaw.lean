/-
  DERIVED. The walk of florlaw1.ShowChanges at two lists of files: it returns true. Conditions: the law of the sort of changes, handed in. By an AI agent.
-/
import Derived.Test.YtnmgigfhcanplaaChWalk
namespace Go.Proofs.Ytnmgigfhcanplaa
open Go.RowKit

theorem two_cells (w : World) (v0 v1 : Value) (t : TypeId) : (w.alloc (.cells #[v0, v1] t)).cell? ⟨w.heap.size, 0, none⟩ = some v0 ∧ (w.alloc (.cells #[v0, v1] t)).cell? ⟨w.heap.size, 1, none⟩ = some v1 :=
  ⟨by rw [(Blk.new w t #[v0, v1]).cell 0]; rfl, by rw [(Blk.new w t #[v0, v1]).cell 1]; rfl⟩

theorem merge_len (L1 L2 : List F) : (mergeC L1 L2).length ≤ L1.length + L2.length := by
  fun_induction mergeC L1 L2 with
  | case1 => simp
  | case2 b ys ih => simp at ih ⊢; omega
  | case3 a xs ih => simp at ih ⊢; omega
  | case4 a xs b ys h ih => simp at ih ⊢; omega
  | case5 a xs b ys h1 h2 ih => simp at ih ⊢; omega
  | case6 a xs b ys h1 h2 ih => rw [List.length_append]; have : (if a.2 ≠ b.2 then [(a.1, (2 : Int))] else []).length ≤ 1 := by split <;> simp
                                simp only [List.length_cons]; omega

set_option maxHeartbeats 1000000 in
theorem show_bad (A1 A2 : Option Addr) (c1 c2 : Nat) (L1 L2 : List F) (w : World) (e0 : Int) (he0 : e0 = 4 ∨ e0 = 5) (hr1 : Reads w w.heap.size 2 A1 L1.length (rowsF L1)) (hr2 : Reads w w.heap.size 2 A2 L2.length (rowsF L2)) (hf : filesErr L1 L2 = e0)
    (hc : Calls Try.prog 4 #[.slice A1 L1.length c1, .slice A2 L2.length c2] w fun e w' => e = .returned (.tuple #[.slice none 0 0, .int .i64 e0]) ∧ Below w.heap.size w w') :
    Calls Try.prog 3 #[.slice A1 L1.length c1, .slice A2 L2.length c2] w fun e w' => e = .returned (.bool true) ∧ Below w.heap.size w w' := by
  have K : Hid (∀ w1, Below w.heap.size w w1 → ∀ t, Calls Try.prog 5 #[.slice (some ⟨w1.heap.size, 0, none⟩) 2 2] (w1.alloc (.cells #[.slice A1 L1.length c1, .slice A2 L2.length c2] t)) fun e w' => e = .returned (.int .i64 e0) ∧ Below w.heap.size w w') := by
    intro w1 hb t
    have hz := hb.size
    have hb2 := hb.alloc hz (.cells #[.slice A1 L1.length c1, .slice A2 L2.length c2] t)
    have h2 := two_cells w1 (.slice A1 L1.length c1) (.slice A2 L2.length c2) t
    refine (filesError_any w1.heap.size A1 A2 c1 c2 L1 L2 _ w.heap.size h2.1 h2.2 (hr1.below hb2) (hr2.below hb2) hb2.size (by simp)).mono ?_
    rintro e w2 ⟨he, hb3⟩
    exact ⟨by rw [he, hf], hb2.trans (hb3.mono hb2.size)⟩
  clear hr1 hr2 hf
  have HC := Lib.hid hc
  clear hc
  generalize L1.length = n1 at *
  generalize L2.length = n2 at *
  go_enter Try.func3, Try.ntmps3
  go_wp2_with fail
  refine HC.out.mono ?_
  rintro e w1 ⟨rfl, hb1⟩
  clear HC
  rcases he0 with rfl | rfl
  all_goals
    go_wp2_with fail
    refine (K.out w1 hb1 _).mono ?_
    rintro e w2 ⟨rfl, hb2⟩
    clear K
    go_wp2
    go_ret
    exact ⟨rfl, hb2⟩

set_option maxHeartbeats 2000000 in
theorem show_ok (SF : SortLaw) (A1 A2 : Option Addr) (c1 c2 : Nat) (L1 L2 : List F) (w : World) (hr1 : Reads w w.heap.size 2 A1 L1.length (rowsF L1)) (hr2 : Reads w w.heap.size 2 A2 L2.length (rowsF L2))
    (hl1 : L1.length ≤ 500) (hl2 : L2.length ≤ 500) (h1 : okF L1) (h2 : okF L2) (hs1 : ∀ f ∈ L1, f.1.size ≤ maxLen ∧ f.2.size ≤ maxLen) (hs2 : ∀ f ∈ L2, f.1.size ≤ maxLen ∧ f.2.size ≤ maxLen)
    (hc1 : L1.length ≤ c1) (hc2 : L2.length ≤ c2) (hm1 : c1 ≤ maxLen) (hm2 : c2 ≤ maxLen) :
    Calls Try.prog 3 #[.slice A1 L1.length c1, .slice A2 L2.length c2] w fun e w' => e = .returned (.bool true) ∧ Below w.heap.size w w' := by
  have hM : (mergeC L1 L2).length ≤ 1000 := by have := merge_len L1 L2; omega
  have HC := Lib.hid (changes_ok SF A1 A2 c1 c2 L1 L2 w hr1 hr2 hl1 hl2 h1 h2 hs1 hs2)
  have K : Hid (∀ w1, Below w.heap.size w w1 → ∀ t, Calls Try.prog 5 #[.slice (some ⟨w1.heap.size, 0, none⟩) 2 2] (w1.alloc (.cells #[.slice A1 L1.length c1, .slice A2 L2.length c2] t)) fun e w' => e = .returned (.int .i64 0) ∧ Below (w1.heap.size) w1 w') := by
    intro w1 hb t
    have hz := hb.size
    have hb2 := hb.alloc hz (.cells #[.slice A1 L1.length c1, .slice A2 L2.length c2] t)
    have h2' := two_cells w1 (.slice A1 L1.length c1) (.slice A2 L2.length c2) t
    refine (filesError_any w1.heap.size A1 A2 c1 c2 L1 L2 _ w.heap.size h2'.1 h2'.2 (hr1.below hb2) (hr2.below hb2) hb2.size (by simp)).mono ?_
    rintro e w2 ⟨he, hb3⟩
    exact ⟨by rw [he, filesErr_ok hl1 hl2 ⟨h1, h2⟩], ((Below.refl w1.heap.size w1).alloc (Nat.le_refl _) _).trans (hb3.mono (by simp))⟩
  have KO : Hid (∀ w1, Below w.heap.size w w1 → Calls Try.prog 7 #[.slice A1 L1.length c1, .slice A2 L2.length c2] w1 fun e w' => ∃ A c, e = .returned (.slice A (mergeC L1 L2).length c) ∧ Reads w' w'.heap.size 2 A (mergeC L1 L2).length (rowsC (mergeC L1 L2)) ∧ Below w1.heap.size w1 w') := by
    intro w1 hb
    have hz := hb.size
    refine (changesOf_any A1 A2 c1 c2 L1 L2 w1 ((hr1.below hb).more hz) ((hr2.below hb).more hz) hl1 hl2 hc1 hc2 hm1 hm2).mono ?_
    rintro e w2 ⟨v, rfl, ho, hb2⟩
    obtain ⟨A, c, rfl, h⟩ := own_reads ho
    exact ⟨A, c, rfl, h, hb2⟩
  clear hr1 hr2 hl1 hl2 h1 h2 hs1 hs2 hc1 hc2 hm1 hm2 SF
  generalize hML : mergeC L1 L2 = M at *
  clear hML
  generalize hml : M.length = m at *
  have HL := Lib.hid hml
  clear hml
  generalize L1.length = n1 at *
  generalize L2.length = n2 at *
  go_enter Try.func3, Try.ntmps3
  go_wp2_with fail
  refine HC.out.mono ?_
  rintro e w1 ⟨A, rfl, hrd, hb1⟩
  clear HC
  have HR := Lib.hid hrd
  clear hrd
  go_wp2_with fail
  refine (K.out w1 hb1 _).mono ?_
  rintro e w2 ⟨rfl, hb2⟩
  clear K
  have hb3 := hb1.trans (hb2.mono hb1.size)
  go_wp2_with fail
  refine (KO.out w2 hb3).mono ?_
  rintro e w3 ⟨A', c', rfl, hrd', hb4⟩
  clear KO
  have z2 := hb2.size
  have z4 := hb4.size
  have R1 : Hid (Reads w3 w3.heap.size 2 A m (rowsC M)) := ((((HR.out.below hb2).more z2).below hb4).more z4)
  have hb5 := hb3.trans (hb4.mono hb3.size)
  have R2 := Lib.hid hrd'
  clear hrd' HR
  go_wp2_with fail
  refine (eqCh_any w3 M A A' m m c' R1.out R2.out HL.out.symm (by omega)).mono ?_
  rintro e w4 ⟨rfl, hb6⟩
  go_wp2
  go_ret
  exact ⟨rfl, hb5.trans (hb6.mono hb5.size)⟩

theorem show_any (SF : SortLaw) (A1 A2 : Option Addr) (c1 c2 : Nat) (L1 L2 : List F) (w : World) (hr1 : Reads w w.heap.size 2 A1 L1.length (rowsF L1)) (hr2 : Reads w w.heap.size 2 A2 L2.length (rowsF L2))
    (hs1 : ∀ f ∈ L1, f.1.size ≤ maxLen ∧ f.2.size ≤ maxLen) (hs2 : ∀ f ∈ L2, f.1.size ≤ maxLen ∧ f.2.size ≤ maxLen)
    (hc1 : L1.length ≤ c1) (hc2 : L2.length ≤ c2) (hm1 : c1 ≤ maxLen) (hm2 : c2 ≤ maxLen) :
    Calls Try.prog 3 #[.slice A1 L1.length c1, .slice A2 L2.length c2] w fun e w' => e = .returned (.bool true) ∧ Below w.heap.size w w' := by
  by_cases hl : 500 < L1.length ∨ 500 < L2.length
  · exact show_bad A1 A2 c1 c2 L1 L2 w 4 (.inl rfl) hr1 hr2 (filesErr_large hl) (changes_large A1 A2 c1 c2 _ _ w hl)
  · by_cases h : okF L1 ∧ okF L2
    · exact show_ok SF A1 A2 c1 c2 L1 L2 w hr1 hr2 (by omega) (by omega) h.1 h.2 hs1 hs2 hc1 hc2 hm1 hm2
    · exact show_bad A1 A2 c1 c2 L1 L2 w 5 (.inr rfl) hr1 hr2 (filesErr_order (by omega) (by omega) h) (changes_order A1 A2 c1 c2 L1 L2 w hr1 hr2 (by omega) (by omega) h)
end Go.Proofs.Ytnmgigfhcanplaa
