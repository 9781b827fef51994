/-
  DERIVED. The walks of day.outside, checkDay, checkRising, checkParts and CheckRule. Conditions: none. By an AI agent.
-/
import Derived.Test.YtbdcimakdiegnaaGreatDoorRuMath
import Derived.Test.YtbdcimakdiegnaaGreatDoorVa01
import Derived.Deep.LoopGhost
namespace Go.Proofs.YtbdcimakdiegnaaGreatDoor
open Go.RowKit

set_option maxHeartbeats 400000 in
theorem outsideD_any (n a b : Int) (w : World) :
    Calls Tryz.prog 60 #[.int .i64 n, .int .i64 a, .int .i64 b] w fun e w' => e = .returned (.bool (outI n a b)) ∧ w' = w := by
  unfold outI
  by_cases h1 : n < a
  · rw [decide_eq_true (.inl h1)]
    go_enter Tryz.func60, Tryz.ntmps60
    go_wp2
    go_ret
    exact ⟨rfl, rfl⟩
  · by_cases h2 : b < n
    · rw [decide_eq_true (.inr h2)]
      go_enter Tryz.func60, Tryz.ntmps60
      go_wp2
      go_ret
      exact ⟨rfl, rfl⟩
    · rw [decide_eq_false (by omega)]
      go_enter Tryz.func60, Tryz.ntmps60
      go_wp2
      go_ret
      exact ⟨rfl, rfl⟩

set_option maxHeartbeats 400000 in
theorem checkDay_any (n : Int) (w : World) :
    Calls Tryz.prog 61 #[.int .i64 n] w fun e w' => e = .returned (.int .i64 (if outI n 0 100000 = true then 2 else 0)) ∧ w' = w := by
  have HO := outsideD_any n 0 100000 w
  obtain ⟨q, hq⟩ : ∃ q, q = outI n 0 100000 := ⟨_, rfl⟩
  rw [← hq] at HO ⊢
  have HO := Lib.hid HO
  clear hq
  cases q
  all_goals
    go_enter Tryz.func61, Tryz.ntmps61
    go_wp2_with fail
    refine HO.out.mono ?_
    rintro e w1 ⟨rfl, rfl⟩
    go_wp2_with fail
    go_ret
    exact ⟨rfl, rfl⟩

/-- the number ahead of a place -/
def preI (l : List Int) : Nat → Option Int
  | 0 => none
  | k + 1 => l[k]?

set_option maxHeartbeats 2000000 in
set_option maxRecDepth 100000 in
theorem checkRising_any (l : List Int) (A : Option Addr) (n c : Nat) (lo hi : Int) (z : Bool) (w : World) (B : Nat) (h : RIn w B (.slice A n c) l) :
    Calls Tryz.prog 63 #[.slice A n c, .int .i64 lo, .int .i64 hi, .bool z] w fun e w' => e = .returned (.int .i64 (riErr lo hi z none l)) ∧ w' = w := by
  obtain ⟨hn, hnc, hn8⟩ := h.len
  have HN := Lib.hid hn
  have HR := Lib.hid h
  have HO := Lib.hid fun n W => outsideD_any n lo hi W
  obtain ⟨E, hE⟩ : ∃ E, E = riErr lo hi z none l := ⟨_, rfl⟩
  rw [← hE]
  have HE := Lib.hid hE
  clear h hn hE
  go_enter Tryz.func63, Tryz.ntmps63
  go_wp2_with fail
  go_loopg [13] n (fun gg s13 wr => ∃ k : Nat, k + gg = n ∧ s13 = .int .i64 (k : Int) ∧ wr = w ∧ Hid (E = riErr lo hi z (preI l k) (l.drop k)))
  case atStart => exact ⟨0, by omega, rfl, rfl, HE⟩
  case round =>
    obtain ⟨k, hkg, rfl, rfl, hE⟩ := hrel
    by_cases hk : k < n
    · obtain ⟨x, hx⟩ : ∃ x, l[k]? = some x := ⟨_, List.getElem?_eq_getElem (by have := HN.out; omega)⟩
      obtain ⟨b, off, rfl, hb, hc⟩ := HR.out.at_ hx
      obtain ⟨hkk, ex⟩ := List.getElem?_eq_some_iff.1 hx
      have hdr : l.drop k = x :: l.drop (k + 1) := by rw [List.drop_eq_getElem_cons hkk, ex]
      have hE2 : E = if (outI x lo hi || (x == 0 && !z)) = true then 2 else if prL (preI l k) x = true then 5 else riErr lo hi z (preI l (k + 1)) (l.drop (k + 1)) := by
        rw [hE.out, hdr, riErr, show preI l (k + 1) = some x from hx]
      have hprev : k = 0 ∧ prL (preI l k) x = false ∨ ∃ j y, k = j + 1 ∧ l[j]? = some y ∧ prL (preI l k) x = decide (x ≤ y) ∧ wr.cell? ⟨b, off + j, none⟩ = some (.int .i64 y) := by
        cases k with
        | zero => exact .inl ⟨rfl, rfl⟩
        | succ j =>
          obtain ⟨y, hy⟩ : ∃ y, l[j]? = some y := ⟨_, List.getElem?_eq_getElem (by omega)⟩
          obtain ⟨b', off', e, _, hc'⟩ := HR.out.at_ hy
          injection e with e
          injection e with e1 e2
          subst e1 e2
          refine .inr ⟨j, y, rfl, hy, ?_, hc'⟩
          show prL (l[j]?) x = _
          rw [hy]
          rfl
      have j1 : (k : Int) < (n : Int) := by omega
      have HE2 := Lib.hid hE2
      have HX := HO.out x wr
      obtain ⟨q1, hq1⟩ : ∃ q, q = outI x lo hi := ⟨_, rfl⟩
      obtain ⟨q2, hq2⟩ : ∃ q, (x == 0) = q := ⟨_, rfl⟩
      obtain ⟨q3, hq3⟩ : ∃ q, q = prL (preI l k) x := ⟨_, rfl⟩
      rw [← hq1, hq2, ← hq3] at HE2
      rw [← hq1] at HX
      rw [← hq3] at hprev
      have HX := Lib.hid HX
      clear hx hdr hE2 hE hq1 hq3 ex hkk
      cases hbad : (q1 || (q2 && !z))
      case true =>
        have he : E = 2 := by rw [HE2.out, hbad]; rfl
        clear HE2 hprev
        subst he
        go_wp2_with fail
        refine HX.out.mono ?_
        rintro e w1 ⟨rfl, rfl⟩
        cases q1
        · simp only [Bool.false_or, Bool.and_eq_true, Bool.not_eq_true'] at hbad
          obtain ⟨rfl, rfl⟩ := hbad
          go_wp2_with fail
          go_ret
          exact ⟨rfl, rfl⟩
        · go_wp2_with fail
          go_ret
          exact ⟨rfl, rfl⟩
      case false =>
        have he : E = if q3 = true then 5 else riErr lo hi z (preI l (k + 1)) (l.drop (k + 1)) := by rw [HE2.out, hbad]; rfl
        have HEE := Lib.hid he
        simp only [Bool.or_eq_false_iff] at hbad
        obtain ⟨rfl, hb2⟩ := hbad
        clear HE2 he
        have iw1 : IntKind.i64.wrap ((k : Int) + 1) = ((k + 1 : Nat) : Int) := by rw [IntWalk.i64_in _ (by omega)]; omega
        have hz : q2 = false ∨ (q2 = true ∧ z = true) := by revert hb2; cases q2 <;> cases z <;> simp
        clear hb2
        rcases hz with rfl | ⟨rfl, rfl⟩
        all_goals
          rcases hprev with ⟨rfl, hp⟩ | ⟨j, y, hkj, hy, hp, hc'⟩
          · subst hp
            have hc0 : wr.cell? ⟨b, off, none⟩ = some (.int .i64 x) := hc
            have he : Hid (E = riErr lo hi _ (preI l (0 + 1)) (l.drop (0 + 1))) := HEE.out
            go_wp2_with fail
            refine HX.out.mono ?_
            rintro e w1 ⟨rfl, rfl⟩
            go_wp2_with fail
            go_roundg (n - (0 + 1))
            case measure => omega
            case rel => exact ⟨0 + 1, by omega, by go_num, rfl, he⟩
          · have j2 : (0 : Int) < (k : Int) := by omega
            have j3 : IntKind.i64.wrap ((k : Int) - 1) = (j : Int) := by rw [IntWalk.i64_in _ (by omega)]; omega
            have j4 : (j : Int) < (n : Int) := by omega
            cases q3
            · have he : Hid (E = riErr lo hi _ (preI l (k + 1)) (l.drop (k + 1))) := HEE.out
              have j5 : ¬ x ≤ y := by simpa using hp.symm
              clear hp hy hkj HEE
              go_wp2_with fail
              refine HX.out.mono ?_
              rintro e w1 ⟨rfl, rfl⟩
              go_wp2_with fail
              go_roundg (n - (k + 1))
              case measure => omega
              case rel => exact ⟨k + 1, by omega, by go_num, rfl, he⟩
            · have he : E = 5 := HEE.out
              have j5 : x ≤ y := by simpa using hp.symm
              clear hp hy hkj HEE
              subst he
              go_wp2_with fail
              refine HX.out.mono ?_
              rintro e w1 ⟨rfl, rfl⟩
              go_wp2_with fail
              go_ret
              exact ⟨rfl, rfl⟩
    · obtain rfl : n = k := by omega
      have hd0 : l.drop n = [] := List.drop_eq_nil_of_le (by rw [← HN.out]; exact Nat.le_refl _)
      have he : E = 0 := by rw [hE.out, hd0]; cases preI l n <;> rfl
      subst he
      go_wp2_with fail
      go_ret
      exact ⟨rfl, rfl⟩

end Go.Proofs.YtbdcimakdiegnaaGreatDoor
