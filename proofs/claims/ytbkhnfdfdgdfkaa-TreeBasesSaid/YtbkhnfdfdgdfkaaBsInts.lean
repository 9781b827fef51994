/-
  DERIVED. Slices of ints: the walks of Clip, what Clone and Equal say, the reference's sameNumbers. Conditions: sizes. By an AI agent.
-/
import Derived.Test.YtbkhnfdfdgdfkaaBsMemX
import Derived.Test.YtbkhnfdfdgdfkaaAnShelf
import Derived.Test.YtbkhnfdfdgdfkaaChecked
import Derived.Deep.DeepCutAuto
namespace Go.Proofs.Ytbkhnfdfdgdfkaa
open Go.RowKit

set_option maxHeartbeats 400000 in
theorem clipI_any (A : Option Addr) (n c : Nat) (w : World) (hn : n ≤ c) (h0 : A = none → n = 0 ∧ c = 0) :
    Calls Try.prog 43 #[.slice A n c] w fun e w' => e = .returned (.slice A n n) ∧ w' = w := by
  have i0 : (0 : Int) ≤ (n : Int) := by omega
  have i1 : (n : Int) ≤ (c : Int) := by omega
  go_enter Try.func43, Try.ntmps43
  go_wp2_with fail
  go_ret
  exact ⟨rfl, rfl⟩
/-- a row of ints of the call's own -/
theorem RInX.of_own {w : World} {base n : Nat} {v : Value} {l : List Int} (h : w.ownsRow base 3 1 v n (l.map (.int .i64))) (hn : n = l.length) (hb : n * 8 ≤ 140737488351232) (hl : ∀ x ∈ l, I64 x) : ∃ A c, v = .slice A n c ∧ (A = none → n = 0 ∧ c = 0) ∧ RInX w (fun b => v.ownBlock = some b ∧ base ≤ b ∧ b < w.heap.size) (.slice A n c) l ∧ RInX w (fun b => v.ownBlock = some b ∧ base ≤ b ∧ b < w.heap.size) (.slice A n n) l := by
  obtain ⟨A, c, e, hc, hr⟩ := RdX.of_own h
  refine ⟨A, c, e, fun ha => ?_, ⟨A, n, c, rfl, hn, ⟨hc, hb⟩, hr, hl⟩, ⟨A, n, n, rfl, hn, ⟨Nat.le_refl _, hb⟩, hr, hl⟩⟩
  rcases h.2 with ⟨h, h0⟩ | ⟨g, cap, cur, h, _⟩
  · rw [e] at h; injection h with _ h1 h2
    exact ⟨h1, h2⟩
  · rw [e, ha] at h; injection h with h; cases h
/-- what copying ints leaves -/
def IntsR (l : List Int) (w : World) (e : Ending) (w' : World) : Prop := (∃ A n c, e = .returned (.slice A n c) ∧ (A = none → n = 0 ∧ c = 0) ∧ RInX w' (fun b => w.heap.size ≤ b ∧ b < w'.heap.size) (.slice A n c) l ∧ RInX w' (fun b => w.heap.size ≤ b ∧ b < w'.heap.size) (.slice A n n) l ∧ n ≤ c) ∧ Below w.heap.size w w'
theorem RIn.getD {w : World} {B b off n c : Nat} {l : List Int} (h : RIn w B (.slice (some ⟨b, off, none⟩) n c) l) : ∀ j, j < l.length → w.cell? ⟨b, off + j, none⟩ = some (.int .i64 (l.getD j 0)) := by
  intro j hj
  obtain ⟨b', off', e, _, hc⟩ := h.at_ (List.getElem?_eq_getElem hj)
  injection e with e
  injection e with e1 e2
  subst e1 e2
  rw [hc, List.getD_eq_getElem?_getD, List.getElem?_eq_getElem hj]; rfl
theorem cloneI_any (A : Option Addr) (n c : Nat) (l : List Int) (w : World) (B : Nat) (h : RIn w B (.slice A n c) l) :
    Calls Try.prog 46 #[.slice A n c] w (IntsR l w) := by
  have hn := h.len
  have hi : ∀ x ∈ l, I64 x := fun x hx => h.i64 hx
  have key : ∀ (v' : Value) (w' : World), w'.ownsRow w.heap.size 3 1 v' n (l.map (.int .i64)) → Below w.heap.size w w' → IntsR l w (.returned v') w' := fun v' w' ho hb => by
    obtain ⟨A', c', rfl, h0, h1, h2⟩ := RInX.of_own ho hn.1 hn.2.2 hi
    refine ⟨⟨A', n, c', rfl, h0, h1.weak fun b hb => hb.2, h2.weak fun b hb => hb.2, ?_⟩, hb⟩
    obtain ⟨_, _, _, e, _, h3, _⟩ := h1
    injection e with _ e1 e2
    omega
  rcases A with _ | ad
  · have h0 : n = 0 := by
      rcases Nat.eq_zero_or_pos n with g | g
      · exact g
      · obtain ⟨ad, e, _⟩ := h.reads.2 g
        cases e
    subst h0
    have hl : l = [] := List.eq_nil_of_length_eq_zero hn.1.symm
    subst hl
    refine (Try.slices_Clone_int_nil 0 c w).mono ?_
    rintro e w' ⟨rfl, rfl⟩
    exact key _ _ (World.ownsRow_nil _ _ _ _) (Below.refl _ _)
  · rcases Nat.eq_zero_or_pos n with g | g
    · subst g
      have hl : l = [] := List.eq_nil_of_length_eq_zero hn.1.symm
      subst hl
      refine (Try.slices_Clone_int_zero ad c w).mono ?_
      rintro e w' ⟨v', rfl, ho, _, hb⟩
      exact key _ _ ho hb
    · obtain ⟨b, off, e, _, _⟩ := h.reads.plain g (by omega)
      injection e with e
      subst e
      refine (Try.slices_Clone_int b off n c l w (by omega) (by omega) h.getD).mono ?_
      rintro e w' ⟨v', rfl, ho, _, hb⟩
      rw [List.take_of_length_le (by omega)] at ho
      exact key _ _ ho hb
theorem equalI_any (A A' : Option Addr) (n c n' c' : Nat) (l m : List Int) (w : World) (B : Nat) (h : RIn w B (.slice A n c) l) (h' : RIn w B (.slice A' n' c') m) :
    Calls Try.prog 20 #[.slice A n c, .slice A' n' c'] w fun e w' => e = .returned (.bool (l == m)) ∧ ∃ q, w' = w.drewN q := by
  have hn := h.len
  have hn' := h'.len
  by_cases hl : n = n'
  · subst hl
    rcases Nat.eq_zero_or_pos n with g | g
    · subst g
      have e1 : l = [] := List.eq_nil_of_length_eq_zero hn.1.symm
      have e2 : m = [] := List.eq_nil_of_length_eq_zero hn'.1.symm
      subst e1 e2
      refine (Try.slices_Equal_int_empty A A' c 0 c' w (by omega)).mono ?_
      rintro e w' ⟨rfl, rfl⟩
      exact ⟨rfl, 0, rfl⟩
    · obtain ⟨b, off, e, _, _⟩ := h.reads.plain g (by omega)
      obtain ⟨b', off', e', _, _⟩ := h'.reads.plain g (by omega)
      subst e e'
      refine (Try.slices_Equal_int b off n c b' off' n c' l m w (by omega) (by omega) (by omega) (by omega) h.getD h'.getD).mono ?_
      rintro e w' ⟨rfl, hq⟩
      rw [List.take_of_length_le (by omega), List.take_of_length_le (by omega)]
      exact ⟨rfl, hq⟩
  · refine (Try.slices_Equal_int_lens A A' n c n' c' w hl).mono ?_
    rintro e w' ⟨rfl, rfl⟩
    have : (l == m) = false := by
      rw [beq_eq_false_iff_ne]
      intro e
      rw [e] at hn
      omega
    rw [this]
    exact ⟨rfl, 0, rfl⟩
end Go.Proofs.Ytbkhnfdfdgdfkaa
