/-
  DERIVED. Indent, Outdent, Split and Join of a base without error beside those of the reference. Conditions: sizes.
  By an AI agent.
-/
import Derived.Test.YtmkicfjcgbfaaaaGreatTe50
import Derived.Test.YtmkicfjcgbfaaaaGreatTe52
import Derived.Test.YtmkicfjcgbfaaaaGreatTe51
import Derived.Test.YtmkicfjcgbfaaaaGreatTe53
import Derived.Test.YtmkicfjcgbfaaaaGreatTe39
namespace Go.Proofs.YtmkicfjcgbfaaaaGreat
open Go.RowKit

/-- one operation from the program and from the reference -/
def Both (w : World) (g1 g2 : Nat) (av : Array Value) : Prop := ∃ r : Opn × Int, r.1.val.items = [] ∧ (∀ W, Below w.heap.size w W → Calls Tryz.prog g1 av W (MvR r W)) ∧ (∀ W, Below w.heap.size w W → Calls Tryz.prog g2 av W (MvR r W))
/-- operations from the program and from the reference -/
def BothM (w : World) (g1 g2 : Nat) (av : Array Value) : Prop := ∃ (os : List Opn) (P : Int → Prop), (∀ e e', P e → P e' → e = e') ∧ (∀ W, Below w.heap.size w W → Calls Tryz.prog g1 av W fun e w' => ∃ er, P er ∧ ManyR os er W e w') ∧ (∀ W, Below w.heap.size w W → Calls Tryz.prog g2 av W fun e w' => ∃ er, P er ∧ ManyR os er W e w')
theorem BothM.one {w : World} {g1 g2 : Nat} {av : Array Value} (er : Int) (h1 : ∀ W, Below w.heap.size w W → Calls Tryz.prog g1 av W (ManyR [] er W)) (h2 : ∀ W, Below w.heap.size w W → Calls Tryz.prog g2 av W (ManyR [] er W)) : BothM w g1 g2 av :=
  ⟨[], fun e => e = er, fun _ _ a b => a.trans b.symm, fun W hW => (h1 W hW).mono fun _ _ h => ⟨er, rfl, h⟩, fun W hW => (h2 W hW).mono fun _ _ h => ⟨er, rfl, h⟩⟩
theorem BothM.try_ {w : World} {g1 g2 : Nat} {av : Array Value} (l : List Bl) (os : List Opn) (h1 : ∀ W, Below w.heap.size w W → Calls Tryz.prog g1 av W fun e w' => ∃ er, TryP l os er ∧ ManyR os er W e w') (h2 : ∀ W, Below w.heap.size w W → Calls Tryz.prog g2 av W fun e w' => ∃ er, TryP l os er ∧ ManyR os er W e w') : BothM w g1 g2 av :=
  ⟨os, TryP l os, fun _ _ a b => a.uniq b, h1, h2⟩
theorem chk_items (l : List Bl) (f : Int → Option Int) (a b c : Int) : (chk l f (mvO a b c)).1.val.items = [] := by
  unfold chk
  split <;> rfl
section
variable (l : List Bl) (f : Int → Option Int) (G : Good l f) (A : Option Addr) (n c : Nat) (id : Int) (w : World) (h : RB w w.heap.size (.slice A n c) l)
include G h
theorem indent_both (p q i : Nat) (x y : Bl) (hat : At l id p q i x y) : Both w 37 42 #[.slice A n c, .int .i64 id] := by
  have hW : ∀ W, Below w.heap.size w W → RB W W.heap.size (.slice A n c) l := fun W hW => (h.below hW).more hW.size
  by_cases h0 : i = 0
  · exact ⟨(zO, 11), rfl, fun W hw => indent_none l f G A n c id p q i x y hat h0 W (hW W hw), fun W hw => indentOf_none l f G A n c id p q i x y hat h0 W (hW W hw)⟩
  · obtain ⟨j, rfl⟩ : ∃ j, i = j + 1 := ⟨i - 1, by omega⟩
    have hl := (List.getElem?_eq_some_iff.1 hat.hk).1
    obtain ⟨k, hk⟩ : ∃ k, y.kids[j]? = some k := ⟨_, List.getElem?_eq_getElem (by omega)⟩
    obtain ⟨_, z, hz, hzi, _⟩ := G.kids.kid y (List.mem_of_getElem? hat.hy) k (List.mem_of_getElem? hk)
    obtain ⟨r, hr⟩ := List.mem_iff_getElem?.1 hz
    subst hzi
    exact ⟨_, chk_items l f _ _ _, fun W hw => indent_yes l f G A n c id p q _ x y hat j r rfl z hk hr W (hW W hw), fun W hw => indentOf_yes l f G A n c id p q _ x y hat j r rfl z hk hr W (hW W hw)⟩
theorem outdent_both (p q i : Nat) (x y : Bl) (hat : At l id p q i x y) : Both w 38 43 #[.slice A n c, .int .i64 id] := by
  have hW : ∀ W, Below w.heap.size w W → RB W W.heap.size (.slice A n c) l := fun W hW => (h.below hW).more hW.size
  by_cases h0 : x.parent = 0
  · exact ⟨(zO, 11), rfl, fun W hw => outdent_none l f G A n c id p q i x y hat h0 W (hW W hw), fun W hw => outdentOf_none l f G A n c id p q i x y hat h0 W (hW W hw)⟩
  · have hq := hat.qq G
    have hq0 : 0 < posOf l x.parent := by
      refine Int.lt_of_not_ge fun hle => h0 ((G.pos_root (by omega)).1 hle)
    obtain ⟨p', q2, j2, x', y2, hat2⟩ := G.mv hq0
    have hp' := hat2.pp G
    obtain rfl : p' = q := by omega
    obtain rfl : x' = y := by
      have := hat2.hx
      rw [hat.hy] at this
      exact (Option.some.inj this).symm
    exact ⟨_, chk_items l f _ _ _, fun W hw => outdent_yes l f G A n c id p _ i x _ hat h0 q2 j2 y2 hat2 W (hW W hw), fun W hw => outdentOf_yes l f G A n c id p _ i x _ hat h0 q2 j2 y2 hat2 W (hW W hw)⟩
theorem split_both (pl : Int) (p q i : Nat) (x y : Bl) (hat : At l id p q i x y) : BothM w 39 44 #[.slice A n c, .int .i64 id, .int .i64 pl] := by
  have hW : ∀ W, Below w.heap.size w W → RB W W.heap.size (.slice A n c) l := fun W hW => (h.below hW).more hW.size
  by_cases h0 : pl < 0
  · exact .one 2 (fun W hw => split_low l f G A n c id pl p q i x y hat h0 W (hW W hw)) (fun W hw => splitOf_low l f G A n c id pl p q i x y hat h0 W (hW W hw))
  by_cases h1 : (x.text.size : Int) < pl
  · exact .one 2 (fun W hw => split_high l f G A n c id pl p q i x y hat h0 h1 W (hW W hw)) (fun W hw => splitOf_high l f G A n c id pl p q i x y hat h0 h1 W (hW W hw))
  obtain ⟨a, rfl⟩ : ∃ a : Nat, pl = (a : Int) := ⟨pl.toNat, by omega⟩
  have ha : a ≤ x.text.size := by omega
  by_cases hn : nextP l < 0
  · exact .one 14 (fun W hw => split_full l f G A n c id a p q i x y hat ha hn W (hW W hw)) (fun W hw => splitOf_full l f G A n c id a p q i x y hat ha hn W (hW W hw))
  · exact .try_ l _ (fun W hw => split_yes l f G A n c id a p q i x y hat ha hn W (hW W hw)) (fun W hw => splitOf_yes l f G A n c id a p q i x y hat ha hn W (hW W hw))
theorem join_both (p q i : Nat) (x y : Bl) (hat : At l id p q i x y) : BothM w 40 45 #[.slice A n c, .int .i64 id] := by
  have hW : ∀ W, Below w.heap.size w W → RB W W.heap.size (.slice A n c) l := fun W hW => (h.below hW).more hW.size
  by_cases h0 : i + 1 = y.kids.length
  · exact .one 11 (fun W hw => join_last l f G A n c id p q i x y hat h0 W (hW W hw)) (fun W hw => joinOf_last l f G A n c id p q i x y hat h0 W (hW W hw))
  · have hl := (List.getElem?_eq_some_iff.1 hat.hk).1
    obtain ⟨k, hk⟩ : ∃ k, y.kids[i + 1]? = some k := ⟨_, List.getElem?_eq_getElem (by omega)⟩
    obtain ⟨_, z, hz, hzi, _⟩ := G.kids.kid y (List.mem_of_getElem? hat.hy) k (List.mem_of_getElem? hk)
    obtain ⟨r, hr⟩ := List.mem_iff_getElem?.1 hz
    subst hzi
    exact .try_ l _ (fun W hw => join_yes l f G A n c id p q i x y hat r z hk hr W (hW W hw)) (fun W hw => joinOf_yes l f G A n c id p q i x y hat r z hk hr W (hW W hw))
end
set_option maxHeartbeats 1000000 in
/-- sameMany at what both hand back -/
theorem sameMany_two (os : List Opn) (er : Int) (A A' : Option Addr) (n c n' c' : Nat) (w : World) (h1 : (er = 0 ∧ ROs w w.heap.size (.slice A n c) os) ∨ (er ≠ 0 ∧ A = none ∧ n = 0 ∧ c = 0)) (h2 : (er = 0 ∧ ROs w w.heap.size (.slice A' n' c') os) ∨ (er ≠ 0 ∧ A' = none ∧ n' = 0 ∧ c' = 0)) :
    Calls Tryz.prog 46 #[.slice A n c, .int .i64 er, .slice A' n' c', .int .i64 er] w fun e w' => e = .returned (.bool true) ∧ Below w.heap.size w w' := by
  rcases h1 with ⟨rfl, h1⟩ | ⟨hne, rfl, rfl, rfl⟩
  · rcases h2 with ⟨_, h2⟩ | ⟨hne, _⟩
    · exact sameMany_any os A A' n c n' c' w h1 h2
    · exact absurd rfl hne
  · exact sameMany_bad A' n' c' er hne w
end Go.Proofs.YtmkicfjcgbfaaaaGreat
