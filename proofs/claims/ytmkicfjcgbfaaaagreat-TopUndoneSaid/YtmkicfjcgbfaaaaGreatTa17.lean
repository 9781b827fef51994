/-
  DERIVED. The plain law of ShowChanges: lists of files in order, the merge of two of them, and that a sorted permutation of the changes is the merge. Conditions: none.
  prop.with's closure: properties by their names. Conditions: none.
  The walks of slices.DeleteFunc and slices.IndexFunc at properties with prop.without's closure. Conditions: sizes.
  The walk of slices.DeleteFunc at properties with prop.without's closure, over a row of the call's own. Conditions: sizes.
  slices.SortFunc at properties by their names, over a row of the call's own. Conditions: sizes.
  By an AI agent.
-/
import Derived.Sort.Walk0
import Derived.Sort.Statements
import Derived.Lib.Bytealg
import Derived.Shelf.SlSortCmp.Insertion
import Derived.Test.YtmkicfjcgbfaaaaGreatTa16
import Derived.Test.YtmkicfjcgbfaaaaGreatTa08
import Derived.Test.YtmkicfjcgbfaaaaGreatTa15
namespace Go.Proofs.YtmkicfjcgbfaaaaGreat
open Go.Sort

abbrev F := ByteArray × ByteArray
abbrev C := ByteArray × Int
/-- one path ahead of another -/
def bl (a b : ByteArray) : Bool := Op.bytesLess a.toList b.toList

theorem tl_data (a : ByteArray) : a.toList = a.data.toList := ByteArray.toList_eq a
theorem tl_inj {a b : ByteArray} (h : a.toList = b.toList) : a = b := by
  rw [tl_data, tl_data] at h
  cases a with | mk x => cases b with | mk y => cases x; cases y; simp at h; rw [h]
theorem bl_lt {a b : ByteArray} : bl a b = true ↔ a.toList < b.toList := by
  unfold bl; rw [bytesLess_eq]; simp
theorem bl_irrefl (a : ByteArray) : bl a a = false := by
  cases h : bl a a
  · rfl
  · exact absurd (bl_lt.1 h) (List.lt_irrefl _)
theorem bl_trans {a b c : ByteArray} (h1 : bl a b = true) (h2 : bl b c = true) : bl a c = true :=
  bl_lt.2 (List.lt_trans (bl_lt.1 h1) (bl_lt.1 h2))
theorem bl_asymm {a b : ByteArray} (h1 : bl a b = true) : bl b a = false := by
  cases h : bl b a
  · rfl
  · have := bl_trans h1 h; rw [bl_irrefl] at this; cases this
theorem bl_tri {a b : ByteArray} (h1 : bl a b = false) (h2 : bl b a = false) : a = b := by
  have g1 : ¬ a.toList < b.toList := fun h => by rw [bl_lt.2 h] at h1; cases h1
  have g2 : ¬ b.toList < a.toList := fun h => by rw [bl_lt.2 h] at h2; cases h2
  exact tl_inj (List.le_antisymm (List.not_lt.1 g2) (List.not_lt.1 g1))
theorem bl_ne {a b : ByteArray} (h : bl a b = true) : a ≠ b := by
  rintro rfl; rw [bl_irrefl] at h; cases h
theorem leq_bl (a b : ByteArray) : (Op.bytesLess a.toList b.toList || a.toList == b.toList) = !bl b a := by
  cases h : bl b a
  · cases h2 : bl a b
    · have := bl_tri h h2; subst this; simp
    · have : Op.bytesLess a.toList b.toList = true := h2
      rw [this]; rfl
  · have h2 : Op.bytesLess a.toList b.toList = false := bl_asymm h
    have h3 : ¬ a.toList = b.toList := fun e => by have := tl_inj e; subst this; rw [bl_irrefl] at h; cases h
    rw [h2]; simp [h3]

theorem cmpB_neg : ∀ {a b : List UInt8}, Lib.compareBytes a b < 0 ↔ a < b
  | [], [] => by simp [Lib.compareBytes]
  | [], _ :: _ => by simp [Lib.compareBytes]
  | _ :: _, [] => by simp [Lib.compareBytes]
  | x :: a, y :: b => by
    unfold Lib.compareBytes
    by_cases h1 : x < y
    · simp [h1, List.cons_lt_cons_iff]
    · by_cases h2 : y < x
      · have : x ≠ y := by rintro rfl; exact h1 h2
        simp [h1, h2, List.cons_lt_cons_iff, this]
      · have : x = y := UInt8.le_antisymm (UInt8.not_lt.1 h2) (UInt8.not_lt.1 h1)
        subst this
        simp only [h1, if_false, List.cons_lt_cons_iff, false_or, true_and]
        exact cmpB_neg

def cfC (x y : C) : Int := Lib.compareBytes x.1.data.toList y.1.data.toList
theorem ltC (x y : C) : ltOf cfC x y = bl x.1 y.1 := by
  unfold ltOf cfC
  rw [← tl_data, ← tl_data, Bool.eq_iff_iff, bl_lt]
  simp [cmpB_neg]
theorem swoC : SWO (ltOf cfC) where
  irrefl x := by rw [ltC]; exact bl_irrefl _
  trans x y z h1 h2 := by rw [ltC] at *; exact bl_trans h1 h2
  ntrans x y z h1 h2 := by
    rw [ltC] at *
    cases h : bl x.1 z.1
    · rfl
    · exfalso
      cases h3 : bl z.1 y.1
      · have e := bl_tri h3 h2
        rw [e, h1] at h; cases h
      · have := bl_trans h h3; rw [h1] at this; cases this

/-- files whose paths rise -/
def okF (L : List F) : Prop := ∀ j (h : j + 1 < L.length), bl L[j].1 L[j + 1].1 = true
theorem okF_nil : okF [] := fun j h => by simp at h
theorem okF.tail {a : F} {L : List F} (h : okF (a :: L)) : okF L := fun j hj => h (j + 1) (by simpa using hj)
theorem okF.head : ∀ {L : List F} {a : F}, okF (a :: L) → ∀ x ∈ L, bl a.1 x.1 = true
  | [], _, _, x, hx => by cases hx
  | b :: L, a, h, x, hx => by
    have h0 : bl a.1 b.1 = true := h 0 (by simp)
    rcases List.mem_cons.1 hx with rfl | hx
    · exact h0
    · exact bl_trans h0 (okF.head h.tail x hx)

def mergeC : List F → List F → List C
  | [], [] => []
  | [], b :: ys => (b.1, 1) :: mergeC [] ys
  | a :: xs, [] => (a.1, 3) :: mergeC xs []
  | a :: xs, b :: ys =>
    if bl b.1 a.1 = true then (b.1, 1) :: mergeC (a :: xs) ys
    else if bl a.1 b.1 = true then (a.1, 3) :: mergeC xs (b :: ys)
    else (if a.2 ≠ b.2 then [(a.1, 2)] else []) ++ mergeC xs ys
termination_by xs ys => xs.length + ys.length

def inP (L : List F) (p : ByteArray) : Prop := ∃ b, (p, b) ∈ L
theorem inP_nil (p : ByteArray) : ¬ inP [] p := by rintro ⟨b, hb⟩; cases hb
theorem inP_cons (a : F) (L : List F) (p : ByteArray) : inP (a :: L) p ↔ p = a.1 ∨ inP L p := by
  constructor
  · rintro ⟨b, hb⟩
    rcases List.mem_cons.1 hb with h | h
    · exact .inl (by rw [← h])
    · exact .inr ⟨b, h⟩
  · rintro (h | ⟨b, h⟩)
    · exact ⟨a.2, by rw [h]; exact List.mem_cons_self⟩
    · exact ⟨b, List.mem_cons_of_mem _ h⟩
theorem not_inP {L : List F} {p : ByteArray} (h : ∀ x ∈ L, bl p x.1 = true) : ¬ inP L p := by
  rintro ⟨b, hb⟩
  have := h _ hb
  rw [bl_irrefl] at this; cases this

/-- what a change says -/
def says (L1 L2 : List F) (x : C) : Prop :=
  (x.2 = 1 ∧ inP L2 x.1 ∧ ¬ inP L1 x.1) ∨ (x.2 = 2 ∧ ∃ b1 b2, (x.1, b1) ∈ L1 ∧ (x.1, b2) ∈ L2 ∧ b1 ≠ b2) ∨ (x.2 = 3 ∧ inP L1 x.1 ∧ ¬ inP L2 x.1)

theorem says_left {a : F} {xs L2 : List F} (hx : okF (a :: xs)) (hn : ¬ inP L2 a.1) (x : C) : says (a :: xs) L2 x ↔ x = (a.1, 3) ∨ says xs L2 x := by
  have ha : ¬ inP xs a.1 := not_inP hx.head
  obtain ⟨p, k⟩ := x
  unfold says
  simp only [inP_cons, List.mem_cons, Prod.mk.injEq]
  constructor
  · rintro (⟨h1, h2, h3⟩ | ⟨h1, b1, b2, h2, h3, h4⟩ | ⟨h1, h2, h3⟩)
    · exact .inr (.inl ⟨h1, h2, fun h => h3 (.inr h)⟩)
    · rcases h2 with h2 | h2
      · have : p = a.1 := by rw [← h2]
        exact absurd ⟨b2, by rw [← this]; exact h3⟩ hn
      · exact .inr (.inr (.inl ⟨h1, b1, b2, h2, h3, h4⟩))
    · rcases h2 with h2 | h2
      · exact .inl ⟨h2, h1⟩
      · exact .inr (.inr (.inr ⟨h1, h2, h3⟩))
  · rintro (⟨h1, h2⟩ | ⟨h1, h2, h3⟩ | ⟨h1, b1, b2, h2, h3, h4⟩ | ⟨h1, h2, h3⟩)
    · exact .inr (.inr ⟨h2, .inl h1, by rw [h1]; exact hn⟩)
    · exact .inl ⟨h1, h2, fun h => h.elim (fun e => hn (by rw [← e]; exact h2)) h3⟩
    · exact .inr (.inl ⟨h1, b1, b2, .inr h2, h3, h4⟩)
    · exact .inr (.inr ⟨h1, .inr h2, h3⟩)

theorem says_right {b : F} {L1 ys : List F} (_hy : okF (b :: ys)) (hn : ¬ inP L1 b.1) (x : C) : says L1 (b :: ys) x ↔ x = (b.1, 1) ∨ says L1 ys x := by
  obtain ⟨p, k⟩ := x
  unfold says
  simp only [inP_cons, List.mem_cons, Prod.mk.injEq]
  constructor
  · rintro (⟨h1, h2, h3⟩ | ⟨h1, b1, b2, h2, h3, h4⟩ | ⟨h1, h2, h3⟩)
    · rcases h2 with h2 | h2
      · exact .inl ⟨h2, h1⟩
      · exact .inr (.inl ⟨h1, h2, h3⟩)
    · rcases h3 with h3 | h3
      · have : p = b.1 := by rw [← h3]
        exact absurd ⟨b1, by rw [← this]; exact h2⟩ hn
      · exact .inr (.inr (.inl ⟨h1, b1, b2, h2, h3, h4⟩))
    · exact .inr (.inr (.inr ⟨h1, h2, fun h => h3 (.inr h)⟩))
  · rintro (⟨h1, h2⟩ | ⟨h1, h2, h3⟩ | ⟨h1, b1, b2, h2, h3, h4⟩ | ⟨h1, h2, h3⟩)
    · exact .inl ⟨h2, .inl h1, by rw [h1]; exact hn⟩
    · exact .inl ⟨h1, .inr h2, h3⟩
    · exact .inr (.inl ⟨h1, b1, b2, h2, .inr h3, h4⟩)
    · exact .inr (.inr ⟨h1, h2, fun h => h.elim (fun e => hn (by rw [← e]; exact h2)) h3⟩)

theorem says_both {a b : F} {xs ys : List F} (hx : okF (a :: xs)) (hy : okF (b :: ys)) (e : a.1 = b.1) (x : C) : says (a :: xs) (b :: ys) x ↔ (a.2 ≠ b.2 ∧ x = (a.1, 2)) ∨ says xs ys x := by
  have ha : ¬ inP xs a.1 := not_inP hx.head
  have hb : ¬ inP ys b.1 := not_inP hy.head
  obtain ⟨p, k⟩ := x
  obtain ⟨ap, ab⟩ := a
  obtain ⟨bp, bb⟩ := b
  simp only at e ha hb
  subst e
  unfold says
  simp only [inP_cons, List.mem_cons, Prod.mk.injEq]
  constructor
  · rintro (⟨h1, h2, h3⟩ | ⟨h1, b1, b2, h2, h3, h4⟩ | ⟨h1, h2, h3⟩)
    · rcases h2 with h2 | h2
      · exact absurd (.inl h2) h3
      · exact .inr (.inl ⟨h1, h2, fun h => h3 (.inr h)⟩)
    · rcases h2 with ⟨h2, h5⟩ | h2
      · rcases h3 with ⟨_, h6⟩ | h3
        · exact .inl ⟨by rw [← h5, ← h6]; exact h4, h2, h1⟩
        · exact absurd ⟨b2, by rw [← h2]; exact h3⟩ hb
      · rcases h3 with ⟨h3, _⟩ | h3
        · exact absurd ⟨b1, by rw [← h3]; exact h2⟩ ha
        · exact .inr (.inr (.inl ⟨h1, b1, b2, h2, h3, h4⟩))
    · rcases h2 with h2 | h2
      · exact absurd (.inl h2) h3
      · exact .inr (.inr (.inr ⟨h1, h2, fun h => h3 (.inr h)⟩))
  · rintro (⟨h0, h1, h2⟩ | ⟨h1, h2, h3⟩ | ⟨h1, b1, b2, h2, h3, h4⟩ | ⟨h1, h2, h3⟩)
    · exact .inr (.inl ⟨h2, ab, bb, .inl ⟨h1, rfl⟩, .inl ⟨h1, rfl⟩, h0⟩)
    · exact .inl ⟨h1, .inr h2, fun h => h.elim (fun e => hb (by rw [← e]; exact h2)) h3⟩
    · exact .inr (.inl ⟨h1, b1, b2, .inr h2, .inr h3, h4⟩)
    · exact .inr (.inr ⟨h1, .inr h2, fun h => h.elim (fun e => ha (by rw [← e]; exact h2)) h3⟩)

theorem mem_merge : ∀ (n : Nat) (L1 L2 : List F), L1.length + L2.length = n → okF L1 → okF L2 → ∀ x, x ∈ mergeC L1 L2 ↔ says L1 L2 x := by
  intro n
  induction n using Nat.strongRecOn with
  | ind n ih =>
    intro L1 L2 hn h1 h2 x
    match L1, L2 with
    | [], [] => simp [mergeC, says, inP_nil]
    | [], b :: ys =>
      rw [mergeC, List.mem_cons, says_right h2 (inP_nil _), ih _ (by simp at hn ⊢; omega) [] ys rfl h1 h2.tail]
    | a :: xs, [] =>
      rw [mergeC, List.mem_cons, says_left h1 (inP_nil _), ih _ (by simp at hn ⊢; omega) xs [] rfl h1.tail h2]
    | a :: xs, b :: ys =>
      rw [mergeC]
      split
      · rename_i hb
        have hnb : ¬ inP (a :: xs) b.1 := not_inP fun y hy => by
          rcases List.mem_cons.1 hy with rfl | hy
          · exact hb
          · exact bl_trans hb (h1.head _ hy)
        rw [List.mem_cons, says_right h2 hnb, ih _ (by simp at hn ⊢; omega) (a :: xs) ys rfl h1 h2.tail]
      · split
        · rename_i _ ha
          have hna : ¬ inP (b :: ys) a.1 := not_inP fun y hy => by
            rcases List.mem_cons.1 hy with rfl | hy
            · exact ha
            · exact bl_trans ha (h2.head _ hy)
          rw [List.mem_cons, says_left h1 hna, ih _ (by simp at hn ⊢; omega) xs (b :: ys) rfl h1.tail h2]
        · rename_i hb ha
          have e : a.1 = b.1 := bl_tri (by simpa using ha) (by simpa using hb)
          rw [List.mem_append, says_both h1 h2 e, ih _ (by simp at hn ⊢; omega) xs ys rfl h1.tail h2.tail]
          by_cases hab : a.2 = b.2 <;> simp [hab]

theorem says_path {L1 L2 : List F} {x : C} (h : says L1 L2 x) : inP L1 x.1 ∨ inP L2 x.1 := by
  rcases h with ⟨_, h, _⟩ | ⟨_, b1, _, h, _⟩ | ⟨_, h, _⟩
  · exact .inr h
  · exact .inl ⟨b1, h⟩
  · exact .inl h

theorem merge_sorted : ∀ (n : Nat) (L1 L2 : List F), L1.length + L2.length = n → okF L1 → okF L2 → (mergeC L1 L2).Pairwise fun x y => bl x.1 y.1 = true := by
  intro n
  induction n using Nat.strongRecOn with
  | ind n ih =>
    intro L1 L2 hn h1 h2
    have key : ∀ (p : ByteArray) (M1 M2 : List F), M1.length + M2.length < n → okF M1 → okF M2 → (∀ x ∈ M1, bl p x.1 = true) → (∀ x ∈ M2, bl p x.1 = true) → ∀ y ∈ mergeC M1 M2, bl p y.1 = true := by
      intro p M1 M2 _ k1 k2 g1 g2 y hy
      rcases says_path ((mem_merge _ M1 M2 rfl k1 k2 y).1 hy) with ⟨b, hb⟩ | ⟨b, hb⟩
      · exact g1 _ hb
      · exact g2 _ hb
    match L1, L2 with
    | [], [] => simp [mergeC]
    | [], b :: ys =>
      rw [mergeC]
      exact List.pairwise_cons.2 ⟨key _ [] ys (by simp at hn ⊢; omega) h1 h2.tail (by simp) h2.head, ih _ (by simp at hn ⊢; omega) [] ys rfl h1 h2.tail⟩
    | a :: xs, [] =>
      rw [mergeC]
      exact List.pairwise_cons.2 ⟨key _ xs [] (by simp at hn ⊢; omega) h1.tail h2 h1.head (by simp), ih _ (by simp at hn ⊢; omega) xs [] rfl h1.tail h2⟩
    | a :: xs, b :: ys =>
      rw [mergeC]
      split
      · rename_i hb
        refine List.pairwise_cons.2 ⟨key _ (a :: xs) ys (by simp at hn ⊢; omega) h1 h2.tail (fun y hy => ?_) h2.head, ih _ (by simp at hn ⊢; omega) _ ys rfl h1 h2.tail⟩
        rcases List.mem_cons.1 hy with rfl | hy
        · exact hb
        · exact bl_trans hb (h1.head _ hy)
      · split
        · rename_i _ ha
          refine List.pairwise_cons.2 ⟨key _ xs (b :: ys) (by simp at hn ⊢; omega) h1.tail h2 h1.head (fun y hy => ?_), ih _ (by simp at hn ⊢; omega) xs _ rfl h1.tail h2⟩
          rcases List.mem_cons.1 hy with rfl | hy
          · exact ha
          · exact bl_trans ha (h2.head _ hy)
        · rename_i hb ha
          have e : a.1 = b.1 := bl_tri (by simpa using ha) (by simpa using hb)
          have hr := ih _ (by simp at hn ⊢; omega) xs ys rfl h1.tail h2.tail
          by_cases hab : a.2 = b.2
          · simp [hab]; simpa using hr
          · simp only [hab, ne_eq, not_false_eq_true, if_true, List.cons_append, List.nil_append]
            exact List.pairwise_cons.2 ⟨key _ xs ys (by simp at hn ⊢; omega) h1.tail h2.tail h1.head (by rw [e]; exact h2.head), hr⟩

theorem sorted_unique : ∀ {l m : List C}, (l.Pairwise fun x y => bl x.1 y.1 = true) → (m.Pairwise fun x y => bl x.1 y.1 = true) → (∀ x, x ∈ l ↔ x ∈ m) → l = m
  | [], [], _, _, _ => rfl
  | [], y :: m, _, _, h => by have := (h y).2 List.mem_cons_self; cases this
  | x :: l, [], _, _, h => by have := (h x).1 List.mem_cons_self; cases this
  | x :: l, y :: m, hl, hm, h => by
    obtain ⟨a1, a2⟩ := List.pairwise_cons.1 hl
    obtain ⟨b1, b2⟩ := List.pairwise_cons.1 hm
    have hxy : x = y := by
      rcases List.mem_cons.1 ((h x).1 List.mem_cons_self) with e | hx
      · exact e
      · rcases List.mem_cons.1 ((h y).2 List.mem_cons_self) with e | hy
        · exact e.symm
        · have := bl_trans (b1 _ hx) (a1 _ hy)
          rw [bl_irrefl] at this; cases this
    subst hxy
    rw [sorted_unique a2 b2 fun z => ?_]
    constructor
    · intro hz
      rcases List.mem_cons.1 ((h z).1 (List.mem_cons_of_mem _ hz)) with e | h'
      · subst e; have := a1 _ hz; rw [bl_irrefl] at this; cases this
      · exact h'
    · intro hz
      rcases List.mem_cons.1 ((h z).2 (List.mem_cons_of_mem _ hz)) with e | h'
      · subst e; have := b1 _ hz; rw [bl_irrefl] at this; cases this
      · exact h'

/-- a sorted permutation of changes, one a path, is what has these changes in order -/
theorem perm_sorted_eq {d d' : Array C} (hp : PermIn 0 d.size d d') (hs : SortedIn (ltOf cfC) 0 d.size d') (hnd : (d.toList.map (·.1)).Nodup) {M : List C}
    (hM : M.Pairwise fun x y => bl x.1 y.1 = true) (hmem : ∀ x, x ∈ M ↔ x ∈ d.toList) : d'.toList = M := by
  obtain ⟨hz, _, hperm⟩ := hp
  have e1 : (d'.extract 0 d.size).toList = d'.toList := by rw [← hz]; simp
  have e2 : (d.extract 0 d.size).toList = d.toList := by simp
  rw [e1, e2] at hperm
  have hnd' : (d'.toList.map (·.1)).Nodup := (hperm.map _).nodup_iff.2 hnd
  refine sorted_unique ?_ hM fun x => ?_
  · rw [List.pairwise_iff_getElem]
    intro i j hi hj hij
    have h1 := hs i j (Nat.zero_le _) hij (by simpa [hz] using hj)
    rw [ltC] at h1
    have gi : d'[i]! = d'.toList[i] := by simp at hi ⊢; simp [hi]
    have gj : d'[j]! = d'.toList[j] := by simp at hj ⊢; simp [hj]
    rw [gi, gj] at h1
    cases h2 : bl d'.toList[i].1 d'.toList[j].1
    · have e := bl_tri h2 h1
      exfalso
      have hp := List.pairwise_iff_getElem.1 hnd' i j (by simpa using hi) (by simpa using hj) hij
      simp only [List.getElem_map] at hp
      exact hp e
    · rfl
  · rw [hmem]; exact hperm.mem_iff
end Go.Proofs.YtmkicfjcgbfaaaaGreat
namespace Go.Proofs
open Go.Shelf Go.RowKit Go.Lib Go.Sort
namespace YtmkicfjcgbfaaaaGreat
/-- a property, its items' slice told apart -/
abbrev SPr := Pr × (Option Addr × Nat × Nat)
instance : Inhabited SPr := ⟨(⟨⟨#[]⟩, Vl.mk 0 0 0 ⟨#[]⟩ []⟩, none, 0, 0)⟩
def spP (x : SPr) : Pr × Value := (x.1, .slice x.2.1 x.2.2.1 x.2.2.2)
def spV (x : SPr) : List Value := prV (spP x)
theorem sp_one (x : SPr) : ∀ v ∈ spV x, v.oneCell' = true := prV_one (spP x) ⟨_, _, _, rfl⟩
def cfS (x y : SPr) : Int := Lib.compareBytes x.1.name.data.toList y.1.name.data.toList
set_option maxHeartbeats 1000000 in
theorem with1_any (x y : SPr) (W : World) : Calls Tryz.prog 180 #[.agg (spV x).toArray, .agg (spV y).toArray] W fun e w' => e = .returned (.int .i64 (cfS x y)) ∧ ∃ q os', w' = grow (W.drewN q) os' := by
  have hcon := fun W' => Any.strings_Compare Tryz.lays106 x.1.name y.1.name W'
  change ∀ W', Calls Tryz.prog 181 _ _ _ at hcon
  unfold cfS spV prV vlV spP
  generalize Lib.compareBytes x.1.name.data.toList y.1.name.data.toList = r at hcon ⊢
  go_enter Tryz.func180, Tryz.ntmps180
  go_wp2_with (go_at_call 181; refine (hcon _).mono ?_; rintro e w' ⟨rfl, rfl⟩)
  go_ret
  exact ⟨rfl, 0, _, by rw [alloc_eq_grow, alloc_eq_grow, grow_grow]; rfl⟩
theorem ltS (x y : SPr) : ltOf cfS x y = bl x.1.name y.1.name := by
  unfold ltOf cfS
  rw [← tl_data, ← tl_data, Bool.eq_iff_iff, bl_lt]
  simp [cmpB_neg]
theorem swoS : SWO (ltOf cfS) where
  irrefl x := by rw [ltS]; exact bl_irrefl _
  trans x y z h1 h2 := by rw [ltS] at *; exact bl_trans h1 h2
  ntrans x y z h1 h2 := by
    rw [ltS] at *
    cases h : bl x.1.name z.1.name
    · rfl
    · exfalso
      cases h3 : bl z.1.name y.1.name
      · have e := bl_tri h3 h2
        rw [e, h1] at h; cases h
      · have := bl_trans h h3; rw [h1] at this; cases this
theorem cmpLaysS (blk off size : Nat) (w : World) : CmpLays Tryz.prog 180 #[] spV 6 cfS blk off size w :=
  fun _ _ _ _ x y => with1_any x y _
end YtmkicfjcgbfaaaaGreat
end Go.Proofs
namespace Go.Proofs.YtmkicfjcgbfaaaaGreat
open Go.RowKit

set_option maxHeartbeats 400000 in
theorem wo1_any (x : Pr) (u : Value) (P : Nat) (s : ByteArray) (w : World) (hP : P < w.heap.size) (hc : w.cell? ⟨P, 0, none⟩ = some (.string s)) :
    Calls Tryz.prog 190 #[AP (x, u), .pointer (some ⟨P, 0, none⟩)] w fun e w' => e = .returned (.bool (decide (x.name = s))) ∧ Below w.heap.size w w' := by
  rw [dec_toList]
  have hc' : ∀ o, (w.alloc o).cell? ⟨P, 0, none⟩ = some (.string s) := fun o => (World.cell?_alloc_lt _ _ _ hP).trans hc
  dsimp only [AP]
  go_enter Tryz.func190, Tryz.ntmps190
  go_wp2_with fail
  go_ret
  exact ⟨rfl, (Below.refl _ _).alloc (Nat.le_refl _) _⟩

set_option maxHeartbeats 2000000 in
theorem indexW_any (l : List Pr) (A : Option Addr) (n c P : Nat) (s : ByteArray) (w : World) (B : Nat) (hB : B ≤ w.heap.size) (hP : P < w.heap.size) (hPc : w.cell? ⟨P, 0, none⟩ = some (.string s)) (h : RPr w B (.slice A n c) l) :
    Calls Tryz.prog 166 #[.slice A n c, .func (.func 190) #[] #[.pointer (some ⟨P, 0, none⟩)]] w fun e w' => e = .returned (.int .i64 (nmOf l s)) ∧ Below w.heap.size w w' := by
  obtain ⟨V, hV⟩ : ∃ V, V = nmOf l s := ⟨_, rfl⟩
  rw [← hV]
  have HV : Hid (V = nmFrom (l.drop 0) s 0) := hV
  have HN := Lib.hid h.len
  have H := Lib.hid h
  have HPC := Lib.hid hPc
  clear h hV hPc
  go_enter Tryz.func166, Tryz.ntmps166
  go_wp2_with fail
  go_loopg [8] n (fun gg s8 wr => ∃ k : Nat, k + gg = n ∧ s8 = .int .i64 (k : Int) ∧ Hid (V = nmFrom (l.drop k) s k) ∧ Hid (Below w.heap.size w wr))
  case atStart => exact ⟨0, by omega, rfl, HV, Below.refl _ _⟩
  case round =>
    obtain ⟨k, hkg, rfl, hno, hbel⟩ := hrel
    have hbg : n * 80 ≤ 140737488351232 := HN.out.2.2
    by_cases hk : k < n
    · obtain ⟨x, hx⟩ : ∃ x, l[k]? = some x := ⟨_, List.getElem?_eq_getElem (by have := HN.out.1; omega)⟩
      obtain ⟨b, off, Av, nv, cv, rfl, hbb, g0, g1, g2, g3, g4, g5, _⟩ := (H.out.below (hbel.out.mono hB)).at_ hx
      have hst := hno.out.trans (nmFrom_at hx s)
      have HX := Lib.hid (wo1_any x (.slice Av nv cv) P s wr (Nat.lt_of_lt_of_le hP hbel.out.size) ((hbel.out.cell (p := ⟨P, 0, none⟩) hP).trans HPC.out))
      dsimp only [AP] at HX
      have j0 : (0 : Int) ≤ (k : Int) := by omega
      have j1 : (k : Int) < (n : Int) := by omega
      clear hx
      obtain ⟨q, hq⟩ : ∃ q, decide (x.name = s) = q := ⟨_, rfl⟩
      rw [hq] at HX
      cases q
      · have HS := Lib.hid (hst.trans (if_neg (of_decide_eq_false hq)))
        clear hst hq
        go_wp2_with fail
        refine HX.out.mono ?_
        rintro e w2 ⟨rfl, hb⟩
        have HB2 : Hid (Below w.heap.size w w2) := hbel.out.trans (hb.mono hbel.out.size)
        clear hb
        go_wp2_with fail
        go_roundg (n - (k + 1))
        case measure => omega
        case rel => exact ⟨k + 1, by omega, by go_num, HS, HB2⟩
      · have HS := Lib.hid (hst.trans (if_pos (of_decide_eq_true hq)))
        clear hst hq
        go_wp2_with fail
        refine HX.out.mono ?_
        rintro e w2 ⟨rfl, hb⟩
        have HB2 : Hid (Below w.heap.size w w2) := hbel.out.trans (hb.mono hbel.out.size)
        clear hb
        go_wp2_with fail
        go_ret
        exact ⟨by rw [HS.out]; rfl, HB2.out⟩
    · obtain rfl : n = k := by omega
      have HZ : Hid (V = -1) := hno.out.trans (by rw [List.drop_of_length_le (by rw [← HN.out.1]; exact Nat.le_refl _)]; rfl)
      go_wp2_with fail
      go_ret
      exact ⟨by rw [HZ.out]; rfl, hbel.out⟩

theorem nmFrom_first : ∀ (l : List Pr) (s : ByteArray) (k : Nat), (nmFrom l s k = -1 ∧ ∀ x ∈ l, x.name ≠ s) ∨ ∃ (i : Nat) (x : Pr), nmFrom l s k = ((k + i : Nat) : Int) ∧ l[i]? = some x ∧ x.name = s ∧ ∀ y ∈ l.take i, y.name ≠ s
  | [], _, _ => .inl ⟨by rw [nmFrom], by simp⟩
  | x :: l, s, k => by
    rw [nmFrom]
    by_cases h : x.name = s
    · rw [if_pos h]; exact .inr ⟨0, x, rfl, rfl, h, by simp⟩
    · rw [if_neg h]
      rcases nmFrom_first l s (k + 1) with ⟨h1, h2⟩ | ⟨i, y, h1, h2, h3, h4⟩
      · exact .inl ⟨h1, fun y hy => by
          rcases List.mem_cons.1 hy with rfl | hy
          · exact h
          · exact h2 y hy⟩
      · refine .inr ⟨i + 1, y, by rw [h1]; congr 1; omega, by simpa using h2, h3, fun z hz => ?_⟩
        rw [List.take_succ_cons] at hz
        rcases List.mem_cons.1 hz with rfl | hz
        · exact h
        · exact h4 z hz
/-- properties without a name -/
def keepP (M : List (Pr × Value)) (s : ByteArray) : List (Pr × Value) := M.filter fun x => !decide (x.1.name = s)
theorem keepP_all {M : List (Pr × Value)} {s : ByteArray} (h : ∀ x ∈ M, x.1.name ≠ s) : keepP M s = M := List.filter_eq_self.2 fun x hx => by simp [h x hx]
theorem keepP_add {M : List (Pr × Value)} {s : ByteArray} {j : Nat} {x : Pr × Value} (h : M[j]? = some x) : keepP (M.take (j + 1)) s = if x.1.name = s then keepP (M.take j) s else keepP (M.take j) s ++ [x] := by
  unfold keepP
  rw [List.take_add_one, h, List.filter_append]
  by_cases e : x.1.name = s
  · simp [e]
  · simp [e]
theorem keepP_len (M : List (Pr × Value)) (s : ByteArray) : (keepP M s).length ≤ M.length := List.length_filter_le _ _

def CRp (W : World) (g : Nat) (Y : List (Pr × Value)) : Prop := ∀ k x, Y[k]? = some x → ∀ j u, (prV x)[j]? = some u → W.cell? ⟨g, k * 6 + j, none⟩ = some u
def FRp (W : World) (g cap : Nat) : Prop := ∃ cur, Blk W g 116 cur ∧ cap * 6 ≤ cur.size
theorem CRp.below {W W' : World} {B g : Nat} {Y : List (Pr × Value)} (h : CRp W g Y) (hb : Below B W W') (hg : g < B) : CRp W' g Y := fun k x hx j u hu => (hb.cell (p := ⟨g, k * 6 + j, none⟩) hg).trans (h k x hx j u hu)
theorem FRp.below {W W' : World} {B g n : Nat} (h : FRp W g n) (hb : Below B W W') (hg : g < B) : FRp W' g n := by
  obtain ⟨cur, h1, h2⟩ := h
  exact ⟨cur, h1.below hb hg, h2⟩
theorem FRp.lt {W : World} {g n : Nat} (h : FRp W g n) : g < W.heap.size := by
  obtain ⟨cur, h1, h2⟩ := h
  exact h1.lt
theorem FRp.setCells {W : World} {g n o : Nat} {vs : List Value} (h : FRp W g n) : FRp (W.setCells g o vs) g n := by
  obtain ⟨cur, h1, h2⟩ := h
  obtain ⟨cs', k1, k2, _⟩ := Blk.setCells vs o W _ h1
  exact ⟨cs', k1, by omega⟩
theorem CRp.put {W : World} {g cap i : Nat} {Y : List (Pr × Value)} (h : CRp W g Y) (hF : FRp W g cap) (hi : i < cap) (x : Pr × Value) : CRp (W.setCells g (i * 6) (prV x)) g (Y.set i x) := by
  obtain ⟨cur, h1, h2⟩ := hF
  intro k y hy j u hu
  have hj : j < 6 := by have := (List.getElem?_eq_some_iff.1 hu).1; rwa [prV_len] at this
  rw [List.getElem?_set] at hy
  by_cases hk : i = k
  · subst hk
    rw [if_pos rfl] at hy
    have hxy : x = y := by
      split at hy
      · injection hy
      · cases hy
    subst hxy
    obtain ⟨hjl, rfl⟩ := List.getElem?_eq_some_iff.1 hu
    have := World.cell?_setCells_in g (prV x) (i * 6) W (fun j hj => by
      rw [prV_len] at hj
      rw [h1.cell, Array.getElem?_eq_getElem (by omega)]; rfl) j hjl
    exact this
  · rw [if_neg hk] at hy
    rw [World.cell?_setCells_out g (prV x) (i * 6) W _ (fun _ _ => by
      rw [prV_len]
      show k * 6 + j < i * 6 ∨ i * 6 + 6 ≤ k * 6 + j
      omega)]
    exact h k y hy j u hu
theorem gb_below {w wr w2 : World} {r : Option Nat} (h : w.grownBy wr r) (hb : Below wr.heap.size wr w2) : w.grownBy w2 r :=
  ⟨hb.os.trans h.os, hb.tape.trans h.tape, hb.output.trans h.output, Nat.le_trans h.size hb.size, fun k hk hne => (hb.block k (Nat.lt_of_lt_of_le hk h.size)).trans (h.block k hk hne)⟩
theorem gb_setCells {w wr : World} {g : Nat} (h : w.grownBy wr (some g)) (o : Nat) (vs : List Value) : w.grownBy (wr.setCells g o vs) (some g) := by
  obtain ⟨r1, r2, r3⟩ := setCells_rest vs o g wr
  exact ⟨r1.trans h.os, r3.trans h.tape, r2.trans h.output, by rw [setCells_size]; exact h.size, fun k hk hne => (setCells_other vs o g k wr fun e => hne (by rw [e])).trans (h.block k hk hne)⟩
theorem gb_base {w wr : World} {g base : Nat} (h : w.grownBy wr (some g)) (hg : base ≤ g) (hb : base ≤ w.heap.size) : Below base w wr :=
  ⟨h.os, h.tape, h.output, h.size, fun k hk => h.block k (by omega) (fun e => by injection e with e; omega)⟩
theorem setCells_below2 {B b : Nat} (hB : B ≤ b) : ∀ (vs : List Value) (o : Nat) (a w : World), Below B a w → Below B a (w.setCells b o vs)
  | [], _, _, _, h => h
  | v :: r, o, a, _, h => setCells_below2 hB r (o + 1) a _ (h.setCell (p := ⟨b, o, none⟩) hB v)
theorem prs_cells : ∀ Y : List (Pr × Value), (Y.flatMap prV).length = Y.length * 6
  | [] => rfl
  | x :: Y => by rw [List.flatMap_cons, List.length_append, prs_cells Y, prV_len, List.length_cons]; omega
theorem CRp.take {W : World} {g : Nat} {Y : List (Pr × Value)} {cur : Array Value} (h : CRp W g Y) (hb : Blk W g 116 cur) (_hs : Y.length * 6 ≤ cur.size) : cur.toList.take (Y.length * 6) = Y.flatMap prV := by
  have hl : (Y.flatMap prV).length = Y.length * 6 := prs_cells Y
  apply List.ext_getElem?
  intro m
  by_cases hm : m < Y.length * 6
  · rw [List.getElem?_take, if_pos hm]
    obtain ⟨x, hx⟩ : ∃ x, Y[m / 6]? = some x := ⟨_, List.getElem?_eq_getElem (by omega)⟩
    have h4 := fm_get prV 6 prV_len Y (m / 6) (m % 6) x hx (by omega)
    obtain ⟨u, hu⟩ : ∃ u, (prV x)[m % 6]? = some u := ⟨_, List.getElem?_eq_getElem (by rw [prV_len]; omega)⟩
    have := h _ x hx _ u hu
    rw [hb.cell] at this
    rw [show m / 6 * 6 + m % 6 = m by omega] at h4 this
    rw [h4, hu, ← this]; simp
  · rw [List.getElem?_take, if_neg hm, List.getElem?_eq_none (by omega)]
theorem clearP_run (W : World) (g i n cap : Nat) (cur : Array Value) (h1 : Blk W g 116 cur) (h2 : n * 6 ≤ cur.size) (hi : i < n) (ty : TypeId) :
    (Builtin.clear_ #[36] ty #[.slice (some ⟨g, i * 6, none⟩) (n - i) cap]).run Tryz.prog W = .ok (.tuple #[]) (W.setCells g (i * 6) (Builtin.zeroCells pZ.cells (n - i)).toList) := by
  have hv : ∀ w, (zeroValue 116).run Tryz.prog w = .ok pZ w := fun w => by
    obtain ⟨i0, hi0, hz0, hz1, hz2⟩ := info_parts prop_info
    simp [zeroValue, typeInfo, hi0, hz0]
  have hl : (Builtin.zeroCells pZ.cells (n - i)).toList.length = (n - i) * 6 := by
    simp [Builtin.zeroCells, pZ, Value.cells]
  have hst := run_storeCells_cells (P := Tryz.prog) g (i * 6) (Builtin.zeroCells pZ.cells (n - i)).toList 0 W
    (fun j hj => by
      rw [hl] at hj
      rw [h1.cell, Array.getElem?_eq_getElem (by omega)]; rfl)
    (fun j _ => h1.frozen _)
    (fun v hv => by
      simp only [Builtin.zeroCells, Array.toList_map, List.mem_map] at hv
      obtain ⟨q, _, rfl⟩ := hv
      have hq : q % pZ.cells.size = 0 ∨ q % pZ.cells.size = 1 ∨ q % pZ.cells.size = 2 ∨ q % pZ.cells.size = 3 ∨ q % pZ.cells.size = 4 ∨ q % pZ.cells.size = 5 := by
        show q % 6 = 0 ∨ q % 6 = 1 ∨ q % 6 = 2 ∨ q % 6 = 3 ∨ q % 6 = 4 ∨ q % 6 = 5
        omega
      rcases hq with e | e | e | e | e | e <;> rw [e] <;> rfl)
  simp only [Nat.add_zero] at hst
  obtain ⟨m, hm⟩ : ∃ m, n - i = m + 1 := ⟨n - i - 1, by omega⟩
  rw [hm] at hst ⊢
  simp [Builtin.clear_, run_underlying Tryz.underlying36, hv, hst]
end Go.Proofs.YtmkicfjcgbfaaaaGreat
namespace Go.Proofs.YtmkicfjcgbfaaaaGreat
open Go.RowKit

/-- properties in a block of the call's own, which may be greater than the slice's room -/
def RowP (w : World) (base : Nat) (A : Option Addr) (c : Nat) (M : List (Pr × Value)) : Prop := M.length ≤ c ∧ ((A = none ∧ c = 0) ∨ ∃ g, A = some ⟨g, 0, none⟩ ∧ base ≤ g ∧ CRp w g M ∧ FRp w g c)
/-- what DeleteFunc leaves -/
def DelWR (M : List (Pr × Value)) (s : ByteArray) (A : Option Addr) (c base : Nat) (w : World) (e : Ending) (w' : World) : Prop := e = .returned (.slice A (keepP M s).length c) ∧ RowP w' base A c (keepP M s) ∧ w.grownBy w' (A.map Addr.block)

set_option maxRecDepth 100000 in
set_option maxHeartbeats 4000000 in
theorem delW_any (M : List (Pr × Value)) (A : Option Addr) (n c P base : Nat) (s : ByteArray) (w : World) (hown : RowP w base A c M) (hn : n = M.length) (hbig : n * 80 ≤ 140737488351232) (hB : base ≤ w.heap.size)
    (hP : P < base) (hPc : w.cell? ⟨P, 0, none⟩ = some (.string s)) (hrp : RPr w w.heap.size (.slice A n c) (M.map Prod.fst)) (hs1 : ∀ x ∈ M, ∃ A n c, x.2 = .slice A n c) :
    Calls Tryz.prog 189 #[.slice A n c, .func (.func 190) #[] #[.pointer (some ⟨P, 0, none⟩)]] w (DelWR M s A c base w) := by
  have hent : ∀ args w, (callFunc 190 args).run Tryz.prog w = .ok (.enter 190 args) w := enters_of Tryz.func190 (by kernel_rfl) rfl
  have hnc : n ≤ c := hrp.len.2.1
  have HI := Lib.hid (indexW_any (M.map Prod.fst) A n c P s w w.heap.size (Nat.le_refl _) (Nat.lt_of_lt_of_le hP hB) hPc hrp)
  have HFI := Lib.hid (nmFrom_first (M.map Prod.fst) s 0)
  obtain ⟨ii, hii⟩ : ∃ ii, ii = nmOf (M.map Prod.fst) s := ⟨_, rfl⟩
  have hii0 : ii = nmFrom (M.map Prod.fst) s 0 := hii
  rw [← hii] at HI
  rw [← hii0] at HFI
  have HO := Lib.hid hown
  have HN := Lib.hid hn
  have HPC := Lib.hid hPc
  have HS := Lib.hid hs1
  clear hown hn hPc hrp hs1 hii hii0
  go_enter Tryz.func189, Tryz.ntmps189
  go_wp2_with fail
  refine HI.out.mono ?_
  rintro e w1 ⟨rfl, hb1⟩
  have HB1 : Hid (∀ r, w.grownBy w1 r) := fun r => ⟨hb1.os, hb1.tape, hb1.output, hb1.size, fun k hk _ => hb1.block k hk⟩
  have HO1 : Hid (RowP w1 base A c M) := by
    refine ⟨HO.out.1, ?_⟩
    rcases HO.out.2 with h | ⟨g, h1, h2, h3, h4⟩
    · exact .inl h
    · exact .inr ⟨g, h1, h2, h3.below hb1 h4.lt, h4.below hb1 h4.lt⟩
  clear hb1 HI
  rcases HFI.out with ⟨hm1, hall⟩ | ⟨i0, x0, hm1, hx0, hx0s, hbef⟩
  · have HK : Hid (keepP M s = M) := keepP_all fun x hx => hall x.1 (List.mem_map_of_mem hx)
    clear hall HFI
    subst hm1
    go_wp2_with fail
    go_ret
    exact ⟨by rw [HK.out, ← HN.out]; rfl, by rw [HK.out]; exact HO1.out, HB1.out _⟩
  · obtain ⟨y0, hy0, rfl⟩ : ∃ y, M[i0]? = some y ∧ y.1 = x0 := by
      rw [List.getElem?_map] at hx0
      cases hm : M[i0]? with
      | none => rw [hm] at hx0; cases hx0
      | some y => rw [hm] at hx0; exact ⟨y, rfl, Option.some.inj hx0⟩
    have hi0 : i0 < n := by rw [HN.out]; exact (List.getElem?_eq_some_iff.1 hy0).1
    have HK0 : Hid (keepP (M.take (i0 + 1)) s = M.take i0) := by
      show _ = _
      rw [keepP_add hy0, if_pos hx0s]
      refine keepP_all fun x hx => hbef x.1 ?_
      rw [← List.map_take]; exact List.mem_map_of_mem hx
    rw [Nat.zero_add] at hm1
    subst hm1
    have hpos : 0 < n := Nat.lt_of_le_of_lt (Nat.zero_le _) hi0
    have hm1' : ((i0 : Int) == -1) = false := beq_eq_false_iff_ne.2 (by omega)
    obtain ⟨g, hA, hge, HCR, HFR⟩ : ∃ g, A = some ⟨g, 0, none⟩ ∧ base ≤ g ∧ Hid (CRp w1 g M) ∧ Hid (FRp w1 g c) := by
      rcases HO1.out.2 with h | ⟨g, h1, h2, h3, h4⟩
      · omega
      · exact ⟨g, h1, h2, h3, h4⟩
    subst hA
    clear hy0 hx0s hbef hx0 HFI HO HO1
    go_wp2_with fail
    go_loopg [5, 6] (n - (i0 + 1)) (fun gg s5 s6 wr => ∃ (i j : Nat) (Y : List (Pr × Value)), j + gg = n ∧ i < j ∧ s5 = .int .i64 (i : Int) ∧ s6 = .int .i64 (j : Int) ∧ Y.length = n ∧ Hid (Y.take i = keepP (M.take j) s) ∧ Hid (∀ k, j ≤ k → Y[k]? = M[k]?) ∧ Hid (CRp wr g Y) ∧ Hid (FRp wr g c) ∧ Hid (w.grownBy wr (some g)))
    case atStart => exact ⟨i0, i0 + 1, M, by omega, by omega, rfl, by go_num, HN.out.symm, HK0.out.symm, fun _ _ => rfl, HCR, HFR, HB1.out _⟩
    case round =>
      obtain ⟨i, j, Y, hjg, hij, rfl, rfl, hYn, hsub, htl, hCR, hFR, hgr⟩ := hrel
      have hbel : Hid (Below base w wr) := gb_base hgr.out hge hB
      have j0 : (0 : Int) ≤ (j : Int) := by omega
      have j3 : (0 : Int) ≤ (i : Int) := by omega
      have hgW := hFR.out.lt
      have hzB := hbel.out.size
      by_cases hj : j < n
      · obtain ⟨⟨x, xv⟩, hx⟩ : ∃ x, Y[j]? = some x := ⟨_, List.getElem?_eq_getElem (by omega)⟩
        have hxL : M[j]? = some (x, xv) := (htl.out j (Nat.le_refl _)).symm.trans hx
        obtain ⟨Ax, nx, cx, rfl⟩ : ∃ A n c, xv = .slice A n c := HS.out _ (List.mem_of_getElem? hxL)
        have hcc := hCR.out j _ hx
        have c0 : wr.cell? ⟨g, j * 6, none⟩ = some (.string x.name) := hcc 0 _ rfl
        have c1 : wr.cell? ⟨g, j * 6 + 1, none⟩ = some (.int .i64 x.val.kind) := hcc 1 _ rfl
        have c2 : wr.cell? ⟨g, j * 6 + 2, none⟩ = some (.int .i64 x.val.int_) := hcc 2 _ rfl
        have c3 : wr.cell? ⟨g, j * 6 + 3, none⟩ = some (.int .i64 x.val.to_) := hcc 3 _ rfl
        have c4 : wr.cell? ⟨g, j * 6 + 4, none⟩ = some (.string x.val.text) := hcc 4 _ rfl
        have c5 : wr.cell? ⟨g, j * 6 + 5, none⟩ = some (.slice Ax nx cx) := hcc 5 _ rfl
        have j1 : (j : Int) < (n : Int) := by omega
        have HX : Hid (∀ W, Below base w W → Calls _ _ _ W _) := fun W hW => wo1_any x (.slice Ax nx cx) P s W (Nat.lt_of_lt_of_le (Nat.lt_of_lt_of_le hP hB) hW.size) ((hW.cell (p := ⟨P, 0, none⟩) hP).trans HPC.out)
        dsimp only [AP] at HX
        have HKA := Lib.hid (keepP_add (s := s) hxL)
        dsimp only at HKA
        obtain ⟨q, hq⟩ : ∃ q, decide (x.name = s) = q := ⟨_, rfl⟩
        rw [hq] at HX
        have HQ := Lib.hid hq
        clear hx hxL hcc hq
        go_wp2_with fail
        refine (HX.out _ (hbel.out.alloc (by omega) _)).mono ?_
        rintro e w2 ⟨rfl, hb2⟩
        have hz2 := hb2.size
        simp only [World.size_alloc] at hz2
        have HB12 : Hid (Below wr.heap.size wr w2) := ((Below.refl _ _).alloc (Nat.le_refl _) _).trans (hb2.mono (by simp))
        have HG2 : Hid (w.grownBy w2 (some g)) := gb_below hgr.out HB12.out
        have HXB : Hid (Blk w2 wr.heap.size 116 #[.string x.name, .int .i64 x.val.kind, .int .i64 x.val.int_, .int .i64 x.val.to_, .string x.val.text, .slice Ax nx cx]) := (Blk.new wr _ _).below hb2 (by simp)
        have HCR2 := Lib.hid (hCR.out.below HB12.out hgW)
        have HFR2 := Lib.hid (hFR.out.below HB12.out hgW)
        clear hb2 c0 c1 c2 c3 c4 c5
        cases q
        · have x0 := HXB.out.cell 0
          have x1 := HXB.out.cell 1
          have x2 := HXB.out.cell 2
          have x3 := HXB.out.cell 3
          have x4 := HXB.out.cell 4
          have x5 := HXB.out.cell 5
          obtain ⟨⟨y, yv⟩, hy⟩ : ∃ y, Y[i]? = some y := ⟨_, List.getElem?_eq_getElem (by omega)⟩
          have hcc := HCR2.out i _ hy
          have c0 : w2.cell? ⟨g, i * 6, none⟩ = some (.string y.name) := hcc 0 _ rfl
          have c1 : w2.cell? ⟨g, i * 6 + 1, none⟩ = some (.int .i64 y.val.kind) := hcc 1 _ rfl
          have c2 : w2.cell? ⟨g, i * 6 + 2, none⟩ = some (.int .i64 y.val.int_) := hcc 2 _ rfl
          have c3 : w2.cell? ⟨g, i * 6 + 3, none⟩ = some (.int .i64 y.val.to_) := hcc 3 _ rfl
          have c4 : w2.cell? ⟨g, i * 6 + 4, none⟩ = some (.string y.val.text) := hcc 4 _ rfl
          have c5 : w2.cell? ⟨g, i * 6 + 5, none⟩ = some yv := hcc 5 _ rfl
          obtain ⟨cur, hcur, hcs⟩ := HFR2.out
          have f0 := hcur.frozen (i * 6)
          have f1 := hcur.frozen (i * 6 + 1)
          have f2 := hcur.frozen (i * 6 + 2)
          have f3 := hcur.frozen (i * 6 + 3)
          have f4 := hcur.frozen (i * 6 + 4)
          have f5 := hcur.frozen (i * 6 + 5)
          have j4 : (i : Int) < (n : Int) := by omega
          have hYi : i < Y.length := by omega
          have hic : i < c := by omega
          clear hy hcur hcs hcc
          go_wp2_with fail
          go_roundg (n - (j + 1))
          case measure => omega
          case rel =>
            refine ⟨i + 1, j + 1, Y.set i (x, .slice Ax nx cx), by omega, by omega, by go_num, by go_num, by simpa using hYn, ?_, fun k hk => ?_, HCR2.out.put HFR2.out hic (x, .slice Ax nx cx), HFR2.out.setCells (o := i * 6) (vs := prV (x, .slice Ax nx cx)), gb_setCells HG2.out (i * 6) (prV (x, .slice Ax nx cx))⟩
            · show _ = _
              have e1 : (Y.set i (x, Value.slice Ax nx cx)).take (i + 1) = Y.take i ++ [(x, .slice Ax nx cx)] := by
                rw [List.take_add_one, List.getElem?_set, if_pos rfl, if_pos hYi, List.take_set_of_le (Nat.le_refl _)]
                rfl
              rw [e1, HKA.out, if_neg (of_decide_eq_false HQ.out), hsub.out]
            · rw [List.getElem?_set, if_neg (by omega)]
              exact htl.out k (by omega)
        · go_wp2_with fail
          go_roundg (n - (j + 1))
          case measure => omega
          case rel => exact ⟨i, j + 1, Y, by omega, by omega, rfl, by go_num, hYn, (by show _ = _; rw [HKA.out, if_pos (of_decide_eq_true HQ.out)]; exact hsub.out), fun k hk => htl.out k (by omega), HCR2, HFR2, HG2⟩
      · obtain rfl : j = n := by omega
        have j4 : (i : Int) ≤ (j : Int) := by omega
        have j5 : (i : Int) ≤ (c : Int) := by omega
        have j5' : i ≤ c := by omega
        obtain ⟨cur, hcur, hcs⟩ := hFR.out
        have hclr := clearP_run wr g i j (c - i) cur hcur (by omega) hij
        obtain ⟨zs, hzs⟩ : ∃ zs, zs = (Builtin.zeroCells pZ.cells (j - i)).toList := ⟨_, rfl⟩
        rw [← hzs] at hclr
        have HCU := Lib.hid hcur
        have HCS := Lib.hid hcs
        clear hzs hcur hcs
        go_wp2_with fail
        go_ret
        have hF : Y.take i = keepP M s := by
          have := hsub.out
          rwa [HN.out, List.take_length] at this
        have hFl : (keepP M s).length = i := by rw [← hF, List.length_take]; omega
        have hcf : CRp wr g (keepP M s) := fun k x hx j u hu => by
          have hk := (List.getElem?_eq_some_iff.1 hx).1
          rw [← hF, List.getElem?_take, if_pos (by omega)] at hx
          exact hCR.out k x hx j u hu
        refine ⟨by rw [hFl]; rfl, ⟨by omega, .inr ⟨g, rfl, hge, fun k x hx j u hu => ?_, FRp.setCells ⟨cur, HCU.out, HCS.out⟩⟩⟩, gb_setCells hgr.out _ _⟩
        have hk := (List.getElem?_eq_some_iff.1 hx).1
        have hj := (List.getElem?_eq_some_iff.1 hu).1
        rw [prV_len] at hj
        exact (World.cell?_setCells_out g zs _ wr _ (fun _ _ => .inl (by show k * 6 + j < i * 6; omega))).trans (hcf k x hx j u hu)
end Go.Proofs.YtmkicfjcgbfaaaaGreat
namespace Go.Proofs
open Go.Shelf Go.RowKit Go.Lib Go.Sort
namespace YtmkicfjcgbfaaaaGreat
theorem grown_sortS {w : World} {g n : Nat} {os : Array Obj} (d : Array SPr) : w.grownBy (sortWorldK spV 6 w g 0 n d os) (some g) := by
  unfold sortWorldK putRowK
  refine ⟨rfl, rfl, rfl, by simp, fun k hk hne => ?_⟩
  rw [heap_grow_old _ _ (by simpa using hk)]
  have : g ≠ k := fun e => hne (by rw [e])
  simp [putRow, mapBlock, Sort.ahead, Array.getElem?_modify, this]
theorem heap_sortS {w : World} {g n : Nat} {os : Array Obj} {cur : Array Value} {T : TypeId} (d : Array SPr) (hb : w.heap[g]? = some (.cells cur T (0, 0))) :
    (sortWorldK spV 6 w g 0 n d os).heap[g]? = some (.cells (putCells id 0 (flatK spV 6 d) cur) T (0, 0)) := by
  unfold sortWorldK putRowK
  have hg : g < w.heap.size := (Array.getElem?_eq_some_iff.1 hb).1
  rw [heap_grow_old _ _ (by simpa using hg)]
  simp [putRow, mapBlock, Sort.ahead, Array.getElem?_modify, hb, onCells]
theorem sp_get (d : Array SPr) {k j : Nat} {x : Pr × Value} {u : Value} (hx : (d.toList.map spP)[k]? = some x) (hu : (prV x)[j]? = some u) : k < d.size ∧ j < 6 ∧ (flatK spV 6 d)[k * 6 + j]! = u := by
  have hj := (List.getElem?_eq_some_iff.1 hu).1
  rw [prV_len] at hj
  have hk := (List.getElem?_eq_some_iff.1 hx).1
  rw [List.length_map, Array.length_toList] at hk
  refine ⟨hk, hj, ?_⟩
  rw [get_flatK _ _ _ _ (by omega), show (k * 6 + j) / 6 = k by omega, show (k * 6 + j) % 6 = j by omega, getElem!_pos d k hk]
  rw [List.getElem?_map, Array.getElem?_toList, Array.getElem?_eq_getElem hk] at hx
  obtain rfl := Option.some.inj hx
  show (prV (spP d[k]))[j]! = u
  rw [List.getElem!_eq_getElem?_getD, hu]; rfl
theorem sortP_any (g c : Nat) (M : List SPr) (w : World) (hR : CRp w g (M.map spP)) (hF : FRp w g c) (hl : M.length ≤ c) (hn : M.length ≤ 100000) :
    Calls Tryz.prog 179 #[.slice (some ⟨g, 0, none⟩) M.length c, .func (.func 180) #[] #[]] w fun e w' => e = .returned (.tuple #[]) ∧
      ∃ d' : Array SPr, PermIn 0 M.length M.toArray d' ∧ SortedIn (ltOf cfS) 0 M.length d' ∧ CRp w' g (d'.toList.map spP) ∧ FRp w' g c ∧ w.grownBy w' (some g) := by
  obtain ⟨cur, hb, hs⟩ := hF
  have hH : HoldsK spV 6 w g 0 M.toArray := by
    intro j hj
    have hj' : j < M.length * 6 := by simpa using hj
    refine ⟨?_, hb.frozen _⟩
    obtain ⟨x, hx⟩ : ∃ x, (M.map spP)[j / 6]? = some x := ⟨_, List.getElem?_eq_getElem (by rw [List.length_map]; omega)⟩
    obtain ⟨u, hu⟩ : ∃ u, (prV x)[j % 6]? = some u := ⟨_, List.getElem?_eq_getElem (by rw [prV_len]; omega)⟩
    have h1 := hR _ _ hx _ _ hu
    obtain ⟨_, _, h2⟩ := sp_get M.toArray (by simpa using hx) hu
    rw [show j / 6 * 6 + j % 6 = j by omega] at h1 h2
    rw [Nat.zero_add, h2]; exact h1
  have eg : ∀ args w, (callFunc 180 args).run Tryz.prog w = .ok (.enter 180 args) w := enters_of Tryz.func180 (by kernel_rfl) rfl
  have h := AnyQ.slices_SortFunc Tryz.sortPr 6 Tryz.isAgg116 Tryz.sizeOf116 spV (fun _ => rfl) sp_one cfS swoS 180 #[] g 0 c M.toArray w eg (cmpLaysS g 0 _ w) hH hb.lt (by simp; omega)
  change Calls Tryz.prog 179 _ _ _ at h
  rw [List.size_toArray] at h
  refine h.mono ?_
  rintro e w' ⟨he, d', n, os, hp, hsd, rfl⟩
  have hh := heap_sortS (n := n) (os := os) d' hb
  have hds : d'.size = M.length := by have := hp.1; simpa using this
  refine ⟨he, d', hp, hsd, fun k x hx j u hu => ?_, ⟨_, hh, by simpa [putCells] using hs⟩, grown_sortS d'⟩
  obtain ⟨hk, hj, h2⟩ := sp_get d' hx hu
  rw [Blk.cell (t := 116) hh, ← h2]
  simp [putCells, show k * 6 + j < cur.size by omega, show k * 6 + j < d'.size * 6 by omega]
end YtmkicfjcgbfaaaaGreat
end Go.Proofs
