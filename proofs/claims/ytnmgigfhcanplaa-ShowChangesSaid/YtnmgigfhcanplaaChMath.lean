/-
  DERIVED. The plain law of ShowChanges: lists of files in order, the merge of two of them, and that a sorted permutation of the changes is the merge. Conditions: none. By an AI agent.
-/
import Derived.Sort.Walk0
import Derived.Sort.Statements
import Derived.Lib.Bytealg
import Derived.Shelf.SlSortCmp.Insertion
namespace Go.Proofs.Ytnmgigfhcanplaa
open Go.Sort

abbrev F := ByteArray × ByteArray
abbrev C := ByteArray × Int
/-- one path ahead of another -/
def bl (a b : ByteArray) : Bool := Op.bytesLess a.toList b.toList

theorem tl_data (a : ByteArray) : a.toList = a.data.toList := ByteArray.toList_eq a
theorem tl_inj {a b : ByteArray} (h : a.toList = b.toList) : a = b := by
  rw [tl_data, tl_data] at h
  cases a with | mk x => cases b with | mk y => cases x; cases y; simp at h; rw [h]
theorem bl_lt {a b : ByteArray} : bl a b = true ↔ a.toList < b.toList := by
  unfold bl; rw [bytesLess_eq]; simp
theorem bl_irrefl (a : ByteArray) : bl a a = false := by
  cases h : bl a a
  · rfl
  · exact absurd (bl_lt.1 h) (List.lt_irrefl _)
theorem bl_trans {a b c : ByteArray} (h1 : bl a b = true) (h2 : bl b c = true) : bl a c = true :=
  bl_lt.2 (List.lt_trans (bl_lt.1 h1) (bl_lt.1 h2))
theorem bl_asymm {a b : ByteArray} (h1 : bl a b = true) : bl b a = false := by
  cases h : bl b a
  · rfl
  · have := bl_trans h1 h; rw [bl_irrefl] at this; cases this
theorem bl_tri {a b : ByteArray} (h1 : bl a b = false) (h2 : bl b a = false) : a = b := by
  have g1 : ¬ a.toList < b.toList := fun h => by rw [bl_lt.2 h] at h1; cases h1
  have g2 : ¬ b.toList < a.toList := fun h => by rw [bl_lt.2 h] at h2; cases h2
  exact tl_inj (List.le_antisymm (List.not_lt.1 g2) (List.not_lt.1 g1))
theorem bl_ne {a b : ByteArray} (h : bl a b = true) : a ≠ b := by
  rintro rfl; rw [bl_irrefl] at h; cases h
theorem leq_bl (a b : ByteArray) : (Op.bytesLess a.toList b.toList || a.toList == b.toList) = !bl b a := by
  cases h : bl b a
  · cases h2 : bl a b
    · have := bl_tri h h2; subst this; simp
    · have : Op.bytesLess a.toList b.toList = true := h2
      rw [this]; rfl
  · have h2 : Op.bytesLess a.toList b.toList = false := bl_asymm h
    have h3 : ¬ a.toList = b.toList := fun e => by have := tl_inj e; subst this; rw [bl_irrefl] at h; cases h
    rw [h2]; simp [h3]

theorem cmpB_neg : ∀ {a b : List UInt8}, Lib.compareBytes a b < 0 ↔ a < b
  | [], [] => by simp [Lib.compareBytes]
  | [], _ :: _ => by simp [Lib.compareBytes]
  | _ :: _, [] => by simp [Lib.compareBytes]
  | x :: a, y :: b => by
    unfold Lib.compareBytes
    by_cases h1 : x < y
    · simp [h1, List.cons_lt_cons_iff]
    · by_cases h2 : y < x
      · have : x ≠ y := by rintro rfl; exact h1 h2
        simp [h1, h2, List.cons_lt_cons_iff, this]
      · have : x = y := UInt8.le_antisymm (UInt8.not_lt.1 h2) (UInt8.not_lt.1 h1)
        subst this
        simp only [h1, if_false, List.cons_lt_cons_iff, false_or, true_and]
        exact cmpB_neg

def cfC (x y : C) : Int := Lib.compareBytes x.1.data.toList y.1.data.toList
theorem ltC (x y : C) : ltOf cfC x y = bl x.1 y.1 := by
  unfold ltOf cfC
  rw [← tl_data, ← tl_data, Bool.eq_iff_iff, bl_lt]
  simp [cmpB_neg]
theorem swoC : SWO (ltOf cfC) where
  irrefl x := by rw [ltC]; exact bl_irrefl _
  trans x y z h1 h2 := by rw [ltC] at *; exact bl_trans h1 h2
  ntrans x y z h1 h2 := by
    rw [ltC] at *
    cases h : bl x.1 z.1
    · rfl
    · exfalso
      cases h3 : bl z.1 y.1
      · have e := bl_tri h3 h2
        rw [e, h1] at h; cases h
      · have := bl_trans h h3; rw [h1] at this; cases this

/-- files whose paths rise -/
def okF (L : List F) : Prop := ∀ j (h : j + 1 < L.length), bl L[j].1 L[j + 1].1 = true
theorem okF_nil : okF [] := fun j h => by simp at h
theorem okF.tail {a : F} {L : List F} (h : okF (a :: L)) : okF L := fun j hj => h (j + 1) (by simpa using hj)
theorem okF.head : ∀ {L : List F} {a : F}, okF (a :: L) → ∀ x ∈ L, bl a.1 x.1 = true
  | [], _, _, x, hx => by cases hx
  | b :: L, a, h, x, hx => by
    have h0 : bl a.1 b.1 = true := h 0 (by simp)
    rcases List.mem_cons.1 hx with rfl | hx
    · exact h0
    · exact bl_trans h0 (okF.head h.tail x hx)

def mergeC : List F → List F → List C
  | [], [] => []
  | [], b :: ys => (b.1, 1) :: mergeC [] ys
  | a :: xs, [] => (a.1, 3) :: mergeC xs []
  | a :: xs, b :: ys =>
    if bl b.1 a.1 = true then (b.1, 1) :: mergeC (a :: xs) ys
    else if bl a.1 b.1 = true then (a.1, 3) :: mergeC xs (b :: ys)
    else (if a.2 ≠ b.2 then [(a.1, 2)] else []) ++ mergeC xs ys
termination_by xs ys => xs.length + ys.length

def inP (L : List F) (p : ByteArray) : Prop := ∃ b, (p, b) ∈ L
theorem inP_nil (p : ByteArray) : ¬ inP [] p := by rintro ⟨b, hb⟩; cases hb
theorem inP_cons (a : F) (L : List F) (p : ByteArray) : inP (a :: L) p ↔ p = a.1 ∨ inP L p := by
  constructor
  · rintro ⟨b, hb⟩
    rcases List.mem_cons.1 hb with h | h
    · exact .inl (by rw [← h])
    · exact .inr ⟨b, h⟩
  · rintro (h | ⟨b, h⟩)
    · exact ⟨a.2, by rw [h]; exact List.mem_cons_self⟩
    · exact ⟨b, List.mem_cons_of_mem _ h⟩
theorem not_inP {L : List F} {p : ByteArray} (h : ∀ x ∈ L, bl p x.1 = true) : ¬ inP L p := by
  rintro ⟨b, hb⟩
  have := h _ hb
  rw [bl_irrefl] at this; cases this

/-- what a change says -/
def says (L1 L2 : List F) (x : C) : Prop :=
  (x.2 = 1 ∧ inP L2 x.1 ∧ ¬ inP L1 x.1) ∨ (x.2 = 2 ∧ ∃ b1 b2, (x.1, b1) ∈ L1 ∧ (x.1, b2) ∈ L2 ∧ b1 ≠ b2) ∨ (x.2 = 3 ∧ inP L1 x.1 ∧ ¬ inP L2 x.1)

theorem says_left {a : F} {xs L2 : List F} (hx : okF (a :: xs)) (hn : ¬ inP L2 a.1) (x : C) : says (a :: xs) L2 x ↔ x = (a.1, 3) ∨ says xs L2 x := by
  have ha : ¬ inP xs a.1 := not_inP hx.head
  obtain ⟨p, k⟩ := x
  unfold says
  simp only [inP_cons, List.mem_cons, Prod.mk.injEq]
  constructor
  · rintro (⟨h1, h2, h3⟩ | ⟨h1, b1, b2, h2, h3, h4⟩ | ⟨h1, h2, h3⟩)
    · exact .inr (.inl ⟨h1, h2, fun h => h3 (.inr h)⟩)
    · rcases h2 with h2 | h2
      · have : p = a.1 := by rw [← h2]
        exact absurd ⟨b2, by rw [← this]; exact h3⟩ hn
      · exact .inr (.inr (.inl ⟨h1, b1, b2, h2, h3, h4⟩))
    · rcases h2 with h2 | h2
      · exact .inl ⟨h2, h1⟩
      · exact .inr (.inr (.inr ⟨h1, h2, h3⟩))
  · rintro (⟨h1, h2⟩ | ⟨h1, h2, h3⟩ | ⟨h1, b1, b2, h2, h3, h4⟩ | ⟨h1, h2, h3⟩)
    · exact .inr (.inr ⟨h2, .inl h1, by rw [h1]; exact hn⟩)
    · exact .inl ⟨h1, h2, fun h => h.elim (fun e => hn (by rw [← e]; exact h2)) h3⟩
    · exact .inr (.inl ⟨h1, b1, b2, .inr h2, h3, h4⟩)
    · exact .inr (.inr ⟨h1, .inr h2, h3⟩)

theorem says_right {b : F} {L1 ys : List F} (_hy : okF (b :: ys)) (hn : ¬ inP L1 b.1) (x : C) : says L1 (b :: ys) x ↔ x = (b.1, 1) ∨ says L1 ys x := by
  obtain ⟨p, k⟩ := x
  unfold says
  simp only [inP_cons, List.mem_cons, Prod.mk.injEq]
  constructor
  · rintro (⟨h1, h2, h3⟩ | ⟨h1, b1, b2, h2, h3, h4⟩ | ⟨h1, h2, h3⟩)
    · rcases h2 with h2 | h2
      · exact .inl ⟨h2, h1⟩
      · exact .inr (.inl ⟨h1, h2, h3⟩)
    · rcases h3 with h3 | h3
      · have : p = b.1 := by rw [← h3]
        exact absurd ⟨b1, by rw [← this]; exact h2⟩ hn
      · exact .inr (.inr (.inl ⟨h1, b1, b2, h2, h3, h4⟩))
    · exact .inr (.inr (.inr ⟨h1, h2, fun h => h3 (.inr h)⟩))
  · rintro (⟨h1, h2⟩ | ⟨h1, h2, h3⟩ | ⟨h1, b1, b2, h2, h3, h4⟩ | ⟨h1, h2, h3⟩)
    · exact .inl ⟨h2, .inl h1, by rw [h1]; exact hn⟩
    · exact .inl ⟨h1, .inr h2, h3⟩
    · exact .inr (.inl ⟨h1, b1, b2, h2, .inr h3, h4⟩)
    · exact .inr (.inr ⟨h1, h2, fun h => h.elim (fun e => hn (by rw [← e]; exact h2)) h3⟩)

theorem says_both {a b : F} {xs ys : List F} (hx : okF (a :: xs)) (hy : okF (b :: ys)) (e : a.1 = b.1) (x : C) : says (a :: xs) (b :: ys) x ↔ (a.2 ≠ b.2 ∧ x = (a.1, 2)) ∨ says xs ys x := by
  have ha : ¬ inP xs a.1 := not_inP hx.head
  have hb : ¬ inP ys b.1 := not_inP hy.head
  obtain ⟨p, k⟩ := x
  obtain ⟨ap, ab⟩ := a
  obtain ⟨bp, bb⟩ := b
  simp only at e ha hb
  subst e
  unfold says
  simp only [inP_cons, List.mem_cons, Prod.mk.injEq]
  constructor
  · rintro (⟨h1, h2, h3⟩ | ⟨h1, b1, b2, h2, h3, h4⟩ | ⟨h1, h2, h3⟩)
    · rcases h2 with h2 | h2
      · exact absurd (.inl h2) h3
      · exact .inr (.inl ⟨h1, h2, fun h => h3 (.inr h)⟩)
    · rcases h2 with ⟨h2, h5⟩ | h2
      · rcases h3 with ⟨_, h6⟩ | h3
        · exact .inl ⟨by rw [← h5, ← h6]; exact h4, h2, h1⟩
        · exact absurd ⟨b2, by rw [← h2]; exact h3⟩ hb
      · rcases h3 with ⟨h3, _⟩ | h3
        · exact absurd ⟨b1, by rw [← h3]; exact h2⟩ ha
        · exact .inr (.inr (.inl ⟨h1, b1, b2, h2, h3, h4⟩))
    · rcases h2 with h2 | h2
      · exact absurd (.inl h2) h3
      · exact .inr (.inr (.inr ⟨h1, h2, fun h => h3 (.inr h)⟩))
  · rintro (⟨h0, h1, h2⟩ | ⟨h1, h2, h3⟩ | ⟨h1, b1, b2, h2, h3, h4⟩ | ⟨h1, h2, h3⟩)
    · exact .inr (.inl ⟨h2, ab, bb, .inl ⟨h1, rfl⟩, .inl ⟨h1, rfl⟩, h0⟩)
    · exact .inl ⟨h1, .inr h2, fun h => h.elim (fun e => hb (by rw [← e]; exact h2)) h3⟩
    · exact .inr (.inl ⟨h1, b1, b2, .inr h2, .inr h3, h4⟩)
    · exact .inr (.inr ⟨h1, .inr h2, fun h => h.elim (fun e => ha (by rw [← e]; exact h2)) h3⟩)

theorem mem_merge : ∀ (n : Nat) (L1 L2 : List F), L1.length + L2.length = n → okF L1 → okF L2 → ∀ x, x ∈ mergeC L1 L2 ↔ says L1 L2 x := by
  intro n
  induction n using Nat.strongRecOn with
  | ind n ih =>
    intro L1 L2 hn h1 h2 x
    match L1, L2 with
    | [], [] => simp [mergeC, says, inP_nil]
    | [], b :: ys =>
      rw [mergeC, List.mem_cons, says_right h2 (inP_nil _), ih _ (by simp at hn ⊢; omega) [] ys rfl h1 h2.tail]
    | a :: xs, [] =>
      rw [mergeC, List.mem_cons, says_left h1 (inP_nil _), ih _ (by simp at hn ⊢; omega) xs [] rfl h1.tail h2]
    | a :: xs, b :: ys =>
      rw [mergeC]
      split
      · rename_i hb
        have hnb : ¬ inP (a :: xs) b.1 := not_inP fun y hy => by
          rcases List.mem_cons.1 hy with rfl | hy
          · exact hb
          · exact bl_trans hb (h1.head _ hy)
        rw [List.mem_cons, says_right h2 hnb, ih _ (by simp at hn ⊢; omega) (a :: xs) ys rfl h1 h2.tail]
      · split
        · rename_i _ ha
          have hna : ¬ inP (b :: ys) a.1 := not_inP fun y hy => by
            rcases List.mem_cons.1 hy with rfl | hy
            · exact ha
            · exact bl_trans ha (h2.head _ hy)
          rw [List.mem_cons, says_left h1 hna, ih _ (by simp at hn ⊢; omega) xs (b :: ys) rfl h1.tail h2]
        · rename_i hb ha
          have e : a.1 = b.1 := bl_tri (by simpa using ha) (by simpa using hb)
          rw [List.mem_append, says_both h1 h2 e, ih _ (by simp at hn ⊢; omega) xs ys rfl h1.tail h2.tail]
          by_cases hab : a.2 = b.2 <;> simp [hab]

theorem says_path {L1 L2 : List F} {x : C} (h : says L1 L2 x) : inP L1 x.1 ∨ inP L2 x.1 := by
  rcases h with ⟨_, h, _⟩ | ⟨_, b1, _, h, _⟩ | ⟨_, h, _⟩
  · exact .inr h
  · exact .inl ⟨b1, h⟩
  · exact .inl h

theorem merge_sorted : ∀ (n : Nat) (L1 L2 : List F), L1.length + L2.length = n → okF L1 → okF L2 → (mergeC L1 L2).Pairwise fun x y => bl x.1 y.1 = true := by
  intro n
  induction n using Nat.strongRecOn with
  | ind n ih =>
    intro L1 L2 hn h1 h2
    have key : ∀ (p : ByteArray) (M1 M2 : List F), M1.length + M2.length < n → okF M1 → okF M2 → (∀ x ∈ M1, bl p x.1 = true) → (∀ x ∈ M2, bl p x.1 = true) → ∀ y ∈ mergeC M1 M2, bl p y.1 = true := by
      intro p M1 M2 _ k1 k2 g1 g2 y hy
      rcases says_path ((mem_merge _ M1 M2 rfl k1 k2 y).1 hy) with ⟨b, hb⟩ | ⟨b, hb⟩
      · exact g1 _ hb
      · exact g2 _ hb
    match L1, L2 with
    | [], [] => simp [mergeC]
    | [], b :: ys =>
      rw [mergeC]
      exact List.pairwise_cons.2 ⟨key _ [] ys (by simp at hn ⊢; omega) h1 h2.tail (by simp) h2.head, ih _ (by simp at hn ⊢; omega) [] ys rfl h1 h2.tail⟩
    | a :: xs, [] =>
      rw [mergeC]
      exact List.pairwise_cons.2 ⟨key _ xs [] (by simp at hn ⊢; omega) h1.tail h2 h1.head (by simp), ih _ (by simp at hn ⊢; omega) xs [] rfl h1.tail h2⟩
    | a :: xs, b :: ys =>
      rw [mergeC]
      split
      · rename_i hb
        refine List.pairwise_cons.2 ⟨key _ (a :: xs) ys (by simp at hn ⊢; omega) h1 h2.tail (fun y hy => ?_) h2.head, ih _ (by simp at hn ⊢; omega) _ ys rfl h1 h2.tail⟩
        rcases List.mem_cons.1 hy with rfl | hy
        · exact hb
        · exact bl_trans hb (h1.head _ hy)
      · split
        · rename_i _ ha
          refine List.pairwise_cons.2 ⟨key _ xs (b :: ys) (by simp at hn ⊢; omega) h1.tail h2 h1.head (fun y hy => ?_), ih _ (by simp at hn ⊢; omega) xs _ rfl h1.tail h2⟩
          rcases List.mem_cons.1 hy with rfl | hy
          · exact ha
          · exact bl_trans ha (h2.head _ hy)
        · rename_i hb ha
          have e : a.1 = b.1 := bl_tri (by simpa using ha) (by simpa using hb)
          have hr := ih _ (by simp at hn ⊢; omega) xs ys rfl h1.tail h2.tail
          by_cases hab : a.2 = b.2
          · simp [hab]; simpa using hr
          · simp only [hab, ne_eq, not_false_eq_true, if_true, List.cons_append, List.nil_append]
            exact List.pairwise_cons.2 ⟨key _ xs ys (by simp at hn ⊢; omega) h1.tail h2.tail h1.head (by rw [e]; exact h2.head), hr⟩

theorem sorted_unique : ∀ {l m : List C}, (l.Pairwise fun x y => bl x.1 y.1 = true) → (m.Pairwise fun x y => bl x.1 y.1 = true) → (∀ x, x ∈ l ↔ x ∈ m) → l = m
  | [], [], _, _, _ => rfl
  | [], y :: m, _, _, h => by have := (h y).2 List.mem_cons_self; cases this
  | x :: l, [], _, _, h => by have := (h x).1 List.mem_cons_self; cases this
  | x :: l, y :: m, hl, hm, h => by
    obtain ⟨a1, a2⟩ := List.pairwise_cons.1 hl
    obtain ⟨b1, b2⟩ := List.pairwise_cons.1 hm
    have hxy : x = y := by
      rcases List.mem_cons.1 ((h x).1 List.mem_cons_self) with e | hx
      · exact e
      · rcases List.mem_cons.1 ((h y).2 List.mem_cons_self) with e | hy
        · exact e.symm
        · have := bl_trans (b1 _ hx) (a1 _ hy)
          rw [bl_irrefl] at this; cases this
    subst hxy
    rw [sorted_unique a2 b2 fun z => ?_]
    constructor
    · intro hz
      rcases List.mem_cons.1 ((h z).1 (List.mem_cons_of_mem _ hz)) with e | h'
      · subst e; have := a1 _ hz; rw [bl_irrefl] at this; cases this
      · exact h'
    · intro hz
      rcases List.mem_cons.1 ((h z).2 (List.mem_cons_of_mem _ hz)) with e | h'
      · subst e; have := b1 _ hz; rw [bl_irrefl] at this; cases this
      · exact h'

/-- a sorted permutation of changes, one a path, is what has these changes in order -/
theorem perm_sorted_eq {d d' : Array C} (hp : PermIn 0 d.size d d') (hs : SortedIn (ltOf cfC) 0 d.size d') (hnd : (d.toList.map (·.1)).Nodup) {M : List C}
    (hM : M.Pairwise fun x y => bl x.1 y.1 = true) (hmem : ∀ x, x ∈ M ↔ x ∈ d.toList) : d'.toList = M := by
  obtain ⟨hz, _, hperm⟩ := hp
  have e1 : (d'.extract 0 d.size).toList = d'.toList := by rw [← hz]; simp
  have e2 : (d.extract 0 d.size).toList = d.toList := by simp
  rw [e1, e2] at hperm
  have hnd' : (d'.toList.map (·.1)).Nodup := (hperm.map _).nodup_iff.2 hnd
  refine sorted_unique ?_ hM fun x => ?_
  · rw [List.pairwise_iff_getElem]
    intro i j hi hj hij
    have h1 := hs i j (Nat.zero_le _) hij (by simpa [hz] using hj)
    rw [ltC] at h1
    have gi : d'[i]! = d'.toList[i] := by simp at hi ⊢; simp [hi]
    have gj : d'[j]! = d'.toList[j] := by simp at hj ⊢; simp [hj]
    rw [gi, gj] at h1
    cases h2 : bl d'.toList[i].1 d'.toList[j].1
    · have e := bl_tri h2 h1
      exfalso
      have hp := List.pairwise_iff_getElem.1 hnd' i j (by simpa using hi) (by simpa using hj) hij
      simp only [List.getElem_map] at hp
      exact hp e
    · rfl
  · rw [hmem]; exact hperm.mem_iff
end Go.Proofs.Ytnmgigfhcanplaa
