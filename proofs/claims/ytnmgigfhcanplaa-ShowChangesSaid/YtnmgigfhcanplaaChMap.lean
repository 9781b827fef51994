/-
  DERIVED. ShowChanges: what the map of bodies says behind each step, and what has been written of the changes. Conditions: none. By an AI agent.
-/
import Derived.Test.YtnmgigfhcanplaaChMath
import Derived.Maps.Views
import Derived.Maps.StringElems
namespace Go.Proofs.Ytnmgigfhcanplaa
open Go.Maps

abbrev DU := DataW Unit
def key (p : ByteArray) : Lit := .string p.data.toList
def bod (b : ByteArray) : DU := .lit (.string b.data.toList)
theorem key_inj {a b : ByteArray} (h : key a = key b) : a = b := by
  unfold key at h
  injection h with h
  exact tl_inj (by rw [tl_data, tl_data, h])
theorem key_ne {a b : ByteArray} (h : a ≠ b) : key a ≠ key b := fun e => h (key_inj e)
theorem bod_inj {a b : ByteArray} (h : bod a = bod b) : a = b := by
  unfold bod at h
  injection h with h
  injection h with h
  exact tl_inj (by rw [tl_data, tl_data, h])

theorem okF.fun {L : List F} (h : okF L) {p b b' : ByteArray} (h1 : (p, b) ∈ L) (h2 : (p, b') ∈ L) : b = b' := by
  induction L with
  | nil => cases h1
  | cons a L ih =>
    rcases List.mem_cons.1 h1 with e1 | h1
    · rcases List.mem_cons.1 h2 with e2 | h2
      · rw [← e1] at e2; injection e2 with _ e; exact e.symm
      · have := h.head _ h2; rw [← e1] at this; rw [bl_irrefl] at this; cases this
    · rcases List.mem_cons.1 h2 with e2 | h2
      · have := h.head _ h1; rw [← e2] at this; rw [bl_irrefl] at this; cases this
      · exact ih h.tail h1 h2
theorem inP_snoc (L : List F) (a : F) (p : ByteArray) : inP (L ++ [a]) p ↔ inP L p ∨ p = a.1 := by
  constructor
  · rintro ⟨b, hb⟩
    rcases List.mem_append.1 hb with h | h
    · exact .inl ⟨b, h⟩
    · have : (p, b) = a := by simpa using h
      exact .inr (by rw [← this])
  · rintro (⟨b, h⟩ | h)
    · exact ⟨b, List.mem_append_left _ h⟩
    · exact ⟨a.2, by rw [h]; simp⟩
/-- what comes next in a rising list has not been seen -/
theorem okF.fresh {L : List F} (h : okF L) {k : Nat} (hk : k < L.length) : ¬ inP (L.take k) L[k].1 := by
  induction L generalizing k with
  | nil => simp at hk
  | cons a L ih =>
    cases k with
    | zero => simp [inP_nil]
    | succ k =>
      have hk' : k < L.length := by simpa using hk
      rw [List.take_succ_cons, inP_cons]
      rintro (e | h')
      · have := h.head _ (List.getElem_mem hk')
        simp only [List.getElem_cons_succ] at e
        rw [e, bl_irrefl] at this; cases this
      · exact ih h.tail hk' h'

/-- the map holds the bodies of L1 but for the paths that have been seen -/
structure MapIs (L1 seen : List F) (D : DU) : Prop where
  isMap : IsMap D
  has : ∀ p, Maps.has D (key p) = true ↔ inP L1 p ∧ ¬ inP seen p
  body : ∀ p b, (p, b) ∈ L1 → ¬ inP seen p → ∀ z, D.atKey (key p) z = bod b

theorem MapIs.start : MapIs [] [] (.map []) where
  isMap := isMap_empty
  has p := by
    constructor
    · intro h; cases h
    · rintro ⟨h, _⟩; exact absurd h (inP_nil p)
  body p b h := by cases h

theorem MapIs.put {l : List F} {D : DU} (h : MapIs l [] D) (f : F) (hf : ¬ inP l f.1) (hk : WideAt.IsKeyLit (key f.1)) : MapIs (l ++ [f]) [] (D.put (key f.1) (bod f.2)) where
  isMap := h.isMap.put _ _
  has p := by
    rw [inP_snoc]
    by_cases e : p = f.1
    · subst e
      simp [has_put_same h.isMap hk, inP_nil]
    · rw [has_put_other (key_ne e), h.has]
      simp [e]
  body p b hb _ z := by
    by_cases e : p = f.1
    · have hpb : (p, b) = f := by
        rcases List.mem_append.1 hb with h' | h'
        · exact absurd ⟨b, by rw [← e]; exact h'⟩ hf
        · simpa using h'
      rw [e, atKey_put_same h.isMap hk]
      rw [← hpb]
    · rw [atKey_put_other (key_ne e)]
      rcases List.mem_append.1 hb with h' | h'
      · exact h.body p b h' (inP_nil p) z
      · have : (p, b) = f := by simpa using h'
        exact absurd (by rw [← this]) e

theorem MapIs.del {L1 seen : List F} {D : DU} (h : MapIs L1 seen D) (f : F) : MapIs L1 (seen ++ [f]) (D.del (key f.1)) where
  isMap := h.isMap.del _
  has p := by
    rw [inP_snoc]
    by_cases e : p = f.1
    · subst e
      simp [has_del_same]
    · rw [has_del_other (key_ne e), h.has]
      simp [e]
  body p b hb hs z := by
    rw [inP_snoc] at hs
    have e : p ≠ f.1 := fun e => hs (.inr e)
    rw [atKey_del_other (key_ne e)]
    exact h.body p b hb (fun h' => hs (.inl h')) z

/-- what the second loop has written of the files that it has seen -/
structure Out2 (L1 seen : List F) (out : List C) : Prop where
  mem : ∀ x, x ∈ out ↔ (x.2 = 1 ∧ inP seen x.1 ∧ ¬ inP L1 x.1) ∨ (x.2 = 2 ∧ ∃ b1 b2, (x.1, b1) ∈ L1 ∧ (x.1, b2) ∈ seen ∧ b1 ≠ b2)
  once : (out.map (·.1)).Nodup
  short : out.length ≤ seen.length

theorem Out2.path {L1 seen : List F} {out : List C} (h : Out2 L1 seen out) {x : C} (hx : x ∈ out) : inP seen x.1 := by
  rcases (h.mem x).1 hx with ⟨_, h, _⟩ | ⟨_, _, b2, _, h, _⟩
  · exact h
  · exact ⟨b2, h⟩
theorem Out2.fresh {L1 seen : List F} {out : List C} (h : Out2 L1 seen out) {p : ByteArray} (hp : ¬ inP seen p) : p ∉ out.map (·.1) := by
  intro hm
  obtain ⟨x, hx, rfl⟩ := List.mem_map.1 hm
  exact hp (h.path hx)
theorem Out2.start (L1 : List F) : Out2 L1 [] [] where
  mem x := by
    constructor
    · intro h; cases h
    · rintro (⟨_, h, _⟩ | ⟨_, _, _, _, h, _⟩)
      · exact absurd h (inP_nil _)
      · cases h
  once := List.nodup_nil
  short := Nat.le_refl _
theorem nodup_snoc {l : List ByteArray} {p : ByteArray} (h : l.Nodup) (hp : p ∉ l) : (l ++ [p]).Nodup := by
  rw [List.nodup_append]
  exact ⟨h, by simp, fun a ha b hb => by
    have : b = p := by simpa using hb
    subst this
    rintro rfl
    exact hp ha⟩
theorem mem_snoc_pair (l : List F) (f : F) (p b : ByteArray) : (p, b) ∈ l ++ [f] ↔ (p, b) ∈ l ∨ (p = f.1 ∧ b = f.2) := by
  rw [List.mem_append]
  constructor
  · rintro (h | h)
    · exact .inl h
    · have : (p, b) = f := by simpa using h
      exact .inr ⟨by rw [← this], by rw [← this]⟩
  · rintro (h | ⟨h1, h2⟩)
    · exact .inl h
    · exact .inr (by simp [h1, h2])

/-- a file that the first list lacks -/
theorem Out2.new {L1 seen : List F} {out : List C} (h : Out2 L1 seen out) (f : F) (hs : ¬ inP seen f.1) (h1 : ¬ inP L1 f.1) : Out2 L1 (seen ++ [f]) (out ++ [(f.1, 1)]) where
  mem x := by
    obtain ⟨p, k⟩ := x
    rw [List.mem_append, h.mem]
    simp only [inP_snoc, mem_snoc_pair, List.mem_singleton, Prod.mk.injEq]
    constructor
    · rintro ((⟨a1, a2, a3⟩ | ⟨a1, b1, b2, a2, a3, a4⟩) | ⟨e1, e2⟩)
      · exact .inl ⟨a1, .inl a2, a3⟩
      · exact .inr ⟨a1, b1, b2, a2, .inl a3, a4⟩
      · exact .inl ⟨e2, .inr e1, by rw [e1]; exact h1⟩
    · rintro (⟨a1, a2 | a2, a3⟩ | ⟨a1, b1, b2, a2, a3 | ⟨a3, a5⟩, a4⟩)
      · exact .inl (.inl ⟨a1, a2, a3⟩)
      · exact .inr ⟨a2, a1⟩
      · exact .inl (.inr ⟨a1, b1, b2, a2, a3, a4⟩)
      · exact absurd ⟨b1, by rw [← a3]; exact a2⟩ h1
  once := by rw [List.map_append]; exact nodup_snoc h.once (h.fresh hs)
  short := by have := h.short; simp; omega
/-- a file whose body differs -/
theorem Out2.other {L1 seen : List F} {out : List C} (h : Out2 L1 seen out) (f : F) (hs : ¬ inP seen f.1) {b : ByteArray} (h1 : (f.1, b) ∈ L1) (hb : b ≠ f.2) : Out2 L1 (seen ++ [f]) (out ++ [(f.1, 2)]) where
  mem x := by
    obtain ⟨p, k⟩ := x
    rw [List.mem_append, h.mem]
    simp only [inP_snoc, mem_snoc_pair, List.mem_singleton, Prod.mk.injEq]
    constructor
    · rintro ((⟨a1, a2, a3⟩ | ⟨a1, b1, b2, a2, a3, a4⟩) | ⟨e1, e2⟩)
      · exact .inl ⟨a1, .inl a2, a3⟩
      · exact .inr ⟨a1, b1, b2, a2, .inl a3, a4⟩
      · exact .inr ⟨e2, b, f.2, by rw [e1]; exact h1, .inr ⟨e1, rfl⟩, hb⟩
    · rintro (⟨a1, a2 | a2, a3⟩ | ⟨a1, b1, b2, a2, a3 | ⟨a3, a5⟩, a4⟩)
      · exact .inl (.inl ⟨a1, a2, a3⟩)
      · exact absurd ⟨b, by rw [a2]; exact h1⟩ a3
      · exact .inl (.inr ⟨a1, b1, b2, a2, a3, a4⟩)
      · exact .inr ⟨a3, a1⟩
  once := by rw [List.map_append]; exact nodup_snoc h.once (h.fresh hs)
  short := by have := h.short; simp; omega
/-- a file that stays as it was -/
theorem Out2.same {L1 seen : List F} {out : List C} (h : Out2 L1 seen out) (hok : okF L1) (f : F) (h1 : f ∈ L1) : Out2 L1 (seen ++ [f]) out where
  mem x := by
    obtain ⟨p, k⟩ := x
    rw [h.mem]
    simp only [inP_snoc, mem_snoc_pair]
    constructor
    · rintro (⟨a1, a2, a3⟩ | ⟨a1, b1, b2, a2, a3, a4⟩)
      · exact .inl ⟨a1, .inl a2, a3⟩
      · exact .inr ⟨a1, b1, b2, a2, .inl a3, a4⟩
    · rintro (⟨a1, a2 | a2, a3⟩ | ⟨a1, b1, b2, a2, a3 | ⟨a3, a5⟩, a4⟩)
      · exact .inl ⟨a1, a2, a3⟩
      · exact absurd ⟨f.2, by rw [a2]; exact h1⟩ a3
      · exact .inr ⟨a1, b1, b2, a2, a3, a4⟩
      · exact absurd (by rw [a5]; rw [a3] at a2; exact hok.fun a2 h1) a4
  once := h.once
  short := by have := h.short; simp; omega

/-- what the third loop has written of the paths that are left -/
structure Out3 (L1 L2 : List F) (left : Lit → Bool) (T : List C) : Prop where
  mem : ∀ x, x ∈ T ↔ x.2 = 3 ∧ (inP L1 x.1 ∧ ¬ inP L2 x.1) ∧ left (key x.1) = false
  once : (T.map (·.1)).Nodup
theorem Out3.start {L1 L2 : List F} {D : DU} (h : MapIs L1 L2 D) : Out3 L1 L2 (Maps.has D) [] where
  mem x := by
    constructor
    · intro h'; cases h'
    · rintro ⟨_, h1, h2⟩; rw [(h.has _).2 h1] at h2; cases h2
  once := List.nodup_nil
theorem Out3.step {L1 L2 : List F} {left : Lit → Bool} {T : List C} (h : Out3 L1 L2 left T) {p : ByteArray} (hp : inP L1 p ∧ ¬ inP L2 p) (hl : left (key p) = true) :
    Out3 L1 L2 (fun z => left z && !z.sameKey (key p)) (T ++ [(p, 3)]) where
  mem x := by
    obtain ⟨q, k⟩ := x
    rw [List.mem_append, h.mem]
    by_cases e : q = p
    · subst e
      have hs : (key q).sameKey (key q) = true := by simp [key, Lit.sameKey]
      simp [hs, hl, hp]
    · have hs : (key q).sameKey (key p) = false := sameKey_ne (key_ne e)
      simp [hs, e]
  once := by
    rw [List.map_append]
    refine nodup_snoc h.once fun hm => ?_
    obtain ⟨x, hx, rfl⟩ := List.mem_map.1 hm
    rw [((h.mem x).1 hx).2.2] at hl; cases hl

/-- at the end: just what is to be said, one a path -/
theorem out_says {L1 L2 : List F} {out T : List C} {left : Lit → Bool} (h2 : Out2 L1 L2 out) (h3 : Out3 L1 L2 left T) (hl : ∀ k, left k = false) :
    (∀ x, x ∈ out ++ T ↔ says L1 L2 x) ∧ ((out ++ T).map (·.1)).Nodup := by
  refine ⟨fun x => ?_, ?_⟩
  · rw [List.mem_append, h2.mem, h3.mem]
    unfold says
    simp only [hl, and_true]
    exact ⟨fun h => h.elim (fun h => h.elim .inl (fun h => .inr (.inl h))) (fun h => .inr (.inr h)), fun h => h.elim (fun h => .inl (.inl h)) (fun h => h.elim (fun h => .inl (.inr h)) .inr)⟩
  · rw [List.map_append, List.nodup_append]
    refine ⟨h2.once, h3.once, fun a ha b hb => ?_⟩
    rintro rfl
    obtain ⟨x, hx, rfl⟩ := List.mem_map.1 ha
    obtain ⟨y, hy, e⟩ := List.mem_map.1 hb
    have h := ((h3.mem y).1 hy).2.1.2
    rw [e] at h
    exact h (h2.path hx)
end Go.Proofs.Ytnmgigfhcanplaa
