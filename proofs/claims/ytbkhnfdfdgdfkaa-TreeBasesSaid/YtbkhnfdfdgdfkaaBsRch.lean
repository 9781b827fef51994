/-
  DERIVED. What the reference's search in the depth keeps. Plain law. Conditions: none. By an AI agent.
-/
import Derived.Test.YtbkhnfdfdgdfkaaBsDep
namespace Go.Proofs.Ytbkhnfdfdgdfkaa

def zeros (D : List Int) : Nat := (D.filter (· == 0)).length
theorem zeros_set {D : List Int} {p : Nat} {v : Int} (h : D[p]? = some 0) (hv : v ≠ 0) : zeros (D.set p v) + 1 = zeros D := by
  induction D generalizing p with
  | nil => simp at h
  | cons a D ih =>
    rcases p with _ | p
    · obtain rfl : a = 0 := by simpa using h
      simp [zeros, hv]
    · have := ih (by simpa using h)
      unfold zeros at this ⊢
      rw [List.set_cons_succ, List.filter_cons, List.filter_cons]
      split
      · rw [List.length_cons, List.length_cons]; omega
      · exact this
theorem zeros_le (D : List Int) : zeros D ≤ D.length := List.length_filter_le _ _
theorem zeros_pos {D : List Int} {p : Nat} (h : D[p]? = some 0) : 1 ≤ zeros D := by
  have := zeros_set h (v := 1) (by omega)
  omega
/-- depths that are right -/
structure Rch (l : List Bl) (D : List Int) : Prop where
  len : D.length = l.length
  sound : ∀ (i : Nat) (d : Int), D[i]? = some d → d ≠ 0 → ∃ (y : Bl) (n : Nat), l[i]? = some y ∧ d = (n : Int) ∧ Dp l y.id n
/-- a kid has its depth -/
def Mk (l : List Bl) (D : List Int) (k : Int) : Prop := ∃ (p : Nat) (d : Int), posOf l k = (p : Int) ∧ D[p]? = some d ∧ d ≠ 0
/-- what has been done since D, of the first j kids of x -/
structure RchTo (l : List Bl) (D D' : List Int) (kids : List Int) : Prop where
  rch : Rch l D'
  mono : ∀ (j : Nat) (d : Int), D[j]? = some d → d ≠ 0 → D'[j]? = some d
  fresh : ∀ (j : Nat) (d : Int) (y : Bl), D[j]? = some 0 → D'[j]? = some d → d ≠ 0 → l[j]? = some y → ∀ k ∈ y.kids, Mk l D' k
  kids : ∀ k ∈ kids, Mk l D' k
  less : zeros D' ≤ zeros D
section
variable {l : List Bl} {D D' D2 : List Int} {ks : List Int}
theorem RchTo.start (h : Rch l D) : RchTo l D D [] where
  rch := h
  mono _ _ h _ := h
  fresh j d y h h' hd := by rw [h] at h'; injection h' with h'; exact absurd h'.symm hd
  kids k hk := by cases hk
  less := Nat.le_refl _
theorem Mk.mono (h : RchTo l D D' ks) {k : Int} (hm : Mk l D k) : Mk l D' k := by
  obtain ⟨p, d, h1, h2, h3⟩ := hm
  exact ⟨p, d, h1, h.mono p d h2 h3, h3⟩
theorem RchTo.skip (h : RchTo l D D' ks) {k : Int} {p : Nat} {d : Int} (hp : posOf l k = (p : Int)) (hd : D'[p]? = some d) (h0 : d ≠ 0) : RchTo l D D' (ks ++ [k]) where
  rch := h.rch
  mono := h.mono
  fresh := h.fresh
  kids z hz := by
    rcases List.mem_append.1 hz with hz | hz
    · exact h.kids z hz
    · obtain rfl : z = k := by simpa using hz
      exact ⟨p, d, hp, hd, h0⟩
  less := h.less
theorem Rch.set (h : Rch l D) {x y : Bl} (hx : x ∈ l) {k : Int} (hk : k ∈ x.kids) {n : Nat} (hn : Dp l x.id n) {p : Nat} (hy : l[p]? = some y) (hyk : y.id = k) : Rch l (D.set p ((n : Int) + 1)) where
  len := by rw [List.length_set]; exact h.len
  sound i d hi hd := by
    rw [List.getElem?_set] at hi
    split at hi
    · rename_i e
      subst e
      split at hi
      · injection hi with hi
        exact ⟨y, n + 1, hy, by omega, by rw [hyk]; exact .step x n k hn hx hk⟩
      · cases hi
    · exact h.sound i d hi hd
theorem RchTo.down (h : RchTo l D D' ks) {k : Int} {p : Nat} (hp : posOf l k = (p : Int)) {y : Bl} (hy : l[p]? = some y) (h0 : D'[p]? = some 0) {v : Int} (hv : v ≠ 0) (h2 : RchTo l (D'.set p v) D2 y.kids) : RchTo l D D2 (ks ++ [k]) := by
  have hpl : p < D'.length := (List.getElem?_eq_some_iff.1 h0).1
  have hset : ∀ (j : Nat) (d : Int), D'[j]? = some d → d ≠ 0 → D2[j]? = some d := fun j d hj hd => by
    refine h2.mono j d ?_ hd
    rw [List.getElem?_set]
    split
    · rename_i e
      subst e
      rw [h0] at hj; injection hj with hj; exact absurd hj.symm hd
    · exact hj
  have hmk : ∀ k, Mk l D' k → Mk l D2 k := fun k ⟨p, d, a, b, c⟩ => ⟨p, d, a, hset p d b c, c⟩
  have hp2 : D2[p]? = some v := h2.mono p v (by rw [List.getElem?_set_self hpl]) hv
  refine ⟨h2.rch, fun j d hj hd => hset j d (h.mono j d hj hd) hd, fun j d z hj hj2 hd hz k hk => ?_, fun z hz => ?_, ?_⟩
  · obtain ⟨d', hd'⟩ : ∃ d', D'[j]? = some d' := ⟨_, List.getElem?_eq_getElem (by rw [h.rch.len]; exact (List.getElem?_eq_some_iff.1 hz).1)⟩
    by_cases e : d' = 0
    · subst e
      by_cases ej : j = p
      · subst ej
        rw [hy] at hz
        obtain rfl := Option.some.inj hz
        exact h2.kids k hk
      · exact h2.fresh j d z (by rw [List.getElem?_set_ne (fun e => ej e.symm)]; exact hd') hj2 hd hz k hk
    · exact hmk k (h.fresh j d' z hj hd' e hz k hk)
  · rcases List.mem_append.1 hz with hz | hz
    · exact hmk z (h.kids z hz)
    · obtain rfl : z = k := by simpa using hz
      exact ⟨p, v, hp, hp2, hv⟩
  · have := zeros_set h0 hv
    have := h2.less
    have := h.less
    omega
/-- what the search from the root has found -/
theorem RchTo.isDep (K : Kids l) {f : Int → Option Int} (hf : IsDep l f) {r : Bl} (hr : l[0]? = some r) (hD : ∀ (j : Nat) (d : Int), D[j]? = some d → d = 0) (hl : D.length = l.length) (h : RchTo l D D' r.kids) : ∀ (i : Nat) (x : Bl), l[i]? = some x → i ≠ 0 → ∃ d, D'[i]? = some d ∧ (d = 0 → f x.id = none) ∧ (d ≠ 0 → f x.id = some d) := by
  have hr0 : r.id = 0 := by
    obtain ⟨r', h1, h2, _⟩ := K.root
    rw [hr] at h1
    rw [Option.some.inj h1]; exact h2
  have key : ∀ {id : Int} {n : Nat}, Dp l id n → id ≠ 0 → Mk l D' id := by
    intro id n hd
    induction hd with
    | root => intro h0; exact absurd rfl h0
    | step b d k hd hb hk ih =>
      intro _
      by_cases e : b.id = 0
      · have : b = r := K.rise.inj hb (List.mem_of_getElem? hr) (e.trans hr0.symm)
        subst this
        exact h.kids k hk
      · obtain ⟨p, v, h1, h2, h3⟩ := ih e
        obtain ⟨q, hq, hqe⟩ := List.mem_iff_getElem.1 hb
        have hbq : l[q]? = some b := by rw [List.getElem?_eq_getElem hq, hqe]
        have hpq : p = q := by
          have := posOf_of K.rise hbq
          rw [h1] at this
          omega
        subst hpq
        have hz : D[p]? = some 0 := by
          obtain ⟨z, hz⟩ : ∃ z, D[p]? = some z := ⟨_, List.getElem?_eq_getElem (by rw [hl]; exact hq)⟩
          rw [hz, hD p z hz]
        exact h.fresh p v b hz h2 h3 hbq k hk
  intro i x hx hi
  have hil := (List.getElem?_eq_some_iff.1 hx).1
  obtain ⟨d, hd⟩ : ∃ d, D'[i]? = some d := ⟨_, List.getElem?_eq_getElem (by rw [h.rch.len]; exact hil)⟩
  have hx0 : x.id ≠ 0 := by
    have := K.rise 0 i r x (by omega) hr hx
    omega
  refine ⟨d, hd, fun h0 => ?_, fun h0 => ?_⟩
  · cases hfx : f x.id with
    | none => rfl
    | some v =>
      obtain ⟨n, _, hn⟩ := (hf _ _).1 hfx
      obtain ⟨p, v', h1, h2, h3⟩ := key hn hx0
      have := posOf_of K.rise hx
      rw [h1] at this
      have hpi : p = i := by omega
      subst hpi
      rw [hd] at h2
      injection h2 with h2
      exact absurd (h2.symm.trans h0) h3
  · obtain ⟨y, n, h1, h2, h3⟩ := h.rch.sound i d hd h0
    rw [hx] at h1
    obtain rfl := Option.some.inj h1
    exact (hf _ _).2 ⟨n, h2, h3⟩
end
end Go.Proofs.Ytbkhnfdfdgdfkaa
