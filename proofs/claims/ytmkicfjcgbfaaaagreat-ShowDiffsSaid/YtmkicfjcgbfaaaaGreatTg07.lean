/-
  DERIVED. How deep the blocks of a base are: the relation, and what a search in the breadth or in the depth keeps. Plain law. Conditions: none.
  What the reference's search in the depth keeps. Plain law. Conditions: none.
  By an AI agent.
-/
import Derived.Test.YtmkicfjcgbfaaaaGreatTg05
namespace Go.Proofs.YtmkicfjcgbfaaaaGreat

/-- kids that are right -/
structure Kids (l : List Bl) : Prop where
  rise : Rise l
  ids : IdsIn l
  root : ∃ r, l[0]? = some r ∧ r.id = 0 ∧ r.parent = 0
  kid : ∀ b ∈ l, ∀ k ∈ b.kids, k ≠ 0 ∧ ∃ y ∈ l, y.id = k ∧ y.parent = b.id
  nod : ∀ b ∈ l, b.kids.Nodup
  short : l.length ≤ 2000
  few : ∀ b ∈ l, b.kids.length ≤ 500
theorem Rise.inj {l : List Bl} (h : Rise l) {x y : Bl} (hx : x ∈ l) (hy : y ∈ l) (e : x.id = y.id) : x = y := by
  obtain ⟨i, hi, rfl⟩ := List.mem_iff_getElem.1 hx
  obtain ⟨j, hj, rfl⟩ := List.mem_iff_getElem.1 hy
  rcases Nat.lt_trichotomy i j with g | g | g
  · have := h i j _ _ g (List.getElem?_eq_getElem hi) (List.getElem?_eq_getElem hj); omega
  · subst g; rfl
  · have := h j i _ _ g (List.getElem?_eq_getElem hj) (List.getElem?_eq_getElem hi); omega
/-- a block that the root reaches, and how deep it is -/
inductive Dp (l : List Bl) : Int → Nat → Prop
  | root : Dp l 0 0
  | step (b : Bl) (d : Nat) (k : Int) : Dp l b.id d → b ∈ l → k ∈ b.kids → Dp l k (d + 1)
theorem Dp.zero {l : List Bl} (K : Kids l) {d : Nat} (h : Dp l 0 d) : d = 0 := by
  generalize hz : (0 : Int) = z at h
  cases h with
  | root => rfl
  | step b d k h hb hk => exact absurd hz.symm (K.kid b hb _ hk).1
theorem Dp.fun_ {l : List Bl} (K : Kids l) {k : Int} {d : Nat} (h : Dp l k d) : ∀ {d' : Nat}, Dp l k d' → d = d' := by
  induction h with
  | root => intro d' h'; exact (h'.zero K).symm
  | step b d k h hb hk ih =>
    intro d' h'
    cases h' with
    | root => exact absurd rfl (K.kid b hb _ hk).1
    | step b' d' _ h' hb' hk' =>
      obtain ⟨_, y, hy, e1, e2⟩ := K.kid b hb k hk
      obtain ⟨_, y', hy', e1', e2'⟩ := K.kid b' hb' k hk'
      have e := K.rise.inj hy hy' (e1.trans e1'.symm)
      subst e
      rw [← e2', e2] at h'
      rw [ih h']
theorem Dp.mem {l : List Bl} (K : Kids l) {k : Int} {d : Nat} (h : Dp l k d) : ∃ y ∈ l, y.id = k := by
  cases h with
  | root =>
    obtain ⟨r, h1, h2, _⟩ := K.root
    exact ⟨r, List.mem_of_getElem? h1, h2⟩
  | step b d _ h hb hk =>
    obtain ⟨_, y, hy, e, _⟩ := K.kid b hb k hk
    exact ⟨y, hy, e⟩
/-- f says how deep each block is that the root reaches -/
def IsDep (l : List Bl) (f : Int → Option Int) : Prop := ∀ id d, f id = some d ↔ ∃ n : Nat, d = n ∧ Dp l id n
theorem IsDep.uniq {l : List Bl} {f g : Int → Option Int} (hf : IsDep l f) (hg : IsDep l g) : f = g := by
  funext id
  cases h : f id with
  | none =>
    cases h' : g id with
    | none => rfl
    | some d => rw [(hf id d).2 ((hg id d).1 h')] at h; cases h
  | some d => exact ((hg id d).2 ((hf id d).1 h)).symm
theorem IsDep.exists {l : List Bl} (K : Kids l) : ∃ f, IsDep l f := by
  classical
  refine ⟨fun id => if h : ∃ n : Nat, Dp l id n then some (h.choose : Int) else none, fun id d => ?_⟩
  by_cases h : ∃ n : Nat, Dp l id n
  · simp only [dif_pos h]
    constructor
    · intro e
      injection e with e
      exact ⟨h.choose, e.symm, h.choose_spec⟩
    · rintro ⟨n, rfl, hn⟩
      rw [h.choose_spec.fun_ K hn]
  · simp only [dif_neg h]
    exact ⟨(fun e => by cases e), fun ⟨n, _, hn⟩ => absurd ⟨n, hn⟩ h⟩
/-- the error of blocks' depths -/
def lvlE (f : Int → Option Int) : List Bl → Int
  | [] => 0
  | b :: r => if f b.id = none then 12 else if 40 < (f b.id).getD 0 then 13 else lvlE f r
theorem lvlE_at {f : Int → Option Int} {l : List Bl} {i : Nat} {b : Bl} (h : l[i]? = some b) : lvlE f (l.drop i) = if f b.id = none then 12 else if 40 < (f b.id).getD 0 then 13 else lvlE f (l.drop (i + 1)) := by
  obtain ⟨hk, e⟩ := List.getElem?_eq_some_iff.1 h
  rw [List.drop_eq_getElem_cons hk, lvlE, e]

/-! ### a search in the breadth -/
/-- how many blocks have no depth yet -/
def cntF (l : List Bl) (f : Int → Option Int) : Nat := (l.filter fun b => (f b.id).isNone).length
theorem cntF_le (l : List Bl) (f : Int → Option Int) : cntF l f ≤ l.length := List.length_filter_le _ _
theorem filter_less {α : Type} (p q : α → Bool) (hpq : ∀ x, q x = true → p x = true) {e : α} (hp : p e = true) (hq : q e = false) : ∀ {l : List α}, e ∈ l → (l.filter q).length < (l.filter p).length
  | [], h => by cases h
  | a :: l, h => by
    have hle : ∀ l : List α, (l.filter q).length ≤ (l.filter p).length := by
      intro l
      induction l with
      | nil => exact Nat.le_refl _
      | cons a l ih =>
        rw [List.filter_cons, List.filter_cons]
        cases h1 : q a with
        | false =>
          rw [if_neg (by decide)]
          cases h2 : p a with
          | false => rw [if_neg (by decide)]; exact ih
          | true => rw [if_pos rfl, List.length_cons]; omega
        | true => rw [if_pos rfl, if_pos (hpq a h1), List.length_cons, List.length_cons]; omega
    rw [List.filter_cons, List.filter_cons]
    rcases List.mem_cons.1 h with rfl | h
    · rw [hq, hp, if_neg (by decide), if_pos rfl, List.length_cons]
      have := hle l
      omega
    · have ih := filter_less p q hpq hp hq h
      cases h1 : q a with
      | false =>
        rw [if_neg (by decide)]
        cases h2 : p a with
        | false => rw [if_neg (by decide)]; exact ih
        | true => rw [if_pos rfl, List.length_cons]; omega
      | true => rw [if_pos rfl, if_pos (hpq a h1), List.length_cons, List.length_cons]; omega
/-- what the search keeps; t: the block that is being looked at, of whose kids the first are done -/
structure Bfs (l : List Bl) (f : Int → Option Int) (T : List Int) (t : Option (Bl × Nat)) (m : Nat) : Prop where
  zero : f 0 = some 0
  sound : ∀ id d, f id = some d → ∃ n : Nat, d = n ∧ Dp l id n ∧ n + cntF l f ≤ l.length
  queue : ∀ x ∈ T, ∃ d, f x = some d
  now : ∀ b j, t = some (b, j) → b ∈ l ∧ (∃ d, f b.id = some d) ∧ ∀ k ∈ b.kids.take j, ∃ d, f k = some d
  closed : ∀ b ∈ l, (∃ d, f b.id = some d) → b.id ∉ T → (∀ c j, t = some (c, j) → c.id ≠ b.id) → ∀ k ∈ b.kids, ∃ d, f k = some d
  less : cntF l f + T.length ≤ m
section
variable {l : List Bl} {f : Int → Option Int} {T : List Int} {m : Nat}
theorem Bfs.start (_K : Kids l) : Bfs l (fun id => if id = 0 then some 0 else none) [0] none (l.length + 1) where
  zero := rfl
  sound id d h := by
    have h : (if id = 0 then some (0 : Int) else none) = some d := h
    split at h
    · rename_i e
      injection h with h2
      subst h2
      rw [e]
      refine ⟨0, rfl, .root, ?_⟩
      have := cntF_le l (fun id => if id = 0 then some 0 else none)
      omega
    · cases h
  queue x hx := by
    obtain rfl : x = 0 := by simpa using hx
    exact ⟨0, rfl⟩
  now b j h := by cases h
  closed b hb h hT := by
    obtain ⟨d, h⟩ := h
    have h : (if b.id = 0 then some (0 : Int) else none) = some d := h
    split at h
    · rename_i e
      exact absurd (by rw [e]; simp) hT
    · cases h
  less := by
    have := cntF_le l (fun id => if id = 0 then some 0 else none)
    show _ + 1 ≤ _
    omega
theorem Bfs.pop {x : Int} (h : Bfs l f (x :: T) none (m + 1)) {b : Bl} (hb : b ∈ l) (e : b.id = x) : Bfs l f T (some (b, 0)) m where
  zero := h.zero
  sound := h.sound
  queue y hy := h.queue y (List.mem_cons_of_mem _ hy)
  now c j hc := by
    injection hc with hc
    injection hc with h1 h2
    subst h1 h2
    exact ⟨hb, e ▸ h.queue x (by simp), fun k hk => by simp at hk⟩
  closed c hc hf hT hn := h.closed c hc hf (fun hm => by
    rcases List.mem_cons.1 hm with g | g
    · exact hn b 0 rfl (e.trans g.symm)
    · exact hT g) (fun _ _ g => by cases g)
  less := by have := h.less; rw [List.length_cons] at this; omega
theorem Bfs.skip {b : Bl} {j : Nat} {k d : Int} (h : Bfs l f T (some (b, j)) m) (hk : b.kids[j]? = some k) (hd : f k = some d) : Bfs l f T (some (b, j + 1)) m where
  zero := h.zero
  sound := h.sound
  queue := h.queue
  now c i hc := by
    injection hc with hc
    injection hc with h1 h2
    subst h1 h2
    obtain ⟨a1, a2, a3⟩ := h.now b j rfl
    refine ⟨a1, a2, fun y hy => ?_⟩
    obtain ⟨hj, e⟩ := List.getElem?_eq_some_iff.1 hk
    rw [List.take_succ_eq_append_getElem hj, List.mem_append] at hy
    rcases hy with hy | hy
    · exact a3 y hy
    · obtain rfl : y = k := by rw [← e]; simpa using hy
      exact ⟨d, hd⟩
  closed c hc hf hT hn := h.closed c hc hf hT fun e i he => by
    injection he with he
    injection he with h1 h2
    subst h1 h2
    exact hn b (j + 1) rfl
  less := h.less
theorem cntF_put {k : Int} (hd : f k = none) {y : Bl} (hy : y ∈ l) (hyi : y.id = k) (d : Int) : cntF l (putF f k d) + 1 ≤ cntF l f := by
  refine Nat.succ_le_of_lt (filter_less _ _ (fun x hx => ?_) (e := y) (by simp [hyi, hd]) (by rw [hyi, putF_same]; rfl) hy)
  cases hfx : f x.id with
  | none => rfl
  | some v =>
    rw [putF_other f d (fun e => by rw [e, hd] at hfx; cases hfx), hfx] at hx
    cases hx
theorem Bfs.cnt (K : Kids l) {b : Bl} {j : Nat} {k : Int} (h : Bfs l f T (some (b, j)) m) (hk : b.kids[j]? = some k) (hd : f k = none) (d : Int) : cntF l (putF f k d) + 1 ≤ cntF l f := by
  obtain ⟨_, y, hy, hyi, _⟩ := K.kid b (h.now b j rfl).1 k (List.mem_of_getElem? hk)
  exact cntF_put hd hy hyi d
theorem Bfs.add (K : Kids l) {b : Bl} {j : Nat} {k : Int} (h : Bfs l f T (some (b, j)) m) (hk : b.kids[j]? = some k) (hd : f k = none) {d : Int} (hb : f b.id = some d) : Bfs l (putF f k (d + 1)) (T ++ [k]) (some (b, j + 1)) m := by
  obtain ⟨a1, a2, a3⟩ := h.now b j rfl
  have hkm : k ∈ b.kids := List.mem_of_getElem? hk
  have hsome : ∀ z d', f z = some d' → putF f k (d + 1) z = some d' := fun z d' h' => by
    unfold putF
    rw [if_neg (fun e => by rw [e, hd] at h'; cases h')]
    exact h'
  have hself : putF f k (d + 1) k = some (d + 1) := if_pos rfl
  have hc := h.cnt K hk hd (d + 1)
  obtain ⟨n, rfl, hn1, hn2⟩ := h.sound _ _ hb
  refine ⟨hsome _ _ h.zero, fun z e hz => ?_, fun x hx => ?_, fun c i hc => ?_, fun c hcl hf hT hn => ?_, ?_⟩
  · unfold putF at hz
    split at hz
    · rename_i e1
      injection hz with hz
      subst e1 hz
      exact ⟨n + 1, rfl, .step b n _ hn1 a1 hkm, by omega⟩
    · obtain ⟨n', h1, h2, h3⟩ := h.sound z e hz
      exact ⟨n', h1, h2, by omega⟩
  · rcases List.mem_append.1 hx with hx | hx
    · obtain ⟨v, hv⟩ := h.queue x hx
      exact ⟨v, hsome _ _ hv⟩
    · obtain rfl : x = k := by simpa using hx
      exact ⟨_, hself⟩
  · injection hc with hc
    injection hc with h1 h2
    subst h1 h2
    obtain ⟨v, hv⟩ := a2
    refine ⟨a1, ⟨v, hsome _ _ hv⟩, fun z hz => ?_⟩
    obtain ⟨hj, e⟩ := List.getElem?_eq_some_iff.1 hk
    rw [List.take_succ_eq_append_getElem hj, List.mem_append] at hz
    rcases hz with hz | hz
    · obtain ⟨v, hv⟩ := a3 z hz
      exact ⟨v, hsome _ _ hv⟩
    · obtain rfl : z = k := by rw [← e]; simpa using hz
      exact ⟨_, hself⟩
  · have hck : c.id ≠ k := fun e => hT (by rw [e]; simp)
    have hcT : c.id ∉ T := fun g => hT (List.mem_append_left _ g)
    obtain ⟨v, hv⟩ := hf
    have hv' : f c.id = some v := by
      unfold putF at hv
      rwa [if_neg hck] at hv
    intro z hz
    obtain ⟨v', hv2⟩ := h.closed c hcl ⟨v, hv'⟩ hcT (fun e i he => by
      injection he with he
      injection he with h1 h2
      subst h1 h2
      exact hn b (j + 1) rfl) z hz
    exact ⟨v', hsome _ _ hv2⟩
  · have := h.less
    rw [List.length_append, List.length_singleton]
    omega
theorem Bfs.done {b : Bl} {j : Nat} (h : Bfs l f T (some (b, j)) m) (hj : b.kids.length ≤ j) (K : Kids l) : Bfs l f T none m where
  zero := h.zero
  sound := h.sound
  queue := h.queue
  now c i hc := by cases hc
  closed c hc hf hT _ k hk := by
    obtain ⟨a1, a2, a3⟩ := h.now b j rfl
    by_cases e : b.id = c.id
    · have e := K.rise.inj a1 hc e
      subst e
      exact a3 k (by rw [List.take_of_length_le hj]; exact hk)
    · exact h.closed c hc hf hT (fun d i hd => by
        injection hd with hd
        injection hd with h1 h2
        subst h1
        exact e) k hk
  less := h.less
theorem Bfs.isDep (K : Kids l) (h : Bfs l f [] none m) : IsDep l f := by
  have key : ∀ {id : Int} {n : Nat}, Dp l id n → ∃ d, f id = some d := by
    intro id n hd
    induction hd with
    | root => exact ⟨0, h.zero⟩
    | step b d k hd hb hk ih => exact h.closed b hb ih (by simp) (fun _ _ g => by cases g) k hk
  intro id d
  constructor
  · intro hd
    obtain ⟨n, h1, h2, _⟩ := h.sound id d hd
    exact ⟨n, h1, h2⟩
  · rintro ⟨n, rfl, hn⟩
    obtain ⟨d, hd⟩ := key hn
    obtain ⟨n', rfl, h2, _⟩ := h.sound id d hd
    rw [hd, h2.fun_ K hn]
end
end Go.Proofs.YtmkicfjcgbfaaaaGreat
namespace Go.Proofs.YtmkicfjcgbfaaaaGreat

def zeros (D : List Int) : Nat := (D.filter (· == 0)).length
theorem zeros_set {D : List Int} {p : Nat} {v : Int} (h : D[p]? = some 0) (hv : v ≠ 0) : zeros (D.set p v) + 1 = zeros D := by
  induction D generalizing p with
  | nil => simp at h
  | cons a D ih =>
    rcases p with _ | p
    · obtain rfl : a = 0 := by simpa using h
      simp [zeros, hv]
    · have := ih (by simpa using h)
      unfold zeros at this ⊢
      rw [List.set_cons_succ, List.filter_cons, List.filter_cons]
      split
      · rw [List.length_cons, List.length_cons]; omega
      · exact this
theorem zeros_le (D : List Int) : zeros D ≤ D.length := List.length_filter_le _ _
theorem zeros_pos {D : List Int} {p : Nat} (h : D[p]? = some 0) : 1 ≤ zeros D := by
  have := zeros_set h (v := 1) (by omega)
  omega
/-- depths that are right -/
structure Rch (l : List Bl) (D : List Int) : Prop where
  len : D.length = l.length
  sound : ∀ (i : Nat) (d : Int), D[i]? = some d → d ≠ 0 → ∃ (y : Bl) (n : Nat), l[i]? = some y ∧ d = (n : Int) ∧ Dp l y.id n
/-- a kid has its depth -/
def Mk (l : List Bl) (D : List Int) (k : Int) : Prop := ∃ (p : Nat) (d : Int), posOf l k = (p : Int) ∧ D[p]? = some d ∧ d ≠ 0
/-- what has been done since D, of the first j kids of x -/
structure RchTo (l : List Bl) (D D' : List Int) (kids : List Int) : Prop where
  rch : Rch l D'
  mono : ∀ (j : Nat) (d : Int), D[j]? = some d → d ≠ 0 → D'[j]? = some d
  fresh : ∀ (j : Nat) (d : Int) (y : Bl), D[j]? = some 0 → D'[j]? = some d → d ≠ 0 → l[j]? = some y → ∀ k ∈ y.kids, Mk l D' k
  kids : ∀ k ∈ kids, Mk l D' k
  less : zeros D' ≤ zeros D
section
variable {l : List Bl} {D D' D2 : List Int} {ks : List Int}
theorem RchTo.start (h : Rch l D) : RchTo l D D [] where
  rch := h
  mono _ _ h _ := h
  fresh j d y h h' hd := by rw [h] at h'; injection h' with h'; exact absurd h'.symm hd
  kids k hk := by cases hk
  less := Nat.le_refl _
theorem Mk.mono (h : RchTo l D D' ks) {k : Int} (hm : Mk l D k) : Mk l D' k := by
  obtain ⟨p, d, h1, h2, h3⟩ := hm
  exact ⟨p, d, h1, h.mono p d h2 h3, h3⟩
theorem RchTo.skip (h : RchTo l D D' ks) {k : Int} {p : Nat} {d : Int} (hp : posOf l k = (p : Int)) (hd : D'[p]? = some d) (h0 : d ≠ 0) : RchTo l D D' (ks ++ [k]) where
  rch := h.rch
  mono := h.mono
  fresh := h.fresh
  kids z hz := by
    rcases List.mem_append.1 hz with hz | hz
    · exact h.kids z hz
    · obtain rfl : z = k := by simpa using hz
      exact ⟨p, d, hp, hd, h0⟩
  less := h.less
theorem Rch.set (h : Rch l D) {x y : Bl} (hx : x ∈ l) {k : Int} (hk : k ∈ x.kids) {n : Nat} (hn : Dp l x.id n) {p : Nat} (hy : l[p]? = some y) (hyk : y.id = k) : Rch l (D.set p ((n : Int) + 1)) where
  len := by rw [List.length_set]; exact h.len
  sound i d hi hd := by
    rw [List.getElem?_set] at hi
    split at hi
    · rename_i e
      subst e
      split at hi
      · injection hi with hi
        exact ⟨y, n + 1, hy, by omega, by rw [hyk]; exact .step x n k hn hx hk⟩
      · cases hi
    · exact h.sound i d hi hd
theorem RchTo.down (h : RchTo l D D' ks) {k : Int} {p : Nat} (hp : posOf l k = (p : Int)) {y : Bl} (hy : l[p]? = some y) (h0 : D'[p]? = some 0) {v : Int} (hv : v ≠ 0) (h2 : RchTo l (D'.set p v) D2 y.kids) : RchTo l D D2 (ks ++ [k]) := by
  have hpl : p < D'.length := (List.getElem?_eq_some_iff.1 h0).1
  have hset : ∀ (j : Nat) (d : Int), D'[j]? = some d → d ≠ 0 → D2[j]? = some d := fun j d hj hd => by
    refine h2.mono j d ?_ hd
    rw [List.getElem?_set]
    split
    · rename_i e
      subst e
      rw [h0] at hj; injection hj with hj; exact absurd hj.symm hd
    · exact hj
  have hmk : ∀ k, Mk l D' k → Mk l D2 k := fun k ⟨p, d, a, b, c⟩ => ⟨p, d, a, hset p d b c, c⟩
  have hp2 : D2[p]? = some v := h2.mono p v (by rw [List.getElem?_set_self hpl]) hv
  refine ⟨h2.rch, fun j d hj hd => hset j d (h.mono j d hj hd) hd, fun j d z hj hj2 hd hz k hk => ?_, fun z hz => ?_, ?_⟩
  · obtain ⟨d', hd'⟩ : ∃ d', D'[j]? = some d' := ⟨_, List.getElem?_eq_getElem (by rw [h.rch.len]; exact (List.getElem?_eq_some_iff.1 hz).1)⟩
    by_cases e : d' = 0
    · subst e
      by_cases ej : j = p
      · subst ej
        rw [hy] at hz
        obtain rfl := Option.some.inj hz
        exact h2.kids k hk
      · exact h2.fresh j d z (by rw [List.getElem?_set_ne (fun e => ej e.symm)]; exact hd') hj2 hd hz k hk
    · exact hmk k (h.fresh j d' z hj hd' e hz k hk)
  · rcases List.mem_append.1 hz with hz | hz
    · exact hmk z (h.kids z hz)
    · obtain rfl : z = k := by simpa using hz
      exact ⟨p, v, hp, hp2, hv⟩
  · have := zeros_set h0 hv
    have := h2.less
    have := h.less
    omega
/-- what the search from the root has found -/
theorem RchTo.isDep (K : Kids l) {f : Int → Option Int} (hf : IsDep l f) {r : Bl} (hr : l[0]? = some r) (hD : ∀ (j : Nat) (d : Int), D[j]? = some d → d = 0) (hl : D.length = l.length) (h : RchTo l D D' r.kids) : ∀ (i : Nat) (x : Bl), l[i]? = some x → i ≠ 0 → ∃ d, D'[i]? = some d ∧ (d = 0 → f x.id = none) ∧ (d ≠ 0 → f x.id = some d) := by
  have hr0 : r.id = 0 := by
    obtain ⟨r', h1, h2, _⟩ := K.root
    rw [hr] at h1
    rw [Option.some.inj h1]; exact h2
  have key : ∀ {id : Int} {n : Nat}, Dp l id n → id ≠ 0 → Mk l D' id := by
    intro id n hd
    induction hd with
    | root => intro h0; exact absurd rfl h0
    | step b d k hd hb hk ih =>
      intro _
      by_cases e : b.id = 0
      · have : b = r := K.rise.inj hb (List.mem_of_getElem? hr) (e.trans hr0.symm)
        subst this
        exact h.kids k hk
      · obtain ⟨p, v, h1, h2, h3⟩ := ih e
        obtain ⟨q, hq, hqe⟩ := List.mem_iff_getElem.1 hb
        have hbq : l[q]? = some b := by rw [List.getElem?_eq_getElem hq, hqe]
        have hpq : p = q := by
          have := posOf_of K.rise hbq
          rw [h1] at this
          omega
        subst hpq
        have hz : D[p]? = some 0 := by
          obtain ⟨z, hz⟩ : ∃ z, D[p]? = some z := ⟨_, List.getElem?_eq_getElem (by rw [hl]; exact hq)⟩
          rw [hz, hD p z hz]
        exact h.fresh p v b hz h2 h3 hbq k hk
  intro i x hx hi
  have hil := (List.getElem?_eq_some_iff.1 hx).1
  obtain ⟨d, hd⟩ : ∃ d, D'[i]? = some d := ⟨_, List.getElem?_eq_getElem (by rw [h.rch.len]; exact hil)⟩
  have hx0 : x.id ≠ 0 := by
    have := K.rise 0 i r x (by omega) hr hx
    omega
  refine ⟨d, hd, fun h0 => ?_, fun h0 => ?_⟩
  · cases hfx : f x.id with
    | none => rfl
    | some v =>
      obtain ⟨n, _, hn⟩ := (hf _ _).1 hfx
      obtain ⟨p, v', h1, h2, h3⟩ := key hn hx0
      have := posOf_of K.rise hx
      rw [h1] at this
      have hpi : p = i := by omega
      subst hpi
      rw [hd] at h2
      injection h2 with h2
      exact absurd (h2.symm.trans h0) h3
  · obtain ⟨y, n, h1, h2, h3⟩ := h.rch.sound i d hd h0
    rw [hx] at h1
    obtain rfl := Option.some.inj h1
    exact (hf _ _).2 ⟨n, h2, h3⟩
end
end Go.Proofs.YtmkicfjcgbfaaaaGreat
