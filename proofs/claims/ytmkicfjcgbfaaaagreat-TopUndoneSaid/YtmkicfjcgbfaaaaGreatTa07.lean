/-
  DERIVED. Operations on a base in plain words; a base without error stays one: a block moved. Plain law. Conditions: none.
  Plain law: values as trees, how they are compared, and that this is a total order. Conditions: none.
  A list of properties that has been checked: its names rise. Plain law. Conditions: none.
  Properties in a row; a property, a block as an aggregate. Conditions: none.
  Values, properties, numbers and blocks of a base in memory, in blocks that meet a condition. Conditions: none.
  By an AI agent.
-/
import Derived.Test.YtmkicfjcgbfaaaaGreatTa06
import Derived.WalkKit
import Derived.Test.YtmkicfjcgbfaaaaGreatTa04
import Derived.Test.YtmkicfjcgbfaaaaGreatTa02
import Derived.WalkSpells
import Derived.Deep.QuietTactic
import Derived.BigQuiet
import Derived.Deep.LoopGhost
import Derived.Test.YtmkicfjcgbfaaaaGreatChecked
namespace Go.Proofs.YtmkicfjcgbfaaaaGreat

/-- how many levels a block has, with itself -/
def hgt (l : List Bl) : Nat → Int → Nat
  | 0, _ => 0
  | n + 1, id => match l[(posOf l id).toNat]? with
    | some b => (b.kids.map (hgt l n)).foldr max 0 + 1
    | none => 0
theorem hgt_at {l : List Bl} {id : Int} {p : Nat} {b : Bl} (hp : posOf l id = (p : Int)) (hb : l[p]? = some b) (n : Nat) : hgt l (n + 1) id = (b.kids.map (hgt l n)).foldr max 0 + 1 := by
  rw [hgt, hp, Int.toNat_natCast, hb]
theorem foldr_max {L : List Nat} {x : Nat} (h : x ∈ L) : x ≤ L.foldr max 0 := by
  induction L with
  | nil => cases h
  | cons a L ih =>
    rw [List.foldr_cons]
    rcases List.mem_cons.1 h with rfl | h
    · exact Nat.le_max_left _ _
    · exact Nat.le_trans (ih h) (Nat.le_max_right _ _)
section
variable {l : List Bl} {g : Int → Nat}
theorem Dp.ups (K : Kids l) : ∀ (j : Nat) {x : Int} {d : Nat}, Dp l x d → j ≤ d → Dp l (upN l j x) (d - j)
  | 0, x, d, h, _ => h
  | j + 1, x, d, h, hj => by
    obtain ⟨d', rfl⟩ : ∃ d', d = d' + 1 := ⟨d - 1, by omega⟩
    have := Dp.ups K j (h.up K).2 (by omega)
    rw [show d' + 1 - (j + 1) = d' - j by omega]
    exact this
/-- a block is among the kids of its parent -/
theorem Dp.kid (K : Kids l) {x : Int} {d : Nat} (h : Dp l x (d + 1)) : ∃ b ∈ l, b.id = parOf l x ∧ x ∈ b.kids := by
  generalize hn : d + 1 = n at h
  cases h with
  | root => omega
  | step b d' _ h hb hk => exact ⟨b, hb, (parOf_kid K hb hk).symm, hk⟩
theorem hgt_ge (K : Kids l) : ∀ (j : Nat) {x : Int} {d m : Nat}, Dp l x d → j ≤ d → j + 1 ≤ hgt l (j + 1 + m) (upN l j x)
  | 0, x, d, m, h, _ => by
    obtain ⟨p, b, h1, h2, _⟩ := h.blk K
    show 1 ≤ hgt l (0 + 1 + m) x
    rw [show 0 + 1 + m = m + 1 by omega, hgt_at h1 h2]
    omega
  | j + 1, x, d, m, h, hj => by
    have hy := Dp.ups K j h (by omega)
    obtain ⟨e, he⟩ : ∃ e, d - j = e + 1 := ⟨d - j - 1, by omega⟩
    rw [he] at hy
    obtain ⟨b, hb, hbi, hk⟩ := hy.kid K
    have hpar := (hy.up K).2
    obtain ⟨p, c, h1, h2, h3⟩ := hpar.blk K
    obtain rfl := K.rise.inj hb (List.mem_of_getElem? h2) (hbi.trans h3.symm)
    have ih := hgt_ge K j (m := m) h (by omega)
    rw [upN_succ, show j + 1 + 1 + m = (j + 1 + m) + 1 by omega, hgt_at h1 h2]
    have := foldr_max (L := b.kids.map (hgt l (j + 1 + m))) (List.mem_map.2 ⟨_, hk, rfl⟩)
    omega
/-- the numbers on the way to a block -/
theorem pth_mem : ∀ (d : Nat) (x y : Int), y ∈ pth l d x ↔ ∃ j, j < d ∧ upN l j x = y
  | 0, x, y => by simp [pth]
  | d + 1, x, y => by
    rw [pth, List.mem_append, pth_mem d]
    constructor
    · rintro (⟨j, hj, h⟩ | h)
      · exact ⟨j + 1, by omega, h⟩
      · exact ⟨0, by omega, (by simpa using h : y = x).symm⟩
    · rintro ⟨j, hj, h⟩
      rcases j with _ | j
      · exact .inr (by have : x = y := h; simp [this])
      · exact .inl ⟨j, by omega, h⟩

/-- what moving a block makes -/
def movB (id p : Int) (i : Nat) (b : Bl) : Bl := ⟨b.id, if b.id = id then p else b.parent, if b.id = p then plusK (lessK b.kids id) i id else lessK b.kids id, b.text, b.props⟩
def movL (l : List Bl) (id p : Int) (i : Nat) : List Bl := l.map (movB id p i)
theorem Tree.move (T : Tree l g) {x b : Bl} (hx : x ∈ l) (h0 : x.id ≠ 0) (hb : b ∈ l) (i : Nat) (hway : x.id ∉ pth l (g b.id) b.id) (hk : (lessK b.kids x.id).length < 500) (hd : g b.id + hgt l 41 x.id ≤ 40) : ∃ g', Tree (movL l x.id b.id i) g' := by
  classical
  have K := T.kids
  obtain ⟨id, hid⟩ : ∃ id, id = x.id := ⟨_, rfl⟩
  rw [← hid] at h0 hway hk hd ⊢
  have hDx : ∀ y ∈ l, Dp l y.id (g y.id) := fun y hy => T.dp _ hy rfl
  let S : Int → Prop := fun y => ∃ j d, Dp l y d ∧ j ≤ d ∧ upN l j y = id
  have hSid : S id := ⟨0, _, hid ▸ hDx x hx, Nat.zero_le _, rfl⟩
  have hSb : ¬ S b.id := by
    rintro ⟨j, d, h1, h2, h3⟩
    have e := h1.fun_ K (hDx b hb)
    subst e
    rcases Nat.lt_or_ge j (g b.id) with h | h
    · exact hway ((pth_mem _ _ _).2 ⟨j, h, h3⟩)
    · obtain rfl : j = g b.id := by omega
      have := Dp.ups K (g b.id) h1 (Nat.le_refl _)
      rw [h3, Nat.sub_self] at this
      exact h0 ((Dp.zero_iff K this).2 rfl)
  have hSk : ∀ c ∈ l, ∀ k ∈ c.kids, k ≠ id → (S k ↔ S c.id) := fun c hc k hk hne => by
    have hp := parOf_kid K hc hk
    have hDk : Dp l k (g c.id + 1) := .step c _ k (hDx c hc) hc hk
    constructor
    · rintro ⟨j, d, h1, h2, h3⟩
      have e := h1.fun_ K hDk
      subst e
      rcases j with _ | j
      · exact absurd h3 hne
      · exact ⟨j, _, hDx c hc, by omega, by rw [← hp]; exact h3⟩
    · rintro ⟨j, d, h1, h2, h3⟩
      have e := h1.fun_ K (hDx c hc)
      subst e
      exact ⟨j + 1, _, hDk, by omega, by show upN l j (parOf l k) = id; rw [hp]; exact h3⟩
  have hSg : ∀ y ∈ l, S y.id → g id ≤ g y.id ∧ g y.id - g id + g b.id + 1 ≤ 40 := fun y hy => by
    rintro ⟨j, d, h1, h2, h3⟩
    have e := h1.fun_ K (hDx y hy)
    subst e
    have h4 := Dp.ups K j h1 h2
    rw [h3] at h4
    have h5 := h4.fun_ K (hid ▸ hDx x hx : Dp l id (g id))
    have h6 := T.deep y hy
    have h7 := hgt_ge K j (m := 40 - j) h1 h2
    rw [h3, show j + 1 + (40 - j) = 41 by omega] at h7
    omega
  have hS0 : ¬ S 0 := by
    rintro ⟨j, d, h1, h2, h3⟩
    have := h1.zero K
    subst this
    obtain rfl : j = 0 := by omega
    exact h0 h3.symm
  refine ⟨fun y => if S y then g y - g id + (g b.id + 1) else g y, ?_⟩
  have hmem : ∀ c, c ∈ movL l id b.id i ↔ ∃ y ∈ l, c = movB id b.id i y := fun c => by
    unfold movL
    rw [List.mem_map]
    exact ⟨fun ⟨y, h1, h2⟩ => ⟨y, h1, h2.symm⟩, fun ⟨y, h1, h2⟩ => ⟨y, h1, h2.symm⟩⟩
  have hkm : ∀ c k, k ∈ (movB id b.id i c).kids ↔ (c.id = b.id ∧ k = id) ∨ (k ∈ c.kids ∧ k ≠ id) := fun c k => by
    show k ∈ (if c.id = b.id then plusK (lessK c.kids id) i id else lessK c.kids id) ↔ _
    by_cases e : c.id = b.id
    · rw [if_pos e, plus_mem, less_mem]
      exact ⟨fun h => h.elim (fun h => .inl ⟨e, h⟩) .inr, fun h => h.elim (fun h => .inl h.2) .inr⟩
    · rw [if_neg e, less_mem]
      exact ⟨.inr, fun h => h.elim (fun h => absurd h.1 e) fun h => h⟩
  refine ⟨?_, fun c hc => ?_, by unfold movL; rw [List.length_map]; exact T.short, ?_, fun c hc => ?_, fun c hc k hkc => ?_, fun c hc => ?_, fun c hc hc0 => ?_, ?_, fun c hc => ?_⟩
  · exact List.pairwise_map.2 (T.rise.imp fun h => h)
  · obtain ⟨y, hy, rfl⟩ := (hmem c).1 hc
    exact T.ids y hy
  · obtain ⟨r, r', hl, a1, a2, a3, a4⟩ := T.root
    subst hl
    exact ⟨movB id b.id i r, r'.map (movB id b.id i), rfl, a1, by show (if r.id = id then b.id else r.parent) = 0; rw [if_neg (by omega), a2], a3, a4⟩
  · obtain ⟨y, hy, rfl⟩ := (hmem c).1 hc
    obtain ⟨a1, a2, a3⟩ := T.loc y hy
    refine ⟨a1, ?_, a3⟩
    show (if y.id = b.id then plusK (lessK y.kids id) i id else lessK y.kids id).length ≤ 500
    by_cases e : y.id = b.id
    · obtain rfl := T.inj hy hb e
      rw [if_pos rfl, plus_len]; omega
    · rw [if_neg e]
      exact Nat.le_trans (less_len _ _) a2
  · obtain ⟨y, hy, rfl⟩ := (hmem c).1 hc
    rcases (hkm y k).1 hkc with ⟨e, rfl⟩ | ⟨hk1, hne⟩
    · refine ⟨h0, _, (hmem _).2 ⟨x, hx, rfl⟩, hid.symm, ?_⟩
      show (if x.id = k then b.id else x.parent) = y.id
      rw [if_pos hid.symm, e]
    · obtain ⟨a1, z, hz, a2, a3⟩ := T.kid y hy k hk1
      refine ⟨a1, _, (hmem _).2 ⟨z, hz, rfl⟩, a2, ?_⟩
      show (if z.id = id then b.id else z.parent) = y.id
      rw [if_neg (by omega), a3]
  · obtain ⟨y, hy, rfl⟩ := (hmem c).1 hc
    show (if y.id = b.id then plusK (lessK y.kids id) i id else lessK y.kids id).Nodup
    split
    · exact plus_nodup (less_nodup (T.nod y hy) _) (fun h => ((less_mem _ _ _).1 h).2 rfl)
    · exact less_nodup (T.nod y hy) _
  · obtain ⟨y, hy, rfl⟩ := (hmem c).1 hc
    have hc0 : y.id ≠ 0 := hc0
    show ∃ c' ∈ movL l id b.id i, c'.id = (if y.id = id then b.id else y.parent) ∧ y.id ∈ c'.kids ∧ (if S y.id then g y.id - g id + (g b.id + 1) else g y.id) = (if S c'.id then g c'.id - g id + (g b.id + 1) else g c'.id) + 1
    by_cases e : y.id = id
    · rw [if_pos e, e, if_pos hSid]
      refine ⟨_, (hmem _).2 ⟨b, hb, rfl⟩, rfl, (hkm b id).2 (.inl ⟨rfl, rfl⟩), ?_⟩
      show _ = (if S b.id then _ else g b.id) + 1
      rw [if_neg hSb]; omega
    · rw [if_neg e]
      obtain ⟨d, hd', a1, a2, a3⟩ := T.par y hy hc0
      refine ⟨_, (hmem _).2 ⟨d, hd', rfl⟩, a1, (hkm d _).2 (.inr ⟨a2, e⟩), ?_⟩
      show _ = (if S d.id then g d.id - g id + (g b.id + 1) else g d.id) + 1
      have hs := hSk d hd' y.id a2 e
      by_cases h : S d.id
      · rw [if_pos h, if_pos (hs.2 h), a3]
        have := (hSg d hd' h).1
        omega
      · rw [if_neg h, if_neg (fun q => h (hs.1 q)), a3]
  · show (if S 0 then _ else g 0) = 0
    rw [if_neg hS0]; exact T.zero
  · obtain ⟨y, hy, rfl⟩ := (hmem c).1 hc
    show (if S y.id then g y.id - g id + (g b.id + 1) else g y.id) ≤ 40
    split
    · rename_i h
      have := (hSg y hy h).2
      omega
    · exact T.deep y hy
end
end Go.Proofs.YtmkicfjcgbfaaaaGreat
namespace Go.Proofs.YtmkicfjcgbfaaaaGreat
open Go.RowKit

inductive V where
  | mk (kind int to_ : Int) (text : ByteArray) (items : List V)

def c3 (a b : Int) : Int := if a < b then -1 else if b < a then 1 else 0
def cL (a b : List UInt8) : Int := if Op.bytesLess a b = true then -1 else if a = b then 0 else 1

def cmpL (f : V → V → Int) : List V → List V → Int
  | [], [] => 0
  | [], _ :: _ => -1
  | _ :: _, [] => 1
  | a :: l, b :: m => if f a b = 0 then cmpL f l m else f a b

def cmpV : Nat → V → V → Int
  | 0, _, _ => 0
  | d + 1, .mk k n t s l, .mk k' n' t' s' l' =>
    if c3 k k' = 0 then
      if k = 1 ∨ k = 2 ∨ k = 4 then c3 n n'
      else if k = 5 then (if c3 n n' = 0 then c3 t t' else c3 n n')
      else if k = 3 ∨ k = 6 then cL s.data.toList s'.data.toList
      else if k = 7 then cmpL (cmpV d) l l'
      else 0
    else c3 k k'

structure Tot {α : Type} (f : α → α → Int) : Prop where
  anti : ∀ a b, f b a = - f a b
  trans : ∀ a b c, f a b ≤ 0 → f b c ≤ 0 → f a c ≤ 0 ∧ (f a c < 0 ∨ (f a b = 0 ∧ f b c = 0))
theorem Tot.refl {α : Type} {f : α → α → Int} (h : Tot f) (a : α) : f a a = 0 := by have := h.anti a a; omega
theorem Tot.zero {α : Type} {f : α → α → Int} (h : Tot f) {a b c : α} (h1 : f a b = 0) (h2 : f b c = 0) : f a c = 0 := by
  have h3 := h.trans a b c (by omega) (by omega)
  have h4 := h.trans c b a (by have := h.anti b c; omega) (by have := h.anti a b; omega)
  have := h.anti a c
  omega
theorem Tot.left {α : Type} {f : α → α → Int} (h : Tot f) {a b : α} (c : α) (h1 : f a b = 0) : (f a c < 0 ↔ f b c < 0) ∧ (f a c = 0 ↔ f b c = 0) := by
  have h2 := h.trans b a c (by have := h.anti a b; omega)
  have h3 := h.trans a b c (by omega)
  refine ⟨⟨fun g => ?_, fun g => ?_⟩, ⟨fun g => ?_, fun g => ?_⟩⟩
  · have := h2 (by omega); omega
  · have := h3 (by omega); omega
  · exact h.zero (by have := h.anti a b; omega) g
  · exact h.zero h1 g

theorem tot_c3 : Tot c3 := by
  refine ⟨fun a b => ?_, fun a b c h1 h2 => ?_⟩
  · unfold c3
    repeat' split
    all_goals omega
  · unfold c3 at *
    repeat' split at h1
    all_goals repeat' split at h2
    all_goals repeat' split
    all_goals omega

theorem less_irr : ∀ a : List UInt8, Op.bytesLess a a = false
  | [] => rfl
  | a :: l => by simp [Op.bytesLess, less_irr l]
theorem less_asymm : ∀ a b : List UInt8, Op.bytesLess a b = true → Op.bytesLess b a = false
  | [], [], h => by simp [Op.bytesLess] at h
  | [], _ :: _, _ => by simp [Op.bytesLess]
  | _ :: _, [], h => by simp [Op.bytesLess] at h
  | a :: l, b :: m, h => by
    simp only [Op.bytesLess, Bool.or_eq_true, decide_eq_true_eq, Bool.and_eq_true, beq_iff_eq, Bool.or_eq_false_iff, decide_eq_false_iff_not, Bool.and_eq_false_iff] at h ⊢
    rcases h with h | ⟨h, h'⟩
    · refine ⟨by rw [UInt8.lt_iff_toNat_lt] at *; omega, ?_⟩
      left
      simp only [beq_eq_false_iff_ne]
      intro e; subst e; rw [UInt8.lt_iff_toNat_lt] at h; omega
    · subst h
      exact ⟨by rw [UInt8.lt_iff_toNat_lt]; omega, .inr (less_asymm l m h')⟩
theorem less_total : ∀ a b : List UInt8, Op.bytesLess a b = false → a ≠ b → Op.bytesLess b a = true
  | [], [], _, h => absurd rfl h
  | [], _ :: _, h, _ => by simp [Op.bytesLess] at h
  | _ :: _, [], _, _ => by simp [Op.bytesLess]
  | a :: l, b :: m, h, hne => by
    simp only [Op.bytesLess, Bool.or_eq_false_iff, decide_eq_false_iff_not, Bool.and_eq_false_iff, Bool.or_eq_true, decide_eq_true_eq, Bool.and_eq_true, beq_iff_eq] at h ⊢
    obtain ⟨h1, h2⟩ := h
    by_cases e : a = b
    · subst e
      rcases h2 with h2 | h2
      · simp at h2
      · exact .inr ⟨rfl, less_total l m h2 (fun e => hne (by rw [e]))⟩
    · left
      rw [UInt8.lt_iff_toNat_lt] at *
      have : a.toNat ≠ b.toNat := fun h => e (UInt8.toNat_inj.1 h)
      omega
theorem less_trans : ∀ a b c : List UInt8, Op.bytesLess a b = true → Op.bytesLess b c = true → Op.bytesLess a c = true
  | _, [], _, h, _ => by simp [Op.bytesLess] at h
  | _, _ :: _, [], _, h => by simp [Op.bytesLess] at h
  | [], _ :: _, _ :: _, _, _ => by simp [Op.bytesLess]
  | a :: l, b :: m, c :: n, h, h' => by
    simp only [Op.bytesLess, Bool.or_eq_true, decide_eq_true_eq, Bool.and_eq_true, beq_iff_eq] at h h' ⊢
    rcases h with h | ⟨rfl, h⟩ <;> rcases h' with h' | ⟨rfl, h'⟩
    · left; rw [UInt8.lt_iff_toNat_lt] at *; omega
    · exact .inl h
    · exact .inl h'
    · exact .inr ⟨rfl, less_trans l m n h h'⟩

theorem tot_cL : Tot cL := by
  refine ⟨fun a b => ?_, fun a b c h1 h2 => ?_⟩
  · unfold cL
    by_cases e : a = b
    · subst e; simp [less_irr]
    · have e' : b ≠ a := fun h => e h.symm
      cases h : Op.bytesLess a b
      · have := less_total a b h e
        simp [this, e]
      · have := less_asymm a b h
        simp [this, e']
  · unfold cL at *
    by_cases e : a = b
    · subst e
      simp only [less_irr, Bool.false_eq_true, if_false, if_true] at *
      repeat' split at h2
      all_goals simp_all
    · by_cases e' : b = c
      · subst e'
        simp only [less_irr, Bool.false_eq_true, if_false, if_true, e] at *
        repeat' split at h1
        all_goals simp_all
      · simp only [e, e', if_false] at *
        have g1 : Op.bytesLess a b = true := by
          cases h : Op.bytesLess a b
          · rw [h] at h1; simp at h1
          · rfl
        have g2 : Op.bytesLess b c = true := by
          cases h : Op.bytesLess b c
          · rw [h] at h2; simp at h2
          · rfl
        simp [less_trans a b c g1 g2]

theorem tot_cmpL {f : V → V → Int} (h : Tot f) : Tot (cmpL f) := by
  refine ⟨fun a => ?_, fun a => ?_⟩
  · induction a with
    | nil => intro b; cases b <;> simp [cmpL]
    | cons a l ih =>
      intro b
      cases b with
      | nil => simp [cmpL]
      | cons b m =>
        have := h.anti a b
        simp only [cmpL]
        by_cases e : f a b = 0
        · rw [if_pos (by omega), if_pos e]; exact ih m
        · rw [if_neg (by omega), if_neg e]; exact this
  · induction a with
    | nil => intro b c; cases b <;> cases c <;> simp [cmpL]
    | cons a l ih =>
      intro b c
      cases b with
      | nil => cases c <;> simp [cmpL]
      | cons b m =>
        cases c with
        | nil => simp [cmpL]
        | cons c n =>
          simp only [cmpL]
          intro h1 h2
          have ht := h.trans a b c
          by_cases e1 : f a b = 0
          · rw [if_pos e1] at h1 ⊢
            have hl := h.left c e1
            by_cases e2 : f b c = 0
            · rw [if_pos e2] at h2 ⊢
              rw [if_pos (hl.2.2 e2)]
              exact ih m n h1 h2
            · rw [if_neg e2] at h2 ⊢
              rw [if_neg (fun e => e2 (hl.2.1 e))]
              have := hl.1.2 (by omega)
              omega
          · rw [if_neg e1] at h1 ⊢
            by_cases e2 : f b c = 0
            · rw [if_pos e2] at h2 ⊢
              have := ht (by omega) (by omega)
              rw [if_neg (by omega)]
              omega
            · rw [if_neg e2] at h2 ⊢
              have := ht (by omega) (by omega)
              rw [if_neg (by omega)]
              omega

/-- two orders, one behind the other -/
theorem tot_then {α β γ : Type} {f : β → β → Int} {g : γ → γ → Int} (p : α → β) (q : α → γ) (hf : Tot f) (hg : Tot g) : Tot (fun a b => if f (p a) (p b) = 0 then g (q a) (q b) else f (p a) (p b)) := by
  refine ⟨fun a b => ?_, fun a b c => ?_⟩
  · have h1 := hf.anti (p a) (p b)
    have h2 := hg.anti (q a) (q b)
    repeat' split
    all_goals omega
  · intro h1 h2
    have ht := hf.trans (p a) (p b) (p c)
    by_cases e1 : f (p a) (p b) = 0
    · have hl := hf.left (p c) e1
      rw [if_pos e1] at h1 ⊢
      by_cases e2 : f (p b) (p c) = 0
      · rw [if_pos e2] at h2 ⊢
        rw [if_pos (hl.2.2 e2)]
        exact hg.trans _ _ _ h1 h2
      · rw [if_neg e2] at h2 ⊢
        rw [if_neg (fun e => e2 (hl.2.1 e))]
        have := hl.1.2 (by omega)
        omega
    · rw [if_neg e1] at h1 ⊢
      by_cases e2 : f (p b) (p c) = 0
      · rw [if_pos e2] at h2 ⊢
        have := ht (by omega) (by omega)
        rw [if_neg (by omega)]
        omega
      · rw [if_neg e2] at h2 ⊢
        have := ht (by omega) (by omega)
        rw [if_neg (by omega)]
        omega

theorem c3_zero {a b : Int} : c3 a b = 0 ↔ a = b := by
  unfold c3; repeat' split
  all_goals omega

def V.kind : V → Int | .mk k _ _ _ _ => k
def V.int : V → Int | .mk _ n _ _ _ => n
def V.to_ : V → Int | .mk _ _ t _ _ => t
def V.text : V → List UInt8 | .mk _ _ _ s _ => s.data.toList
def V.items : V → List V | .mk _ _ _ _ l => l

/-- by the kind, and then by one of several orders, chosen by the kind -/
theorem tot_kind {g : Int → V → V → Int} (hg : ∀ k, Tot (g k)) : Tot (fun a b => if c3 a.kind b.kind = 0 then g a.kind a b else c3 a.kind b.kind) := by
  refine ⟨fun a b => ?_, fun a b c => ?_⟩
  · have h1 := tot_c3.anti a.kind b.kind
    by_cases e : c3 a.kind b.kind = 0
    · have e' := c3_zero.1 e
      rw [if_pos (by omega), if_pos e, ← e']
      exact (hg _).anti a b
    · rw [if_neg (by omega), if_neg e]; exact h1
  · intro h1 h2
    have ht := tot_c3.trans a.kind b.kind c.kind
    by_cases e1 : c3 a.kind b.kind = 0
    · have k1 := c3_zero.1 e1
      rw [if_pos e1] at h1 ⊢
      by_cases e2 : c3 b.kind c.kind = 0
      · have k2 := c3_zero.1 e2
        rw [if_pos e2] at h2 ⊢
        rw [if_pos (c3_zero.2 (k1.trans k2))]
        rw [← k1] at h2 ⊢
        exact (hg _).trans a b c h1 h2
      · rw [if_neg e2] at h2 ⊢
        rw [← k1] at h2 e2 ⊢
        rw [if_neg e2]
        omega
    · rw [if_neg e1] at h1 ⊢
      by_cases e2 : c3 b.kind c.kind = 0
      · have k2 := c3_zero.1 e2
        rw [if_pos e2] at h2 ⊢
        rw [← k2]
        rw [if_neg e1]
        omega
      · rw [if_neg e2] at h2 ⊢
        have := ht (by omega) (by omega)
        rw [if_neg (by omega)]
        omega

theorem tot_pull {α β : Type} {f : β → β → Int} (p : α → β) (h : Tot f) : Tot (fun a b => f (p a) (p b)) := ⟨fun _ _ => h.anti _ _, fun _ _ _ => h.trans _ _ _⟩
theorem tot_zero {α : Type} : Tot (fun _ _ : α => 0) := ⟨by simp, by simp⟩

/-- Compare is a total order -/
theorem tot_cmpV : ∀ d, Tot (cmpV d)
  | 0 => by
    have : cmpV 0 = fun _ _ => 0 := by funext a b; cases a; cases b; rfl
    rw [this]; exact tot_zero
  | d + 1 => by
    have h := tot_kind (g := fun k a b => if k = 1 ∨ k = 2 ∨ k = 4 then c3 a.int b.int else if k = 5 then (if c3 a.int b.int = 0 then c3 a.to_ b.to_ else c3 a.int b.int)
      else if k = 3 ∨ k = 6 then cL a.text b.text else if k = 7 then cmpL (cmpV d) a.items b.items else 0) (fun k => by
        by_cases h1 : k = 1 ∨ k = 2 ∨ k = 4
        · simp only [if_pos h1]; exact tot_pull _ tot_c3
        simp only [if_neg h1]
        by_cases h2 : k = 5
        · simp only [if_pos h2]; exact tot_then V.int V.to_ tot_c3 tot_c3
        simp only [if_neg h2]
        by_cases h3 : k = 3 ∨ k = 6
        · simp only [if_pos h3]; exact tot_pull _ tot_cL
        simp only [if_neg h3]
        by_cases h4 : k = 7
        · simp only [if_pos h4]; exact tot_pull _ (tot_cmpL (tot_cmpV d))
        simp only [if_neg h4]; exact tot_zero)
    have e : cmpV (d + 1) = fun a b => if c3 a.kind b.kind = 0 then (if a.kind = 1 ∨ a.kind = 2 ∨ a.kind = 4 then c3 a.int b.int else if a.kind = 5 then (if c3 a.int b.int = 0 then c3 a.to_ b.to_ else c3 a.int b.int)
      else if a.kind = 3 ∨ a.kind = 6 then cL a.text b.text else if a.kind = 7 then cmpL (cmpV d) a.items b.items else 0) else c3 a.kind b.kind := by
      funext a b; cases a; cases b; rfl
    rw [e]
    exact h

theorem c3_bd (a b : Int) : -1 ≤ c3 a b ∧ c3 a b ≤ 1 := by
  unfold c3
  repeat' split
  all_goals omega
theorem cL_bd (a b : List UInt8) : -1 ≤ cL a b ∧ cL a b ≤ 1 := by
  unfold cL
  repeat' split
  all_goals omega
theorem cmpL_bd {f : V → V → Int} (h : ∀ a b, -1 ≤ f a b ∧ f a b ≤ 1) : ∀ l m, -1 ≤ cmpL f l m ∧ cmpL f l m ≤ 1
  | [], [] => by simp [cmpL]
  | [], _ :: _ => by simp [cmpL]
  | _ :: _, [] => by simp [cmpL]
  | a :: l, b :: m => by
    simp only [cmpL]
    split
    · exact cmpL_bd h l m
    · exact h a b
theorem cmpV_bd : ∀ d a b, -1 ≤ cmpV d a b ∧ cmpV d a b ≤ 1
  | 0, .mk .., .mk .. => by simp [cmpV]
  | d + 1, .mk k n t s l, .mk k' n' t' s' l' => by
    have h1 := c3_bd k k'
    have h2 := c3_bd n n'
    have h3 := c3_bd t t'
    have h4 := cL_bd s.data.toList s'.data.toList
    have h5 := cmpL_bd (cmpV_bd d) l l'
    simp only [cmpV]
    repeat' split
    all_goals first | assumption | omega
end Go.Proofs.YtmkicfjcgbfaaaaGreat
namespace Go.Proofs.YtmkicfjcgbfaaaaGreat
open Go.RowKit

def blt (a b : ByteArray) : Prop := Op.bytesLess a.toList b.toList = true
theorem blt_irr (a : ByteArray) : ¬ blt a a := by unfold blt; rw [less_irr]; decide
theorem blt_trans {a b c : ByteArray} (h1 : blt a b) (h2 : blt b c) : blt a c := less_trans _ _ _ h1 h2
theorem tl_eq {a b : ByteArray} (h : a.toList = b.toList) : a = b := by
  have := dec_toList a b
  rw [h, beq_self_eq_true] at this
  exact of_decide_eq_true this

/-! ### a list that has been checked -/
theorem prs_sorted : ∀ {l : List Pr} {p : Option ByteArray}, prsErr p l = 0 → (∀ q, p = some q → ∀ x ∈ l, blt q x.name) ∧ l.Pairwise (fun x y => blt x.name y.name) ∧ (∀ x ∈ l, x.val.kind ≠ 0 ∧ nmErr x.name = 0)
  | [], p, _ => ⟨fun _ _ x hx => (by cases hx), List.Pairwise.nil, fun x hx => (by cases hx)⟩
  | x :: l, p, h => by
    rw [prsErr] at h
    by_cases h1 : nmErr x.name ≠ 0
    · rw [if_pos h1] at h; exact absurd h h1
    rw [if_neg h1] at h
    by_cases h2 : lePrev p x.name = true
    · rw [if_pos h2] at h; exact absurd h (by decide)
    rw [if_neg h2] at h
    by_cases h3 : (x.val.kind == 0) = true
    · rw [if_pos h3] at h; exact absurd h (by decide)
    rw [if_neg h3] at h
    by_cases h4 : vErr x.val ≠ 0
    · rw [if_pos h4] at h; exact absurd h h4
    rw [if_neg h4] at h
    obtain ⟨i1, i2, i3⟩ := prs_sorted h
    have hx : ∀ q, p = some q → blt q x.name := by
      rintro q rfl
      have h2 : strLe x.name q = false := by
        cases e : strLe x.name q
        · rfl
        · exact absurd e h2
      unfold strLe at h2
      rw [Bool.or_eq_false_iff] at h2
      exact less_total _ _ h2.1 (fun e => by rw [e, beq_self_eq_true] at h2; exact absurd h2.2 (by decide))
    refine ⟨fun q hq y hy => ?_, List.pairwise_cons.2 ⟨i1 _ rfl, i2⟩, fun y hy => ?_⟩
    · rcases List.mem_cons.1 hy with rfl | hy
      · exact hx q hq
      · exact blt_trans (hx q hq) (i1 _ rfl y hy)
    · rcases List.mem_cons.1 hy with rfl | hy
      · exact ⟨fun e => h3 (by rw [e]; rfl), Decidable.of_not_not h1⟩
      · exact i3 y hy
theorem cp_ok {l : List Pr} (h : cpErr l = 0) : l.length ≤ 20 ∧ l.Pairwise (fun x y => blt x.name y.name) ∧ (∀ x ∈ l, x.val.kind ≠ 0 ∧ nmErr x.name = 0) := by
  unfold cpErr at h
  by_cases h1 : 20 < l.length
  · rw [if_pos h1] at h; exact absurd h (by decide)
  · rw [if_neg h1] at h
    exact ⟨by omega, (prs_sorted h).2⟩

theorem nmOk_size {s : ByteArray} (h : nmErr s = 0) : s.size ≤ 32 := by
  unfold nmErr at h
  by_cases e : nmOk s = true
  · unfold nmOk at e
    simp only [Bool.and_eq_true, decide_eq_true_eq] at e
    omega
  · rw [if_neg e] at h; exact absurd h (by decide)

end Go.Proofs.YtmkicfjcgbfaaaaGreat
namespace Go.Proofs.YtmkicfjcgbfaaaaGreat
open Go.RowKit

/-- a property in memory, its items told apart -/
def AP (x : Pr × Value) : Value := .agg #[.string x.1.name, .int .i64 x.1.val.kind, .int .i64 x.1.val.int_, .int .i64 x.1.val.to_, .string x.1.val.text, x.2]
/-- a block in memory, its kids and properties told apart -/
def AB (x : Bl × Value × Value) : Value := .agg #[.int .i64 x.1.id, .int .i64 x.1.parent, x.2.1, .string x.1.text, x.2.2]

section
variable {w : World} {B : Nat} {A : Option Addr} {n c : Nat}
theorem RPr.len {l : List Pr} (h : RPr w B (.slice A n c) l) : n = l.length ∧ n ≤ c ∧ n * 80 ≤ 140737488351232 := by
  obtain ⟨A', n', c', M, h1, e, h2, h3, _⟩ := h
  injection e with e1 e2 e3
  subst e2 e3
  exact ⟨by rw [h2, ← h1, List.length_map], h3⟩
/-- a property in a row -/
theorem RPr.at_ {l : List Pr} (h : RPr w B (.slice A n c) l) {k : Nat} {x : Pr} (hk : l[k]? = some x) : ∃ b off Av nv cv, A = some ⟨b, off, none⟩ ∧ b < B ∧ w.cell? ⟨b, off + k * 6, none⟩ = some (.string x.name) ∧ w.cell? ⟨b, off + k * 6 + 1, none⟩ = some (.int .i64 x.val.kind) ∧ w.cell? ⟨b, off + k * 6 + 2, none⟩ = some (.int .i64 x.val.int_) ∧ w.cell? ⟨b, off + k * 6 + 3, none⟩ = some (.int .i64 x.val.to_) ∧ w.cell? ⟨b, off + k * 6 + 4, none⟩ = some (.string x.val.text) ∧ w.cell? ⟨b, off + k * 6 + 5, none⟩ = some (.slice Av nv cv) ∧ RV w B (.slice Av nv cv) x.val.items := by
  obtain ⟨A', n', c', M, h1, e, h2, h3, h4, h5⟩ := h
  injection e with e1 e2 e3
  subst e1 e2 e3
  obtain ⟨y, hy, rfl⟩ : ∃ y, M[k]? = some y ∧ y.1 = x := by
    rw [← h1, List.getElem?_map, Option.map_eq_some_iff] at hk
    exact hk
  obtain ⟨b, off, e, hb, hc⟩ := h4.plain_at (by omega) prV_len h2 hy
  have k1 := h5 y (List.mem_of_getElem? hy)
  obtain ⟨⟨nm, ⟨kx, ix, tx, sx, lx⟩⟩, v⟩ := y
  obtain ⟨Av, nv, cv, rfl⟩ := k1.slice
  exact ⟨b, off, Av, nv, cv, e, hb, hc 0 _ rfl, hc 1 _ rfl, hc 2 _ rfl, hc 3 _ rfl, hc 4 _ rfl, hc 5 _ rfl, k1⟩
end
end Go.Proofs.YtmkicfjcgbfaaaaGreat
namespace Go.Proofs.YtmkicfjcgbfaaaaGreat
open Go.RowKit

/-- a slice that reads as a list, its block of a sort -/
def RdX (w : World) (S : Nat → Prop) (size : Nat) (A : Option Addr) (n : Nat) (xs : List Value) : Prop :=
  xs.length = n * size ∧ (0 < n → ∃ ad, A = some ad ∧ S ad.block ∧ ∀ j u, xs[j]? = some u → w.cell? (ad.add j) = some u)
def RVdX (W : World) (S : Nat → Prop) : Nat → Value → List Vl → Prop
  | 0, v, l => l = [] ∧ ∃ A c, v = .slice A 0 c
  | d + 1, v, l => ∃ A n c, ∃ M : List (Vl × Value), M.map Prod.fst = l ∧ v = .slice A n c ∧ n = M.length ∧ (n ≤ c ∧ n * 64 ≤ 140737488351232) ∧ RdX W S 5 A n (M.flatMap vlV) ∧ ∀ x ∈ M, RVdX W S d x.2 x.1.items
def RVX (W : World) (S : Nat → Prop) (v : Value) (l : List Vl) : Prop := ∃ d, RVdX W S d v l
def RPrX (W : World) (S : Nat → Prop) (v : Value) (l : List Pr) : Prop := ∃ A n c, ∃ M : List (Pr × Value), M.map Prod.fst = l ∧ v = .slice A n c ∧ n = M.length ∧ (n ≤ c ∧ n * 80 ≤ 140737488351232) ∧ RdX W S 6 A n (M.flatMap prV) ∧ ∀ x ∈ M, RVX W S x.2 x.1.val.items
def RInX (W : World) (S : Nat → Prop) (v : Value) (l : List Int) : Prop := ∃ A n c, v = .slice A n c ∧ n = l.length ∧ (n ≤ c ∧ n * 8 ≤ 140737488351232) ∧ RdX W S 1 A n (l.map (.int .i64)) ∧ ∀ x ∈ l, I64 x
def RBX (W : World) (S : Nat → Prop) (v : Value) (l : List Bl) : Prop := ∃ A n c, ∃ M : List (Bl × Value × Value), M.map Prod.fst = l ∧ v = .slice A n c ∧ n = M.length ∧ (n ≤ c ∧ n * 80 ≤ 140737488351232) ∧ RdX W S 5 A n (M.flatMap blV) ∧ ∀ x ∈ M, RInX W S x.2.1 x.1.kids ∧ RPrX W S x.2.2 x.1.props
section
variable {w w' : World} {S S' : Nat → Prop} {B size n d : Nat} {A : Option Addr} {xs : List Value} {v : Value}
theorem RdX.keep (h : RdX w S size A n xs) (hk : ∀ p : Addr, S p.block → w'.cell? p = w.cell? p) : RdX w' S size A n xs :=
  ⟨h.1, fun hn => by
    obtain ⟨ad, e, hb, hc⟩ := h.2 hn
    exact ⟨ad, e, hb, fun j u hu => (hk _ (by rw [block_of_add]; exact hb)).trans (hc j u hu)⟩⟩
theorem RdX.weak (h : RdX w S size A n xs) (hS : ∀ b, S b → S' b) : RdX w S' size A n xs :=
  ⟨h.1, fun hn => by
    obtain ⟨ad, e, hb, hc⟩ := h.2 hn
    exact ⟨ad, e, hS _ hb, hc⟩⟩
theorem RdX.reads (h : RdX w S size A n xs) (hS : ∀ b, S b → b < B) : Reads w B size A n xs :=
  ⟨h.1, fun hn => by
    obtain ⟨ad, e, hb, hc⟩ := h.2 hn
    exact ⟨ad, e, hS _ hb, hc⟩⟩
theorem RdX.of (h : Reads w B size A n xs) : RdX w (· < B) size A n xs := h
theorem RdX.of_own {base : Nat} {e : TypeId} (h : w.ownsRow base e size v n xs) : ∃ A c, v = .slice A n c ∧ n ≤ c ∧ RdX w (fun b => v.ownBlock = some b ∧ base ≤ b ∧ b < w.heap.size) size A n xs := by
  obtain ⟨h1, h2⟩ := h
  rcases h2 with ⟨rfl, rfl⟩ | ⟨g, cap, cur, rfl, hg, hh, hnc, r⟩
  · exact ⟨none, 0, rfl, Nat.le_refl _, h1, fun hn => absurd hn (by omega)⟩
  · have hlt : g < w.heap.size := by
      rcases Nat.lt_or_ge g w.heap.size with h | h
      · exact h
      · rw [Array.getElem?_eq_none h] at hh; cases hh
    exact ⟨_, _, rfl, hnc, h1, fun _ => ⟨_, rfl, ⟨rfl, hg, hlt⟩, World.ownsRow.cells (g := g) ⟨h1, .inr ⟨g, cap, cur, rfl, hg, hh, hnc, r⟩⟩ rfl⟩⟩
theorem RVdX.keep (hk : ∀ p : Addr, S p.block → w'.cell? p = w.cell? p) : ∀ {d : Nat} {v : Value} {l : List Vl}, RVdX w S d v l → RVdX w' S d v l
  | 0, _, _, h => h
  | _ + 1, _, _, ⟨A, n, c, M, h1, h2, h3, h4, h5, h6⟩ => ⟨A, n, c, M, h1, h2, h3, h4, h5.keep hk, fun x hx => RVdX.keep hk (h6 x hx)⟩
theorem RVdX.weak (hS : ∀ b, S b → S' b) : ∀ {d : Nat} {v : Value} {l : List Vl}, RVdX w S d v l → RVdX w S' d v l
  | 0, _, _, h => h
  | _ + 1, _, _, ⟨A, n, c, M, h1, h2, h3, h4, h5, h6⟩ => ⟨A, n, c, M, h1, h2, h3, h4, h5.weak hS, fun x hx => RVdX.weak hS (h6 x hx)⟩
theorem RVdX.reads (hS : ∀ b, S b → b < B) : ∀ {d : Nat} {v : Value} {l : List Vl}, RVdX w S d v l → RVd w B d v l
  | 0, _, _, h => h
  | _ + 1, _, _, ⟨A, n, c, M, h1, h2, h3, h4, h5, h6⟩ => ⟨A, n, c, M, h1, h2, h3, h4, h5.reads hS, fun x hx => RVdX.reads hS (h6 x hx)⟩
theorem RVdX.of : ∀ {d : Nat} {v : Value} {l : List Vl}, RVd w B d v l → RVdX w (· < B) d v l
  | 0, _, _, h => h
  | _ + 1, _, _, ⟨A, n, c, M, h1, h2, h3, h4, h5, h6⟩ => ⟨A, n, c, M, h1, h2, h3, h4, h5, fun x hx => RVdX.of (h6 x hx)⟩
theorem RVdX.deeper : ∀ {d : Nat} {v : Value} {l : List Vl}, RVdX w S d v l → RVdX w S (d + 1) v l
  | 0, _, _, ⟨h1, A, c, h2⟩ => ⟨A, 0, c, [], by rw [h1]; rfl, h2, rfl, ⟨Nat.zero_le _, by omega⟩, ⟨rfl, fun h => absurd h (by omega)⟩, fun x hx => by cases hx⟩
  | d + 1, _, _, ⟨A, n, c, M, h1, h2, h3, h4, h5, h6⟩ => ⟨A, n, c, M, h1, h2, h3, h4, h5, fun x hx => RVdX.deeper (h6 x hx)⟩
theorem RVdX.deep {l : List Vl} (h : RVdX w S d v l) : ∀ {k : Nat}, RVdX w S (d + k) v l := by
  intro k
  induction k with
  | zero => exact h
  | succ k ih => exact ih.deeper
theorem RVX.keep {l : List Vl} (h : RVX w S v l) (hk : ∀ p : Addr, S p.block → w'.cell? p = w.cell? p) : RVX w' S v l := h.imp fun _ h => RVdX.keep hk h
theorem RVX.weak {l : List Vl} (h : RVX w S v l) (hS : ∀ b, S b → S' b) : RVX w S' v l := h.imp fun _ h => RVdX.weak hS h
theorem RVX.reads {l : List Vl} (h : RVX w S v l) (hS : ∀ b, S b → b < B) : RV w B v l := h.imp fun _ h => RVdX.reads hS h
theorem RVX.of {l : List Vl} (h : RV w B v l) : RVX w (· < B) v l := h.imp fun _ h => RVdX.of h
theorem RVX.all : ∀ {M : List (Vl × Value)}, (∀ x ∈ M, RVX w S x.2 x.1.items) → ∃ d, ∀ x ∈ M, RVdX w S d x.2 x.1.items
  | [], _ => ⟨0, fun x hx => by cases hx⟩
  | a :: M, h => by
    obtain ⟨d1, h1⟩ := h a (by simp)
    obtain ⟨d2, h2⟩ := RVX.all (M := M) fun x hx => h x (by simp [hx])
    refine ⟨d1 + d2, fun x hx => ?_⟩
    rcases List.mem_cons.1 hx with rfl | hx
    · exact h1.deep
    · have := (h2 x hx).deep (k := d1)
      rwa [Nat.add_comm] at this
theorem RVX.close {A : Option Addr} {n c : Nat} {M : List (Vl × Value)} (hn : n = M.length) (hc : n ≤ c) (hb : n * 64 ≤ 140737488351232) (hr : RdX w S 5 A n (M.flatMap vlV)) (h : ∀ x ∈ M, RVX w S x.2 x.1.items) : RVX w S (.slice A n c) (M.map Prod.fst) := by
  obtain ⟨d, hd⟩ := RVX.all h
  exact ⟨d + 1, A, n, c, M, rfl, rfl, hn, ⟨hc, hb⟩, hr, hd⟩
theorem RPrX.keep {l : List Pr} (h : RPrX w S v l) (hk : ∀ p : Addr, S p.block → w'.cell? p = w.cell? p) : RPrX w' S v l := by
  obtain ⟨A, n, c, M, h1, h2, h3, h4, h5, h6⟩ := h
  exact ⟨A, n, c, M, h1, h2, h3, h4, h5.keep hk, fun x hx => (h6 x hx).keep hk⟩
theorem RPrX.weak {l : List Pr} (h : RPrX w S v l) (hS : ∀ b, S b → S' b) : RPrX w S' v l := by
  obtain ⟨A, n, c, M, h1, h2, h3, h4, h5, h6⟩ := h
  exact ⟨A, n, c, M, h1, h2, h3, h4, h5.weak hS, fun x hx => (h6 x hx).weak hS⟩
theorem RPrX.reads {l : List Pr} (h : RPrX w S v l) (hS : ∀ b, S b → b < B) : RPr w B v l := by
  obtain ⟨A, n, c, M, h1, h2, h3, h4, h5, h6⟩ := h
  exact ⟨A, n, c, M, h1, h2, h3, h4, h5.reads hS, fun x hx => (h6 x hx).reads hS⟩
theorem RPrX.of {l : List Pr} (h : RPr w B v l) : RPrX w (· < B) v l := by
  obtain ⟨A, n, c, M, h1, h2, h3, h4, h5, h6⟩ := h
  exact ⟨A, n, c, M, h1, h2, h3, h4, h5, fun x hx => .of (h6 x hx)⟩
theorem RInX.keep {l : List Int} (h : RInX w S v l) (hk : ∀ p : Addr, S p.block → w'.cell? p = w.cell? p) : RInX w' S v l := by
  obtain ⟨A, n, c, h1, h2, h3, h4, h5⟩ := h
  exact ⟨A, n, c, h1, h2, h3, h4.keep hk, h5⟩
theorem RInX.weak {l : List Int} (h : RInX w S v l) (hS : ∀ b, S b → S' b) : RInX w S' v l := by
  obtain ⟨A, n, c, h1, h2, h3, h4, h5⟩ := h
  exact ⟨A, n, c, h1, h2, h3, h4.weak hS, h5⟩
theorem RInX.reads {l : List Int} (h : RInX w S v l) (hS : ∀ b, S b → b < B) : RIn w B v l := by
  obtain ⟨A, n, c, h1, h2, h3, h4, h5⟩ := h
  exact ⟨A, n, c, h1, h2, h3, h4.reads hS, h5⟩
theorem RInX.of {l : List Int} (h : RIn w B v l) : RInX w (· < B) v l := h
theorem RBX.keep {l : List Bl} (h : RBX w S v l) (hk : ∀ p : Addr, S p.block → w'.cell? p = w.cell? p) : RBX w' S v l := by
  obtain ⟨A, n, c, M, h1, h2, h3, h4, h5, h6⟩ := h
  exact ⟨A, n, c, M, h1, h2, h3, h4, h5.keep hk, fun x hx => ⟨(h6 x hx).1.keep hk, (h6 x hx).2.keep hk⟩⟩
theorem RBX.weak {l : List Bl} (h : RBX w S v l) (hS : ∀ b, S b → S' b) : RBX w S' v l := by
  obtain ⟨A, n, c, M, h1, h2, h3, h4, h5, h6⟩ := h
  exact ⟨A, n, c, M, h1, h2, h3, h4, h5.weak hS, fun x hx => ⟨(h6 x hx).1.weak hS, (h6 x hx).2.weak hS⟩⟩
theorem RBX.reads {l : List Bl} (h : RBX w S v l) (hS : ∀ b, S b → b < B) : RB w B v l := by
  obtain ⟨A, n, c, M, h1, h2, h3, h4, h5, h6⟩ := h
  exact ⟨A, n, c, M, h1, h2, h3, h4, h5.reads hS, fun x hx => ⟨(h6 x hx).1.reads hS, (h6 x hx).2.reads hS⟩⟩
/-- cells of blocks that stand are as they were -/
theorem keep_below {B : Nat} (hb : Below B w w') (hS : ∀ b, S b → b < B) : ∀ p : Addr, S p.block → w'.cell? p = w.cell? p := fun _ hp => hb.cell (hS _ hp)
theorem keep_grown {row : Option Nat} (hg : w.grownBy w' row) (hS : ∀ b, S b → b < w.heap.size ∧ some b ≠ row) : ∀ p : Addr, S p.block → w'.cell? p = w.cell? p := fun _ hp => World.cell?_of_block (hg.block _ (hS _ hp).1 (hS _ hp).2)
end
/-! ### a row of the call's own, with what its elements lead to -/
def Nest (α : Type) := World → (Nat → Prop) → α → Prop
def NestOk {α : Type} (N : Nest α) : Prop := ∀ (w w' : World) (S S' : Nat → Prop) (x : α), N w S x → (∀ p : Addr, S p.block → w'.cell? p = w.cell? p) → (∀ b, S b → S' b) → N w' S' x
/-- a row of the call's own; what its elements lead to lies in other blocks of the call's own -/
structure OwnX {α : Type} (enc : α → List Value) (size : Nat) (e : TypeId) (N : Nest α) (w : World) (base : Nat) (v : Value) (M : List α) : Prop where
  own : w.ownsRow base e size v M.length (M.flatMap enc)
  nest : ∀ x ∈ M, N w (fun b => base ≤ b ∧ b < w.heap.size ∧ v.ownBlock ≠ some b) x
theorem own_block_lt {w : World} {base n size : Nat} {e : TypeId} {v : Value} {xs : List Value} (h : w.ownsRow base e size v n xs) : ∀ g, v.ownBlock = some g → base ≤ g ∧ g < w.heap.size := by
  intro g hg
  rcases h.2 with ⟨rfl, _⟩ | ⟨g', cap, cur, rfl, hb, hh, _⟩
  · cases hg
  · injection hg with hg
    subst hg
    refine ⟨hb, ?_⟩
    rcases Nat.lt_or_ge g' w.heap.size with h | h
    · exact h
    · rw [Array.getElem?_eq_none h] at hh; cases hh
section
variable {α : Type} {enc : α → List Value} {size base : Nat} {e : TypeId} {N : Nest α} {w w' : World} {v v' : Value} {M : List α} {x : α}
theorem OwnX.start (w : World) (base : Nat) : OwnX enc size e N w base (.slice none 0 0) [] := ⟨World.ownsRow_nil w base e size, fun x hx => by cases hx⟩
theorem OwnX.below (hN : NestOk N) (h : OwnX enc size e N w base v M) (hb : Below w.heap.size w w') : OwnX enc size e N w' base v M :=
  ⟨own_below h.own hb, fun x hx => hN _ _ _ _ x (h.nest x hx) (fun _ hp => hb.cell hp.2.1) fun _b hb' => ⟨hb'.1, Nat.lt_of_lt_of_le hb'.2.1 hb.size, hb'.2.2⟩⟩
theorem OwnX.app (hN : NestOk N) (h : OwnX enc size e N w base v M) {S : Nat → Prop} (hx : N w S x) (hS : ∀ b, S b → base ≤ b ∧ b < w.heap.size ∧ v.ownBlock ≠ some b)
    (hown : w'.ownsRow base e size v' (M.length + 1) (M.flatMap enc ++ enc x)) (hg : w.grownBy w' v.ownBlock) (hat : v'.ownBlock = v.ownBlock ∨ v'.ownBlock = some w.heap.size) : OwnX enc size e N w' base v' (M ++ [x]) := by
  have key : ∀ b, base ≤ b ∧ b < w.heap.size ∧ v.ownBlock ≠ some b → base ≤ b ∧ b < w'.heap.size ∧ v'.ownBlock ≠ some b := fun b ⟨h1, h2, h3⟩ => by
    refine ⟨h1, Nat.lt_of_lt_of_le h2 hg.size, ?_⟩
    rcases hat with g | g
    · rw [g]; exact h3
    · rw [g]; intro e; injection e with e; omega
  refine ⟨by rw [List.length_append, List.flatMap_append]; simpa using hown, fun y hy => ?_⟩
  rcases List.mem_append.1 hy with hy | hy
  · exact hN _ _ _ _ y (h.nest y hy) (fun _ hp => World.cell?_of_block (hg.block _ hp.2.1 (fun e => hp.2.2 e.symm))) key
  · obtain rfl : y = x := by simpa using hy
    exact hN _ _ _ _ y hx (fun _ hp => World.cell?_of_block (hg.block _ (hS _ hp).2.1 (fun e => (hS _ hp).2.2 e.symm))) fun b hb => key b (hS b hb)
theorem OwnX.blocks (h : OwnX enc size e N w base v M) : ∀ g, v.ownBlock = some g → base ≤ g ∧ g < w.heap.size := own_block_lt h.own
end
theorem Reads.blk {w : World} {g size n : Nat} {t : TypeId} {cs : Array Value} (h : Blk w g t cs) (hs : cs.size = n * size) : Reads w (g + 1) size (some ⟨g, 0, none⟩) n cs.toList :=
  ⟨by simpa using hs, fun _ => ⟨_, rfl, Nat.lt_succ_self _, fun j u hu => by
    rw [Addr.add_lit, Nat.zero_add]
    rw [h.cell]
    simpa using hu⟩⟩
abbrev NV : Nest (Vl × Value) := fun w S x => RVX w S x.2 x.1.items
abbrev NP : Nest (Pr × Value) := fun w S x => RVX w S x.2 x.1.val.items
abbrev NB : Nest (Bl × Value × Value) := fun w S x => RInX w S x.2.1 x.1.kids ∧ RPrX w S x.2.2 x.1.props
theorem NV_ok : NestOk NV := fun _ _ _ _ _ h hk hS => (h.keep hk).weak hS
theorem NP_ok : NestOk NP := fun _ _ _ _ _ h hk hS => (h.keep hk).weak hS
theorem NB_ok : NestOk NB := fun _ _ _ _ _ h hk hS => ⟨(h.1.keep hk).weak hS, (h.2.keep hk).weak hS⟩
theorem vlV_one (x : Vl × Value) (hx : ∃ A n c, x.2 = .slice A n c) : ∀ u ∈ vlV x, u.oneCell' = true := by
  obtain ⟨x, v⟩ := x
  obtain ⟨A, n, c, rfl⟩ := hx
  intro u hu
  simp only [vlV, List.mem_cons, List.not_mem_nil, or_false] at hu
  rcases hu with rfl | rfl | rfl | rfl | rfl <;> rfl
theorem RVX.slice {w : World} {S : Nat → Prop} {v : Value} {l : List Vl} (h : RVX w S v l) : ∃ A n c, v = .slice A n c := by
  obtain ⟨d, h⟩ := h
  obtain ⟨A, n, c, M, _, h2, _⟩ := h.deeper
  exact ⟨A, n, c, h2⟩
end Go.Proofs.YtmkicfjcgbfaaaaGreat
