/-
  DERIVED. Merging lists of properties: the plain law, along the sorted names. Conditions: none. By an AI agent.
-/
import Derived.Test.YteichcpbfdjjkaaPmGet2
import Derived.Test.YteichcpbfdjjkaaBsProps
import Derived.Maps.Views
import Derived.Maps.Keyed
import Derived.Sort.KeysCollected
namespace Go.Proofs.Yteichcpbfdjjkaa
open Go.RowKit Go.Maps

abbrev DU := DataW Unit
def key (p : ByteArray) : Lit := .string p.data.toList
def btrue : DU := .lit (.bool true)
def setD (acc : List ByteArray) : DU := setOf btrue (acc.map key)
def blt (a b : ByteArray) : Prop := Op.bytesLess a.toList b.toList = true
theorem blt_irr (a : ByteArray) : ¬ blt a a := by unfold blt; rw [less_irr]; decide
theorem blt_trans {a b c : ByteArray} (h1 : blt a b) (h2 : blt b c) : blt a c := less_trans _ _ _ h1 h2
theorem tl_eq {a b : ByteArray} (h : a.toList = b.toList) : a = b := by
  have := dec_toList a b
  rw [h, beq_self_eq_true] at this
  exact of_decide_eq_true this

/-! ### a list that has been checked -/
theorem prs_sorted : ∀ {l : List Pr} {p : Option ByteArray}, prsErr p l = 0 → (∀ q, p = some q → ∀ x ∈ l, blt q x.name) ∧ l.Pairwise (fun x y => blt x.name y.name) ∧ (∀ x ∈ l, x.val.kind ≠ 0 ∧ nmErr x.name = 0)
  | [], p, _ => ⟨fun _ _ x hx => (by cases hx), List.Pairwise.nil, fun x hx => (by cases hx)⟩
  | x :: l, p, h => by
    rw [prsErr] at h
    by_cases h1 : nmErr x.name ≠ 0
    · rw [if_pos h1] at h; exact absurd h h1
    rw [if_neg h1] at h
    by_cases h2 : lePrev p x.name = true
    · rw [if_pos h2] at h; exact absurd h (by decide)
    rw [if_neg h2] at h
    by_cases h3 : (x.val.kind == 0) = true
    · rw [if_pos h3] at h; exact absurd h (by decide)
    rw [if_neg h3] at h
    by_cases h4 : vErr x.val ≠ 0
    · rw [if_pos h4] at h; exact absurd h h4
    rw [if_neg h4] at h
    obtain ⟨i1, i2, i3⟩ := prs_sorted h
    have hx : ∀ q, p = some q → blt q x.name := by
      rintro q rfl
      have h2 : strLe x.name q = false := by
        cases e : strLe x.name q
        · rfl
        · exact absurd e h2
      unfold strLe at h2
      rw [Bool.or_eq_false_iff] at h2
      exact less_total _ _ h2.1 (fun e => by rw [e, beq_self_eq_true] at h2; exact absurd h2.2 (by decide))
    refine ⟨fun q hq y hy => ?_, List.pairwise_cons.2 ⟨i1 _ rfl, i2⟩, fun y hy => ?_⟩
    · rcases List.mem_cons.1 hy with rfl | hy
      · exact hx q hq
      · exact blt_trans (hx q hq) (i1 _ rfl y hy)
    · rcases List.mem_cons.1 hy with rfl | hy
      · exact ⟨fun e => h3 (by rw [e]; rfl), Decidable.of_not_not h1⟩
      · exact i3 y hy
theorem cp_ok {l : List Pr} (h : cpErr l = 0) : l.length ≤ 20 ∧ l.Pairwise (fun x y => blt x.name y.name) ∧ (∀ x ∈ l, x.val.kind ≠ 0 ∧ nmErr x.name = 0) := by
  unfold cpErr at h
  by_cases h1 : 20 < l.length
  · rw [if_pos h1] at h; exact absurd h (by decide)
  · rw [if_neg h1] at h
    exact ⟨by omega, (prs_sorted h).2⟩

theorem nmOk_size {s : ByteArray} (h : nmErr s = 0) : s.size ≤ 32 := by
  unfold nmErr at h
  by_cases e : nmOk s = true
  · unfold nmOk at e
    simp only [Bool.and_eq_true, decide_eq_true_eq] at e
    omega
  · rw [if_neg e] at h; exact absurd h (by decide)

/-! ### what is picked -/
def pick (x a b : List Pr) (s : ByteArray) : Vl := if cmpP (getP a s) (getP x s) = 0 then getP b s else getP a s
def outM (x a b : List Pr) : List ByteArray → List Pr
  | [] => []
  | s :: K => if (pick x a b s).kind = 0 then outM x a b K else ⟨s, pick x a b s⟩ :: outM x a b K
theorem outM_snoc (x a b : List Pr) (s : ByteArray) : ∀ K, outM x a b (K ++ [s]) = outM x a b K ++ (if (pick x a b s).kind = 0 then [] else [⟨s, pick x a b s⟩])
  | [] => by
    rw [List.nil_append, outM, outM]
    split <;> rfl
  | t :: K => by
    rw [List.cons_append, outM, outM, outM_snoc x a b s K]
    split <;> rfl
theorem outM_len (x a b : List Pr) : ∀ K, (outM x a b K).length ≤ K.length
  | [] => by rw [outM]; exact Nat.le_refl _
  | t :: K => by
    rw [outM]
    have := outM_len x a b K
    split <;> simp <;> omega
theorem cmpP_kind {a b : Vl} (h : cmpP a b = 0) : a.kind = b.kind := by
  obtain ⟨k, i, t, s, l⟩ := a
  obtain ⟨k', i', t', s', l'⟩ := b
  unfold cmpP at h
  obtain ⟨d, hd⟩ : ∃ d, max (depV (.mk k i t s l)) (depV (.mk k' i' t' s' l')) = d + 1 := ⟨max (depV (.mk k i t s l)) (depV (.mk k' i' t' s' l')) - 1, by
    have e1 : depV (.mk k i t s l) = depL l + 1 := by rw [depV]
    omega⟩
  rw [hd, toV, toV, cmpV] at h
  have h3 : c3 k k' = 0 := by
    by_cases e : c3 k k' = 0
    · exact e
    · rw [if_neg e] at h; exact absurd h e
  unfold c3 at h3
  show k = k'
  repeat' split at h3
  all_goals omega

/-- along the sorted names: what is picked is y's -/
theorem out_law (x a b : List Pr) (g : ByteArray → Vl) (hg : ∀ s, cmpP (pick x a b s) (g s) = 0) : ∀ (K : List ByteArray) (y : List Pr), K.Pairwise blt → y.Pairwise (fun p q => blt p.name q.name) → (∀ q ∈ y, q.name ∈ K) → (∀ q ∈ y, g q.name = q.val ∧ q.val.kind ≠ 0) → (∀ s ∈ K, (∀ q ∈ y, q.name ≠ s) → (g s).kind = 0) →
    (outM x a b K).length = y.length ∧ ∀ (i : Nat) (p q : Pr), (outM x a b K)[i]? = some p → y[i]? = some q → p.name = q.name ∧ cmpP p.val q.val = 0
  | [], [], _, _, _, _, _ => ⟨rfl, fun i p q h => by rw [outM] at h; simp at h⟩
  | [], q :: y, _, _, h, _, _ => absurd (h q (by simp)) (by simp)
  | s :: K, y, hK, hy, h1, h2, h3 => by
    obtain ⟨hs, hK'⟩ := List.pairwise_cons.1 hK
    have hk : (pick x a b s).kind = (g s).kind := cmpP_kind (hg s)
    by_cases hin : ∃ q ∈ y, q.name = s
    · cases y with
      | nil => obtain ⟨q, hq, _⟩ := hin; cases hq
      | cons q y =>
        obtain ⟨hq, hy'⟩ := List.pairwise_cons.1 hy
        have e : q.name = s := by
          obtain ⟨r, hr, er⟩ := hin
          rcases List.mem_cons.1 hr with rfl | hr
          · exact er
          · have h4 := hq r hr
            rw [er] at h4
            rcases List.mem_cons.1 (h1 q (by simp)) with h5 | h5
            · exact h5
            · exact absurd (blt_trans h4 (hs _ h5)) (blt_irr _)
        subst e
        obtain ⟨e1, e2⟩ := h2 q (by simp)
        obtain ⟨i1, i2⟩ := out_law x a b g hg K y hK' hy' (fun r hr => by
          rcases List.mem_cons.1 (h1 r (by simp [hr])) with h5 | h5
          · have h6 := hq r hr; rw [h5] at h6; exact absurd h6 (blt_irr _)
          · exact h5) (fun r hr => h2 r (by simp [hr])) (fun t ht hn => h3 t (by simp [ht]) fun r hr => by
            rcases List.mem_cons.1 hr with rfl | hr
            · intro e; have h6 := hs t ht; rw [e] at h6; exact blt_irr _ h6
            · exact hn r hr)
        rw [outM, if_neg (by rw [hk, e1]; exact e2)]
        refine ⟨by rw [List.length_cons, List.length_cons, i1], fun i p r hp hr => ?_⟩
        cases i with
        | zero =>
          obtain rfl : _ = p := by simpa using hp
          obtain rfl : q = r := by simpa using hr
          exact ⟨rfl, by have := hg q.name; rw [e1] at this; exact this⟩
        | succ i => exact i2 i p r (by simpa using hp) (by simpa using hr)
    · have hn : ∀ q ∈ y, q.name ≠ s := fun q hq e => hin ⟨q, hq, e⟩
      rw [outM, if_pos (by rw [hk]; exact h3 s (by simp) hn)]
      exact out_law x a b g hg K y hK' hy (fun r hr => by
        rcases List.mem_cons.1 (h1 r hr) with h5 | h5
        · exact absurd h5 (hn r hr)
        · exact h5) h2 (fun t ht hn => h3 t (by simp [ht]) hn)

theorem getP_mem : ∀ {l : List Pr}, l.Pairwise (fun p q => blt p.name q.name) → ∀ {q : Pr}, q ∈ l → getP l q.name = q.val := by
  intro l hl q hq
  rcases nmOf_spec l q.name with ⟨_, h⟩ | ⟨i, r, h1, h2, h3⟩
  · exact absurd rfl (h q hq)
  · have e : r = q := by
      have hr := List.mem_of_getElem? h2
      have key : ∀ l : List Pr, l.Pairwise (fun p q => blt p.name q.name) → r ∈ l → q ∈ l → r = q := by
        intro l
        induction l with
        | nil => intro _ h; cases h
        | cons c l ih =>
          intro hp hr hq
          obtain ⟨p1, p2⟩ := List.pairwise_cons.1 hp
          rcases List.mem_cons.1 hr with e1 | hr1
          · rcases List.mem_cons.1 hq with e2 | hq1
            · rw [e1, e2]
            · have := p1 q hq1; rw [← e1, h3] at this; exact absurd this (blt_irr _)
          · rcases List.mem_cons.1 hq with e2 | hq1
            · have := p1 r hr1; rw [h3, e2] at this; exact absurd this (blt_irr _)
            · exact ih p2 hr1 hq1
      exact key l hl hr hq
    unfold getP
    rw [if_neg (by omega), h1, Int.toNat_natCast, h2, e]; rfl
theorem getP_none {l : List Pr} {s : ByteArray} (h : ∀ q ∈ l, q.name ≠ s) : getP l s = zV := by
  rcases nmOf_spec l s with ⟨h1, _⟩ | ⟨i, r, h1, h2, h3⟩
  · unfold getP; rw [if_pos (by omega)]
  · exact absurd h3 (h r (List.mem_of_getElem? h2))

/-- three lists of which two are the same -/
theorem merge_law (x a b y : List Pr) (hw : (x = a ∧ b = y) ∨ (x = b ∧ a = y) ∨ (a = b ∧ a = y)) (hy : cpErr y = 0) (K : List ByteArray) (hK : K.Pairwise blt) (hin : ∀ q ∈ y, q.name ∈ K) :
    (outM x a b K).length = y.length ∧ ∀ (i : Nat) (p q : Pr), (outM x a b K)[i]? = some p → y[i]? = some q → p.name = q.name ∧ cmpP p.val q.val = 0 := by
  obtain ⟨_, h2, h3⟩ := cp_ok hy
  refine out_law x a b (getP y) (fun s => ?_) K y hK h2 hin (fun q hq => ⟨getP_mem h2 hq, (h3 q hq).1⟩) fun s _ hn => by rw [getP_none hn]; rfl
  unfold pick
  rcases hw with ⟨rfl, rfl⟩ | ⟨rfl, rfl⟩ | ⟨rfl, rfl⟩
  · rw [if_pos (cmpP_refl _)]; exact cmpP_refl _
  · split
    · rename_i h; exact cmpP_zero h
    · exact cmpP_refl _
  · split <;> exact cmpP_refl _

/-- the error that Merge finds first -/
def errF : List (List Pr) → Int
  | [] => 0
  | l :: L => if cpErr l ≠ 0 then cpErr l else errF L

/-! ### the keys of a set of names -/
theorem nodup_of (acc : List (List UInt8)) : ∃ l : List (List UInt8), l.Nodup ∧ ∀ x, x ∈ l ↔ x ∈ acc := by
  induction acc with
  | nil => exact ⟨[], List.nodup_nil, fun x => Iff.rfl⟩
  | cons a acc ih =>
    obtain ⟨l, h1, h2⟩ := ih
    by_cases h : a ∈ l
    · exact ⟨l, h1, fun x => by
        rw [h2, List.mem_cons]
        exact ⟨.inr, fun h' => h'.elim (fun e => by rw [e]; exact (h2 a).1 h) id⟩⟩
    · exact ⟨a :: l, List.nodup_cons.2 ⟨h, h1⟩, fun x => by rw [List.mem_cons, List.mem_cons, h2]⟩
def toB (l : List UInt8) : ByteArray := ⟨l.toArray⟩
theorem toB_list (l : List UInt8) : (toB l).data.toList = l := rfl
theorem toB_of (s : ByteArray) : toB s.data.toList = s := by
  obtain ⟨⟨l⟩⟩ := s
  rfl
theorem keys_law {P : Program} {k : TypeId} {R : Value → Option (DU × List MemPlace)} {w : World} {b n : Nat} {acc : List ByteArray} (hown : w.ownsMap P k R b n (setD acc)) (K : Keyed P k) (hk : P.underlying k = some .string) {ss : List (List UInt8)} (hp : ss.Perm (Go.strKeys (setD acc))) :
    ((ss.mergeSort (fun x y => decide (x ≤ y))).map toB).Pairwise blt ∧ (∀ s, s ∈ (ss.mergeSort (fun x y => decide (x ≤ y))).map toB ↔ s ∈ acc) ∧ ss.length ≤ n := by
  have hkl : ∀ x ∈ acc.map key, WideAt.IsKeyLit x := fun x hx => by
    obtain ⟨s, _, rfl⟩ := List.mem_map.1 hx
    trivial
  obtain ⟨es, hD, hpw, _⟩ := hown.entries K
  obtain ⟨es', hD', hko⟩ := hown.keysOf
  obtain rfl : es = es' := by rw [hD] at hD'; simpa using hD'
  obtain ⟨l, hl1, hl2⟩ := nodup_of (acc.map fun s => s.data.toList)
  have hsz := hown.size_le
  have hmem : ∀ x, x ∈ l ↔ has (.map es : DU) (.string x) = true := fun x => by
    rw [← hD, hl2]
    unfold setD
    rw [has_setOf btrue (.string x) _ hkl, List.any_map, List.any_eq_true, List.mem_map]
    constructor
    · rintro ⟨s, hs, rfl⟩
      exact ⟨s, hs, by simp [key, Lit.sameKey]⟩
    · rintro ⟨s, hs, h⟩
      exact ⟨s, hs, by simpa [key, Lit.sameKey] using h⟩
  have hlp := perm_strKeys hpw (fun p hp => by obtain ⟨v, hv⟩ := hko p hp; obtain ⟨x, _, hx, _⟩ := Maps.keyOf_str hk hv; exact ⟨x, hx⟩) hl1 hmem
  rw [← hD] at hlp
  have hsl : ss.Perm l := hp.trans hlp.symm
  have hnd : ss.Nodup := hsl.nodup_iff.2 hl1
  have hms := List.mergeSort_perm ss (fun x y => decide (x ≤ y))
  refine ⟨?_, fun s => ?_, ?_⟩
  · have tr : ∀ a b c : List UInt8, decide (a ≤ b) = true → decide (b ≤ c) = true → decide (a ≤ c) = true := fun a b c h1 h2 => by simp only [decide_eq_true_eq] at *; exact List.le_trans h1 h2
    have tot : ∀ a b : List UInt8, (decide (a ≤ b) || decide (b ≤ a)) = true := fun a b => by simp only [Bool.or_eq_true, decide_eq_true_eq]; exact List.le_total a b
    have h1 := List.pairwise_mergeSort tr tot ss
    have h2 : (ss.mergeSort (fun x y => decide (x ≤ y))).Nodup := hms.nodup_iff.2 hnd
    refine List.pairwise_map.2 ((h1.and h2).imp fun {x y} ⟨h3, h4⟩ => ?_)
    unfold blt
    rw [ByteArray.toList_eq, ByteArray.toList_eq, toB_list, toB_list]
    have h3 : x ≤ y := by simpa using h3
    cases e : Op.bytesLess x y
    · exfalso
      have h5 := less_total x y e h4
      rw [bytesLess_eq] at h5
      exact absurd h3 (List.not_le.2 (by simpa using h5))
    · rfl
  · rw [List.mem_map]
    constructor
    · rintro ⟨x, hx, rfl⟩
      have h1 := (hl2 x).1 (hsl.mem_iff.1 (hms.mem_iff.1 hx))
      obtain ⟨s, hs, e⟩ := List.mem_map.1 h1
      rw [← e, toB_of]; exact hs
    · intro hs
      exact ⟨s.data.toList, hms.mem_iff.2 (hsl.mem_iff.2 ((hl2 _).2 (List.mem_map.2 ⟨s, hs, rfl⟩))), toB_of s⟩
  · rw [hp.length_eq]
    have : (Go.strKeys (setD acc)).length = Maps.size (setD acc) := by
      rw [hD]; show (es.map _).length = es.length
      rw [List.length_map]
    omega
end Go.Proofs.Yteichcpbfdjjkaa
