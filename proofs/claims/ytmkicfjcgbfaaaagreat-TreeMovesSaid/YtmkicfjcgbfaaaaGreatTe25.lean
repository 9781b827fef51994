/-
  DERIVED. Operations on a base in plain words: their errors, what they make; a base without error stays one. Plain law. Conditions: none.
  What operations make, place by place; what an operation without error gives. Plain law. Conditions: none.
  Operations on a base in memory; the walk of tree.noValue. Conditions: sizes.
  Properties sorted by their names behind an append: what prop.with makes. Conditions: none.
  By an AI agent.
-/
import Derived.Test.YtmkicfjcgbfaaaaGreatTe21
import Derived.Test.YtmkicfjcgbfaaaaGreatTe19
import Derived.Test.YtmkicfjcgbfaaaaGreatTe16
import Derived.Test.YtmkicfjcgbfaaaaGreatTe04
import Derived.Test.YtmkicfjcgbfaaaaGreatTe08
import Derived.Test.YtmkicfjcgbfaaaaGreatTe14
import Derived.Test.YtmkicfjcgbfaaaaGreatTe05
import Derived.Test.YtmkicfjcgbfaaaaGreatChecked
namespace Go.Proofs.YtmkicfjcgbfaaaaGreat

/-- an operation -/
structure Opn where
  kind : Int
  id : Int
  parent : Int
  at_ : Int
  from_ : Int
  to_ : Int
  text : ByteArray
  name : ByteArray
  val : Vl
/-- a value without fields -/
def noV (v : Vl) : Bool := (v.kind == 0) && (v.int_ == 0) && (v.to_ == 0) && v.text.toList.isEmpty && ((v.items.length : Int) == 0)
/-- has an operation just what its kind uses -/
def usedB (o : Opn) : Bool :=
  (((o.kind == 1) || (o.kind == 3)) || ((o.parent == 0) && (o.at_ == 0))) && ((o.kind == 4) || ((o.from_ == 0) && (o.to_ == 0))) && (((o.kind == 4) || (o.kind == 1)) || o.text.toList.isEmpty) && ((o.kind == 5) || (o.name.toList.isEmpty && noV o.val))
def blkAt (l : List Bl) (id : Int) : Bl := (l[(posOf l id).toNat]?).getD ⟨0, 0, [], ⟨#[]⟩, []⟩
def dF (f : Int → Option Int) (id : Int) : Int := (f id).getD 0
def insErr (l : List Bl) (f : Int → Option Int) (o : Opn) : Int :=
  if o.id < 1 ∨ 1000000 < o.id then 2 else if 0 ≤ posOf l o.id then 6 else if posOf l o.parent < 0 then 7 else if o.at_ < 0 ∨ ((blkAt l o.parent).kids.length : Int) < o.at_ then 2 else if txErr o.text ≠ 0 then txErr o.text else if 2000 ≤ l.length ∨ 500 ≤ (blkAt l o.parent).kids.length then 14 else if 40 ≤ dF f o.parent then 13 else 0
def movErr (l : List Bl) (f : Int → Option Int) (o : Opn) : Int :=
  if o.id = 0 ∨ posOf l o.id < 0 ∨ posOf l o.parent < 0 then 7 else if o.id ∈ pth l (dF f o.parent).toNat o.parent then 12 else if o.at_ < 0 ∨ ((lessK (blkAt l o.parent).kids o.id).length : Int) < o.at_ then 2 else if 500 ≤ (lessK (blkAt l o.parent).kids o.id).length then 14 else if 40 < dF f o.parent + hgt l 41 o.id then 13 else 0
def setErr (ps : List Pr) (o : Opn) : Int := if nmErr o.name ≠ 0 then nmErr o.name else if vErr o.val ≠ 0 then vErr o.val else if o.val.kind ≠ 0 ∧ nmOf ps o.name < 0 ∧ 20 ≤ ps.length then 14 else 0
/-- the error of an operation on a base without error -/
def opErr (l : List Bl) (f : Int → Option Int) (o : Opn) : Int :=
  if outI o.kind 1 5 = true then 10 else if usedB o = false then 1 else if o.kind = 1 then insErr l f o else if o.kind = 3 then movErr l f o else if posOf l o.id < 1 then 7 else
  if o.kind = 2 then (if 0 < (blkAt l o.id).kids.length then 11 else 0) else if o.kind = 4 then edErr (blkAt l o.id).text o.text o.from_ o.to_ else setErr (blkAt l o.id).props o
/-- properties with a value for a name -/
def setPr (l : List Pr) (s : ByteArray) (v : Vl) : List Pr :=
  if v.kind = 0 then l.filter fun p => !(p.name.toList == s.toList) else (l.filter fun p => Op.bytesLess p.name.toList s.toList) ++ ⟨s, v⟩ :: l.filter fun p => Op.bytesLess s.toList p.name.toList
/-- the base behind an operation -/
def applied (l : List Bl) (o : Opn) : List Bl :=
  if o.kind = 1 then insL l o.id o.parent o.at_.toNat o.text else if o.kind = 2 then remL l o.id (parOf l o.id) else if o.kind = 3 then movL l o.id o.parent o.at_.toNat else
  if o.kind = 4 then upd l o.id fun b => b.withText (edS b.text o.text o.from_ o.to_) else upd l o.id fun b => b.withProps (setPr b.props o.name o.val)

/-! ### properties -/
theorem prs_of : ∀ {l : List Pr} {p : Option ByteArray}, (∀ q, p = some q → ∀ x ∈ l, blt q x.name) → l.Pairwise (fun x y => blt x.name y.name) → (∀ x ∈ l, x.val.kind ≠ 0 ∧ nmErr x.name = 0 ∧ vErr x.val = 0) → prsErr p l = 0
  | [], p, _, _, _ => by rw [prsErr]
  | x :: l, p, h1, h2, h3 => by
    obtain ⟨a1, a2, a3⟩ := h3 x (by simp)
    obtain ⟨b1, b2⟩ := List.pairwise_cons.1 h2
    have hle : ¬ lePrev p x.name = true := by
      cases p with
      | none => exact Bool.false_ne_true
      | some q =>
        intro h
        have hq := h1 q rfl x (by simp)
        have h : strLe x.name q = true := h
        unfold strLe at h
        rw [Bool.or_eq_true] at h
        rcases h with h | h
        · exact blt_irr _ (blt_trans hq h)
        · exact blt_irr x.name (by rw [tl_eq (eq_of_beq h) (a := x.name)] at hq ⊢; exact hq)
    rw [prsErr, if_neg (fun e => e a2), if_neg hle, if_neg (by simpa using a1), if_neg (fun e => e a3)]
    exact prs_of (fun q hq y hy => by injection hq with hq; subst hq; exact b1 y hy) b2 fun y hy => h3 y (by simp [hy])
theorem prs_vals : ∀ {l : List Pr} {p : Option ByteArray}, prsErr p l = 0 → ∀ x ∈ l, vErr x.val = 0
  | [], _, _, x, hx => by cases hx
  | a :: l, p, h, x, hx => by
    rw [prsErr] at h
    by_cases h1 : nmErr a.name ≠ 0
    · rw [if_pos h1] at h; exact absurd h h1
    rw [if_neg h1] at h
    by_cases h2 : lePrev p a.name = true
    · rw [if_pos h2] at h; exact absurd h (by decide)
    rw [if_neg h2] at h
    by_cases h3 : (a.val.kind == 0) = true
    · rw [if_pos h3] at h; exact absurd h (by decide)
    rw [if_neg h3] at h
    by_cases h4 : vErr a.val ≠ 0
    · rw [if_pos h4] at h; exact absurd h h4
    rw [if_neg h4] at h
    rcases List.mem_cons.1 hx with rfl | hx
    · exact Decidable.of_not_not h4
    · exact prs_vals h x hx
theorem cp_vals {l : List Pr} (h : cpErr l = 0) : ∀ x ∈ l, vErr x.val = 0 := by
  unfold cpErr at h
  by_cases h1 : 20 < l.length
  · rw [if_pos h1] at h; exact absurd h (by decide)
  · rw [if_neg h1] at h; exact prs_vals h
theorem set_len {l : List Pr} (_hs : l.Pairwise (fun x y => blt x.name y.name)) (s : ByteArray) : ((l.filter fun p => Op.bytesLess p.name.toList s.toList).length + (l.filter fun p => Op.bytesLess s.toList p.name.toList).length ≤ l.length) ∧ (0 ≤ nmOf l s → (l.filter fun p => Op.bytesLess p.name.toList s.toList).length + (l.filter fun p => Op.bytesLess s.toList p.name.toList).length + 1 ≤ l.length) := by
  have key : ∀ l : List Pr, (l.filter fun p => Op.bytesLess p.name.toList s.toList).length + (l.filter fun p => Op.bytesLess s.toList p.name.toList).length + (l.filter fun p => p.name.toList == s.toList).length ≤ l.length := by
    intro l
    induction l with
    | nil => simp
    | cons a l ih =>
      rw [List.filter_cons, List.filter_cons, List.filter_cons, List.length_cons]
      by_cases h1 : Op.bytesLess a.name.toList s.toList = true
      · have h2 : ¬ Op.bytesLess s.toList a.name.toList = true := by rw [less_asymm _ _ h1]; decide
        have h3 : ¬ (a.name.toList == s.toList) = true := fun e => by rw [eq_of_beq e, less_irr] at h1; exact absurd h1 (by decide)
        rw [if_pos h1, if_neg h2, if_neg h3, List.length_cons]; omega
      · rw [if_neg h1]
        by_cases h2 : Op.bytesLess s.toList a.name.toList = true
        · have h3 : ¬ (a.name.toList == s.toList) = true := fun e => by rw [eq_of_beq e, less_irr] at h2; exact absurd h2 (by decide)
          rw [if_pos h2, if_neg h3, List.length_cons]; omega
        · rw [if_neg h2]
          split
          · rw [List.length_cons]; omega
          · omega
  have h1 := key l
  refine ⟨by omega, fun h0 => ?_⟩
  rcases nmOf_spec l s with ⟨h2, _⟩ | ⟨i, x, h2, h3, h4⟩
  · omega
  · have hx := List.mem_of_getElem? h3
    have : 0 < (l.filter fun p => p.name.toList == s.toList).length := List.length_pos_of_mem (List.mem_filter.2 ⟨hx, by rw [h4]; exact beq_self_eq_true _⟩)
    omega
theorem setPr_ok {l : List Pr} {s : ByteArray} {v : Vl} (h : cpErr l = 0) (hs : nmErr s = 0) (hv : vErr v = 0) (hn : ¬ (v.kind ≠ 0 ∧ nmOf l s < 0 ∧ 20 ≤ l.length)) : cpErr (setPr l s v) = 0 := by
  obtain ⟨h1, h2, h3⟩ := cp_ok h
  have h4 := cp_vals h
  unfold setPr
  by_cases hk : v.kind = 0
  · rw [if_pos hk]
    unfold cpErr
    have hl := List.length_filter_le (fun p : Pr => !(p.name.toList == s.toList)) l
    rw [if_neg (by omega)]
    exact prs_of (fun q hq => by cases hq) (h2.sublist List.filter_sublist) fun x hx => by
      have hx := (List.mem_filter.1 hx).1
      exact ⟨(h3 x hx).1, (h3 x hx).2, h4 x hx⟩
  · rw [if_neg hk]
    unfold cpErr
    obtain ⟨l1, l2⟩ := set_len h2 s
    rw [if_neg (by
      rw [List.length_append, List.length_cons]
      by_cases hz : nmOf l s < 0
      · have : ¬ 20 ≤ l.length := fun e => hn ⟨hk, hz, e⟩
        omega
      · have := l2 (by omega)
        omega)]
    refine prs_of (fun q hq => by cases hq) ?_ fun x hx => ?_
    · rw [List.pairwise_append]
      refine ⟨h2.sublist List.filter_sublist, List.pairwise_cons.2 ⟨fun y hy => (List.mem_filter.1 hy).2, h2.sublist List.filter_sublist⟩, fun x hx y hy => ?_⟩
      have hxs : blt x.name s := (List.mem_filter.1 hx).2
      rcases List.mem_cons.1 hy with rfl | hy
      · exact hxs
      · exact blt_trans hxs (List.mem_filter.1 hy).2
    · rcases List.mem_append.1 hx with hx | hx
      · have hx := (List.mem_filter.1 hx).1
        exact ⟨(h3 x hx).1, (h3 x hx).2, h4 x hx⟩
      · rcases List.mem_cons.1 hx with rfl | hx
        · exact ⟨hk, hs, hv⟩
        · have hx := (List.mem_filter.1 hx).1
          exact ⟨(h3 x hx).1, (h3 x hx).2, h4 x hx⟩

/-! ### texts -/
theorem ctl_app (a b : ByteArray) : ctl (a ++ b) = (ctl a || ctl b) := by
  unfold ctl
  rw [ByteArray.data_append, Array.toList_append, List.any_append]
theorem ctl_extract {s : ByteArray} (h : ctl s = false) (i j : Nat) : ctl (s.extract i j) = false := by
  unfold ctl at *
  rw [List.any_eq_false] at *
  intro x hx
  refine h x ?_
  rw [ByteArray.data_extract, Array.toList_extract] at hx
  exact List.mem_of_mem_drop (List.mem_of_mem_take hx)
theorem edS_ok {s x : ByteArray} {f t : Int} (h : edErr s x f t = 0) (hs : txErr s = 0) : txErr (edS s x f t) = 0 := by
  obtain ⟨h0, h1, h2, h3, h4⟩ := edErr_ok h
  have hsz := edS_size (x := x) h0 h1 h2
  have hc : ctl s = false := by
    unfold txErr at hs
    split at hs
    · omega
    · cases e : ctl s
      · rfl
      · rw [e, if_pos rfl] at hs; omega
  have hd : ctl (edS s x f t) = false := by
    unfold edS
    rw [ctl_app, ctl_app, ctl_extract hc, ctl_extract hc, h3]; rfl
  unfold txErr
  rw [if_neg (by omega), hd, if_neg (by decide)]

/-! ### a base -/
section
variable {l : List Bl} {f : Int → Option Int} {g : Int → Nat}
theorem blkAt_of {p : Nat} {b : Bl} {id : Int} (hp : posOf l id = (p : Int)) (hb : l[p]? = some b) : blkAt l id = b := by
  unfold blkAt; rw [hp, Int.toNat_natCast, hb]; rfl
/-- a base without error stays one -/
theorem Good.applied (G : Good l f) {o : Opn} (h : opErr l f o = 0) : ∃ f', IsDep (Go.Proofs.YtmkicfjcgbfaaaaGreat.applied l o) f' ∧ Good (Go.Proofs.YtmkicfjcgbfaaaaGreat.applied l o) f' := by
  have fin : ∀ {l' : List Bl} {g' : Int → Nat}, Tree l' g' → ∃ f', IsDep l' f' ∧ Good l' f' := fun T => by
    obtain ⟨f', hf⟩ := IsDep.exists T.kids
    exact ⟨f', hf, T.good hf⟩
  have T := G.tree
  obtain ⟨g, hg⟩ : ∃ g, g = fun id => ((f id).getD 0).toNat := ⟨_, rfl⟩
  rw [← hg] at T
  have hdF : ∀ x ∈ l, (dF f x.id).toNat = g x.id := fun x hx => by rw [hg]; rfl
  have hdG : ∀ x ∈ l, dF f x.id = (g x.id : Int) := fun x hx => by
    unfold dF
    rw [T.depth G.dep hx]; rfl
  unfold opErr at h
  by_cases h1 : outI o.kind 1 5 = true
  · rw [if_pos h1] at h; omega
  rw [if_neg h1] at h
  by_cases h2 : usedB o = false
  · rw [if_pos h2] at h; omega
  rw [if_neg h2] at h
  unfold Go.Proofs.YtmkicfjcgbfaaaaGreat.applied
  by_cases k1 : o.kind = 1
  · rw [if_pos k1] at h ⊢
    unfold insErr at h
    by_cases q1 : o.id < 1 ∨ 1000000 < o.id
    · rw [if_pos q1] at h; omega
    rw [if_neg q1] at h
    by_cases q2 : 0 ≤ posOf l o.id
    · rw [if_pos q2] at h; omega
    rw [if_neg q2] at h
    by_cases q3 : posOf l o.parent < 0
    · rw [if_pos q3] at h; omega
    rw [if_neg q3] at h
    by_cases q4 : o.at_ < 0 ∨ ((blkAt l o.parent).kids.length : Int) < o.at_
    · rw [if_pos q4] at h; omega
    rw [if_neg q4] at h
    by_cases q5 : txErr o.text = 0
    case neg => rw [if_pos q5] at h; exact absurd h q5
    rw [if_neg (fun e => e q5)] at h
    by_cases q6 : 2000 ≤ l.length ∨ 500 ≤ (blkAt l o.parent).kids.length
    · rw [if_pos q6] at h; omega
    rw [if_neg q6] at h
    by_cases q7 : 40 ≤ dF f o.parent
    · rw [if_pos q7] at h; omega
    rcases posOf_spec l o.id with ⟨_, hn⟩ | ⟨i, b, e, _⟩
    case inr => omega
    rcases posOf_spec l o.parent with ⟨e, _⟩ | ⟨i, b, e, hb, hbi, _⟩
    · omega
    rw [blkAt_of e hb] at q4 q6
    have hbm := List.mem_of_getElem? hb
    have := hdG b hbm
    rw [hbi] at this
    exact fin (T.insert (by omega) hn hbm hbi q5 (by omega) (by omega) (by omega))
  rw [if_neg k1] at h ⊢
  by_cases k3 : o.kind = 3
  · rw [if_neg (by omega), if_pos k3]
    rw [if_pos k3] at h
    unfold movErr at h
    by_cases q1 : o.id = 0 ∨ posOf l o.id < 0 ∨ posOf l o.parent < 0
    · rw [if_pos q1] at h; omega
    rw [if_neg q1] at h
    by_cases q2 : o.id ∈ pth l (dF f o.parent).toNat o.parent
    · rw [if_pos q2] at h; omega
    rw [if_neg q2] at h
    by_cases q3 : o.at_ < 0 ∨ ((lessK (blkAt l o.parent).kids o.id).length : Int) < o.at_
    · rw [if_pos q3] at h; omega
    rw [if_neg q3] at h
    by_cases q4 : 500 ≤ (lessK (blkAt l o.parent).kids o.id).length
    · rw [if_pos q4] at h; omega
    rw [if_neg q4] at h
    by_cases q5 : 40 < dF f o.parent + hgt l 41 o.id
    · rw [if_pos q5] at h; omega
    rcases posOf_spec l o.id with ⟨e, _⟩ | ⟨i, x, _, hx, hxi, _⟩
    · omega
    rcases posOf_spec l o.parent with ⟨e, _⟩ | ⟨i, b, e, hb, hbi, _⟩
    · omega
    rw [blkAt_of e hb] at q3 q4
    have hbm := List.mem_of_getElem? hb
    have e1 := hdG b hbm
    have e2 := hdF b hbm
    rw [hbi] at e1 e2
    rw [e2] at q2
    rw [← hxi] at q1 q2 q4 q5 ⊢
    rw [← hbi] at q2 ⊢
    rw [hbi] at q2
    obtain ⟨g', T'⟩ := T.move (List.mem_of_getElem? hx) (fun e => q1 (.inl e)) hbm o.at_.toNat (by rw [hbi]; exact q2) (by omega) (by rw [hbi]; omega)
    exact fin T'
  rw [if_neg k3] at h
  by_cases q1 : posOf l o.id < 1
  · rw [if_pos q1] at h; omega
  rw [if_neg q1] at h
  rcases posOf_spec l o.id with ⟨e, _⟩ | ⟨i, x, e, hx, hxi, hxf⟩
  · omega
  have hxm := List.mem_of_getElem? hx
  rw [blkAt_of e hx] at h
  have hx0 : x.id ≠ 0 := fun e0 => by
    obtain ⟨r, r', hl, a1, _⟩ := T.root
    exact hxf 0 r (by omega) (by rw [hl]; rfl) (by rw [a1, ← hxi, e0])
  by_cases k2 : o.kind = 2
  · rw [if_pos k2]
    rw [if_pos k2] at h
    by_cases q2 : 0 < x.kids.length
    · rw [if_pos q2] at h; omega
    rw [← hxi, parOf_eq G.kids hxm]
    exact fin (T.remove hxm hx0 (List.eq_nil_of_length_eq_zero (by omega)))
  rw [if_neg k2] at h
  rw [if_neg k2, if_neg k3]
  by_cases k4 : o.kind = 4
  · rw [if_pos k4]
    rw [if_pos k4] at h
    refine fin (T.local_ o.id (by omega) _ (fun b => ⟨rfl, rfl, rfl⟩) fun b hb hbi => ?_)
    obtain rfl := T.inj hb hxm (hbi.trans hxi.symm)
    exact ⟨edS_ok h (T.loc b hb).1, (T.loc b hb).2.2⟩
  rw [if_neg k4] at h
  rw [if_neg k4]
  refine fin (T.local_ o.id (by omega) _ (fun b => ⟨rfl, rfl, rfl⟩) fun b hb hbi => ?_)
  obtain rfl := T.inj hb hxm (hbi.trans hxi.symm)
  unfold setErr at h
  by_cases q2 : nmErr o.name = 0
  case neg => rw [if_pos q2] at h; exact absurd h q2
  rw [if_neg (fun e => e q2)] at h
  by_cases q3 : vErr o.val = 0
  case neg => rw [if_pos q3] at h; exact absurd h q3
  rw [if_neg (fun e => e q3)] at h
  by_cases q4 : o.val.kind ≠ 0 ∧ nmOf b.props o.name < 0 ∧ 20 ≤ b.props.length
  · rw [if_pos q4] at h; omega
  exact ⟨(T.loc b hb).1, setPr_ok (T.loc b hb).2.2 q2 q3 q4⟩
end
end Go.Proofs.YtmkicfjcgbfaaaaGreat
namespace Go.Proofs.YtmkicfjcgbfaaaaGreat

/-- a block turned, by its place -/
theorem upd_set {l : List Bl} (hr : Rise l) {q : Nat} {y : Bl} (hy : l[q]? = some y) {p : Int} (hp : y.id = p) (h : Bl → Bl) : upd l p h = l.set q (h y) := by
  refine List.ext_getElem? fun i => ?_
  unfold upd
  rw [List.getElem?_map, List.getElem?_set]
  obtain ⟨hq, _⟩ := List.getElem?_eq_some_iff.1 hy
  by_cases e : q = i
  · subst e
    rw [if_pos rfl, if_pos hq, hy]
    show some (if y.id = p then h y else y) = _
    rw [if_pos hp]
  · rw [if_neg e]
    cases hx : l[i]? with
    | none => rfl
    | some x =>
      show some (if x.id = p then h x else x) = _
      rw [if_neg]
      intro hxp
      rcases Nat.lt_or_ge i q with g | g
      · have := hr i q x y g hx hy; omega
      · have := hr q i y x (by omega) hy hx; omega
theorem upd_insB {x : Bl} {p : Int} {h : Bl → Bl} (hp : x.id ≠ p) (hh : ∀ b, (h b).id = b.id) : ∀ l : List Bl, upd (insB x l) p h = insB x (upd l p h)
  | [] => by simp [upd, insB, hp]
  | y :: l => by
    have hid : (if y.id = p then h y else y).id = y.id := by split <;> first | exact hh y | rfl
    have ih := upd_insB hp hh l
    unfold upd at ih ⊢
    rw [insB]
    by_cases e : y.id < x.id
    · rw [if_pos e, List.map_cons, List.map_cons, insB, hid, if_pos e, ih]
    · rw [if_neg e, List.map_cons, if_neg hp, List.map_cons, insB, hid, if_neg e]
theorem LowB.tail {y : Bl} {l : List Bl} {id : Int} {i : Nat} (h : LowB (y :: l) id (i + 1)) : LowB l id i :=
  ⟨by have := h.1; simpa using this, fun k x hk hx => h.2.1 (k + 1) x (by omega) (by simpa using hx), fun k x hk hx => h.2.2 (k + 1) x (by omega) (by simpa using hx)⟩
theorem insB_low {x : Bl} : ∀ {l : List Bl} {i : Nat}, LowB l x.id i → insB x l = l.take i ++ x :: l.drop i
  | [], i, h => by
    obtain rfl : i = 0 := by have := h.1; simpa using this
    rfl
  | y :: l, 0, h => by
    have := h.2.2 0 y (Nat.le_refl _) rfl
    rw [insB, if_neg (by omega)]; rfl
  | y :: l, i + 1, h => by
    have := h.2.1 0 y (by omega) rfl
    rw [insB, if_pos this, insB_low h.tail]; rfl
theorem LowB.place {l : List Bl} {id : Int} {i p : Nat} {x : Bl} (h : LowB l id i) (hr : Rise l) (hx : l[p]? = some x) (hi : x.id = id) : i = p := by
  rcases Nat.lt_trichotomy i p with g | g | g
  · obtain ⟨hp, _⟩ := List.getElem?_eq_some_iff.1 hx
    have hi' : i < l.length := by omega
    have h1 := h.2.2 i _ (Nat.le_refl _) (List.getElem?_eq_getElem hi')
    have h2 := hr i p _ x g (List.getElem?_eq_getElem hi') hx
    omega
  · exact g
  · have := h.2.1 p x g hx; omega
/-- a block taken out, by its place -/
theorem filter_out {l : List Bl} (hr : Rise l) {p : Nat} {x : Bl} (hx : l[p]? = some x) : (l.filter fun b => b.id != x.id) = l.take p ++ l.drop (p + 1) := by
  obtain ⟨hp, e⟩ := List.getElem?_eq_some_iff.1 hx
  conv => lhs; rw [← List.take_append_drop p l, List.drop_eq_getElem_cons hp, e]
  rw [List.filter_append, List.filter_cons, if_neg (by simp), List.filter_eq_self.2, List.filter_eq_self.2]
  · intro b hb
    obtain ⟨j, hj⟩ := List.mem_iff_getElem?.1 hb
    rw [List.getElem?_drop] at hj
    have := hr p _ x b (by omega) hx hj
    rw [bne_iff_ne]; omega
  · intro b hb
    obtain ⟨j, hj⟩ := List.mem_iff_getElem?.1 hb
    rw [List.getElem?_take] at hj
    split at hj
    · have := hr j p b x (by omega) hj hx
      rw [bne_iff_ne]; omega
    · cases hj
theorem Rise.upd {l : List Bl} (hr : Rise l) {p : Int} {h : Bl → Bl} (hh : ∀ b, (h b).id = b.id) : Rise (upd l p h) := rise_iff.2 (upd_sorted hh (rise_iff.1 hr))
theorem IdsIn.upd {l : List Bl} (hi : IdsIn l) {p : Int} {h : Bl → Bl} (hh : ∀ b, (h b).id = b.id) : IdsIn (upd l p h) := fun x hx => by
  obtain ⟨b, hb, e⟩ := upd_mem.1 hx
  rw [e]
  split
  · rw [hh]; exact hi b hb
  · exact hi b hb
theorem upd_at {l : List Bl} {p : Int} {h : Bl → Bl} {k : Nat} {x : Bl} (hx : l[k]? = some x) : (upd l p h)[k]? = some (if x.id = p then h x else x) := by
  unfold upd; rw [List.getElem?_map, hx]; rfl
/-- what a move makes, step by step -/
theorem movL_eq {l : List Bl} {id p par : Int} {i : Nat} (hk : ∀ b ∈ l, b.id ≠ par → id ∉ b.kids) : movL l id p i = upd (upd (upd l par fun b => b.withKids (lessK b.kids id)) id fun b => b.withPar p) p fun b => b.withKids (plusK b.kids i id) := by
  unfold movL upd
  rw [List.map_map, List.map_map]
  refine List.map_congr_left fun b hb => ?_
  have hless : b.id ≠ par → lessK b.kids id = b.kids := fun e => less_same (hk b hb e)
  obtain ⟨bi, bp, bk, bt, bs⟩ := b
  simp only [Function.comp, movB, Bl.withKids, Bl.withPar] at hless ⊢
  by_cases h1 : bi = par
  · by_cases h2 : bi = id
    · by_cases h3 : bi = p
      · simp only [if_pos h1, if_pos h2, if_pos h3]
      · simp only [if_pos h1, if_pos h2, if_neg h3]
    · by_cases h3 : bi = p
      · simp only [if_pos h1, if_neg h2, if_pos h3]
      · simp only [if_pos h1, if_neg h2, if_neg h3]
  · have := hless h1
    by_cases h2 : bi = id
    · by_cases h3 : bi = p
      · simp only [if_neg h1, if_pos h2, if_pos h3, this]
      · simp only [if_neg h1, if_pos h2, if_neg h3, this]
    · by_cases h3 : bi = p
      · simp only [if_neg h1, if_neg h2, if_pos h3, this]
      · simp only [if_neg h1, if_neg h2, if_neg h3, this]

/-- what an operation without error gives, kind by kind -/
inductive OpF (l : List Bl) (o : Opn) : Prop
  | ins (h : o.kind = 1) (hn : ∀ x ∈ l, x.id ≠ o.id) (hid : 1 ≤ o.id ∧ o.id ≤ 1000000) (q : Nat) (y : Bl) (hy : l[q]? = some y) (hyi : y.id = o.parent) (ha : 0 ≤ o.at_) (hk : o.at_.toNat ≤ y.kids.length) (h5 : y.kids.length < 500) (hl : l.length < 2000)
  | rem (h : o.kind = 2) (p : Nat) (x : Bl) (hx : l[p]? = some x) (hxi : x.id = o.id) (h0 : x.id ≠ 0) (hk : x.kids = []) (q : Nat) (y : Bl) (hy : l[q]? = some y) (hyi : y.id = x.parent) (hin : x.id ∈ y.kids)
  | mov (h : o.kind = 3) (p : Nat) (x : Bl) (hx : l[p]? = some x) (hxi : x.id = o.id) (h0 : x.id ≠ 0) (q : Nat) (y : Bl) (hy : l[q]? = some y) (hyi : y.id = x.parent) (hin : x.id ∈ y.kids) (r : Nat) (z : Bl) (hz : l[r]? = some z) (hzi : z.id = o.parent) (ha : 0 ≤ o.at_) (hk : o.at_.toNat ≤ (lessK z.kids o.id).length)
  | edit (h : o.kind = 4) (p : Nat) (x : Bl) (hx : l[p]? = some x) (hxi : x.id = o.id) (he : edErr x.text o.text o.from_ o.to_ = 0)
  | set (h : o.kind = 5) (p : Nat) (x : Bl) (hx : l[p]? = some x) (hxi : x.id = o.id) (hn : nmErr o.name = 0) (hv : vErr o.val = 0) (hp : cpErr x.props = 0) (hl : (setPr x.props o.name o.val).length ≤ 20)
theorem Good.par_at {l : List Bl} {f : Int → Option Int} (G : Good l f) {x : Bl} (hx : x ∈ l) (h0 : x.id ≠ 0) : ∃ (q : Nat) (y : Bl), l[q]? = some y ∧ y.id = x.parent ∧ x.id ∈ y.kids := by
  obtain ⟨b, hb, h1, h2, _⟩ := G.tree.par x hx h0
  obtain ⟨q, hq⟩ := List.mem_iff_getElem?.1 hb
  exact ⟨q, b, hq, h1, h2⟩
theorem Good.op_facts {l : List Bl} {f : Int → Option Int} (G : Good l f) {o : Opn} (h : opErr l f o = 0) : OpF l o := by
  unfold opErr at h
  by_cases h1 : outI o.kind 1 5 = true
  · rw [if_pos h1] at h; omega
  rw [if_neg h1] at h
  by_cases h2 : usedB o = false
  · rw [if_pos h2] at h; omega
  rw [if_neg h2] at h
  by_cases k1 : o.kind = 1
  · rw [if_pos k1] at h
    unfold insErr at h
    by_cases q1 : o.id < 1 ∨ 1000000 < o.id
    · rw [if_pos q1] at h; omega
    rw [if_neg q1] at h
    by_cases q2 : 0 ≤ posOf l o.id
    · rw [if_pos q2] at h; omega
    rw [if_neg q2] at h
    by_cases q3 : posOf l o.parent < 0
    · rw [if_pos q3] at h; omega
    rw [if_neg q3] at h
    by_cases q4 : o.at_ < 0 ∨ ((blkAt l o.parent).kids.length : Int) < o.at_
    · rw [if_pos q4] at h; omega
    rw [if_neg q4] at h
    by_cases q5 : txErr o.text = 0
    case neg => rw [if_pos q5] at h; exact absurd h q5
    rw [if_neg (fun e => e q5)] at h
    by_cases q6 : 2000 ≤ l.length ∨ 500 ≤ (blkAt l o.parent).kids.length
    · rw [if_pos q6] at h; omega
    rcases posOf_spec l o.id with ⟨_, hn⟩ | ⟨i, b, e, _⟩
    case inr => omega
    rcases posOf_spec l o.parent with ⟨e, _⟩ | ⟨i, b, e, hb, hbi, _⟩
    · omega
    rw [blkAt_of e hb] at q4 q6
    exact .ins k1 hn (by omega) i b hb hbi (by omega) (by omega) (by omega) (by omega)
  rw [if_neg k1] at h
  by_cases k3 : o.kind = 3
  · rw [if_pos k3] at h
    unfold movErr at h
    by_cases q1 : o.id = 0 ∨ posOf l o.id < 0 ∨ posOf l o.parent < 0
    · rw [if_pos q1] at h; omega
    rw [if_neg q1] at h
    by_cases q2 : o.id ∈ pth l (dF f o.parent).toNat o.parent
    · rw [if_pos q2] at h; omega
    rw [if_neg q2] at h
    by_cases q3 : o.at_ < 0 ∨ ((lessK (blkAt l o.parent).kids o.id).length : Int) < o.at_
    · rw [if_pos q3] at h; omega
    rcases posOf_spec l o.id with ⟨e, _⟩ | ⟨i, x, _, hx, hxi, _⟩
    · omega
    rcases posOf_spec l o.parent with ⟨e, _⟩ | ⟨r, z, e, hz, hzi, _⟩
    · omega
    rw [blkAt_of e hz] at q3
    have hx0 : x.id ≠ 0 := by omega
    obtain ⟨q, y, hy, hyi, hin⟩ := G.par_at (List.mem_of_getElem? hx) hx0
    exact .mov k3 i x hx hxi hx0 q y hy hyi hin r z hz hzi (by omega) (by omega)
  rw [if_neg k3] at h
  by_cases q1 : posOf l o.id < 1
  · rw [if_pos q1] at h; omega
  rw [if_neg q1] at h
  rcases posOf_spec l o.id with ⟨e, _⟩ | ⟨i, x, e, hx, hxi, hxf⟩
  · omega
  have hxm := List.mem_of_getElem? hx
  rw [blkAt_of e hx] at h
  have hx0 : x.id ≠ 0 := fun e0 => by
    obtain ⟨r, r', hl, a1, _⟩ := G.tree.root
    exact hxf 0 r (by omega) (by rw [hl]; rfl) (by rw [a1, ← hxi, e0])
  by_cases k2 : o.kind = 2
  · rw [if_pos k2] at h
    by_cases q2 : 0 < x.kids.length
    · rw [if_pos q2] at h; omega
    obtain ⟨q, y, hy, hyi, hin⟩ := G.par_at hxm hx0
    exact .rem k2 i x hx hxi hx0 (List.eq_nil_of_length_eq_zero (by omega)) q y hy hyi hin
  rw [if_neg k2] at h
  by_cases k4 : o.kind = 4
  · rw [if_pos k4] at h
    exact .edit k4 i x hx hxi h
  rw [if_neg k4] at h
  have k5 : o.kind = 5 := by
    unfold outI at h1
    simp at h1; omega
  have hcp := (G.tree.loc x hxm).2.2
  unfold setErr at h
  by_cases q2 : nmErr o.name = 0
  case neg => rw [if_pos q2] at h; exact absurd h q2
  rw [if_neg (fun e => e q2)] at h
  by_cases q3 : vErr o.val = 0
  case neg => rw [if_pos q3] at h; exact absurd h q3
  rw [if_neg (fun e => e q3)] at h
  by_cases q4 : o.val.kind ≠ 0 ∧ nmOf x.props o.name < 0 ∧ 20 ≤ x.props.length
  · rw [if_pos q4] at h; omega
  exact .set k5 i x hx hxi q2 q3 hcp (cp_ok (setPr_ok hcp q2 q3 q4)).1
end Go.Proofs.YtmkicfjcgbfaaaaGreat
namespace Go.Proofs.YtmkicfjcgbfaaaaGreat
open Go.RowKit

/-- thirteen cells: an operation, its value's items told apart -/
def opV (x : Opn × Value) : List Value := [.int .i64 x.1.kind, .int .i64 x.1.id, .int .i64 x.1.parent, .int .i64 x.1.at_, .int .i64 x.1.from_, .int .i64 x.1.to_, .string x.1.text, .string x.1.name, .int .i64 x.1.val.kind, .int .i64 x.1.val.int_, .int .i64 x.1.val.to_, .string x.1.val.text, x.2]
theorem opV_len (x : Opn × Value) : (opV x).length = 13 := rfl
/-- an operation as an aggregate -/
def AO (x : Opn × Value) : Value := .agg #[.int .i64 x.1.kind, .int .i64 x.1.id, .int .i64 x.1.parent, .int .i64 x.1.at_, .int .i64 x.1.from_, .int .i64 x.1.to_, .string x.1.text, .string x.1.name, .int .i64 x.1.val.kind, .int .i64 x.1.val.int_, .int .i64 x.1.val.to_, .string x.1.val.text, x.2]
/-- numbers that an int holds -/
def OI (o : Opn) : Prop := I64 o.id ∧ I64 o.parent ∧ I64 o.at_ ∧ I64 o.from_ ∧ I64 o.to_ ∧ o.text.size ≤ 140737488351232
/-- a list of operations in memory -/
def ROs (W : World) (B : Nat) (v : Value) (l : List Opn) : Prop := ∃ A n c, ∃ M : List (Opn × Value), M.map Prod.fst = l ∧ v = .slice A n c ∧ n = M.length ∧ (n ≤ c ∧ n * 144 ≤ 140737488351232) ∧ Reads W B 13 A n (M.flatMap opV) ∧ ∀ x ∈ M, RV W B x.2 x.1.val.items ∧ OI x.1
theorem ROs.below {W W' : World} {B : Nat} {v : Value} {l : List Opn} (h : ROs W B v l) (hb : Below B W W') : ROs W' B v l := by
  obtain ⟨A, n, c, M, h1, h2, h3, h4, h5, h6⟩ := h
  exact ⟨A, n, c, M, h1, h2, h3, h4, h5.below hb, fun x hx => ⟨(h6 x hx).1.below hb, (h6 x hx).2⟩⟩
theorem ROs.more {W : World} {B B' : Nat} {v : Value} {l : List Opn} (h : ROs W B v l) (hB : B ≤ B') : ROs W B' v l := by
  obtain ⟨A, n, c, M, h1, h2, h3, h4, h5, h6⟩ := h
  exact ⟨A, n, c, M, h1, h2, h3, h4, h5.more hB, fun x hx => ⟨(h6 x hx).1.more hB, (h6 x hx).2⟩⟩
theorem ROs.len {W : World} {B n c : Nat} {A : Option Addr} {l : List Opn} (h : ROs W B (.slice A n c) l) : n = l.length ∧ n ≤ c ∧ n * 144 ≤ 140737488351232 := by
  obtain ⟨A', n', c', M, h1, e, h2, h3, _⟩ := h
  injection e with e1 e2 e3
  subst e2 e3
  exact ⟨by rw [h2, ← h1, List.length_map], h3⟩
theorem ROs.slice {W : World} {B : Nat} {v : Value} {l : List Opn} (h : ROs W B v l) : ∃ A n c, v = .slice A n c := by
  obtain ⟨A, n, c, M, _, h1, _⟩ := h
  exact ⟨A, n, c, h1⟩
/-- an operation in a row -/
theorem ROs.at_ {W : World} {B n c : Nat} {A : Option Addr} {l : List Opn} (h : ROs W B (.slice A n c) l) {k : Nat} {o : Opn} (hk : l[k]? = some o) :
    ∃ b off Av nv cv, A = some ⟨b, off, none⟩ ∧ b < B ∧ (∀ i u, (opV (o, .slice Av nv cv))[i]? = some u → W.cell? ⟨b, off + k * 13 + i, none⟩ = some u) ∧ RV W B (.slice Av nv cv) o.val.items ∧ OI o := by
  obtain ⟨A', n', c', M, h1, e, h2, h3, h4, h5⟩ := h
  injection e with e1 e2 e3
  subst e1 e2 e3
  obtain ⟨y, hy, rfl⟩ : ∃ y, M[k]? = some y ∧ y.1 = o := by
    rw [← h1, List.getElem?_map, Option.map_eq_some_iff] at hk
    exact hk
  obtain ⟨b, off, e, hb, hc⟩ := h4.plain_at (by omega) opV_len h2 hy
  obtain ⟨k1, k2⟩ := h5 y (List.mem_of_getElem? hy)
  obtain ⟨o, v⟩ := y
  obtain ⟨Av, nv, cv, rfl⟩ := k1.slice
  exact ⟨b, off, Av, nv, cv, e, hb, hc, k1, k2⟩
theorem noV_eq (v : Vl) : noV v = sameV v zV := by
  rw [sameV_eq]
  unfold noV zV
  show _ = ((v.kind == 0) && (v.int_ == 0) && (v.to_ == 0) && decide (v.text = ⟨#[]⟩) && sameL v.items [])
  have e1 : decide (v.text = ⟨#[]⟩) = v.text.toList.isEmpty := by
    rw [dec_toList, show (⟨#[]⟩ : ByteArray).toList = [] from ByteArray.toList_eq _]
    cases h : v.text.toList with
    | nil => rfl
    | cons a l => rfl
  have e2 : sameL v.items [] = ((v.items.length : Int) == 0) := by
    cases h : v.items with
    | nil => rw [sameL]; rfl
    | cons a l =>
      rw [sameL]
      · have : ((a :: l).length : Int) ≠ 0 := by rw [List.length_cons]; omega
        exact (beq_eq_false_iff_ne.2 this).symm
      · intro h; cases h
      · intro x y z h1 h2 h3; cases h3
  rw [e1, e2]
theorem RV.nil (w : World) (B : Nat) : RV w B (.slice none 0 0) [] := ⟨0, rfl, none, 0, rfl⟩

set_option maxHeartbeats 400000 in
/-- tree.noValue -/
theorem noValue_any (x : Vl) (A : Option Addr) (n c : Nat) (w : World) (B : Nat) (hB : B ≤ w.heap.size) (h : RV w B (.slice A n c) x.items) :
    Calls Tryz.prog 154 #[AV (x, .slice A n c)] w fun e w' => e = .returned (.bool (noV x)) ∧ Below w.heap.size w w' := by
  obtain ⟨d, hd⟩ := h
  have HX := Lib.hid fun W (hW : Below w.heap.size w W) => sameVal_any d (x, .slice A n c) (zV, .slice none 0 0) W B (Nat.le_trans hB hW.size) (hd.below (hW.mono hB)) (RVd.up (d := 0) ⟨rfl, none, 0, rfl⟩ (Nat.zero_le d))
  dsimp only at HX
  rw [← noV_eq] at HX
  dsimp only [AV] at HX ⊢
  have ez : zV.kind = 0 ∧ zV.int_ = 0 ∧ zV.to_ = 0 ∧ zV.text = ⟨#[]⟩ := ⟨rfl, rfl, rfl, rfl⟩
  rw [ez.1, ez.2.1, ez.2.2.1, ez.2.2.2] at HX
  clear hd ez
  go_enter Tryz.func154, Tryz.ntmps154
  go_wp2_with fail
  first
    | refine (HX.out _ ((Below.refl _ _).alloc (Nat.le_refl _) _)).mono ?_
    | refine (HX.out _ (Below.refl _ _)).mono ?_
  rintro e w2 ⟨rfl, hb⟩
  go_wp2_with fail
  go_ret
  first
    | exact ⟨rfl, ((Below.refl _ _).alloc (Nat.le_refl _) _).trans (hb.mono (by simp))⟩
    | exact ⟨rfl, hb⟩
end Go.Proofs.YtmkicfjcgbfaaaaGreat
namespace Go.Proofs.YtmkicfjcgbfaaaaGreat
open Go.RowKit Go.Sort

theorem pr_unique : ∀ {l m : List Pr}, (l.Pairwise fun x y => blt x.name y.name) → (m.Pairwise fun x y => blt x.name y.name) → (∀ x, x ∈ l ↔ x ∈ m) → l = m
  | [], [], _, _, _ => rfl
  | [], y :: m, _, _, h => by have := (h y).2 List.mem_cons_self; cases this
  | x :: l, [], _, _, h => by have := (h x).1 List.mem_cons_self; cases this
  | x :: l, y :: m, hl, hm, h => by
    obtain ⟨a1, a2⟩ := List.pairwise_cons.1 hl
    obtain ⟨b1, b2⟩ := List.pairwise_cons.1 hm
    have hxy : x = y := by
      rcases List.mem_cons.1 ((h x).1 List.mem_cons_self) with e | hx
      · exact e
      · rcases List.mem_cons.1 ((h y).2 List.mem_cons_self) with e | hy
        · exact e.symm
        · exact absurd (blt_trans (b1 _ hx) (a1 _ hy)) (blt_irr _)
    subst hxy
    rw [pr_unique a2 b2 fun z => ?_]
    constructor
    · intro hz
      rcases List.mem_cons.1 ((h z).1 (List.mem_cons_of_mem _ hz)) with e | h'
      · subst e; exact absurd (a1 _ hz) (blt_irr _)
      · exact h'
    · intro hz
      rcases List.mem_cons.1 ((h z).2 (List.mem_cons_of_mem _ hz)) with e | h'
      · subst e; exact absurd (b1 _ hz) (blt_irr _)
      · exact h'
theorem blt_of {a b : ByteArray} (h : ¬ blt b a) (hn : a ≠ b) : blt a b := by
  refine less_total _ _ ?_ fun e => hn (tl_eq e.symm)
  exact Bool.eq_false_iff.2 h
/-- sorted by the name, one a name: what has the same properties in order -/
theorem srt_eq {M : List SPr} {d' : Array SPr} (hp : PermIn 0 M.length M.toArray d') (hs : SortedIn (ltOf cfS) 0 M.length d') (hnd : (M.map fun x => x.1.name).Nodup) {L : List Pr}
    (hL : L.Pairwise fun x y => blt x.name y.name) (hmem : ∀ x, x ∈ L ↔ x ∈ M.map Prod.fst) : d'.toList.map Prod.fst = L ∧ (∀ x ∈ d'.toList, x ∈ M) ∧ d'.size = M.length := by
  obtain ⟨hz, _, hperm⟩ := hp
  have hz : d'.size = M.length := by simpa using hz
  have e1 : (d'.extract 0 M.length).toList = d'.toList := by rw [← hz]; simp
  have e2 : (M.toArray.extract 0 M.length).toList = M := by simp
  rw [e1, e2] at hperm
  have hnd' : (d'.toList.map fun x => x.1.name).Nodup := (hperm.map _).nodup_iff.2 hnd
  refine ⟨pr_unique ?_ hL fun x => ?_, fun x hx => hperm.mem_iff.1 hx, hz⟩
  · rw [List.pairwise_map, List.pairwise_iff_getElem]
    intro i j hi hj hij
    have h1 := hs i j (Nat.zero_le _) hij (by simpa [hz] using hj)
    rw [ltS] at h1
    have gi : d'[i]! = d'.toList[i] := by simp at hi ⊢; simp [hi]
    have gj : d'[j]! = d'.toList[j] := by simp at hj ⊢; simp [hj]
    rw [gi, gj] at h1
    refine blt_of (Bool.eq_false_iff.1 h1) ?_
    have hp := List.pairwise_iff_getElem.1 hnd' i j (by simpa using hi) (by simpa using hj) hij
    simp only [List.getElem_map] at hp
    exact hp
  · rw [hmem]; exact (hperm.map Prod.fst).mem_iff
/-- what prop.with puts in order is setPr -/
theorem setPr_srt {l : List Pr} {s : ByteArray} {v : Vl} (h : cpErr l = 0) (hk : v.kind ≠ 0) {M : List SPr} (hM : M.map Prod.fst = (l.filter fun p => !decide (p.name = s)) ++ [⟨s, v⟩]) {d' : Array SPr} (hp : PermIn 0 M.length M.toArray d') (hs : SortedIn (ltOf cfS) 0 M.length d') :
    d'.toList.map Prod.fst = setPr l s v ∧ (∀ x ∈ d'.toList, x ∈ M) ∧ d'.size = M.length := by
  obtain ⟨_, h2, _⟩ := cp_ok h
  have hnm : (M.map fun x => x.1.name) = (M.map Prod.fst).map Pr.name := by rw [List.map_map]; rfl
  refine srt_eq hp hs ?_ ?_ fun x => ?_
  · rw [hnm, hM, List.map_append, List.nodup_append]
    refine ⟨?_, by simp, fun a ha b hb => ?_⟩
    · have : ((l.filter fun p => !decide (p.name = s)).map Pr.name).Pairwise blt := by
        rw [List.pairwise_map]
        exact h2.sublist List.filter_sublist
      exact this.imp fun h e => by subst e; exact blt_irr _ h
    · obtain ⟨p, hp, rfl⟩ := List.mem_map.1 ha
      have hb : b = s := by simpa using hb
      subst hb
      simpa using (List.mem_filter.1 hp).2
  · unfold setPr
    rw [if_neg hk, List.pairwise_append]
    refine ⟨h2.sublist List.filter_sublist, List.pairwise_cons.2 ⟨fun y hy => (List.mem_filter.1 hy).2, h2.sublist List.filter_sublist⟩, fun x hx y hy => ?_⟩
    have hxs : blt x.name s := (List.mem_filter.1 hx).2
    rcases List.mem_cons.1 hy with rfl | hy
    · exact hxs
    · exact blt_trans hxs (List.mem_filter.1 hy).2
  · unfold setPr
    rw [if_neg hk, hM, List.mem_append, List.mem_cons, List.mem_append, List.mem_singleton, List.mem_filter, List.mem_filter, List.mem_filter]
    constructor
    · rintro (⟨a, b⟩ | rfl | ⟨a, b⟩)
      · exact .inl ⟨a, by simp; intro e; rw [e, less_irr] at b; exact absurd b (by decide)⟩
      · exact .inr rfl
      · exact .inl ⟨a, by simp; intro e; rw [e, less_irr] at b; exact absurd b (by decide)⟩
    · rintro (⟨a, b⟩ | rfl)
      · have b : x.name ≠ s := by simpa using b
        by_cases hb : blt x.name s
        · exact .inl ⟨a, hb⟩
        · exact .inr (.inr ⟨a, blt_of hb fun e => b e.symm⟩)
      · exact .inr (.inl rfl)
/-- without a value nothing is put in -/
theorem setPr_none {l : List Pr} {s : ByteArray} {v : Vl} (hk : v.kind = 0) : setPr l s v = l.filter fun p => !decide (p.name = s) := by
  unfold setPr
  rw [if_pos hk]
  refine List.filter_congr fun x _ => ?_
  rw [dec_toList]
end Go.Proofs.YtmkicfjcgbfaaaaGreat
