/-
  DERIVED. Operations on a base in plain words: their errors, what they make; a base without error stays one. Plain law. Conditions: none.
  The walk of prop.without. Conditions: sizes.
  What the reference's setProp makes, property by property, is setPr. Conditions: the properties rise by their names.
  By an AI agent.
-/
import Derived.Test.YtmkicfjcgbfaaaaGreatDoorTc21
import Derived.Test.YtmkicfjcgbfaaaaGreatDoorTc11
import Derived.Test.YtmkicfjcgbfaaaaGreatDoorTc14
import Derived.Test.YtmkicfjcgbfaaaaGreatDoorTc07
namespace Go.Proofs.YtmkicfjcgbfaaaaGreatDoor

/-- an operation -/
structure Opn where
  kind : Int
  id : Int
  parent : Int
  at_ : Int
  from_ : Int
  to_ : Int
  text : ByteArray
  name : ByteArray
  val : Vl
/-- a value without fields -/
def noV (v : Vl) : Bool := (v.kind == 0) && (v.int_ == 0) && (v.to_ == 0) && v.text.toList.isEmpty && ((v.items.length : Int) == 0)
/-- has an operation just what its kind uses -/
def usedB (o : Opn) : Bool :=
  (((o.kind == 1) || (o.kind == 3)) || ((o.parent == 0) && (o.at_ == 0))) && ((o.kind == 4) || ((o.from_ == 0) && (o.to_ == 0))) && (((o.kind == 4) || (o.kind == 1)) || o.text.toList.isEmpty) && ((o.kind == 5) || (o.name.toList.isEmpty && noV o.val))
def blkAt (l : List Bl) (id : Int) : Bl := (l[(posOf l id).toNat]?).getD ⟨0, 0, [], ⟨#[]⟩, []⟩
def dF (f : Int → Option Int) (id : Int) : Int := (f id).getD 0
def insErr (l : List Bl) (f : Int → Option Int) (o : Opn) : Int :=
  if o.id < 1 ∨ 1000000 < o.id then 2 else if 0 ≤ posOf l o.id then 6 else if posOf l o.parent < 0 then 7 else if o.at_ < 0 ∨ ((blkAt l o.parent).kids.length : Int) < o.at_ then 2 else if txErr o.text ≠ 0 then txErr o.text else if 2000 ≤ l.length ∨ 500 ≤ (blkAt l o.parent).kids.length then 14 else if 40 ≤ dF f o.parent then 13 else 0
def movErr (l : List Bl) (f : Int → Option Int) (o : Opn) : Int :=
  if o.id = 0 ∨ posOf l o.id < 0 ∨ posOf l o.parent < 0 then 7 else if o.id ∈ pth l (dF f o.parent).toNat o.parent then 12 else if o.at_ < 0 ∨ ((lessK (blkAt l o.parent).kids o.id).length : Int) < o.at_ then 2 else if 500 ≤ (lessK (blkAt l o.parent).kids o.id).length then 14 else if 40 < dF f o.parent + hgt l 41 o.id then 13 else 0
def setErr (ps : List Pr) (o : Opn) : Int := if nmErr o.name ≠ 0 then nmErr o.name else if vErr o.val ≠ 0 then vErr o.val else if o.val.kind ≠ 0 ∧ nmOf ps o.name < 0 ∧ 20 ≤ ps.length then 14 else 0
/-- the error of an operation on a base without error -/
def opErr (l : List Bl) (f : Int → Option Int) (o : Opn) : Int :=
  if outI o.kind 1 5 = true then 10 else if usedB o = false then 1 else if o.kind = 1 then insErr l f o else if o.kind = 3 then movErr l f o else if posOf l o.id < 1 then 7 else
  if o.kind = 2 then (if 0 < (blkAt l o.id).kids.length then 11 else 0) else if o.kind = 4 then edErr (blkAt l o.id).text o.text o.from_ o.to_ else setErr (blkAt l o.id).props o
/-- properties with a value for a name -/
def setPr (l : List Pr) (s : ByteArray) (v : Vl) : List Pr :=
  if v.kind = 0 then l.filter fun p => !(p.name.toList == s.toList) else (l.filter fun p => Op.bytesLess p.name.toList s.toList) ++ ⟨s, v⟩ :: l.filter fun p => Op.bytesLess s.toList p.name.toList
/-- the base behind an operation -/
def applied (l : List Bl) (o : Opn) : List Bl :=
  if o.kind = 1 then insL l o.id o.parent o.at_.toNat o.text else if o.kind = 2 then remL l o.id (parOf l o.id) else if o.kind = 3 then movL l o.id o.parent o.at_.toNat else
  if o.kind = 4 then upd l o.id fun b => b.withText (edS b.text o.text o.from_ o.to_) else upd l o.id fun b => b.withProps (setPr b.props o.name o.val)

/-! ### properties -/
theorem prs_of : ∀ {l : List Pr} {p : Option ByteArray}, (∀ q, p = some q → ∀ x ∈ l, blt q x.name) → l.Pairwise (fun x y => blt x.name y.name) → (∀ x ∈ l, x.val.kind ≠ 0 ∧ nmErr x.name = 0 ∧ vErr x.val = 0) → prsErr p l = 0
  | [], p, _, _, _ => by rw [prsErr]
  | x :: l, p, h1, h2, h3 => by
    obtain ⟨a1, a2, a3⟩ := h3 x (by simp)
    obtain ⟨b1, b2⟩ := List.pairwise_cons.1 h2
    have hle : ¬ lePrev p x.name = true := by
      cases p with
      | none => exact Bool.false_ne_true
      | some q =>
        intro h
        have hq := h1 q rfl x (by simp)
        have h : strLe x.name q = true := h
        unfold strLe at h
        rw [Bool.or_eq_true] at h
        rcases h with h | h
        · exact blt_irr _ (blt_trans hq h)
        · exact blt_irr x.name (by rw [tl_eq (eq_of_beq h) (a := x.name)] at hq ⊢; exact hq)
    rw [prsErr, if_neg (fun e => e a2), if_neg hle, if_neg (by simpa using a1), if_neg (fun e => e a3)]
    exact prs_of (fun q hq y hy => by injection hq with hq; subst hq; exact b1 y hy) b2 fun y hy => h3 y (by simp [hy])
theorem prs_vals : ∀ {l : List Pr} {p : Option ByteArray}, prsErr p l = 0 → ∀ x ∈ l, vErr x.val = 0
  | [], _, _, x, hx => by cases hx
  | a :: l, p, h, x, hx => by
    rw [prsErr] at h
    by_cases h1 : nmErr a.name ≠ 0
    · rw [if_pos h1] at h; exact absurd h h1
    rw [if_neg h1] at h
    by_cases h2 : lePrev p a.name = true
    · rw [if_pos h2] at h; exact absurd h (by decide)
    rw [if_neg h2] at h
    by_cases h3 : (a.val.kind == 0) = true
    · rw [if_pos h3] at h; exact absurd h (by decide)
    rw [if_neg h3] at h
    by_cases h4 : vErr a.val ≠ 0
    · rw [if_pos h4] at h; exact absurd h h4
    rw [if_neg h4] at h
    rcases List.mem_cons.1 hx with rfl | hx
    · exact Decidable.of_not_not h4
    · exact prs_vals h x hx
theorem cp_vals {l : List Pr} (h : cpErr l = 0) : ∀ x ∈ l, vErr x.val = 0 := by
  unfold cpErr at h
  by_cases h1 : 20 < l.length
  · rw [if_pos h1] at h; exact absurd h (by decide)
  · rw [if_neg h1] at h; exact prs_vals h
theorem set_len {l : List Pr} (_hs : l.Pairwise (fun x y => blt x.name y.name)) (s : ByteArray) : ((l.filter fun p => Op.bytesLess p.name.toList s.toList).length + (l.filter fun p => Op.bytesLess s.toList p.name.toList).length ≤ l.length) ∧ (0 ≤ nmOf l s → (l.filter fun p => Op.bytesLess p.name.toList s.toList).length + (l.filter fun p => Op.bytesLess s.toList p.name.toList).length + 1 ≤ l.length) := by
  have key : ∀ l : List Pr, (l.filter fun p => Op.bytesLess p.name.toList s.toList).length + (l.filter fun p => Op.bytesLess s.toList p.name.toList).length + (l.filter fun p => p.name.toList == s.toList).length ≤ l.length := by
    intro l
    induction l with
    | nil => simp
    | cons a l ih =>
      rw [List.filter_cons, List.filter_cons, List.filter_cons, List.length_cons]
      by_cases h1 : Op.bytesLess a.name.toList s.toList = true
      · have h2 : ¬ Op.bytesLess s.toList a.name.toList = true := by rw [less_asymm _ _ h1]; decide
        have h3 : ¬ (a.name.toList == s.toList) = true := fun e => by rw [eq_of_beq e, less_irr] at h1; exact absurd h1 (by decide)
        rw [if_pos h1, if_neg h2, if_neg h3, List.length_cons]; omega
      · rw [if_neg h1]
        by_cases h2 : Op.bytesLess s.toList a.name.toList = true
        · have h3 : ¬ (a.name.toList == s.toList) = true := fun e => by rw [eq_of_beq e, less_irr] at h2; exact absurd h2 (by decide)
          rw [if_pos h2, if_neg h3, List.length_cons]; omega
        · rw [if_neg h2]
          split
          · rw [List.length_cons]; omega
          · omega
  have h1 := key l
  refine ⟨by omega, fun h0 => ?_⟩
  rcases nmOf_spec l s with ⟨h2, _⟩ | ⟨i, x, h2, h3, h4⟩
  · omega
  · have hx := List.mem_of_getElem? h3
    have : 0 < (l.filter fun p => p.name.toList == s.toList).length := List.length_pos_of_mem (List.mem_filter.2 ⟨hx, by rw [h4]; exact beq_self_eq_true _⟩)
    omega
theorem setPr_ok {l : List Pr} {s : ByteArray} {v : Vl} (h : cpErr l = 0) (hs : nmErr s = 0) (hv : vErr v = 0) (hn : ¬ (v.kind ≠ 0 ∧ nmOf l s < 0 ∧ 20 ≤ l.length)) : cpErr (setPr l s v) = 0 := by
  obtain ⟨h1, h2, h3⟩ := cp_ok h
  have h4 := cp_vals h
  unfold setPr
  by_cases hk : v.kind = 0
  · rw [if_pos hk]
    unfold cpErr
    have hl := List.length_filter_le (fun p : Pr => !(p.name.toList == s.toList)) l
    rw [if_neg (by omega)]
    exact prs_of (fun q hq => by cases hq) (h2.sublist List.filter_sublist) fun x hx => by
      have hx := (List.mem_filter.1 hx).1
      exact ⟨(h3 x hx).1, (h3 x hx).2, h4 x hx⟩
  · rw [if_neg hk]
    unfold cpErr
    obtain ⟨l1, l2⟩ := set_len h2 s
    rw [if_neg (by
      rw [List.length_append, List.length_cons]
      by_cases hz : nmOf l s < 0
      · have : ¬ 20 ≤ l.length := fun e => hn ⟨hk, hz, e⟩
        omega
      · have := l2 (by omega)
        omega)]
    refine prs_of (fun q hq => by cases hq) ?_ fun x hx => ?_
    · rw [List.pairwise_append]
      refine ⟨h2.sublist List.filter_sublist, List.pairwise_cons.2 ⟨fun y hy => (List.mem_filter.1 hy).2, h2.sublist List.filter_sublist⟩, fun x hx y hy => ?_⟩
      have hxs : blt x.name s := (List.mem_filter.1 hx).2
      rcases List.mem_cons.1 hy with rfl | hy
      · exact hxs
      · exact blt_trans hxs (List.mem_filter.1 hy).2
    · rcases List.mem_append.1 hx with hx | hx
      · have hx := (List.mem_filter.1 hx).1
        exact ⟨(h3 x hx).1, (h3 x hx).2, h4 x hx⟩
      · rcases List.mem_cons.1 hx with rfl | hx
        · exact ⟨hk, hs, hv⟩
        · have hx := (List.mem_filter.1 hx).1
          exact ⟨(h3 x hx).1, (h3 x hx).2, h4 x hx⟩

/-! ### texts -/
theorem ctl_app (a b : ByteArray) : ctl (a ++ b) = (ctl a || ctl b) := by
  unfold ctl
  rw [ByteArray.data_append, Array.toList_append, List.any_append]
theorem ctl_extract {s : ByteArray} (h : ctl s = false) (i j : Nat) : ctl (s.extract i j) = false := by
  unfold ctl at *
  rw [List.any_eq_false] at *
  intro x hx
  refine h x ?_
  rw [ByteArray.data_extract, Array.toList_extract] at hx
  exact List.mem_of_mem_drop (List.mem_of_mem_take hx)
theorem edS_ok {s x : ByteArray} {f t : Int} (h : edErr s x f t = 0) (hs : txErr s = 0) : txErr (edS s x f t) = 0 := by
  obtain ⟨h0, h1, h2, h3, h4⟩ := edErr_ok h
  have hsz := edS_size (x := x) h0 h1 h2
  have hc : ctl s = false := by
    unfold txErr at hs
    split at hs
    · omega
    · cases e : ctl s
      · rfl
      · rw [e, if_pos rfl] at hs; omega
  have hd : ctl (edS s x f t) = false := by
    unfold edS
    rw [ctl_app, ctl_app, ctl_extract hc, ctl_extract hc, h3]; rfl
  unfold txErr
  rw [if_neg (by omega), hd, if_neg (by decide)]

/-! ### a base -/
section
variable {l : List Bl} {f : Int → Option Int} {g : Int → Nat}
theorem blkAt_of {p : Nat} {b : Bl} {id : Int} (hp : posOf l id = (p : Int)) (hb : l[p]? = some b) : blkAt l id = b := by
  unfold blkAt; rw [hp, Int.toNat_natCast, hb]; rfl
/-- a base without error stays one -/
theorem Good.applied (G : Good l f) {o : Opn} (h : opErr l f o = 0) : ∃ f', IsDep (Go.Proofs.YtmkicfjcgbfaaaaGreatDoor.applied l o) f' ∧ Good (Go.Proofs.YtmkicfjcgbfaaaaGreatDoor.applied l o) f' := by
  have fin : ∀ {l' : List Bl} {g' : Int → Nat}, Tree l' g' → ∃ f', IsDep l' f' ∧ Good l' f' := fun T => by
    obtain ⟨f', hf⟩ := IsDep.exists T.kids
    exact ⟨f', hf, T.good hf⟩
  have T := G.tree
  obtain ⟨g, hg⟩ : ∃ g, g = fun id => ((f id).getD 0).toNat := ⟨_, rfl⟩
  rw [← hg] at T
  have hdF : ∀ x ∈ l, (dF f x.id).toNat = g x.id := fun x hx => by rw [hg]; rfl
  have hdG : ∀ x ∈ l, dF f x.id = (g x.id : Int) := fun x hx => by
    unfold dF
    rw [T.depth G.dep hx]; rfl
  unfold opErr at h
  by_cases h1 : outI o.kind 1 5 = true
  · rw [if_pos h1] at h; omega
  rw [if_neg h1] at h
  by_cases h2 : usedB o = false
  · rw [if_pos h2] at h; omega
  rw [if_neg h2] at h
  unfold Go.Proofs.YtmkicfjcgbfaaaaGreatDoor.applied
  by_cases k1 : o.kind = 1
  · rw [if_pos k1] at h ⊢
    unfold insErr at h
    by_cases q1 : o.id < 1 ∨ 1000000 < o.id
    · rw [if_pos q1] at h; omega
    rw [if_neg q1] at h
    by_cases q2 : 0 ≤ posOf l o.id
    · rw [if_pos q2] at h; omega
    rw [if_neg q2] at h
    by_cases q3 : posOf l o.parent < 0
    · rw [if_pos q3] at h; omega
    rw [if_neg q3] at h
    by_cases q4 : o.at_ < 0 ∨ ((blkAt l o.parent).kids.length : Int) < o.at_
    · rw [if_pos q4] at h; omega
    rw [if_neg q4] at h
    by_cases q5 : txErr o.text = 0
    case neg => rw [if_pos q5] at h; exact absurd h q5
    rw [if_neg (fun e => e q5)] at h
    by_cases q6 : 2000 ≤ l.length ∨ 500 ≤ (blkAt l o.parent).kids.length
    · rw [if_pos q6] at h; omega
    rw [if_neg q6] at h
    by_cases q7 : 40 ≤ dF f o.parent
    · rw [if_pos q7] at h; omega
    rcases posOf_spec l o.id with ⟨_, hn⟩ | ⟨i, b, e, _⟩
    case inr => omega
    rcases posOf_spec l o.parent with ⟨e, _⟩ | ⟨i, b, e, hb, hbi, _⟩
    · omega
    rw [blkAt_of e hb] at q4 q6
    have hbm := List.mem_of_getElem? hb
    have := hdG b hbm
    rw [hbi] at this
    exact fin (T.insert (by omega) hn hbm hbi q5 (by omega) (by omega) (by omega))
  rw [if_neg k1] at h ⊢
  by_cases k3 : o.kind = 3
  · rw [if_neg (by omega), if_pos k3]
    rw [if_pos k3] at h
    unfold movErr at h
    by_cases q1 : o.id = 0 ∨ posOf l o.id < 0 ∨ posOf l o.parent < 0
    · rw [if_pos q1] at h; omega
    rw [if_neg q1] at h
    by_cases q2 : o.id ∈ pth l (dF f o.parent).toNat o.parent
    · rw [if_pos q2] at h; omega
    rw [if_neg q2] at h
    by_cases q3 : o.at_ < 0 ∨ ((lessK (blkAt l o.parent).kids o.id).length : Int) < o.at_
    · rw [if_pos q3] at h; omega
    rw [if_neg q3] at h
    by_cases q4 : 500 ≤ (lessK (blkAt l o.parent).kids o.id).length
    · rw [if_pos q4] at h; omega
    rw [if_neg q4] at h
    by_cases q5 : 40 < dF f o.parent + hgt l 41 o.id
    · rw [if_pos q5] at h; omega
    rcases posOf_spec l o.id with ⟨e, _⟩ | ⟨i, x, _, hx, hxi, _⟩
    · omega
    rcases posOf_spec l o.parent with ⟨e, _⟩ | ⟨i, b, e, hb, hbi, _⟩
    · omega
    rw [blkAt_of e hb] at q3 q4
    have hbm := List.mem_of_getElem? hb
    have e1 := hdG b hbm
    have e2 := hdF b hbm
    rw [hbi] at e1 e2
    rw [e2] at q2
    rw [← hxi] at q1 q2 q4 q5 ⊢
    rw [← hbi] at q2 ⊢
    rw [hbi] at q2
    obtain ⟨g', T'⟩ := T.move (List.mem_of_getElem? hx) (fun e => q1 (.inl e)) hbm o.at_.toNat (by rw [hbi]; exact q2) (by omega) (by rw [hbi]; omega)
    exact fin T'
  rw [if_neg k3] at h
  by_cases q1 : posOf l o.id < 1
  · rw [if_pos q1] at h; omega
  rw [if_neg q1] at h
  rcases posOf_spec l o.id with ⟨e, _⟩ | ⟨i, x, e, hx, hxi, hxf⟩
  · omega
  have hxm := List.mem_of_getElem? hx
  rw [blkAt_of e hx] at h
  have hx0 : x.id ≠ 0 := fun e0 => by
    obtain ⟨r, r', hl, a1, _⟩ := T.root
    exact hxf 0 r (by omega) (by rw [hl]; rfl) (by rw [a1, ← hxi, e0])
  by_cases k2 : o.kind = 2
  · rw [if_pos k2]
    rw [if_pos k2] at h
    by_cases q2 : 0 < x.kids.length
    · rw [if_pos q2] at h; omega
    rw [← hxi, parOf_eq G.kids hxm]
    exact fin (T.remove hxm hx0 (List.eq_nil_of_length_eq_zero (by omega)))
  rw [if_neg k2] at h
  rw [if_neg k2, if_neg k3]
  by_cases k4 : o.kind = 4
  · rw [if_pos k4]
    rw [if_pos k4] at h
    refine fin (T.local_ o.id (by omega) _ (fun b => ⟨rfl, rfl, rfl⟩) fun b hb hbi => ?_)
    obtain rfl := T.inj hb hxm (hbi.trans hxi.symm)
    exact ⟨edS_ok h (T.loc b hb).1, (T.loc b hb).2.2⟩
  rw [if_neg k4] at h
  rw [if_neg k4]
  refine fin (T.local_ o.id (by omega) _ (fun b => ⟨rfl, rfl, rfl⟩) fun b hb hbi => ?_)
  obtain rfl := T.inj hb hxm (hbi.trans hxi.symm)
  unfold setErr at h
  by_cases q2 : nmErr o.name = 0
  case neg => rw [if_pos q2] at h; exact absurd h q2
  rw [if_neg (fun e => e q2)] at h
  by_cases q3 : vErr o.val = 0
  case neg => rw [if_pos q3] at h; exact absurd h q3
  rw [if_neg (fun e => e q3)] at h
  by_cases q4 : o.val.kind ≠ 0 ∧ nmOf b.props o.name < 0 ∧ 20 ≤ b.props.length
  · rw [if_pos q4] at h; omega
  exact ⟨(T.loc b hb).1, setPr_ok (T.loc b hb).2.2 q2 q3 q4⟩
end
end Go.Proofs.YtmkicfjcgbfaaaaGreatDoor
namespace Go.Proofs.YtmkicfjcgbfaaaaGreatDoor
open Go.RowKit

theorem RowP.reads {w : World} {base c : Nat} {A : Option Addr} {M : List (Pr × Value)} (h : RowP w base A c M) : Reads w w.heap.size 6 A M.length (M.flatMap prV) := by
  refine ⟨prs_cells M, fun hp => ?_⟩
  rcases h.2 with h0 | ⟨g, rfl, _, h3, h4⟩
  · have := h.1; omega
  · refine ⟨_, rfl, h4.lt, fun j u hu => ?_⟩
    have hj := (List.getElem?_eq_some_iff.1 hu).1
    rw [prs_cells] at hj
    obtain ⟨x, hx⟩ : ∃ x, M[j / 6]? = some x := ⟨_, List.getElem?_eq_getElem (by omega)⟩
    have h5 := fm_get prV 6 prV_len M (j / 6) (j % 6) x hx (by omega)
    rw [show j / 6 * 6 + j % 6 = j by omega, hu] at h5
    have := h3 _ x hx _ u h5.symm
    rw [show j / 6 * 6 + j % 6 = j by omega] at this
    rw [Addr.add_lit, Nat.zero_add]; exact this
theorem RowP.rpr {w : World} {base c : Nat} {A : Option Addr} {M : List (Pr × Value)} (h : RowP w base A c M) (hb : M.length * 80 ≤ 140737488351232) (hn : ∀ x ∈ M, NP w (fun b => base ≤ b ∧ b < w.heap.size ∧ A.map Addr.block ≠ some b) x) : RPr w w.heap.size (.slice A M.length c) (M.map Prod.fst) :=
  ⟨A, M.length, c, M, rfl, rfl, rfl, ⟨h.1, hb⟩, h.reads, fun x hx => (hn x hx).reads fun _b hb => hb.2.1⟩
/-- properties in a row of the call's own, what they lead to in other blocks of the call's own -/
structure OwnP (w : World) (base : Nat) (A : Option Addr) (c : Nat) (M : List (Pr × Value)) : Prop where
  row : RowP w base A c M
  nest : ∀ x ∈ M, NP w (fun b => base ≤ b ∧ b < w.heap.size ∧ A.map Addr.block ≠ some b) x
theorem OwnP.grown {w w' : World} {base c : Nat} {A : Option Addr} {M M' : List (Pr × Value)} (h : OwnP w base A c M) (hg : w.grownBy w' (A.map Addr.block)) (hr : RowP w' base A c M') (hm : ∀ x ∈ M', x ∈ M) : OwnP w' base A c M' :=
  ⟨hr, fun x hx => ((h.nest x (hm x hx)).keep fun p hp => World.cell?_of_block (hg.block p.block hp.2.1 fun e => hp.2.2 e.symm)).weak fun _b hb => ⟨hb.1, Nat.lt_of_lt_of_le hb.2.1 hg.size, hb.2.2⟩⟩
theorem keepP_map (M : List (Pr × Value)) (s : ByteArray) : (keepP M s).map Prod.fst = (M.map Prod.fst).filter fun p => !decide (p.name = s) := by
  unfold keepP; rw [List.filter_map]; rfl
/-- what without leaves -/
def WoR (l : List Pr) (s : ByteArray) (w : World) (e : Ending) (w' : World) : Prop := (∃ (A : Option Addr) (c : Nat) (M : List (Pr × Value)), e = .returned (.slice A M.length c) ∧ c = l.length ∧ M.map Prod.fst = (l.filter fun p => !decide (p.name = s)) ∧ OwnP w' w.heap.size A c M) ∧ Below w.heap.size w w'

set_option maxRecDepth 100000 in
set_option maxHeartbeats 1000000 in
/-- prop.without -/
theorem withoutP_any (A : Option Addr) (n c : Nat) (l : List Pr) (s : ByteArray) (w : World) (B : Nat) (hB : B ≤ w.heap.size) (h : RPr w B (.slice A n c) l) :
    Calls Tryz.prog 111 #[.slice A n c, .string s] w (WoR l s w) := by
  have hbig := h.len.2.2
  have hnl := Lib.hid h.len.1
  have HCP := Lib.hid (copyPropsO_any A n c l (w.alloc (.cells #[.string s] 9)) B (by simp; omega) (h.below ((Below.refl _ _).alloc hB _)))
  have HAL : Hid (Below w.heap.size w (w.alloc (.cells #[.string s] 9))) := (Below.refl _ _).alloc (Nat.le_refl _) _
  have HC0 : Hid ((w.alloc (.cells #[.string s] 9)).cell? ⟨w.heap.size, 0, none⟩ = some (.string s)) := (Blk.new w 9 #[.string s]).cell 0
  have hz : (w.alloc (.cells #[.string s] 9)).heap.size = w.heap.size + 1 := by simp
  clear h
  go_enter Tryz.func111, Tryz.ntmps111
  go_wp2_with fail
  refine HCP.out.mono ?_
  rintro e w1 ⟨⟨A1, L, rfl, hLl, hrow, hnest⟩, hb1⟩
  have hlen : L.length = l.length := by rw [← hLl, List.length_map]
  have HO1 : Hid (OwnP w1 _ A1 L.length L) := ⟨hrow, hnest⟩
  have HB1 : Hid (Below w.heap.size w w1) := HAL.out.trans (hb1.mono HAL.out.size)
  have hz1 := hb1.size
  have HDW := Lib.hid (delW_any L A1 L.length L.length w.heap.size (w.alloc (.cells #[.string s] 9)).heap.size s w1 hrow rfl (by rw [hlen, ← hnl.out]; exact hbig) hb1.size (by rw [hz]; omega)
    (by rw [hb1.cell (p := ⟨w.heap.size, 0, none⟩) (by rw [hz]; show w.heap.size < _; omega)]; exact HC0.out) (hrow.rpr (by rw [hlen, ← hnl.out]; exact hbig) hnest) (fun x hx => (hnest x hx).slice))
  have HLL := Lib.hid hLl
  have HLEN := Lib.hid hlen
  clear hrow hnest hb1 hLl hlen
  go_wp2_with fail
  refine HDW.out.mono ?_
  rintro e w2 ⟨rfl, hr2, hg2⟩
  have HO2 : Hid (OwnP w2 w.heap.size A1 L.length (keepP L s)) := by
    have h1 := HO1.out.grown hg2 hr2 fun x hx => (List.mem_filter.1 hx).1
    refine ⟨⟨h1.row.1, h1.row.2.imp id fun ⟨g, a, b, c, d⟩ => ⟨g, a, by omega, c, d⟩⟩, fun x hx => (h1.nest x hx).weak fun b hb => ⟨by omega, hb.2⟩⟩
  have HB2 : Hid (Below w.heap.size w w2) := by
    refine HB1.out.trans ⟨hg2.os, hg2.tape, hg2.output, hg2.size, fun k hk => hg2.block k (by have := HB1.out.size; omega) fun e => ?_⟩
    rcases HO1.out.row.2 with ⟨h0, _⟩ | ⟨g, h0, hg, _⟩
    · rw [h0] at e; cases e
    · rw [h0] at e; injection e with e; have e : k = g := e; rw [hz] at hg; omega
  clear hr2 hg2
  go_wp2_with fail
  go_ret
  exact ⟨⟨A1, L.length, keepP L s, rfl, HLEN.out, by rw [keepP_map, HLL.out], HO2.out⟩, HB2.out⟩
end Go.Proofs.YtmkicfjcgbfaaaaGreatDoor
namespace Go.Proofs.YtmkicfjcgbfaaaaGreatDoor
open Go.RowKit

end Go.Proofs.YtmkicfjcgbfaaaaGreatDoor
