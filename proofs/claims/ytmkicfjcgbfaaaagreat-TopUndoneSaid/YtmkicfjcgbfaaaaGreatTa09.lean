/-
  DERIVED. Operations on a base in plain words: their errors, what they make; a base without error stays one. Plain law. Conditions: none.
  Same values: tree.sameValue, the reference's SameValue. Conditions: sizes.
  Operations on a base in memory; the walk of tree.noValue. Conditions: sizes.
  A list of operations that came in, in memory. Conditions: none.
  By an AI agent.
-/
import Derived.Test.YtmkicfjcgbfaaaaGreatTa07
import Derived.Test.YtmkicfjcgbfaaaaGreatTa08
import Derived.Test.YtmkicfjcgbfaaaaGreatTa02
import Derived.Test.YtmkicfjcgbfaaaaGreatChecked
import Derived.WalkSpells
import Derived.Deep.QuietTactic
import Derived.BigQuiet
import Derived.Deep.LoopGhost
import Derived.Test.YtmkicfjcgbfaaaaGreatTa01
namespace Go.Proofs.YtmkicfjcgbfaaaaGreat

/-- an operation -/
structure Opn where
  kind : Int
  id : Int
  parent : Int
  at_ : Int
  from_ : Int
  to_ : Int
  text : ByteArray
  name : ByteArray
  val : Vl
/-- a value without fields -/
def noV (v : Vl) : Bool := (v.kind == 0) && (v.int_ == 0) && (v.to_ == 0) && v.text.toList.isEmpty && ((v.items.length : Int) == 0)
/-- has an operation just what its kind uses -/
def usedB (o : Opn) : Bool :=
  (((o.kind == 1) || (o.kind == 3)) || ((o.parent == 0) && (o.at_ == 0))) && ((o.kind == 4) || ((o.from_ == 0) && (o.to_ == 0))) && (((o.kind == 4) || (o.kind == 1)) || o.text.toList.isEmpty) && ((o.kind == 5) || (o.name.toList.isEmpty && noV o.val))
def blkAt (l : List Bl) (id : Int) : Bl := (l[(posOf l id).toNat]?).getD ⟨0, 0, [], ⟨#[]⟩, []⟩
def dF (f : Int → Option Int) (id : Int) : Int := (f id).getD 0
def insErr (l : List Bl) (f : Int → Option Int) (o : Opn) : Int :=
  if o.id < 1 ∨ 1000000 < o.id then 2 else if 0 ≤ posOf l o.id then 6 else if posOf l o.parent < 0 then 7 else if o.at_ < 0 ∨ ((blkAt l o.parent).kids.length : Int) < o.at_ then 2 else if txErr o.text ≠ 0 then txErr o.text else if 2000 ≤ l.length ∨ 500 ≤ (blkAt l o.parent).kids.length then 14 else if 40 ≤ dF f o.parent then 13 else 0
def movErr (l : List Bl) (f : Int → Option Int) (o : Opn) : Int :=
  if o.id = 0 ∨ posOf l o.id < 0 ∨ posOf l o.parent < 0 then 7 else if o.id ∈ pth l (dF f o.parent).toNat o.parent then 12 else if o.at_ < 0 ∨ ((lessK (blkAt l o.parent).kids o.id).length : Int) < o.at_ then 2 else if 500 ≤ (lessK (blkAt l o.parent).kids o.id).length then 14 else if 40 < dF f o.parent + hgt l 41 o.id then 13 else 0
def setErr (ps : List Pr) (o : Opn) : Int := if nmErr o.name ≠ 0 then nmErr o.name else if vErr o.val ≠ 0 then vErr o.val else if o.val.kind ≠ 0 ∧ nmOf ps o.name < 0 ∧ 20 ≤ ps.length then 14 else 0
/-- the error of an operation on a base without error -/
def opErr (l : List Bl) (f : Int → Option Int) (o : Opn) : Int :=
  if outI o.kind 1 5 = true then 10 else if usedB o = false then 1 else if o.kind = 1 then insErr l f o else if o.kind = 3 then movErr l f o else if posOf l o.id < 1 then 7 else
  if o.kind = 2 then (if 0 < (blkAt l o.id).kids.length then 11 else 0) else if o.kind = 4 then edErr (blkAt l o.id).text o.text o.from_ o.to_ else setErr (blkAt l o.id).props o
/-- properties with a value for a name -/
def setPr (l : List Pr) (s : ByteArray) (v : Vl) : List Pr :=
  if v.kind = 0 then l.filter fun p => !(p.name.toList == s.toList) else (l.filter fun p => Op.bytesLess p.name.toList s.toList) ++ ⟨s, v⟩ :: l.filter fun p => Op.bytesLess s.toList p.name.toList
/-- the base behind an operation -/
def applied (l : List Bl) (o : Opn) : List Bl :=
  if o.kind = 1 then insL l o.id o.parent o.at_.toNat o.text else if o.kind = 2 then remL l o.id (parOf l o.id) else if o.kind = 3 then movL l o.id o.parent o.at_.toNat else
  if o.kind = 4 then upd l o.id fun b => b.withText (edS b.text o.text o.from_ o.to_) else upd l o.id fun b => b.withProps (setPr b.props o.name o.val)

/-! ### properties -/
theorem prs_of : ∀ {l : List Pr} {p : Option ByteArray}, (∀ q, p = some q → ∀ x ∈ l, blt q x.name) → l.Pairwise (fun x y => blt x.name y.name) → (∀ x ∈ l, x.val.kind ≠ 0 ∧ nmErr x.name = 0 ∧ vErr x.val = 0) → prsErr p l = 0
  | [], p, _, _, _ => by rw [prsErr]
  | x :: l, p, h1, h2, h3 => by
    obtain ⟨a1, a2, a3⟩ := h3 x (by simp)
    obtain ⟨b1, b2⟩ := List.pairwise_cons.1 h2
    have hle : ¬ lePrev p x.name = true := by
      cases p with
      | none => exact Bool.false_ne_true
      | some q =>
        intro h
        have hq := h1 q rfl x (by simp)
        have h : strLe x.name q = true := h
        unfold strLe at h
        rw [Bool.or_eq_true] at h
        rcases h with h | h
        · exact blt_irr _ (blt_trans hq h)
        · exact blt_irr x.name (by rw [tl_eq (eq_of_beq h) (a := x.name)] at hq ⊢; exact hq)
    rw [prsErr, if_neg (fun e => e a2), if_neg hle, if_neg (by simpa using a1), if_neg (fun e => e a3)]
    exact prs_of (fun q hq y hy => by injection hq with hq; subst hq; exact b1 y hy) b2 fun y hy => h3 y (by simp [hy])
theorem prs_vals : ∀ {l : List Pr} {p : Option ByteArray}, prsErr p l = 0 → ∀ x ∈ l, vErr x.val = 0
  | [], _, _, x, hx => by cases hx
  | a :: l, p, h, x, hx => by
    rw [prsErr] at h
    by_cases h1 : nmErr a.name ≠ 0
    · rw [if_pos h1] at h; exact absurd h h1
    rw [if_neg h1] at h
    by_cases h2 : lePrev p a.name = true
    · rw [if_pos h2] at h; exact absurd h (by decide)
    rw [if_neg h2] at h
    by_cases h3 : (a.val.kind == 0) = true
    · rw [if_pos h3] at h; exact absurd h (by decide)
    rw [if_neg h3] at h
    by_cases h4 : vErr a.val ≠ 0
    · rw [if_pos h4] at h; exact absurd h h4
    rw [if_neg h4] at h
    rcases List.mem_cons.1 hx with rfl | hx
    · exact Decidable.of_not_not h4
    · exact prs_vals h x hx
theorem cp_vals {l : List Pr} (h : cpErr l = 0) : ∀ x ∈ l, vErr x.val = 0 := by
  unfold cpErr at h
  by_cases h1 : 20 < l.length
  · rw [if_pos h1] at h; exact absurd h (by decide)
  · rw [if_neg h1] at h; exact prs_vals h
theorem set_len {l : List Pr} (_hs : l.Pairwise (fun x y => blt x.name y.name)) (s : ByteArray) : ((l.filter fun p => Op.bytesLess p.name.toList s.toList).length + (l.filter fun p => Op.bytesLess s.toList p.name.toList).length ≤ l.length) ∧ (0 ≤ nmOf l s → (l.filter fun p => Op.bytesLess p.name.toList s.toList).length + (l.filter fun p => Op.bytesLess s.toList p.name.toList).length + 1 ≤ l.length) := by
  have key : ∀ l : List Pr, (l.filter fun p => Op.bytesLess p.name.toList s.toList).length + (l.filter fun p => Op.bytesLess s.toList p.name.toList).length + (l.filter fun p => p.name.toList == s.toList).length ≤ l.length := by
    intro l
    induction l with
    | nil => simp
    | cons a l ih =>
      rw [List.filter_cons, List.filter_cons, List.filter_cons, List.length_cons]
      by_cases h1 : Op.bytesLess a.name.toList s.toList = true
      · have h2 : ¬ Op.bytesLess s.toList a.name.toList = true := by rw [less_asymm _ _ h1]; decide
        have h3 : ¬ (a.name.toList == s.toList) = true := fun e => by rw [eq_of_beq e, less_irr] at h1; exact absurd h1 (by decide)
        rw [if_pos h1, if_neg h2, if_neg h3, List.length_cons]; omega
      · rw [if_neg h1]
        by_cases h2 : Op.bytesLess s.toList a.name.toList = true
        · have h3 : ¬ (a.name.toList == s.toList) = true := fun e => by rw [eq_of_beq e, less_irr] at h2; exact absurd h2 (by decide)
          rw [if_pos h2, if_neg h3, List.length_cons]; omega
        · rw [if_neg h2]
          split
          · rw [List.length_cons]; omega
          · omega
  have h1 := key l
  refine ⟨by omega, fun h0 => ?_⟩
  rcases nmOf_spec l s with ⟨h2, _⟩ | ⟨i, x, h2, h3, h4⟩
  · omega
  · have hx := List.mem_of_getElem? h3
    have : 0 < (l.filter fun p => p.name.toList == s.toList).length := List.length_pos_of_mem (List.mem_filter.2 ⟨hx, by rw [h4]; exact beq_self_eq_true _⟩)
    omega
theorem setPr_ok {l : List Pr} {s : ByteArray} {v : Vl} (h : cpErr l = 0) (hs : nmErr s = 0) (hv : vErr v = 0) (hn : ¬ (v.kind ≠ 0 ∧ nmOf l s < 0 ∧ 20 ≤ l.length)) : cpErr (setPr l s v) = 0 := by
  obtain ⟨h1, h2, h3⟩ := cp_ok h
  have h4 := cp_vals h
  unfold setPr
  by_cases hk : v.kind = 0
  · rw [if_pos hk]
    unfold cpErr
    have hl := List.length_filter_le (fun p : Pr => !(p.name.toList == s.toList)) l
    rw [if_neg (by omega)]
    exact prs_of (fun q hq => by cases hq) (h2.sublist List.filter_sublist) fun x hx => by
      have hx := (List.mem_filter.1 hx).1
      exact ⟨(h3 x hx).1, (h3 x hx).2, h4 x hx⟩
  · rw [if_neg hk]
    unfold cpErr
    obtain ⟨l1, l2⟩ := set_len h2 s
    rw [if_neg (by
      rw [List.length_append, List.length_cons]
      by_cases hz : nmOf l s < 0
      · have : ¬ 20 ≤ l.length := fun e => hn ⟨hk, hz, e⟩
        omega
      · have := l2 (by omega)
        omega)]
    refine prs_of (fun q hq => by cases hq) ?_ fun x hx => ?_
    · rw [List.pairwise_append]
      refine ⟨h2.sublist List.filter_sublist, List.pairwise_cons.2 ⟨fun y hy => (List.mem_filter.1 hy).2, h2.sublist List.filter_sublist⟩, fun x hx y hy => ?_⟩
      have hxs : blt x.name s := (List.mem_filter.1 hx).2
      rcases List.mem_cons.1 hy with rfl | hy
      · exact hxs
      · exact blt_trans hxs (List.mem_filter.1 hy).2
    · rcases List.mem_append.1 hx with hx | hx
      · have hx := (List.mem_filter.1 hx).1
        exact ⟨(h3 x hx).1, (h3 x hx).2, h4 x hx⟩
      · rcases List.mem_cons.1 hx with rfl | hx
        · exact ⟨hk, hs, hv⟩
        · have hx := (List.mem_filter.1 hx).1
          exact ⟨(h3 x hx).1, (h3 x hx).2, h4 x hx⟩

/-! ### texts -/
theorem ctl_app (a b : ByteArray) : ctl (a ++ b) = (ctl a || ctl b) := by
  unfold ctl
  rw [ByteArray.data_append, Array.toList_append, List.any_append]
theorem ctl_extract {s : ByteArray} (h : ctl s = false) (i j : Nat) : ctl (s.extract i j) = false := by
  unfold ctl at *
  rw [List.any_eq_false] at *
  intro x hx
  refine h x ?_
  rw [ByteArray.data_extract, Array.toList_extract] at hx
  exact List.mem_of_mem_drop (List.mem_of_mem_take hx)
theorem edS_ok {s x : ByteArray} {f t : Int} (h : edErr s x f t = 0) (hs : txErr s = 0) : txErr (edS s x f t) = 0 := by
  obtain ⟨h0, h1, h2, h3, h4⟩ := edErr_ok h
  have hsz := edS_size (x := x) h0 h1 h2
  have hc : ctl s = false := by
    unfold txErr at hs
    split at hs
    · omega
    · cases e : ctl s
      · rfl
      · rw [e, if_pos rfl] at hs; omega
  have hd : ctl (edS s x f t) = false := by
    unfold edS
    rw [ctl_app, ctl_app, ctl_extract hc, ctl_extract hc, h3]; rfl
  unfold txErr
  rw [if_neg (by omega), hd, if_neg (by decide)]

/-! ### a base -/
section
variable {l : List Bl} {f : Int → Option Int} {g : Int → Nat}
theorem blkAt_of {p : Nat} {b : Bl} {id : Int} (hp : posOf l id = (p : Int)) (hb : l[p]? = some b) : blkAt l id = b := by
  unfold blkAt; rw [hp, Int.toNat_natCast, hb]; rfl
/-- a base without error stays one -/
theorem Good.applied (G : Good l f) {o : Opn} (h : opErr l f o = 0) : ∃ f', IsDep (Go.Proofs.YtmkicfjcgbfaaaaGreat.applied l o) f' ∧ Good (Go.Proofs.YtmkicfjcgbfaaaaGreat.applied l o) f' := by
  have fin : ∀ {l' : List Bl} {g' : Int → Nat}, Tree l' g' → ∃ f', IsDep l' f' ∧ Good l' f' := fun T => by
    obtain ⟨f', hf⟩ := IsDep.exists T.kids
    exact ⟨f', hf, T.good hf⟩
  have T := G.tree
  obtain ⟨g, hg⟩ : ∃ g, g = fun id => ((f id).getD 0).toNat := ⟨_, rfl⟩
  rw [← hg] at T
  have hdF : ∀ x ∈ l, (dF f x.id).toNat = g x.id := fun x hx => by rw [hg]; rfl
  have hdG : ∀ x ∈ l, dF f x.id = (g x.id : Int) := fun x hx => by
    unfold dF
    rw [T.depth G.dep hx]; rfl
  unfold opErr at h
  by_cases h1 : outI o.kind 1 5 = true
  · rw [if_pos h1] at h; omega
  rw [if_neg h1] at h
  by_cases h2 : usedB o = false
  · rw [if_pos h2] at h; omega
  rw [if_neg h2] at h
  unfold Go.Proofs.YtmkicfjcgbfaaaaGreat.applied
  by_cases k1 : o.kind = 1
  · rw [if_pos k1] at h ⊢
    unfold insErr at h
    by_cases q1 : o.id < 1 ∨ 1000000 < o.id
    · rw [if_pos q1] at h; omega
    rw [if_neg q1] at h
    by_cases q2 : 0 ≤ posOf l o.id
    · rw [if_pos q2] at h; omega
    rw [if_neg q2] at h
    by_cases q3 : posOf l o.parent < 0
    · rw [if_pos q3] at h; omega
    rw [if_neg q3] at h
    by_cases q4 : o.at_ < 0 ∨ ((blkAt l o.parent).kids.length : Int) < o.at_
    · rw [if_pos q4] at h; omega
    rw [if_neg q4] at h
    by_cases q5 : txErr o.text = 0
    case neg => rw [if_pos q5] at h; exact absurd h q5
    rw [if_neg (fun e => e q5)] at h
    by_cases q6 : 2000 ≤ l.length ∨ 500 ≤ (blkAt l o.parent).kids.length
    · rw [if_pos q6] at h; omega
    rw [if_neg q6] at h
    by_cases q7 : 40 ≤ dF f o.parent
    · rw [if_pos q7] at h; omega
    rcases posOf_spec l o.id with ⟨_, hn⟩ | ⟨i, b, e, _⟩
    case inr => omega
    rcases posOf_spec l o.parent with ⟨e, _⟩ | ⟨i, b, e, hb, hbi, _⟩
    · omega
    rw [blkAt_of e hb] at q4 q6
    have hbm := List.mem_of_getElem? hb
    have := hdG b hbm
    rw [hbi] at this
    exact fin (T.insert (by omega) hn hbm hbi q5 (by omega) (by omega) (by omega))
  rw [if_neg k1] at h ⊢
  by_cases k3 : o.kind = 3
  · rw [if_neg (by omega), if_pos k3]
    rw [if_pos k3] at h
    unfold movErr at h
    by_cases q1 : o.id = 0 ∨ posOf l o.id < 0 ∨ posOf l o.parent < 0
    · rw [if_pos q1] at h; omega
    rw [if_neg q1] at h
    by_cases q2 : o.id ∈ pth l (dF f o.parent).toNat o.parent
    · rw [if_pos q2] at h; omega
    rw [if_neg q2] at h
    by_cases q3 : o.at_ < 0 ∨ ((lessK (blkAt l o.parent).kids o.id).length : Int) < o.at_
    · rw [if_pos q3] at h; omega
    rw [if_neg q3] at h
    by_cases q4 : 500 ≤ (lessK (blkAt l o.parent).kids o.id).length
    · rw [if_pos q4] at h; omega
    rw [if_neg q4] at h
    by_cases q5 : 40 < dF f o.parent + hgt l 41 o.id
    · rw [if_pos q5] at h; omega
    rcases posOf_spec l o.id with ⟨e, _⟩ | ⟨i, x, _, hx, hxi, _⟩
    · omega
    rcases posOf_spec l o.parent with ⟨e, _⟩ | ⟨i, b, e, hb, hbi, _⟩
    · omega
    rw [blkAt_of e hb] at q3 q4
    have hbm := List.mem_of_getElem? hb
    have e1 := hdG b hbm
    have e2 := hdF b hbm
    rw [hbi] at e1 e2
    rw [e2] at q2
    rw [← hxi] at q1 q2 q4 q5 ⊢
    rw [← hbi] at q2 ⊢
    rw [hbi] at q2
    obtain ⟨g', T'⟩ := T.move (List.mem_of_getElem? hx) (fun e => q1 (.inl e)) hbm o.at_.toNat (by rw [hbi]; exact q2) (by omega) (by rw [hbi]; omega)
    exact fin T'
  rw [if_neg k3] at h
  by_cases q1 : posOf l o.id < 1
  · rw [if_pos q1] at h; omega
  rw [if_neg q1] at h
  rcases posOf_spec l o.id with ⟨e, _⟩ | ⟨i, x, e, hx, hxi, hxf⟩
  · omega
  have hxm := List.mem_of_getElem? hx
  rw [blkAt_of e hx] at h
  have hx0 : x.id ≠ 0 := fun e0 => by
    obtain ⟨r, r', hl, a1, _⟩ := T.root
    exact hxf 0 r (by omega) (by rw [hl]; rfl) (by rw [a1, ← hxi, e0])
  by_cases k2 : o.kind = 2
  · rw [if_pos k2]
    rw [if_pos k2] at h
    by_cases q2 : 0 < x.kids.length
    · rw [if_pos q2] at h; omega
    rw [← hxi, parOf_eq G.kids hxm]
    exact fin (T.remove hxm hx0 (List.eq_nil_of_length_eq_zero (by omega)))
  rw [if_neg k2] at h
  rw [if_neg k2, if_neg k3]
  by_cases k4 : o.kind = 4
  · rw [if_pos k4]
    rw [if_pos k4] at h
    refine fin (T.local_ o.id (by omega) _ (fun b => ⟨rfl, rfl, rfl⟩) fun b hb hbi => ?_)
    obtain rfl := T.inj hb hxm (hbi.trans hxi.symm)
    exact ⟨edS_ok h (T.loc b hb).1, (T.loc b hb).2.2⟩
  rw [if_neg k4] at h
  rw [if_neg k4]
  refine fin (T.local_ o.id (by omega) _ (fun b => ⟨rfl, rfl, rfl⟩) fun b hb hbi => ?_)
  obtain rfl := T.inj hb hxm (hbi.trans hxi.symm)
  unfold setErr at h
  by_cases q2 : nmErr o.name = 0
  case neg => rw [if_pos q2] at h; exact absurd h q2
  rw [if_neg (fun e => e q2)] at h
  by_cases q3 : vErr o.val = 0
  case neg => rw [if_pos q3] at h; exact absurd h q3
  rw [if_neg (fun e => e q3)] at h
  by_cases q4 : o.val.kind ≠ 0 ∧ nmOf b.props o.name < 0 ∧ 20 ≤ b.props.length
  · rw [if_pos q4] at h; omega
  exact ⟨(T.loc b hb).1, setPr_ok (T.loc b hb).2.2 q2 q3 q4⟩
end
end Go.Proofs.YtmkicfjcgbfaaaaGreat
namespace Go.Proofs.YtmkicfjcgbfaaaaGreat
open Go.RowKit

set_option maxHeartbeats 2000000 in
theorem eqVals_any (L M : List (Vl × Value)) (A A' : Option Addr) (n c n' c' : Nat) (w : World) (B : Nat) (hB : B ≤ w.heap.size) (h1 : Reads w B 5 A n (L.flatMap vlV)) (h2 : Reads w B 5 A' n' (M.flatMap vlV)) (hn : n = L.length) (hn' : n' = M.length) (hbig : n ≤ 140737488351232) (hbig' : n' ≤ 140737488351232)
    (hs1 : ∀ x ∈ L, ∃ A n c, x.2 = .slice A n c) (hs2 : ∀ x ∈ M, ∃ A n c, x.2 = .slice A n c)
    (hcl : ∀ x ∈ L, ∀ y ∈ M, ∀ W, Below w.heap.size w W → Calls Tryz.prog 96 #[AV x, AV y] W fun e w' => e = .returned (.bool (sameV x.1 y.1)) ∧ Below W.heap.size W w') :
    Calls Tryz.prog 145 #[.slice A n c, .slice A' n' c', .func (.func 96) #[] #[]] w fun e w' => e = .returned (.bool (sameL (L.map Prod.fst) (M.map Prod.fst))) ∧ Below w.heap.size w w' := by
  by_cases hl : n = n'
  · subst hl
    have H1 := Lib.hid h1
    have H2 := Lib.hid h2
    have HN := Lib.hid hn
    have HN' := Lib.hid hn'
    have HC := Lib.hid hcl
    have S1 := Lib.hid hs1
    have S2 := Lib.hid hs2
    clear h1 h2 hn hn' hcl hs1 hs2
    obtain ⟨q, hq⟩ : ∃ q, q = sameL (L.map Prod.fst) (M.map Prod.fst) := ⟨_, rfl⟩
    rw [← hq]
    have HQ := Lib.hid hq
    clear hq
    go_enter Tryz.func145, Tryz.ntmps145
    go_wp2_with fail
    go_loopg [17] n (fun gg s17 wr => ∃ k : Nat, k + gg = n ∧ s17 = .int .i64 (k : Int) ∧ Hid (∀ i x y, i < k → L[i]? = some x → M[i]? = some y → sameV x.1 y.1 = true) ∧ Hid (Below w.heap.size w wr))
    case atStart => exact ⟨0, by omega, rfl, (fun i x y hi => absurd hi (by omega)), Below.refl _ _⟩
    case round =>
      obtain ⟨k, hkg, rfl, hno, hbel⟩ := hrel
      by_cases hk : k < n
      · obtain ⟨x, hx⟩ : ∃ x, L[k]? = some x := ⟨_, List.getElem?_eq_getElem (by have := HN.out; omega)⟩
        obtain ⟨y, hy⟩ : ∃ x, M[k]? = some x := ⟨_, List.getElem?_eq_getElem (by have := HN'.out; omega)⟩
        obtain ⟨b, off, rfl, hbb, hc⟩ := H1.out.plain_at (by omega) vlV_len HN.out hx
        obtain ⟨b', off', rfl, hbb', hc'⟩ := H2.out.plain_at (by omega) vlV_len HN'.out hy
        have HX : Hid (∀ W, Below wr.heap.size wr W → Calls _ _ #[AV x, AV y] W _) := fun W hW => HC.out x (List.mem_of_getElem? hx) y (List.mem_of_getElem? hy) W (hbel.out.trans (hW.mono hbel.out.size))
        obtain ⟨⟨kx, ix, tx, sx, lx⟩, vx⟩ := x
        obtain ⟨⟨ky, iy, ty, sy, ly⟩, vy⟩ := y
        obtain ⟨Ax, nx, cx, rfl⟩ := S1.out _ (List.mem_of_getElem? hx)
        obtain ⟨Ay, ny, cy, rfl⟩ := S2.out _ (List.mem_of_getElem? hy)
        have g0 := (hbel.out.cell (p := ⟨b, off + k * 5, none⟩) (by show b < _; omega)).trans (hc 0 _ rfl)
        have g1 := (hbel.out.cell (p := ⟨b, off + k * 5 + 1, none⟩) (by show b < _; omega)).trans (hc 1 _ rfl)
        have g2 := (hbel.out.cell (p := ⟨b, off + k * 5 + 2, none⟩) (by show b < _; omega)).trans (hc 2 _ rfl)
        have g3 := (hbel.out.cell (p := ⟨b, off + k * 5 + 3, none⟩) (by show b < _; omega)).trans (hc 3 _ rfl)
        have g4 := (hbel.out.cell (p := ⟨b, off + k * 5 + 4, none⟩) (by show b < _; omega)).trans (hc 4 _ rfl)
        have k0 := fun o => (World.cell?_alloc_lt wr o ⟨b', off' + k * 5, none⟩ (by show b' < _; have := hbel.out.size; omega)).trans ((hbel.out.cell (p := ⟨b', off' + k * 5, none⟩) (by show b' < _; omega)).trans (hc' 0 _ rfl))
        have k1 := fun o => (World.cell?_alloc_lt wr o ⟨b', off' + k * 5 + 1, none⟩ (by show b' < _; have := hbel.out.size; omega)).trans ((hbel.out.cell (p := ⟨b', off' + k * 5 + 1, none⟩) (by show b' < _; omega)).trans (hc' 1 _ rfl))
        have k2 := fun o => (World.cell?_alloc_lt wr o ⟨b', off' + k * 5 + 2, none⟩ (by show b' < _; have := hbel.out.size; omega)).trans ((hbel.out.cell (p := ⟨b', off' + k * 5 + 2, none⟩) (by show b' < _; omega)).trans (hc' 2 _ rfl))
        have k3 := fun o => (World.cell?_alloc_lt wr o ⟨b', off' + k * 5 + 3, none⟩ (by show b' < _; have := hbel.out.size; omega)).trans ((hbel.out.cell (p := ⟨b', off' + k * 5 + 3, none⟩) (by show b' < _; omega)).trans (hc' 3 _ rfl))
        have k4 := fun o => (World.cell?_alloc_lt wr o ⟨b', off' + k * 5 + 4, none⟩ (by show b' < _; have := hbel.out.size; omega)).trans ((hbel.out.cell (p := ⟨b', off' + k * 5 + 4, none⟩) (by show b' < _; omega)).trans (hc' 4 _ rfl))
        have j0 : (0 : Int) ≤ (k : Int) := by omega
        have j1 : (k : Int) < (n : Int) := by omega
        have HXK := Lib.hid hx
        have HYK := Lib.hid hy
        clear hx hy hc hc'
        obtain ⟨r, hr⟩ : ∃ r, sameV (Vl.mk kx ix tx sx lx) (Vl.mk ky iy ty sy ly) = r := ⟨_, rfl⟩
        simp only [hr] at HX
        have HR := Lib.hid hr
        clear hr
        go_wp2_with fail
        refine (HX.out _ ((Below.refl _ _).alloc (Nat.le_refl _) _ |>.alloc (by simp) _)).mono ?_
        rintro e w2 ⟨rfl, hb2⟩
        have HB2 : Hid (Below w.heap.size w w2) := hbel.out.trans ((((Below.refl _ _).alloc (Nat.le_refl _) _ |>.alloc (by simp) _).trans (hb2.mono (by simp; omega))).mono hbel.out.size)
        clear hb2
        cases r
        · go_wp2_with fail
          go_ret
          refine ⟨?_, HB2.out⟩
          rw [HQ.out]
          refine congrArg (fun b => Ending.returned (.bool b)) (Eq.symm (Bool.eq_false_iff.2 fun h => ?_))
          exact Bool.false_ne_true (HR.out.symm.trans (sameL_at h (by rw [List.getElem?_map, HXK.out]; rfl) (by rw [List.getElem?_map, HYK.out]; rfl)))
        · go_wp2_with fail
          go_roundg (n - (k + 1))
          case measure => omega
          case rel =>
            refine ⟨k + 1, by omega, by go_num, ?_, HB2⟩
            intro i x y hi h1 h2
            by_cases e : i = k
            · subst e
              obtain rfl := Option.some.inj (HXK.out.symm.trans h1)
              obtain rfl := Option.some.inj (HYK.out.symm.trans h2)
              exact HR.out
            · exact hno.out i x y (by omega) h1 h2
      · obtain rfl : k = n := by omega
        go_wp2_with fail
        go_ret
        refine ⟨?_, hbel.out⟩
        rw [HQ.out]
        refine congrArg (fun b => Ending.returned (.bool b)) (Eq.symm (sameL_of (by rw [List.length_map, List.length_map, ← HN.out, HN'.out]) ?_))
        intro i x y h1 h2
        rw [List.getElem?_map, Option.map_eq_some_iff] at h1 h2
        obtain ⟨x', h1, rfl⟩ := h1
        obtain ⟨y', h2, rfl⟩ := h2
        exact hno.out i x' y' (by rw [HN.out]; exact (List.getElem?_eq_some_iff.1 h1).1) h1 h2
  · have hq : sameL (L.map Prod.fst) (M.map Prod.fst) = false := by
      refine Bool.eq_false_iff.2 fun h => hl ?_
      have := sameL_len h
      rw [List.length_map, List.length_map] at this
      omega
    rw [hq]
    have hl' : ((n : Int) == (n' : Int)) = false := by
      rw [beq_eq_false_iff_ne]; omega
    clear h1 h2 hn hn' hcl hs1 hs2 hq
    go_enter Tryz.func145, Tryz.ntmps145
    go_wp2_with fail
    go_ret
    exact ⟨rfl, Below.refl _ _⟩
/-- the walk of sameValue, its items' comparison laid -/
theorem sameVal_walk (x y : Vl × Value) (w : World) (Ax Ay : Option Addr) (nx cx ny cy : Nat) (hx : x.2 = .slice Ax nx cx) (hy : y.2 = .slice Ay ny cy)
    (hq : ∀ W, Below w.heap.size w W → Calls Tryz.prog 145 #[x.2, y.2, .func (.func 96) #[] #[]] W fun e w' => e = .returned (.bool (sameL x.1.items y.1.items)) ∧ Below W.heap.size W w') :
    Calls Tryz.prog 96 #[AV x, AV y] w fun e w' => e = .returned (.bool (sameV x.1 y.1)) ∧ Below w.heap.size w w' := by
  obtain ⟨⟨kx, ix, tx, sx, lx⟩, vx⟩ := x
  obtain ⟨⟨ky, iy, ty, sy, ly⟩, vy⟩ := y
  obtain rfl : vx = _ := hx
  obtain rfl : vy = _ := hy
  have HE := Lib.hid hq
  rw [sameV]
  obtain ⟨q, hq⟩ : ∃ q, q = sameL lx ly := ⟨_, rfl⟩
  simp only [Vl.items, ← hq] at HE ⊢
  obtain ⟨q1, h1⟩ : ∃ q, (kx == ky) = q := ⟨_, rfl⟩
  obtain ⟨q2, h2⟩ : ∃ q, (ix == iy) = q := ⟨_, rfl⟩
  obtain ⟨q3, h3⟩ : ∃ q, (tx == ty) = q := ⟨_, rfl⟩
  rw [dec_toList sx sy]
  obtain ⟨q4, h4⟩ : ∃ q, (sx.toList == sy.toList) = q := ⟨_, rfl⟩
  rw [h1, h2, h3, h4]
  clear hq
  dsimp only [AV, Vl.kind, Vl.int_, Vl.to_, Vl.text]
  cases q1
  · go_enter Tryz.func96, Tryz.ntmps96
    go_wp2_with fail
    go_ret
    exact ⟨rfl, ((Below.refl _ _).alloc (Nat.le_refl _) _).alloc (by simp) _⟩
  cases q2
  · go_enter Tryz.func96, Tryz.ntmps96
    go_wp2_with fail
    go_ret
    exact ⟨rfl, ((Below.refl _ _).alloc (Nat.le_refl _) _).alloc (by simp) _⟩
  cases q3
  · go_enter Tryz.func96, Tryz.ntmps96
    go_wp2_with fail
    go_ret
    exact ⟨rfl, ((Below.refl _ _).alloc (Nat.le_refl _) _).alloc (by simp) _⟩
  cases q4
  · go_enter Tryz.func96, Tryz.ntmps96
    go_wp2_with fail
    go_ret
    exact ⟨rfl, ((Below.refl _ _).alloc (Nat.le_refl _) _).alloc (by simp) _⟩
  go_enter Tryz.func96, Tryz.ntmps96
  go_wp2_with fail
  refine (HE.out _ (((Below.refl _ _).alloc (Nat.le_refl _) _).alloc (by simp) _)).mono ?_
  rintro e w2 ⟨rfl, hb2⟩
  have HB2 : Hid (Below w.heap.size w w2) := (((Below.refl _ _).alloc (Nat.le_refl _) _).alloc (by simp) _).trans (hb2.mono (by simp; omega))
  clear hb2
  go_wp2_with fail
  go_ret
  exact ⟨rfl, HB2.out⟩
/-- tree.sameValue -/
theorem sameVal_any : ∀ (d : Nat) (x y : Vl × Value) (w : World) (B : Nat), B ≤ w.heap.size → RVd w B d x.2 x.1.items → RVd w B d y.2 y.1.items →
    Calls Tryz.prog 96 #[AV x, AV y] w fun e w' => e = .returned (.bool (sameV x.1 y.1)) ∧ Below w.heap.size w w'
  | 0, x, y, w, B, hB, hx, hy => by
    obtain ⟨A, n, c, M, h1, h2, h3, h4, h5, h6⟩ := hx.deeper
    obtain ⟨A', n', c', M', k1, k2, k3, k4, k5, k6⟩ := hy.deeper
    refine sameVal_walk x y w _ _ _ _ _ _ h2 k2 fun W hW => ?_
    rw [h2, k2, ← h1, ← k1]
    have e : M = [] := by rw [← List.map_eq_nil_iff, h1]; exact hx.1
    exact eqVals_any M M' A A' n c n' c' W B (Nat.le_trans hB hW.size) (h5.below (hW.mono hB)) (k5.below (hW.mono hB)) h3 k3 (by omega) (by omega) (fun z hz => (RV.slice ⟨_, h6 z hz⟩)) (fun z hz => (RV.slice ⟨_, k6 z hz⟩)) (fun z hz => by rw [e] at hz; cases hz)
  | d + 1, x, y, w, B, hB, ⟨A, n, c, M, h1, h2, h3, h4, h5, h6⟩, ⟨A', n', c', M', k1, k2, k3, k4, k5, k6⟩ => by
    refine sameVal_walk x y w _ _ _ _ _ _ h2 k2 fun W hW => ?_
    rw [h2, k2, ← h1, ← k1]
    exact eqVals_any M M' A A' n c n' c' W B (Nat.le_trans hB hW.size) (h5.below (hW.mono hB)) (k5.below (hW.mono hB)) h3 k3 (by omega) (by omega) (fun z hz => (RV.slice ⟨_, h6 z hz⟩)) (fun z hz => (RV.slice ⟨_, k6 z hz⟩)) (fun z hz u hu W' hW' => sameVal_any d z u W' B (by have := hW.size; have := hW'.size; omega) (((h6 z hz).below (hW.mono hB)).below (hW'.mono (Nat.le_trans hB hW.size))) (((k6 u hu).below (hW.mono hB)).below (hW'.mono (Nat.le_trans hB hW.size))) )
end Go.Proofs.YtmkicfjcgbfaaaaGreat
namespace Go.Proofs.YtmkicfjcgbfaaaaGreat
open Go.RowKit

/-- thirteen cells: an operation, its value's items told apart -/
def opV (x : Opn × Value) : List Value := [.int .i64 x.1.kind, .int .i64 x.1.id, .int .i64 x.1.parent, .int .i64 x.1.at_, .int .i64 x.1.from_, .int .i64 x.1.to_, .string x.1.text, .string x.1.name, .int .i64 x.1.val.kind, .int .i64 x.1.val.int_, .int .i64 x.1.val.to_, .string x.1.val.text, x.2]
theorem opV_len (x : Opn × Value) : (opV x).length = 13 := rfl
/-- an operation as an aggregate -/
def AO (x : Opn × Value) : Value := .agg #[.int .i64 x.1.kind, .int .i64 x.1.id, .int .i64 x.1.parent, .int .i64 x.1.at_, .int .i64 x.1.from_, .int .i64 x.1.to_, .string x.1.text, .string x.1.name, .int .i64 x.1.val.kind, .int .i64 x.1.val.int_, .int .i64 x.1.val.to_, .string x.1.val.text, x.2]
/-- numbers that an int holds -/
def OI (o : Opn) : Prop := I64 o.id ∧ I64 o.parent ∧ I64 o.at_ ∧ I64 o.from_ ∧ I64 o.to_ ∧ o.text.size ≤ 140737488351232
/-- a list of operations in memory -/
def ROs (W : World) (B : Nat) (v : Value) (l : List Opn) : Prop := ∃ A n c, ∃ M : List (Opn × Value), M.map Prod.fst = l ∧ v = .slice A n c ∧ n = M.length ∧ (n ≤ c ∧ n * 144 ≤ 140737488351232) ∧ Reads W B 13 A n (M.flatMap opV) ∧ ∀ x ∈ M, RV W B x.2 x.1.val.items ∧ OI x.1
theorem ROs.below {W W' : World} {B : Nat} {v : Value} {l : List Opn} (h : ROs W B v l) (hb : Below B W W') : ROs W' B v l := by
  obtain ⟨A, n, c, M, h1, h2, h3, h4, h5, h6⟩ := h
  exact ⟨A, n, c, M, h1, h2, h3, h4, h5.below hb, fun x hx => ⟨(h6 x hx).1.below hb, (h6 x hx).2⟩⟩
theorem ROs.more {W : World} {B B' : Nat} {v : Value} {l : List Opn} (h : ROs W B v l) (hB : B ≤ B') : ROs W B' v l := by
  obtain ⟨A, n, c, M, h1, h2, h3, h4, h5, h6⟩ := h
  exact ⟨A, n, c, M, h1, h2, h3, h4, h5.more hB, fun x hx => ⟨(h6 x hx).1.more hB, (h6 x hx).2⟩⟩
theorem ROs.len {W : World} {B n c : Nat} {A : Option Addr} {l : List Opn} (h : ROs W B (.slice A n c) l) : n = l.length ∧ n ≤ c ∧ n * 144 ≤ 140737488351232 := by
  obtain ⟨A', n', c', M, h1, e, h2, h3, _⟩ := h
  injection e with e1 e2 e3
  subst e2 e3
  exact ⟨by rw [h2, ← h1, List.length_map], h3⟩
theorem ROs.slice {W : World} {B : Nat} {v : Value} {l : List Opn} (h : ROs W B v l) : ∃ A n c, v = .slice A n c := by
  obtain ⟨A, n, c, M, _, h1, _⟩ := h
  exact ⟨A, n, c, h1⟩
/-- an operation in a row -/
theorem ROs.at_ {W : World} {B n c : Nat} {A : Option Addr} {l : List Opn} (h : ROs W B (.slice A n c) l) {k : Nat} {o : Opn} (hk : l[k]? = some o) :
    ∃ b off Av nv cv, A = some ⟨b, off, none⟩ ∧ b < B ∧ (∀ i u, (opV (o, .slice Av nv cv))[i]? = some u → W.cell? ⟨b, off + k * 13 + i, none⟩ = some u) ∧ RV W B (.slice Av nv cv) o.val.items ∧ OI o := by
  obtain ⟨A', n', c', M, h1, e, h2, h3, h4, h5⟩ := h
  injection e with e1 e2 e3
  subst e1 e2 e3
  obtain ⟨y, hy, rfl⟩ : ∃ y, M[k]? = some y ∧ y.1 = o := by
    rw [← h1, List.getElem?_map, Option.map_eq_some_iff] at hk
    exact hk
  obtain ⟨b, off, e, hb, hc⟩ := h4.plain_at (by omega) opV_len h2 hy
  obtain ⟨k1, k2⟩ := h5 y (List.mem_of_getElem? hy)
  obtain ⟨o, v⟩ := y
  obtain ⟨Av, nv, cv, rfl⟩ := k1.slice
  exact ⟨b, off, Av, nv, cv, e, hb, hc, k1, k2⟩
theorem noV_eq (v : Vl) : noV v = sameV v zV := by
  rw [sameV_eq]
  unfold noV zV
  show _ = ((v.kind == 0) && (v.int_ == 0) && (v.to_ == 0) && decide (v.text = ⟨#[]⟩) && sameL v.items [])
  have e1 : decide (v.text = ⟨#[]⟩) = v.text.toList.isEmpty := by
    rw [dec_toList, show (⟨#[]⟩ : ByteArray).toList = [] from ByteArray.toList_eq _]
    cases h : v.text.toList with
    | nil => rfl
    | cons a l => rfl
  have e2 : sameL v.items [] = ((v.items.length : Int) == 0) := by
    cases h : v.items with
    | nil => rw [sameL]; rfl
    | cons a l =>
      rw [sameL]
      · have : ((a :: l).length : Int) ≠ 0 := by rw [List.length_cons]; omega
        exact (beq_eq_false_iff_ne.2 this).symm
      · intro h; cases h
      · intro x y z h1 h2 h3; cases h3
  rw [e1, e2]
theorem RV.nil (w : World) (B : Nat) : RV w B (.slice none 0 0) [] := ⟨0, rfl, none, 0, rfl⟩

set_option maxHeartbeats 400000 in
/-- tree.noValue -/
theorem noValue_any (x : Vl) (A : Option Addr) (n c : Nat) (w : World) (B : Nat) (hB : B ≤ w.heap.size) (h : RV w B (.slice A n c) x.items) :
    Calls Tryz.prog 154 #[AV (x, .slice A n c)] w fun e w' => e = .returned (.bool (noV x)) ∧ Below w.heap.size w w' := by
  obtain ⟨d, hd⟩ := h
  have HX := Lib.hid fun W (hW : Below w.heap.size w W) => sameVal_any d (x, .slice A n c) (zV, .slice none 0 0) W B (Nat.le_trans hB hW.size) (hd.below (hW.mono hB)) (RVd.up (d := 0) ⟨rfl, none, 0, rfl⟩ (Nat.zero_le d))
  dsimp only at HX
  rw [← noV_eq] at HX
  dsimp only [AV] at HX ⊢
  have ez : zV.kind = 0 ∧ zV.int_ = 0 ∧ zV.to_ = 0 ∧ zV.text = ⟨#[]⟩ := ⟨rfl, rfl, rfl, rfl⟩
  rw [ez.1, ez.2.1, ez.2.2.1, ez.2.2.2] at HX
  clear hd ez
  go_enter Tryz.func154, Tryz.ntmps154
  go_wp2_with fail
  first
    | refine (HX.out _ ((Below.refl _ _).alloc (Nat.le_refl _) _)).mono ?_
    | refine (HX.out _ (Below.refl _ _)).mono ?_
  rintro e w2 ⟨rfl, hb⟩
  go_wp2_with fail
  go_ret
  first
    | exact ⟨rfl, ((Below.refl _ _).alloc (Nat.le_refl _) _).trans (hb.mono (by simp))⟩
    | exact ⟨rfl, hb⟩
end Go.Proofs.YtmkicfjcgbfaaaaGreat
namespace Go.Proofs.YtmkicfjcgbfaaaaGreat
open Go.ChangeShapes Go.WideShapes Go.RowKit

theorem cellsO : Tryz.prog.cellsOf 31 = 13 := by kernel_rfl

section
variable {H : Type} {enc : TypeId × Value → H} {W : World}
set_option maxRecDepth 100000 in
theorem op_open (fuel : Nat) (cs : List Value) (x : DataW H × List MemPlace)
    (h : DataW.trod enc Tryz.prog W 0 (fun _ => true) true fuel 31 cs = some x) (hp : ∀ y ∈ x.2, y.block < W.heap.size) (hfit : Fits Tryz.prog 31 x.1) : ∃ o : Opn × Value, opV o = cs ∧ RV W W.heap.size o.2 o.1.val.items ∧ OI o.1 := by
  obtain ⟨xs, n, rfl, rfl, hlen, hxl, hf⟩ := DataW.trod_struct Tryz.underlying31 h
  rw [cellsO] at hlen
  match cs, hlen with
  | [u0, u1, u2, u3, u4, u5, u6, u7, u8, u9, u10, u11, u12], _ =>
    match xs, hxl with
    | [y0, y1, y2, y3, y4, y5, y6, y7, y8], _ =>
      have g0 : DataW.trod enc Tryz.prog W 0 (fun _ => true) true n 3 (([u0, u1, u2, u3, u4, u5, u6, u7, u8, u9, u10, u11, u12].drop 0).take (Tryz.prog.cellsOf 3)) = some y0 := hf 0 _ rfl
      have g1 : DataW.trod enc Tryz.prog W 0 (fun _ => true) true n 3 (([u0, u1, u2, u3, u4, u5, u6, u7, u8, u9, u10, u11, u12].drop 1).take (Tryz.prog.cellsOf 3)) = some y1 := hf 1 _ rfl
      have g2 : DataW.trod enc Tryz.prog W 0 (fun _ => true) true n 3 (([u0, u1, u2, u3, u4, u5, u6, u7, u8, u9, u10, u11, u12].drop 2).take (Tryz.prog.cellsOf 3)) = some y2 := hf 2 _ rfl
      have g3 : DataW.trod enc Tryz.prog W 0 (fun _ => true) true n 3 (([u0, u1, u2, u3, u4, u5, u6, u7, u8, u9, u10, u11, u12].drop 3).take (Tryz.prog.cellsOf 3)) = some y3 := hf 3 _ rfl
      have g4 : DataW.trod enc Tryz.prog W 0 (fun _ => true) true n 3 (([u0, u1, u2, u3, u4, u5, u6, u7, u8, u9, u10, u11, u12].drop 4).take (Tryz.prog.cellsOf 3)) = some y4 := hf 4 _ rfl
      have g5 : DataW.trod enc Tryz.prog W 0 (fun _ => true) true n 3 (([u0, u1, u2, u3, u4, u5, u6, u7, u8, u9, u10, u11, u12].drop 5).take (Tryz.prog.cellsOf 3)) = some y5 := hf 5 _ rfl
      have g6 : DataW.trod enc Tryz.prog W 0 (fun _ => true) true n 9 (([u0, u1, u2, u3, u4, u5, u6, u7, u8, u9, u10, u11, u12].drop 6).take (Tryz.prog.cellsOf 9)) = some y6 := hf 6 _ rfl
      have g7 : DataW.trod enc Tryz.prog W 0 (fun _ => true) true n 9 (([u0, u1, u2, u3, u4, u5, u6, u7, u8, u9, u10, u11, u12].drop 7).take (Tryz.prog.cellsOf 9)) = some y7 := hf 7 _ rfl
      have g8 : DataW.trod enc Tryz.prog W 0 (fun _ => true) true n 29 (([u0, u1, u2, u3, u4, u5, u6, u7, u8, u9, u10, u11, u12].drop 8).take (Tryz.prog.cellsOf 29)) = some y8 := hf 8 _ rfl
      rw [cells_of_int] at g0 g1 g2 g3 g4 g5
      rw [cells_of_str] at g6 g7
      rw [cellsV] at g8
      change DataW.trod enc Tryz.prog W 0 (fun _ => true) true n 3 [u0] = some y0 at g0
      change DataW.trod enc Tryz.prog W 0 (fun _ => true) true n 3 [u1] = some y1 at g1
      change DataW.trod enc Tryz.prog W 0 (fun _ => true) true n 3 [u2] = some y2 at g2
      change DataW.trod enc Tryz.prog W 0 (fun _ => true) true n 3 [u3] = some y3 at g3
      change DataW.trod enc Tryz.prog W 0 (fun _ => true) true n 3 [u4] = some y4 at g4
      change DataW.trod enc Tryz.prog W 0 (fun _ => true) true n 3 [u5] = some y5 at g5
      change DataW.trod enc Tryz.prog W 0 (fun _ => true) true n 9 [u6] = some y6 at g6
      change DataW.trod enc Tryz.prog W 0 (fun _ => true) true n 9 [u7] = some y7 at g7
      change DataW.trod enc Tryz.prog W 0 (fun _ => true) true n 29 [u8, u9, u10, u11, u12] = some y8 at g8
      obtain ⟨k, e0, rfl, h0⟩ := DataW.trod_int Tryz.underlying3 g0
      obtain ⟨d, e1, rfl, h1⟩ := DataW.trod_int Tryz.underlying3 g1
      obtain ⟨p, e2, rfl, h2⟩ := DataW.trod_int Tryz.underlying3 g2
      obtain ⟨a, e3, rfl, h3⟩ := DataW.trod_int Tryz.underlying3 g3
      obtain ⟨f, e4, rfl, h4⟩ := DataW.trod_int Tryz.underlying3 g4
      obtain ⟨t, e5, rfl, h5⟩ := DataW.trod_int Tryz.underlying3 g5
      obtain ⟨s, e6, rfl, _⟩ := DataW.trod_string Tryz.underlying9 g6
      obtain ⟨nm, e7, rfl, _⟩ := DataW.trod_string Tryz.underlying9 g7
      simp at e0 e1 e2 e3 e4 e5 e6 e7
      subst e0 e1 e2 e3 e4 e5 e6 e7
      obtain ⟨v, hv, hq⟩ := val_open n _ y8 g8 (fun y hy => hp y (by simp [hy])) (hfit.part Tryz.underlying31 (j := 8) rfl rfl)
      have hs : s.size ≤ 140737488351232 := (hfit.part Tryz.underlying31 (j := 6) rfl rfl).string
      exact ⟨(⟨k, d, p, a, f, t, s, nm, v.1⟩, v.2), by rw [← hv]; rfl, ⟨n, hq⟩, i64_bounds h1, i64_bounds h2, i64_bounds h3, i64_bounds h4, i64_bounds h5, hs⟩
set_option maxRecDepth 100000 in
/-- operations that came in -/
theorem ops_open {u : Value} {d : DataW H} {p : List MemPlace} {r : Reach} {b0 : Nat} (hv : Value.okWide Tryz.prog W r b0 23 u) (h : DataW.Trod enc Tryz.prog W 0 (fun _ => true) true 23 u d p) (hp : ∀ x ∈ p, x.block < W.heap.size) (hfit : Fits Tryz.prog 23 d) :
    ∃ A n c, ∃ l, u = .slice A n c ∧ ROs W W.heap.size u l := by
  obtain ⟨a0, n0, c0, rfl⟩ := okWide_slice Tryz.underlying23 hv
  obtain ⟨fuel, hf⟩ := h
  obtain ⟨A, len, cap, M, e, h1, h2, h3, h4⟩ := open_list (en := opV) (Q := fun _ x => RV W W.heap.size x.2 x.1.val.items ∧ OI x.1) Tryz.underlying23 cellsO (by omega) (show _ = 144 by kernel_rfl) opV_len
    (fun m cs z hm htr hz hft => op_open m cs z htr hz hft) hf hp hfit
  exact ⟨a0, n0, c0, M.map Prod.fst, rfl, A, len, cap, M, rfl, e, h1, h2, h3, fun x hx => by
    obtain ⟨m, _, hq⟩ := h4 x hx
    exact hq⟩
end
end Go.Proofs.YtmkicfjcgbfaaaaGreat
