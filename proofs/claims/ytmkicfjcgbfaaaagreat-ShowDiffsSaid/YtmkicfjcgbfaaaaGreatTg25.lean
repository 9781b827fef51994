/-
  DERIVED. Operations on a base in plain words: their errors, what they make; a base without error stays one. Plain law. Conditions: none.
  The walk of prop.CopyProps, its row as one of the call's own. Conditions: sizes.
  By an AI agent.
-/
import Derived.Test.YtmkicfjcgbfaaaaGreatTg23
import Derived.Test.YtmkicfjcgbfaaaaGreatTg15
import Derived.Test.YtmkicfjcgbfaaaaGreatTg13
import Derived.Test.YtmkicfjcgbfaaaaGreatTg06
namespace Go.Proofs.YtmkicfjcgbfaaaaGreat

/-- an operation -/
structure Opn where
  kind : Int
  id : Int
  parent : Int
  at_ : Int
  from_ : Int
  to_ : Int
  text : ByteArray
  name : ByteArray
  val : Vl
/-- a value without fields -/
def noV (v : Vl) : Bool := (v.kind == 0) && (v.int_ == 0) && (v.to_ == 0) && v.text.toList.isEmpty && ((v.items.length : Int) == 0)
/-- has an operation just what its kind uses -/
def usedB (o : Opn) : Bool :=
  (((o.kind == 1) || (o.kind == 3)) || ((o.parent == 0) && (o.at_ == 0))) && ((o.kind == 4) || ((o.from_ == 0) && (o.to_ == 0))) && (((o.kind == 4) || (o.kind == 1)) || o.text.toList.isEmpty) && ((o.kind == 5) || (o.name.toList.isEmpty && noV o.val))
def blkAt (l : List Bl) (id : Int) : Bl := (l[(posOf l id).toNat]?).getD ⟨0, 0, [], ⟨#[]⟩, []⟩
def dF (f : Int → Option Int) (id : Int) : Int := (f id).getD 0
def insErr (l : List Bl) (f : Int → Option Int) (o : Opn) : Int :=
  if o.id < 1 ∨ 1000000 < o.id then 2 else if 0 ≤ posOf l o.id then 6 else if posOf l o.parent < 0 then 7 else if o.at_ < 0 ∨ ((blkAt l o.parent).kids.length : Int) < o.at_ then 2 else if txErr o.text ≠ 0 then txErr o.text else if 2000 ≤ l.length ∨ 500 ≤ (blkAt l o.parent).kids.length then 14 else if 40 ≤ dF f o.parent then 13 else 0
def movErr (l : List Bl) (f : Int → Option Int) (o : Opn) : Int :=
  if o.id = 0 ∨ posOf l o.id < 0 ∨ posOf l o.parent < 0 then 7 else if o.id ∈ pth l (dF f o.parent).toNat o.parent then 12 else if o.at_ < 0 ∨ ((lessK (blkAt l o.parent).kids o.id).length : Int) < o.at_ then 2 else if 500 ≤ (lessK (blkAt l o.parent).kids o.id).length then 14 else if 40 < dF f o.parent + hgt l 41 o.id then 13 else 0
def setErr (ps : List Pr) (o : Opn) : Int := if nmErr o.name ≠ 0 then nmErr o.name else if vErr o.val ≠ 0 then vErr o.val else if o.val.kind ≠ 0 ∧ nmOf ps o.name < 0 ∧ 20 ≤ ps.length then 14 else 0
/-- the error of an operation on a base without error -/
def opErr (l : List Bl) (f : Int → Option Int) (o : Opn) : Int :=
  if outI o.kind 1 5 = true then 10 else if usedB o = false then 1 else if o.kind = 1 then insErr l f o else if o.kind = 3 then movErr l f o else if posOf l o.id < 1 then 7 else
  if o.kind = 2 then (if 0 < (blkAt l o.id).kids.length then 11 else 0) else if o.kind = 4 then edErr (blkAt l o.id).text o.text o.from_ o.to_ else setErr (blkAt l o.id).props o
/-- properties with a value for a name -/
def setPr (l : List Pr) (s : ByteArray) (v : Vl) : List Pr :=
  if v.kind = 0 then l.filter fun p => !(p.name.toList == s.toList) else (l.filter fun p => Op.bytesLess p.name.toList s.toList) ++ ⟨s, v⟩ :: l.filter fun p => Op.bytesLess s.toList p.name.toList
/-- the base behind an operation -/
def applied (l : List Bl) (o : Opn) : List Bl :=
  if o.kind = 1 then insL l o.id o.parent o.at_.toNat o.text else if o.kind = 2 then remL l o.id (parOf l o.id) else if o.kind = 3 then movL l o.id o.parent o.at_.toNat else
  if o.kind = 4 then upd l o.id fun b => b.withText (edS b.text o.text o.from_ o.to_) else upd l o.id fun b => b.withProps (setPr b.props o.name o.val)

/-! ### properties -/
theorem prs_of : ∀ {l : List Pr} {p : Option ByteArray}, (∀ q, p = some q → ∀ x ∈ l, blt q x.name) → l.Pairwise (fun x y => blt x.name y.name) → (∀ x ∈ l, x.val.kind ≠ 0 ∧ nmErr x.name = 0 ∧ vErr x.val = 0) → prsErr p l = 0
  | [], p, _, _, _ => by rw [prsErr]
  | x :: l, p, h1, h2, h3 => by
    obtain ⟨a1, a2, a3⟩ := h3 x (by simp)
    obtain ⟨b1, b2⟩ := List.pairwise_cons.1 h2
    have hle : ¬ lePrev p x.name = true := by
      cases p with
      | none => exact Bool.false_ne_true
      | some q =>
        intro h
        have hq := h1 q rfl x (by simp)
        have h : strLe x.name q = true := h
        unfold strLe at h
        rw [Bool.or_eq_true] at h
        rcases h with h | h
        · exact blt_irr _ (blt_trans hq h)
        · exact blt_irr x.name (by rw [tl_eq (eq_of_beq h) (a := x.name)] at hq ⊢; exact hq)
    rw [prsErr, if_neg (fun e => e a2), if_neg hle, if_neg (by simpa using a1), if_neg (fun e => e a3)]
    exact prs_of (fun q hq y hy => by injection hq with hq; subst hq; exact b1 y hy) b2 fun y hy => h3 y (by simp [hy])
theorem prs_vals : ∀ {l : List Pr} {p : Option ByteArray}, prsErr p l = 0 → ∀ x ∈ l, vErr x.val = 0
  | [], _, _, x, hx => by cases hx
  | a :: l, p, h, x, hx => by
    rw [prsErr] at h
    by_cases h1 : nmErr a.name ≠ 0
    · rw [if_pos h1] at h; exact absurd h h1
    rw [if_neg h1] at h
    by_cases h2 : lePrev p a.name = true
    · rw [if_pos h2] at h; exact absurd h (by decide)
    rw [if_neg h2] at h
    by_cases h3 : (a.val.kind == 0) = true
    · rw [if_pos h3] at h; exact absurd h (by decide)
    rw [if_neg h3] at h
    by_cases h4 : vErr a.val ≠ 0
    · rw [if_pos h4] at h; exact absurd h h4
    rw [if_neg h4] at h
    rcases List.mem_cons.1 hx with rfl | hx
    · exact Decidable.of_not_not h4
    · exact prs_vals h x hx
theorem cp_vals {l : List Pr} (h : cpErr l = 0) : ∀ x ∈ l, vErr x.val = 0 := by
  unfold cpErr at h
  by_cases h1 : 20 < l.length
  · rw [if_pos h1] at h; exact absurd h (by decide)
  · rw [if_neg h1] at h; exact prs_vals h
theorem set_len {l : List Pr} (_hs : l.Pairwise (fun x y => blt x.name y.name)) (s : ByteArray) : ((l.filter fun p => Op.bytesLess p.name.toList s.toList).length + (l.filter fun p => Op.bytesLess s.toList p.name.toList).length ≤ l.length) ∧ (0 ≤ nmOf l s → (l.filter fun p => Op.bytesLess p.name.toList s.toList).length + (l.filter fun p => Op.bytesLess s.toList p.name.toList).length + 1 ≤ l.length) := by
  have key : ∀ l : List Pr, (l.filter fun p => Op.bytesLess p.name.toList s.toList).length + (l.filter fun p => Op.bytesLess s.toList p.name.toList).length + (l.filter fun p => p.name.toList == s.toList).length ≤ l.length := by
    intro l
    induction l with
    | nil => simp
    | cons a l ih =>
      rw [List.filter_cons, List.filter_cons, List.filter_cons, List.length_cons]
      by_cases h1 : Op.bytesLess a.name.toList s.toList = true
      · have h2 : ¬ Op.bytesLess s.toList a.name.toList = true := by rw [less_asymm _ _ h1]; decide
        have h3 : ¬ (a.name.toList == s.toList) = true := fun e => by rw [eq_of_beq e, less_irr] at h1; exact absurd h1 (by decide)
        rw [if_pos h1, if_neg h2, if_neg h3, List.length_cons]; omega
      · rw [if_neg h1]
        by_cases h2 : Op.bytesLess s.toList a.name.toList = true
        · have h3 : ¬ (a.name.toList == s.toList) = true := fun e => by rw [eq_of_beq e, less_irr] at h2; exact absurd h2 (by decide)
          rw [if_pos h2, if_neg h3, List.length_cons]; omega
        · rw [if_neg h2]
          split
          · rw [List.length_cons]; omega
          · omega
  have h1 := key l
  refine ⟨by omega, fun h0 => ?_⟩
  rcases nmOf_spec l s with ⟨h2, _⟩ | ⟨i, x, h2, h3, h4⟩
  · omega
  · have hx := List.mem_of_getElem? h3
    have : 0 < (l.filter fun p => p.name.toList == s.toList).length := List.length_pos_of_mem (List.mem_filter.2 ⟨hx, by rw [h4]; exact beq_self_eq_true _⟩)
    omega
theorem setPr_ok {l : List Pr} {s : ByteArray} {v : Vl} (h : cpErr l = 0) (hs : nmErr s = 0) (hv : vErr v = 0) (hn : ¬ (v.kind ≠ 0 ∧ nmOf l s < 0 ∧ 20 ≤ l.length)) : cpErr (setPr l s v) = 0 := by
  obtain ⟨h1, h2, h3⟩ := cp_ok h
  have h4 := cp_vals h
  unfold setPr
  by_cases hk : v.kind = 0
  · rw [if_pos hk]
    unfold cpErr
    have hl := List.length_filter_le (fun p : Pr => !(p.name.toList == s.toList)) l
    rw [if_neg (by omega)]
    exact prs_of (fun q hq => by cases hq) (h2.sublist List.filter_sublist) fun x hx => by
      have hx := (List.mem_filter.1 hx).1
      exact ⟨(h3 x hx).1, (h3 x hx).2, h4 x hx⟩
  · rw [if_neg hk]
    unfold cpErr
    obtain ⟨l1, l2⟩ := set_len h2 s
    rw [if_neg (by
      rw [List.length_append, List.length_cons]
      by_cases hz : nmOf l s < 0
      · have : ¬ 20 ≤ l.length := fun e => hn ⟨hk, hz, e⟩
        omega
      · have := l2 (by omega)
        omega)]
    refine prs_of (fun q hq => by cases hq) ?_ fun x hx => ?_
    · rw [List.pairwise_append]
      refine ⟨h2.sublist List.filter_sublist, List.pairwise_cons.2 ⟨fun y hy => (List.mem_filter.1 hy).2, h2.sublist List.filter_sublist⟩, fun x hx y hy => ?_⟩
      have hxs : blt x.name s := (List.mem_filter.1 hx).2
      rcases List.mem_cons.1 hy with rfl | hy
      · exact hxs
      · exact blt_trans hxs (List.mem_filter.1 hy).2
    · rcases List.mem_append.1 hx with hx | hx
      · have hx := (List.mem_filter.1 hx).1
        exact ⟨(h3 x hx).1, (h3 x hx).2, h4 x hx⟩
      · rcases List.mem_cons.1 hx with rfl | hx
        · exact ⟨hk, hs, hv⟩
        · have hx := (List.mem_filter.1 hx).1
          exact ⟨(h3 x hx).1, (h3 x hx).2, h4 x hx⟩

/-! ### texts -/
theorem ctl_app (a b : ByteArray) : ctl (a ++ b) = (ctl a || ctl b) := by
  unfold ctl
  rw [ByteArray.data_append, Array.toList_append, List.any_append]
theorem ctl_extract {s : ByteArray} (h : ctl s = false) (i j : Nat) : ctl (s.extract i j) = false := by
  unfold ctl at *
  rw [List.any_eq_false] at *
  intro x hx
  refine h x ?_
  rw [ByteArray.data_extract, Array.toList_extract] at hx
  exact List.mem_of_mem_drop (List.mem_of_mem_take hx)
theorem edS_ok {s x : ByteArray} {f t : Int} (h : edErr s x f t = 0) (hs : txErr s = 0) : txErr (edS s x f t) = 0 := by
  obtain ⟨h0, h1, h2, h3, h4⟩ := edErr_ok h
  have hsz := edS_size (x := x) h0 h1 h2
  have hc : ctl s = false := by
    unfold txErr at hs
    split at hs
    · omega
    · cases e : ctl s
      · rfl
      · rw [e, if_pos rfl] at hs; omega
  have hd : ctl (edS s x f t) = false := by
    unfold edS
    rw [ctl_app, ctl_app, ctl_extract hc, ctl_extract hc, h3]; rfl
  unfold txErr
  rw [if_neg (by omega), hd, if_neg (by decide)]

/-! ### a base -/
section
variable {l : List Bl} {f : Int → Option Int} {g : Int → Nat}
theorem blkAt_of {p : Nat} {b : Bl} {id : Int} (hp : posOf l id = (p : Int)) (hb : l[p]? = some b) : blkAt l id = b := by
  unfold blkAt; rw [hp, Int.toNat_natCast, hb]; rfl
/-- a base without error stays one -/
theorem Good.applied (G : Good l f) {o : Opn} (h : opErr l f o = 0) : ∃ f', IsDep (Go.Proofs.YtmkicfjcgbfaaaaGreat.applied l o) f' ∧ Good (Go.Proofs.YtmkicfjcgbfaaaaGreat.applied l o) f' := by
  have fin : ∀ {l' : List Bl} {g' : Int → Nat}, Tree l' g' → ∃ f', IsDep l' f' ∧ Good l' f' := fun T => by
    obtain ⟨f', hf⟩ := IsDep.exists T.kids
    exact ⟨f', hf, T.good hf⟩
  have T := G.tree
  obtain ⟨g, hg⟩ : ∃ g, g = fun id => ((f id).getD 0).toNat := ⟨_, rfl⟩
  rw [← hg] at T
  have hdF : ∀ x ∈ l, (dF f x.id).toNat = g x.id := fun x hx => by rw [hg]; rfl
  have hdG : ∀ x ∈ l, dF f x.id = (g x.id : Int) := fun x hx => by
    unfold dF
    rw [T.depth G.dep hx]; rfl
  unfold opErr at h
  by_cases h1 : outI o.kind 1 5 = true
  · rw [if_pos h1] at h; omega
  rw [if_neg h1] at h
  by_cases h2 : usedB o = false
  · rw [if_pos h2] at h; omega
  rw [if_neg h2] at h
  unfold Go.Proofs.YtmkicfjcgbfaaaaGreat.applied
  by_cases k1 : o.kind = 1
  · rw [if_pos k1] at h ⊢
    unfold insErr at h
    by_cases q1 : o.id < 1 ∨ 1000000 < o.id
    · rw [if_pos q1] at h; omega
    rw [if_neg q1] at h
    by_cases q2 : 0 ≤ posOf l o.id
    · rw [if_pos q2] at h; omega
    rw [if_neg q2] at h
    by_cases q3 : posOf l o.parent < 0
    · rw [if_pos q3] at h; omega
    rw [if_neg q3] at h
    by_cases q4 : o.at_ < 0 ∨ ((blkAt l o.parent).kids.length : Int) < o.at_
    · rw [if_pos q4] at h; omega
    rw [if_neg q4] at h
    by_cases q5 : txErr o.text = 0
    case neg => rw [if_pos q5] at h; exact absurd h q5
    rw [if_neg (fun e => e q5)] at h
    by_cases q6 : 2000 ≤ l.length ∨ 500 ≤ (blkAt l o.parent).kids.length
    · rw [if_pos q6] at h; omega
    rw [if_neg q6] at h
    by_cases q7 : 40 ≤ dF f o.parent
    · rw [if_pos q7] at h; omega
    rcases posOf_spec l o.id with ⟨_, hn⟩ | ⟨i, b, e, _⟩
    case inr => omega
    rcases posOf_spec l o.parent with ⟨e, _⟩ | ⟨i, b, e, hb, hbi, _⟩
    · omega
    rw [blkAt_of e hb] at q4 q6
    have hbm := List.mem_of_getElem? hb
    have := hdG b hbm
    rw [hbi] at this
    exact fin (T.insert (by omega) hn hbm hbi q5 (by omega) (by omega) (by omega))
  rw [if_neg k1] at h ⊢
  by_cases k3 : o.kind = 3
  · rw [if_neg (by omega), if_pos k3]
    rw [if_pos k3] at h
    unfold movErr at h
    by_cases q1 : o.id = 0 ∨ posOf l o.id < 0 ∨ posOf l o.parent < 0
    · rw [if_pos q1] at h; omega
    rw [if_neg q1] at h
    by_cases q2 : o.id ∈ pth l (dF f o.parent).toNat o.parent
    · rw [if_pos q2] at h; omega
    rw [if_neg q2] at h
    by_cases q3 : o.at_ < 0 ∨ ((lessK (blkAt l o.parent).kids o.id).length : Int) < o.at_
    · rw [if_pos q3] at h; omega
    rw [if_neg q3] at h
    by_cases q4 : 500 ≤ (lessK (blkAt l o.parent).kids o.id).length
    · rw [if_pos q4] at h; omega
    rw [if_neg q4] at h
    by_cases q5 : 40 < dF f o.parent + hgt l 41 o.id
    · rw [if_pos q5] at h; omega
    rcases posOf_spec l o.id with ⟨e, _⟩ | ⟨i, x, _, hx, hxi, _⟩
    · omega
    rcases posOf_spec l o.parent with ⟨e, _⟩ | ⟨i, b, e, hb, hbi, _⟩
    · omega
    rw [blkAt_of e hb] at q3 q4
    have hbm := List.mem_of_getElem? hb
    have e1 := hdG b hbm
    have e2 := hdF b hbm
    rw [hbi] at e1 e2
    rw [e2] at q2
    rw [← hxi] at q1 q2 q4 q5 ⊢
    rw [← hbi] at q2 ⊢
    rw [hbi] at q2
    obtain ⟨g', T'⟩ := T.move (List.mem_of_getElem? hx) (fun e => q1 (.inl e)) hbm o.at_.toNat (by rw [hbi]; exact q2) (by omega) (by rw [hbi]; omega)
    exact fin T'
  rw [if_neg k3] at h
  by_cases q1 : posOf l o.id < 1
  · rw [if_pos q1] at h; omega
  rw [if_neg q1] at h
  rcases posOf_spec l o.id with ⟨e, _⟩ | ⟨i, x, e, hx, hxi, hxf⟩
  · omega
  have hxm := List.mem_of_getElem? hx
  rw [blkAt_of e hx] at h
  have hx0 : x.id ≠ 0 := fun e0 => by
    obtain ⟨r, r', hl, a1, _⟩ := T.root
    exact hxf 0 r (by omega) (by rw [hl]; rfl) (by rw [a1, ← hxi, e0])
  by_cases k2 : o.kind = 2
  · rw [if_pos k2]
    rw [if_pos k2] at h
    by_cases q2 : 0 < x.kids.length
    · rw [if_pos q2] at h; omega
    rw [← hxi, parOf_eq G.kids hxm]
    exact fin (T.remove hxm hx0 (List.eq_nil_of_length_eq_zero (by omega)))
  rw [if_neg k2] at h
  rw [if_neg k2, if_neg k3]
  by_cases k4 : o.kind = 4
  · rw [if_pos k4]
    rw [if_pos k4] at h
    refine fin (T.local_ o.id (by omega) _ (fun b => ⟨rfl, rfl, rfl⟩) fun b hb hbi => ?_)
    obtain rfl := T.inj hb hxm (hbi.trans hxi.symm)
    exact ⟨edS_ok h (T.loc b hb).1, (T.loc b hb).2.2⟩
  rw [if_neg k4] at h
  rw [if_neg k4]
  refine fin (T.local_ o.id (by omega) _ (fun b => ⟨rfl, rfl, rfl⟩) fun b hb hbi => ?_)
  obtain rfl := T.inj hb hxm (hbi.trans hxi.symm)
  unfold setErr at h
  by_cases q2 : nmErr o.name = 0
  case neg => rw [if_pos q2] at h; exact absurd h q2
  rw [if_neg (fun e => e q2)] at h
  by_cases q3 : vErr o.val = 0
  case neg => rw [if_pos q3] at h; exact absurd h q3
  rw [if_neg (fun e => e q3)] at h
  by_cases q4 : o.val.kind ≠ 0 ∧ nmOf b.props o.name < 0 ∧ 20 ≤ b.props.length
  · rw [if_pos q4] at h; omega
  exact ⟨(T.loc b hb).1, setPr_ok (T.loc b hb).2.2 q2 q3 q4⟩
end
end Go.Proofs.YtmkicfjcgbfaaaaGreat
namespace Go.Proofs.YtmkicfjcgbfaaaaGreat
open Go.RowKit

/-- what copying properties leaves -/
def CopyPO (l : List Pr) (w : World) (e : Ending) (w' : World) : Prop := (∃ (A : Option Addr) (L : List (Pr × Value)), e = .returned (.slice A L.length L.length) ∧ L.map Prod.fst = l ∧ RowP w' w.heap.size A L.length L ∧ ∀ x ∈ L, NP w' (fun b => w.heap.size ≤ b ∧ b < w'.heap.size ∧ A.map Addr.block ≠ some b) x) ∧ Below w.heap.size w w'
set_option maxRecDepth 100000 in
set_option maxHeartbeats 8000000 in
theorem copyPropsO_walk (M : List (Pr × Value)) (A : Option Addr) (n c : Nat) (w : World) (B : Nat) (hB : B ≤ w.heap.size) (h1 : Reads w B 6 A n (M.flatMap prV)) (hn : n = M.length) (hbig : n * 80 ≤ 140737488351232)
    (hs1 : ∀ x ∈ M, ∃ A n c, x.2 = .slice A n c)
    (hcl : ∀ x ∈ M, ∀ W, Below w.heap.size w W → Calls Tryz.prog 92 #[AV (x.1.val, x.2)] W (CopyR x.1.val W)) :
    Calls Tryz.prog 163 #[.slice A n c] w (CopyPO (M.map Prod.fst) w) := by
  obtain ⟨i0, hi, hq0, hq1, hq2⟩ := info_parts prop_info
  have H1 := Lib.hid h1
  have HN := Lib.hid hn
  have HC := Lib.hid hcl
  have S1 := Lib.hid hs1
  clear h1 hn hcl hs1
  have HS : Hid (OwnX prV 6 116 NP w w.heap.size (.slice none 0 0) []) := OwnX.start _ _
  go_enter Tryz.func163, Tryz.ntmps163
  go_wp2_with fail
  go_loopg [3, 8] n (fun gg s3 s8 wr => ∃ (k : Nat) (v : Value) (L : List (Pr × Value)), k + gg = n ∧ v = s3 ∧ s8 = .int .i64 (k : Int) ∧ Hid (L.map Prod.fst = (M.map Prod.fst).take k) ∧ Hid (OwnX prV 6 116 NP wr w.heap.size v L) ∧ Hid (Below w.heap.size w wr))
  case atStart => exact ⟨0, _, [], by omega, rfl, rfl, rfl, HS, Below.refl _ _⟩
  case round =>
    obtain ⟨k, v, L, hkg, rfl, rfl, hL, hown, hbel⟩ := hrel
    obtain ⟨W1, rfl⟩ : ∃ W1, W1 = wr := ⟨_, rfl⟩
    have hzr : w.heap.size ≤ W1.heap.size := hbel.out.size
    have HLL : Hid (L.length = k) := by
      show _ = _
      have := congrArg List.length hL.out
      rw [List.length_map, List.length_take, List.length_map, ← HN.out] at this
      omega
    by_cases hk : k < n
    · obtain ⟨y, hy⟩ : ∃ y, M[k]? = some y := ⟨_, List.getElem?_eq_getElem (by have := HN.out; omega)⟩
      obtain ⟨b, off, rfl, hbb, hc⟩ := H1.out.plain_at (by omega) prV_len HN.out hy
      have HLK : Hid ((M.map Prod.fst).take (k + 1) = (M.map Prod.fst).take k ++ [y.1]) := by
        show _ = _
        obtain ⟨hkk, e⟩ := List.getElem?_eq_some_iff.1 hy
        rw [List.take_succ_eq_append_getElem (by rw [List.length_map]; exact hkk), List.getElem_map, e]
      have HX := HC.out y (List.mem_of_getElem? hy)
      obtain ⟨⟨nm, ⟨kx, ix, tx, sx, lx⟩⟩, vx⟩ := y
      obtain ⟨Ax, nx, cx, rfl⟩ := S1.out _ (List.mem_of_getElem? hy)
      have g0 : W1.cell? ⟨b, off + k * 6, none⟩ = some (.string nm) := (hbel.out.cell (p := ⟨b, off + k * 6, none⟩) (by show b < _; omega)).trans (hc 0 _ rfl)
      have g1 : W1.cell? ⟨b, off + k * 6 + 1, none⟩ = some (.int .i64 kx) := (hbel.out.cell (p := ⟨b, off + k * 6 + 1, none⟩) (by show b < _; omega)).trans (hc 1 _ rfl)
      have g2 : W1.cell? ⟨b, off + k * 6 + 2, none⟩ = some (.int .i64 ix) := (hbel.out.cell (p := ⟨b, off + k * 6 + 2, none⟩) (by show b < _; omega)).trans (hc 2 _ rfl)
      have g3 : W1.cell? ⟨b, off + k * 6 + 3, none⟩ = some (.int .i64 tx) := (hbel.out.cell (p := ⟨b, off + k * 6 + 3, none⟩) (by show b < _; omega)).trans (hc 3 _ rfl)
      have g4 : W1.cell? ⟨b, off + k * 6 + 4, none⟩ = some (.string sx) := (hbel.out.cell (p := ⟨b, off + k * 6 + 4, none⟩) (by show b < _; omega)).trans (hc 4 _ rfl)
      have g5 : W1.cell? ⟨b, off + k * 6 + 5, none⟩ = some (.slice Ax nx cx) := (hbel.out.cell (p := ⟨b, off + k * 6 + 5, none⟩) (by show b < _; omega)).trans (hc 5 _ rfl)
      have j0 : (0 : Int) ≤ (k : Int) := by omega
      have j1 : (k : Int) < (n : Int) := by omega
      obtain ⟨wa, hwa⟩ : ∃ wa, wa = W1.alloc (.cells #[.string nm, .int .i64 kx, .int .i64 ix, .int .i64 tx, .string sx, .slice Ax nx cx] 116) := ⟨_, rfl⟩
      have hal : Below W1.heap.size W1 wa := by rw [hwa]; exact (Below.refl _ _).alloc (Nat.le_refl _) _
      have hza : W1.heap.size < wa.heap.size := by rw [hwa]; simp
      have q0 : Blk wa W1.heap.size 116 #[.string nm, .int .i64 kx, .int .i64 ix, .int .i64 tx, .string sx, .slice Ax nx cx] := by rw [hwa]; exact Blk.new _ _ _
      have d0 : wa.cell? ⟨W1.heap.size, 0, none⟩ = some (.string nm) := q0.cell 0
      have d1 : wa.cell? ⟨W1.heap.size, 1, none⟩ = some (.int .i64 kx) := q0.cell 1
      have d2 : wa.cell? ⟨W1.heap.size, 2, none⟩ = some (.int .i64 ix) := q0.cell 2
      have d3 : wa.cell? ⟨W1.heap.size, 3, none⟩ = some (.int .i64 tx) := q0.cell 3
      have d4 : wa.cell? ⟨W1.heap.size, 4, none⟩ = some (.string sx) := q0.cell 4
      have d5 : wa.cell? ⟨W1.heap.size, 5, none⟩ = some (.slice Ax nx cx) := q0.cell 5
      have HBA : Hid (Below w.heap.size w wa) := hbel.out.trans (hal.mono hbel.out.size)
      have HX' : Hid (∀ W, Below wa.heap.size wa W → Calls _ _ #[AV (Vl.mk kx ix tx sx lx, Value.slice Ax nx cx)] W _) := fun W hW => HX W (HBA.out.trans (hW.mono HBA.out.size))
      dsimp only [AV, Vl.kind, Vl.int_, Vl.to_, Vl.text] at HX'
      have HOA := Lib.hid (hown.out.below NP_ok hal)
      have HWA := Lib.hid hwa
      have hkb : (L.length + 1) * 80 ≤ 140737488355328 := by have := HLL.out; omega
      have hkm : L.length + 1 ≤ maxLen := by have := HLL.out; unfold maxLen; omega
      have hvw : ∀ g, v.ownBlock = some g → g < W1.heap.size := fun g hg => (hown.out.blocks g hg).2
      clear hy hc HX hwa hal q0
      go_upto_region 5 with fail
      rw [← HWA.out]
      clear g0 g1 g2 g3 g4 g5
      go_region_held3 (fun w' => w'.cell? ⟨W1.heap.size, 0, none⟩ = some (.string nm) ∧ w'.cell? ⟨W1.heap.size, 1, none⟩ = some (.int .i64 kx) ∧ w'.cell? ⟨W1.heap.size, 2, none⟩ = some (.int .i64 ix) ∧ w'.cell? ⟨W1.heap.size, 3, none⟩ = some (.int .i64 tx) ∧ w'.cell? ⟨W1.heap.size, 4, none⟩ = some (.string sx) ∧ w'.cell? ⟨W1.heap.size, 5, none⟩ = some (.slice Ax nx cx))
          (first | exact ⟨d0, d1, d2, d3, d4, d5⟩ | exact ⟨e0, e1, e2, e3, e4, e5⟩ | exact ⟨f0, f1, f2, f3, f4, f5⟩ | go_keep)
          (first | (go_at_call 92; refine (HX'.out wa.drew (Below.refl _ _).drew).mono ?_; rintro e w2 ⟨⟨A', n', c', rfl, hrv⟩, hb⟩; have hb : Below wa.heap.size wa w2 := (Below.refl wa.heap.size wa).drew.trans hb; have e0 := (hb.cell (p := ⟨W1.heap.size, 0, none⟩) hza).trans d0; have e1 := (hb.cell (p := ⟨W1.heap.size, 1, none⟩) hza).trans d1; have e2 := (hb.cell (p := ⟨W1.heap.size, 2, none⟩) hza).trans d2; have e3 := (hb.cell (p := ⟨W1.heap.size, 3, none⟩) hza).trans d3; have e4 := (hb.cell (p := ⟨W1.heap.size, 4, none⟩) hza).trans d4; have e5 := (hb.cell (p := ⟨W1.heap.size, 5, none⟩) hza).trans d5; have HBB := Lib.hid hb; have HRV := Lib.hid hrv; have HO2 := Lib.hid (HOA.out.below NP_ok hb); clear hb hrv; dsimp only [AV, Vl.kind, Vl.int_, Vl.to_, Vl.text]) | (refine step_append_any _ (by rfl) _ _ _ (by rfl) w.heap.size 116 i0 pZ 6 80 Tryz.underlying36 hi hq0 hq1 hq2 rfl (by decide) v L.length _ (by rfl) (HO2.out.own.alloc _) (w2.heap.size + 1) (some ⟨w2.heap.size, 0, none⟩) 1 1 (prV (⟨nm, Vl.mk kx ix tx sx lx⟩, Value.slice A' n' c')) (by rfl) (Reads.blk (Blk.new _ _ _) rfl) (prV_one _ ⟨_, _, _, rfl⟩) hkm hkb (by have := HBA.out.size; have := HBB.out.size; simp; omega) ?_; intro v' w3 hown3 hg3 hat3; have hkp : ∀ i, w3.cell? ⟨W1.heap.size, i, none⟩ = w2.cell? ⟨W1.heap.size, i, none⟩ := fun i => (World.cell?_of_block (hg3.block W1.heap.size (by have := HBB.out.size; simp; omega) (fun e => by have := hvw _ e.symm; omega))).trans (World.cell?_alloc_lt _ _ _ (by show W1.heap.size < w2.heap.size; have := HBB.out.size; omega)); have f0 := (hkp 0).trans e0; have f1 := (hkp 1).trans e1; have f2 := (hkp 2).trans e2; have f3 := (hkp 3).trans e3; have f4 := (hkp 4).trans e4; have f5 := (hkp 5).trans e5; clear hkp))
      have HO3 : Hid (OwnX prV 6 116 NP w3 w.heap.size v' (L ++ [(⟨nm, Vl.mk kx ix tx sx lx⟩, Value.slice A' n' c')])) := (HO2.out.below NP_ok ((Below.refl _ _).alloc (Nat.le_refl _) (.cells #[.string nm, .int .i64 kx, .int .i64 ix, .int .i64 tx, .string sx, .slice A' n' c'] 116))).app NP_ok (S := fun b => wa.heap.size ≤ b ∧ b < w2.heap.size) (HRV.out.keep fun p hp => World.cell?_alloc_lt _ _ _ hp.2) (fun b hb => ⟨by omega, by simp; omega, fun e => by have := hvw b e; omega⟩) hown3 hg3 hat3
      have HB3 : Hid (Below w.heap.size w w3) := ((HBA.out.trans (HBB.out.mono HBA.out.size)).alloc (by have := HBA.out.size; have := HBB.out.size; omega) _).grown hg3 (by have := HBA.out.size; have := HBB.out.size; simp; omega) (fun g hg => (hown.out.blocks g hg).1)
      have HL3 : Hid ((L ++ [((⟨nm, Vl.mk kx ix tx sx lx⟩ : Pr), Value.slice A' n' c')]).map Prod.fst = (M.map Prod.fst).take (k + 1)) := by
        show _ = _
        rw [List.map_append, hL.out, HLK.out]; rfl
      clear hown3 hg3 hat3 e0 e1 e2 e3 e4 e5
      go_wp2_with fail
      go_roundg (n - (k + 1))
      case measure => omega
      case rel => exact ⟨k + 1, v', _, by omega, rfl, by go_num, HL3, HO3, HB3⟩
    · obtain rfl : n = k := by omega
      obtain ⟨Ar, cr, rfl, hcr, hrd⟩ := RdX.of_own hown.out.own
      have HL' : Hid (L.map Prod.fst = M.map Prod.fst) := hL.out.trans (by rw [List.take_of_length_le (by rw [List.length_map, ← HN.out]; exact Nat.le_refl _)])
      obtain rfl : L.length = n := HLL.out
      have hnone : Ar = none → L.length = 0 ∧ cr = 0 := fun e => by
        rcases hown.out.own.2 with ⟨h, h0⟩ | ⟨g, cap, cur, h, _⟩
        · injection h with _ _ h2
          omega
        · injection h with h; rw [e] at h; cases h
      have HCL := Lib.hid fun W => clipP_any Ar L.length cr W hcr hnone
      have HRX : Hid (RowP W1 w.heap.size Ar L.length L) := by
        refine ⟨Nat.le_refl _, ?_⟩
        rcases hown.out.own.2 with ⟨h, h0⟩ | ⟨g, cap, cur, h, h2, h3, h4, h5, h6, h7⟩
        · injection h with ha h1 h2
          exact .inl ⟨ha, by omega⟩
        · injection h with h1 _ hc
          subst h1 hc
          refine .inr ⟨g, rfl, h2, fun k x hx j u hu => ?_, ⟨cur, h3, by omega⟩⟩
          have hk := (List.getElem?_eq_some_iff.1 hx).1
          have hj := (List.getElem?_eq_some_iff.1 hu).1
          rw [prV_len] at hj
          have h8 := fm_get prV 6 prV_len L k j x hx hj
          rw [Blk.cell (t := 116) (cs := cur) h3, ← hu, ← h8, ← h7, List.getElem?_take, if_pos (by omega)]; simp
      have HNX : Hid (∀ x ∈ L, NP W1 (fun b => w.heap.size ≤ b ∧ b < W1.heap.size ∧ Ar.map Addr.block ≠ some b) x) := fun x hx => by
        have := hown.out.nest x hx
        cases Ar <;> exact this
      clear hcr hrd hnone
      go_wp2_with fail
      refine (HCL.out _).mono ?_
      rintro e w4 ⟨rfl, rfl⟩
      go_wp2_with fail
      go_ret
      exact ⟨⟨Ar, L, rfl, HL'.out, HRX.out, HNX.out⟩, hbel.out⟩
/-- prop.CopyProps -/
theorem copyPropsO_any (A : Option Addr) (n c : Nat) (l : List Pr) (w : World) (B : Nat) (hB : B ≤ w.heap.size) (h : RPr w B (.slice A n c) l) :
    Calls Tryz.prog 163 #[.slice A n c] w (CopyPO l w) := by
  obtain ⟨A', n', c', M, rfl, e, h3, h4, h5, h6⟩ := h
  injection e with e1 e2 e3
  subst e1 e2 e3
  refine copyPropsO_walk M A n c w B hB h5 h3 h4.2 (fun z hz => (h6 z hz).slice) fun z hz W hW => ?_
  obtain ⟨d, hd⟩ := h6 z hz
  exact copyValue_any d (z.1.val, z.2) W B (Nat.le_trans hB hW.size) (hd.below (hW.mono hB))
end Go.Proofs.YtmkicfjcgbfaaaaGreat
