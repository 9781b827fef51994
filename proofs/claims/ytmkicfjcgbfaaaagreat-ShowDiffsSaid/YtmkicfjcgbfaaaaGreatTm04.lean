/-
  DERIVED. What the law TopTree says of a base without error, in plain Lean: the order has each block but the root, each behind its parent; a path ends at its block and begins at a page. Conditions: a base without error.
  A base taken away block by block, and put in block by block, in plain Lean: the operations can be made, and what they lead to. Conditions: a base without error.
  A whole base taken away, and a whole base put in, in plain Lean. Conditions: a base without error.
  The walk of show.at. Conditions: sizes; ids that rise within their bounds.
  A base that came in: its blocks, numbers, properties and values in memory. Conditions: none.
  The walk of a history's Ops. Conditions: sizes.
  By an AI agent.
-/
import Derived.Test.YtmkicfjcgbfaaaaGreatTg17
import Derived.Test.YtmkicfjcgbfaaaaGreatTg25
import Derived.Test.YtmkicfjcgbfaaaaGreatTg29
import Derived.Test.YtmkicfjcgbfaaaaGreatTg36
import Derived.Test.YtmkicfjcgbfaaaaGreatTg26
import Derived.Test.YtmkicfjcgbfaaaaGreatTg27
import Derived.Test.YtmkicfjcgbfaaaaGreatTg41
import Derived.Test.YtmkicfjcgbfaaaaGreatTg05
import Derived.Carry
import Derived.Test.YtmkicfjcgbfaaaaGreatTg20
namespace Go.Proofs.YtmkicfjcgbfaaaaGreat
open Go.RowKit

section
variable {l : List Bl} {f : Int → Option Int}
theorem ord_blk (K : Kids l) (n : Nat) {b : Bl} (hb : b ∈ l) : ord l (n + 1) b.id = b.kids.flatMap fun k => k :: ord l n k := by
  obtain ⟨p, hp, e⟩ := List.mem_iff_getElem.1 hb
  have h : l[p]? = some b := by rw [List.getElem?_eq_getElem hp, e]
  exact ord_at (posOf_of K.rise h) h n
theorem sub_flat {α β : Type} {g : α → List β} {x : α} : ∀ {L : List α}, x ∈ L → (g x).Sublist (L.flatMap g)
  | a :: L, h => by
    rw [List.flatMap_cons]
    rcases List.mem_cons.1 h with rfl | h
    · exact List.sublist_append_left _ _
    · exact (sub_flat h).trans (List.sublist_append_right _ _)
/-- a block's kid stands behind it -/
theorem ord_kid (K : Kids l) {b : Bl} (hb : b ∈ l) {k : Int} (hk : k ∈ b.kids) : ∀ (n : Nat) {id : Int} {d : Nat}, Dp l id d → b.id ∈ ord l n id → [b.id, k].Sublist (ord l (n + 1) id)
  | 0, _, _, _, h => by cases h
  | n + 1, id, d, hd, h => by
    obtain ⟨p, c, h1, h2, h3⟩ := hd.blk K
    have hc := List.mem_of_getElem? h2
    rw [ord_at h1 h2, List.mem_flatMap] at h
    rw [ord_at h1 h2]
    obtain ⟨k', hk', hx⟩ := h
    refine List.Sublist.trans ?_ (sub_flat (g := fun k => k :: ord l (n + 1) k) hk')
    rcases List.mem_cons.1 hx with e | hx
    · rw [← e]
      refine List.Sublist.cons_cons _ (List.singleton_sublist.2 ?_)
      rw [ord_blk K n hb]
      exact List.mem_flatMap.2 ⟨k, hk, List.mem_cons_self⟩
    · have hdk : Dp l k' (d + 1) := .step c d k' (h3 ▸ hd) hc hk'
      exact List.Sublist.cons _ (ord_kid K hb hk n hdk hx)
/-- each block below the root is in the order -/
theorem ord_has (K : Kids l) : ∀ {id : Int} {d : Nat}, Dp l id d → ∀ n, d ≤ n → id ≠ 0 → id ∈ ord l n 0 := by
  intro id d h
  induction h with
  | root => intro n _ h0; exact absurd rfl h0
  | step b d k hd hb hk ih =>
    intro n hn _
    obtain ⟨m, rfl⟩ : ∃ m, n = m + 1 := ⟨n - 1, by omega⟩
    by_cases h0 : b.id = 0
    · have := ord_blk K m hb
      rw [h0] at this
      rw [this]
      exact List.mem_flatMap.2 ⟨k, hk, List.mem_cons_self⟩
    · exact (ord_kid K hb hk m .root (ih m (by omega) h0)).subset (by simp)
theorem ord_zero (K : Kids l) (n : Nat) : (0 : Int) ∉ ord l n 0 := fun h => by
  obtain ⟨j, h1, _⟩ := ord_mem K n .root h
  have := h1.zero K
  omega
/-- the order has each block but the root -/
theorem ord_full (G : Good l f) : (ord l 41 0).length = l.length - 1 := by
  obtain ⟨r, hr, hr0, _⟩ := G.kids.root
  have hl := (List.getElem?_eq_some_iff.1 hr).1
  obtain ⟨c, t, rfl⟩ : ∃ c t, l = c :: t := by
    cases l with
    | nil => simp at hl
    | cons c t => exact ⟨c, t, rfl⟩
  obtain rfl : c = r := by simpa using hr
  have hnd : (t.map (·.id)).Nodup := by
    refine List.pairwise_iff_getElem.2 fun i j hi hj hij => ?_
    rw [List.length_map] at hi hj
    rw [List.getElem_map, List.getElem_map]
    intro e
    have := G.kids.rise (i + 1) (j + 1) t[i] t[j] (by omega) (by rw [List.getElem?_cons_succ, List.getElem?_eq_getElem]) (by rw [List.getElem?_cons_succ, List.getElem?_eq_getElem])
    omega
  have h1 := nodup_short (M := t.map (·.id)) (ord_nodup G.kids 41 .root) fun x hx => by
    obtain ⟨j, h, _⟩ := ord_mem G.kids 41 .root hx
    obtain ⟨y, hy, e⟩ := h.mem G.kids
    rcases List.mem_cons.1 hy with rfl | hy
    · rw [hr0] at e
      subst e
      exact absurd hx (ord_zero G.kids 41)
    · exact List.mem_map.2 ⟨y, hy, e⟩
  have h2 := nodup_short (M := ord (c :: t) 41 0) hnd fun x hx => by
    obtain ⟨y, hy, rfl⟩ := List.mem_map.1 hx
    obtain ⟨d, _, hd, h40⟩ := G.dp (List.mem_cons_of_mem _ hy)
    refine ord_has G.kids hd 41 (by omega) fun e => ?_
    obtain ⟨i, hi, e2⟩ := List.mem_iff_getElem.1 hy
    have := G.kids.rise 0 (i + 1) c y (by omega) rfl (by rw [List.getElem?_cons_succ, List.getElem?_eq_getElem hi, e2])
    omega
  rw [List.length_map] at h1 h2
  rw [List.length_cons]
  omega
/-- a parent stands ahead of its kid -/
theorem ord_par (G : Good l f) {x : Bl} (hx : x ∈ l) (h0 : x.id ≠ 0) (hp : x.parent ≠ 0) : [x.parent, x.id].Sublist (ord l 41 0) := by
  obtain ⟨d, _, hd, h40⟩ := G.dp hx
  generalize he : x.id = e at hd
  cases hd with
  | root => exact absurd he h0
  | step b d k h hb hk =>
    subst he
    have e := parOf_kid G.kids hb hk
    rw [parOf_eq G.kids hx] at e
    rw [e] at hp ⊢
    exact ord_kid G.kids hb hk 40 .root (ord_has G.kids h 40 (by omega) hp)
/-- a path ends at its block -/
theorem pth_last (d : Nat) (id : Int) : (pth l (d + 1) id)[d]? = some id := by
  rw [pth, List.getElem?_append_right (by rw [pth_len]; exact Nat.le_refl _), pth_len, Nat.sub_self]; rfl
/-- a path begins at a page -/
theorem pth_first (K : Kids l) {r : Bl} (hr : l[0]? = some r) (hr0 : r.id = 0) : ∀ (d : Nat) {id : Int}, Dp l id (d + 1) → ∃ x, (pth l (d + 1) id)[0]? = some x ∧ x ∈ r.kids
  | 0, id, h => by
    refine ⟨id, rfl, ?_⟩
    generalize hn : 0 + 1 = n at h
    cases h with
    | root => omega
    | step b d k h hb hk =>
      obtain rfl : d = 0 := by omega
      have hb0 : b.id = 0 := (h.zero_iff K).2 rfl
      have : b = r := K.rise.inj hb (List.mem_of_getElem? hr) (by rw [hb0, hr0])
      rw [← this]; exact hk
  | d + 1, id, h => by
    obtain ⟨x, h1, h2⟩ := pth_first K hr hr0 d (h.up K).2
    refine ⟨x, ?_, h2⟩
    rw [pth, List.getElem?_append_left (by rw [pth_len]; omega)]
    exact h1
end
end Go.Proofs.YtmkicfjcgbfaaaaGreat
namespace Go.Proofs.YtmkicfjcgbfaaaaGreat
open Go.RowKit

/-- the operations that take a block away -/
def awayO (l : List Bl) (k : Int) : List Opn := (blkAt l k).props.map (fun p => ⟨5, k, 0, 0, 0, 0, ⟨#[]⟩, p.name, zV⟩) ++ [⟨2, k, 0, 0, 0, 0, ⟨#[]⟩, ⟨#[]⟩, zV⟩]
/-- the operation that puts a block in, and those that give it its properties -/
def putInO (l : List Bl) (k : Int) : Opn := ⟨1, k, (blkAt l k).parent, ((blkAt l (blkAt l k).parent).kids.idxOf k : Int), 0, 0, (blkAt l k).text, ⟨#[]⟩, zV⟩
def bldO (l : List Bl) (k : Int) : List Opn := putInO l k :: (blkAt l k).props.map fun p => ⟨5, k, 0, 0, 0, 0, ⟨#[]⟩, p.name, p.val⟩
/-- some blocks of a base, their properties turned -/
def keepH (S : Int → Bool) (h : Int → List Pr → List Pr) (l : List Bl) : List Bl := (l.filter fun b => S b.id).map fun b => ⟨b.id, b.parent, b.kids.filter S, b.text, h b.id b.props⟩
abbrev idH : Int → List Pr → List Pr := fun _ ps => ps
section
variable {l : List Bl} {f : Int → Option Int} {S S' : Int → Bool} {h h' : Int → List Pr → List Pr}
theorem keep_mem {y : Bl} : y ∈ keepH S h l ↔ ∃ b ∈ l, S b.id = true ∧ y = ⟨b.id, b.parent, b.kids.filter S, b.text, h b.id b.props⟩ := by
  unfold keepH
  rw [List.mem_map]
  constructor
  · rintro ⟨b, hb, rfl⟩
    obtain ⟨h1, h2⟩ := List.mem_filter.1 hb
    exact ⟨b, h1, h2, rfl⟩
  · rintro ⟨b, h1, h2, rfl⟩
    exact ⟨b, List.mem_filter.2 ⟨h1, h2⟩, rfl⟩
theorem keep_congr (hS : ∀ b ∈ l, S b.id = S' b.id ∧ ∀ k ∈ b.kids, S k = S' k) (hh : ∀ b ∈ l, S b.id = true → h b.id b.props = h' b.id b.props) : keepH S h l = keepH S' h' l := by
  unfold keepH
  rw [show (l.filter fun b => S' b.id) = l.filter fun b => S b.id from List.filter_congr fun b hb => (hS b hb).1.symm]
  refine List.map_congr_left fun b hb => ?_
  obtain ⟨h1, h2⟩ := List.mem_filter.1 hb
  rw [hh b h1 h2, show b.kids.filter S = b.kids.filter S' from List.filter_congr fun k hk => (hS b h1).2 k hk]
theorem keep_upd (id : Int) (F : List Pr → List Pr) : upd (keepH S h l) id (fun b => b.withProps (F b.props)) = keepH S (fun i ps => if i = id then F (h i ps) else h i ps) l := by
  unfold upd keepH
  rw [List.map_map]
  refine List.map_congr_left fun b hb => ?_
  show (if b.id = id then (⟨b.id, b.parent, b.kids.filter S, b.text, F (h b.id b.props)⟩ : Bl) else ⟨b.id, b.parent, b.kids.filter S, b.text, h b.id b.props⟩) = ⟨b.id, b.parent, b.kids.filter S, b.text, if b.id = id then F (h b.id b.props) else h b.id b.props⟩
  by_cases e : b.id = id
  · rw [if_pos e, if_pos e]
  · rw [if_neg e, if_neg e]
theorem keep_all (l : List Bl) : keepH (fun _ => true) idH l = l := by
  unfold keepH
  rw [List.filter_eq_self.2 fun _ _ => rfl]
  conv => rhs; rw [← List.map_id l]
  refine List.map_congr_left fun b _ => ?_
  rw [List.filter_eq_self.2 fun _ _ => rfl]; rfl
theorem blkAt_mem (K : Kids l) {b : Bl} (hb : b ∈ l) : blkAt l b.id = b ∧ 0 ≤ posOf l b.id := by
  obtain ⟨p, hp⟩ := List.mem_iff_getElem?.1 hb
  have e := posOf_of K.rise hp
  exact ⟨blkAt_of e hp, by rw [e]; omega⟩
theorem pos_pos (K : Kids l) {b : Bl} (hb : b ∈ l) (h0 : b.id ≠ 0) : ¬ posOf l b.id < 1 := by
  obtain ⟨p, hp⟩ := List.mem_iff_getElem?.1 hb
  rw [posOf_of K.rise hp]
  rcases p with _ | p
  · obtain ⟨r, hr, hr0, _⟩ := K.root
    rw [hp] at hr
    obtain rfl := Option.some.inj hr
    exact absurd hr0 h0
  · omega
theorem noV_z : noV zV = true := by
  have e : (⟨#[]⟩ : ByteArray).toList = [] := ByteArray.toList_eq _
  simp [noV, zV, Vl.kind, Vl.int_, Vl.to_, Vl.text, Vl.items, e]
theorem emp_nil : (⟨#[]⟩ : ByteArray).toList.isEmpty = true := by rw [show (⟨#[]⟩ : ByteArray).toList = [] from ByteArray.toList_eq _]; rfl
theorem vErr_z : vErr zV = 0 := by kernel_rfl
/-! ### one operation -/
theorem set_ok (G : Good l f) {y : Bl} (hy : y ∈ l) (h0 : y.id ≠ 0) {nm : ByteArray} {v : Vl} (hn : nmErr nm = 0) (hv : vErr v = 0) (hl : v.kind = 0 ∨ y.props.length < 20) : opErr l f ⟨5, y.id, 0, 0, 0, 0, ⟨#[]⟩, nm, v⟩ = 0 := by
  unfold opErr
  have hp := pos_pos G.kids hy h0
  simp only [usedB, emp_nil]
  rw [if_neg (by decide), if_neg (by simp), if_neg (by decide), if_neg (by decide), if_neg hp, if_neg (by decide), if_neg (by decide)]
  unfold setErr
  simp only
  rw [if_neg (by rw [hn]; decide), if_neg (by rw [hv]; decide), (blkAt_mem G.kids hy).1, if_neg]
  rintro ⟨h1, _, h3⟩
  rcases hl with h | h
  · exact h1 h
  · omega
theorem rem_ok (G : Good l f) {y : Bl} (hy : y ∈ l) (h0 : y.id ≠ 0) (hk : y.kids = []) : opErr l f ⟨2, y.id, 0, 0, 0, 0, ⟨#[]⟩, ⟨#[]⟩, zV⟩ = 0 := by
  unfold opErr
  have hp := pos_pos G.kids hy h0
  simp only [usedB, emp_nil, noV_z]
  rw [if_neg (by decide), if_neg (by simp), if_neg (by decide), if_neg (by decide), if_neg hp, if_pos (by trivial), (blkAt_mem G.kids hy).1, hk, if_neg (by simp)]
theorem ins_ok (G : Good l f) {y : Bl} (hy : y ∈ l) {id : Int} {i : Nat} {s : ByteArray} (hid : 1 ≤ id ∧ id ≤ 1000000) (hn : ∀ x ∈ l, x.id ≠ id) (hi : i ≤ y.kids.length) (hs : txErr s = 0) (hl : l.length < 2000) (hk : y.kids.length < 500) (hd : dF f y.id < 40) : opErr l f ⟨1, id, y.id, (i : Int), 0, 0, s, ⟨#[]⟩, zV⟩ = 0 := by
  unfold opErr
  simp only [usedB, emp_nil, noV_z]
  rw [if_neg (by decide), if_neg (by simp), if_pos (by trivial)]
  unfold insErr
  simp only
  have hp := (blkAt_mem G.kids hy)
  have hnp : posOf l id = -1 := by
    rcases posOf_spec l id with ⟨e, _⟩ | ⟨p, b, _, hb, hbi, _⟩
    · exact e
    · exact absurd hbi (hn b (List.mem_of_getElem? hb))
  rw [if_neg (by omega), if_neg (by omega), if_neg (by omega), hp.1, if_neg (by omega), if_neg (by rw [hs]; decide), if_neg (by omega), if_neg (by omega)]
theorem sd_set (L : List Bl) (id : Int) (nm : ByteArray) (v : Vl) : applied L ⟨5, id, 0, 0, 0, 0, ⟨#[]⟩, nm, v⟩ = upd L id fun b => b.withProps (setPr b.props nm v) := rfl
theorem sd_rem (L : List Bl) (id : Int) : applied L ⟨2, id, 0, 0, 0, 0, ⟨#[]⟩, ⟨#[]⟩, zV⟩ = remL L id (parOf L id) := rfl
theorem sd_ins (L : List Bl) (id p : Int) (i : Nat) (s : ByteArray) : applied L ⟨1, id, p, (i : Int), 0, 0, s, ⟨#[]⟩, zV⟩ = insL L id p i s := rfl
theorem OkAll.cons {o : Opn} {os : List Opn} (G : Good l f) (he : opErr l f o = 0) (h : OkAll (applied l o) os) : OkAll l (o :: os) := (OkAll.one G he).app (ls := os) h
theorem applL_cons (l : List Bl) (o : Opn) (os : List Opn) : applL l (o :: os) = applL (applied l o) os := rfl
/-! ### taking away -/
theorem prune_props (S : Int → Bool) {b : Bl} (hb : b ∈ l) (h0 : b.id ≠ 0) (hS : S b.id = true) : ∀ (ps : List Pr) (f : Int → Option Int), ps.Pairwise (fun x y => blt x.name y.name) → (∀ x ∈ ps, nmErr x.name = 0) → Good (keepH S (fun i q => if i = b.id then ps else q) l) f →
    OkAll (keepH S (fun i q => if i = b.id then ps else q) l) (ps.map fun p => (⟨5, b.id, 0, 0, 0, 0, ⟨#[]⟩, p.name, zV⟩ : Opn)) ∧ applL (keepH S (fun i q => if i = b.id then ps else q) l) (ps.map fun p => (⟨5, b.id, 0, 0, 0, 0, ⟨#[]⟩, p.name, zV⟩ : Opn)) = keepH S (fun i q => if i = b.id then [] else q) l
  | [], f, _, _, _ => ⟨fun i o hi => by simp at hi, rfl⟩
  | p :: ps, f, hp, hn, G => by
    obtain ⟨h1, h2⟩ := List.pairwise_cons.1 hp
    have hy : (⟨b.id, b.parent, b.kids.filter S, b.text, p :: ps⟩ : Bl) ∈ keepH S (fun i q => if i = b.id then p :: ps else q) l := keep_mem.2 ⟨b, hb, hS, by rw [if_pos rfl]⟩
    have he := set_ok G hy h0 (hn p (by simp)) vErr_z (.inl rfl)
    have ha : applied (keepH S (fun i q => if i = b.id then p :: ps else q) l) ⟨5, b.id, 0, 0, 0, 0, ⟨#[]⟩, p.name, zV⟩ = keepH S (fun i q => if i = b.id then ps else q) l := by
      rw [sd_set, keep_upd b.id fun q => setPr q p.name zV]
      congr 1
      funext i q
      by_cases e : i = b.id
      · rw [if_pos e, if_pos e, if_pos e, setPr_none rfl, List.filter_cons_of_neg (by simp)]
        refine List.filter_eq_self.2 fun x hx => ?_
        have := h1 x hx
        simp only [Bool.not_eq_true', decide_eq_false_iff_not]
        intro e'
        rw [e'] at this
        exact blt_irr _ this
      · rw [if_neg e, if_neg e, if_neg e]
    obtain ⟨f', _, G'⟩ := G.applied he
    rw [ha] at G'
    obtain ⟨k1, k2⟩ := prune_props S hb h0 hS ps f' h2 (fun x hx => hn x (by simp [hx])) G'
    exact ⟨by rw [List.map_cons]; exact .cons G he (by rw [ha]; exact k1), by rw [List.map_cons, applL_cons, ha]; exact k2⟩
theorem keep_rem (K : Kids l) {b : Bl} (hb : b ∈ l) : remL (keepH S h l) b.id b.parent = keepH (fun i => S i && i != b.id) h l := by
  unfold remL upd keepH
  rw [List.map_map, List.filter_map, List.filter_filter]
  have e1 : ∀ a : Bl, (((fun c : Bl => c.id != b.id) ∘ ((fun c : Bl => if c.id = b.parent then (fun d : Bl => d.withKids (lessK d.kids b.id)) c else c) ∘ fun c : Bl => (⟨c.id, c.parent, c.kids.filter S, c.text, h c.id c.props⟩ : Bl))) a && S a.id) = (S a.id && a.id != b.id) := fun a => by
    rw [Bool.and_comm]
    congr 1
    show ((if a.id = b.parent then (⟨a.id, a.parent, lessK (a.kids.filter S) b.id, a.text, h a.id a.props⟩ : Bl) else ⟨a.id, a.parent, a.kids.filter S, a.text, h a.id a.props⟩).id != b.id) = (a.id != b.id)
    by_cases e : a.id = b.parent
    · rw [if_pos e]
    · rw [if_neg e]
  rw [List.filter_congr fun a _ => e1 a]
  refine List.map_congr_left fun a ha => ?_
  obtain ⟨ha, hs⟩ := List.mem_filter.1 ha
  show (if a.id = b.parent then (⟨a.id, a.parent, lessK (a.kids.filter S) b.id, a.text, h a.id a.props⟩ : Bl) else ⟨a.id, a.parent, a.kids.filter S, a.text, h a.id a.props⟩) = ⟨a.id, a.parent, a.kids.filter (fun i => S i && i != b.id), a.text, h a.id a.props⟩
  have hf : a.kids.filter (fun i => S i && i != b.id) = lessK (a.kids.filter S) b.id := by
    unfold lessK
    rw [List.filter_filter]
    refine List.filter_congr fun x _ => ?_
    rw [Bool.and_comm]
  by_cases e : a.id = b.parent
  · rw [if_pos e, hf]
  · rw [if_neg e, hf, less_same]
    intro hm
    obtain ⟨hm, _⟩ := List.mem_filter.1 hm
    have h2 := parOf_kid K ha hm
    rw [parOf_eq K hb] at h2
    exact e h2.symm
theorem prune_one (G0 : Good l f) {b : Bl} (hb : b ∈ l) (h0 : b.id ≠ 0) (hS : S b.id = true) (hk : ∀ c ∈ b.kids, S c = false) {f' : Int → Option Int} (G : Good (keepH S idH l) f') : OkAll (keepH S idH l) (awayO l b.id) ∧ applL (keepH S idH l) (awayO l b.id) = keepH (fun i => S i && i != b.id) idH l := by
  obtain ⟨_, hps, hpn⟩ := cp_ok (G0.tree.loc b hb).2.2
  have e0 : keepH S idH l = keepH S (fun i q => if i = b.id then b.props else q) l := keep_congr (fun _ _ => ⟨rfl, fun _ _ => rfl⟩) fun a ha _ => by
    show a.props = _
    split
    · rename_i e
      rw [G0.kids.rise.inj ha hb e]
    · rfl
  have G1 := G
  rw [e0] at G1
  obtain ⟨h1, h2⟩ := prune_props S hb h0 hS b.props f' hps (fun x hx => (hpn x hx).2) G1
  rw [← e0] at h1 h2
  unfold awayO
  rw [(blkAt_mem G0.kids hb).1]
  obtain ⟨f2, G2⟩ := h1.good G _ (Nat.le_refl _)
  rw [List.take_length, h2] at G2
  have hy : (⟨b.id, b.parent, [], b.text, []⟩ : Bl) ∈ keepH S (fun i q => if i = b.id then [] else q) l := keep_mem.2 ⟨b, hb, hS, by
    rw [if_pos rfl]
    congr 1
    exact (List.filter_eq_nil_iff.2 fun c hc => by rw [hk c hc]; decide).symm⟩
  have he := rem_ok G2 hy h0 rfl
  have hpar : parOf (keepH S (fun i q => if i = b.id then [] else q) l) b.id = b.parent := parOf_eq (y := (⟨b.id, b.parent, [], b.text, []⟩ : Bl)) G2.kids hy
  refine ⟨h1.app (by rw [h2]; exact .one G2 he), ?_⟩
  rw [applL_app, h2]
  rw [applL_cons, sd_rem, hpar, keep_rem G0.kids hb, show ∀ L : List Bl, applL L [] = L from fun _ => rfl]
  refine keep_congr (fun _ _ => ⟨rfl, fun _ _ => rfl⟩) fun a _ hs => ?_
  rw [if_neg]
  intro e
  simp [e] at hs
/-- each block has lost its kids when it goes -/
def Leafy (l : List Bl) : (Int → Bool) → List Int → Prop
  | _, [] => True
  | S, k :: ks => (∃ b ∈ l, b.id = k ∧ k ≠ 0 ∧ S k = true ∧ ∀ c ∈ b.kids, S c = false) ∧ Leafy l (fun i => S i && i != k) ks
theorem prune_list (G0 : Good l f) : ∀ (ks : List Int) (S : Int → Bool) (f' : Int → Option Int), Leafy l S ks → Good (keepH S idH l) f' → OkAll (keepH S idH l) (ks.flatMap (awayO l)) ∧ applL (keepH S idH l) (ks.flatMap (awayO l)) = keepH (fun i => S i && !ks.contains i) idH l
  | [], S, f', _, _ => ⟨fun i o hi => by simp at hi, keep_congr (fun _ _ => ⟨by simp, fun _ _ => by simp⟩) fun _ _ _ => rfl⟩
  | k :: ks, S, f', ⟨⟨b, hb, hk, h0, hS, hc⟩, hL⟩, G => by
    subst hk
    obtain ⟨h1, h2⟩ := prune_one G0 hb h0 hS hc G
    obtain ⟨f2, G2⟩ := h1.good G _ (Nat.le_refl _)
    rw [List.take_length, h2] at G2
    obtain ⟨h3, h4⟩ := prune_list G0 ks _ f2 hL G2
    rw [List.flatMap_cons]
    refine ⟨h1.app (by rw [h2]; exact h3), ?_⟩
    rw [applL_app, h2, h4]
    refine keep_congr (fun _ _ => ?_) fun _ _ _ => rfl
    have : ∀ i : Int, (S i && i != b.id && !ks.contains i) = (S i && !(b.id :: ks).contains i) := fun i => by
      rw [List.contains_cons, Bool.not_or, ← Bool.and_assoc]; rfl
    exact ⟨this _, fun _ _ => this _⟩
theorem leafy_of : ∀ (ks : List Int) (S : Int → Bool), (∀ pre k post, ks = pre ++ k :: post → ∃ b ∈ l, b.id = k ∧ k ≠ 0 ∧ S k = true ∧ k ∉ pre ∧ ∀ c ∈ b.kids, S c = false ∨ c ∈ pre) → Leafy l S ks
  | [], _, _ => trivial
  | k :: ks, S, h => by
    obtain ⟨b, hb, h1, h2, h3, _, h5⟩ := h [] k ks rfl
    refine ⟨⟨b, hb, h1, h2, h3, fun c hc => (h5 c hc).resolve_right (by simp)⟩, leafy_of ks _ fun pre k' post e => ?_⟩
    obtain ⟨b', hb', g1, g2, g3, g4, g5⟩ := h (k :: pre) k' post (by rw [e]; rfl)
    have hne : k' ≠ k := fun e => g4 (by simp [e])
    refine ⟨b', hb', g1, g2, by simp [g3, hne], fun hm => g4 (by simp [hm]), fun c hc => ?_⟩
    rcases g5 c hc with h | h
    · exact .inl (by simp [h])
    · rcases List.mem_cons.1 h with rfl | h
      · exact .inl (by simp)
      · exact .inr h
/-! ### putting in -/
theorem setPr_app {ps : List Pr} {p : Pr} (h : ∀ x ∈ ps, blt x.name p.name) (hk : p.val.kind ≠ 0) : setPr ps p.name p.val = ps ++ [p] := by
  unfold setPr
  rw [if_neg hk, List.filter_eq_self.2 fun x hx => h x hx, List.filter_eq_nil_iff.2 fun x hx e => blt_irr _ (blt_trans (h x hx) e)]
theorem put_props (S : Int → Bool) {b : Bl} (hb : b ∈ l) (h0 : b.id ≠ 0) (hS : S b.id = true) : ∀ (ps pre : List Pr) (f : Int → Option Int), (pre ++ ps).Pairwise (fun x y => blt x.name y.name) → (∀ x ∈ ps, x.val.kind ≠ 0 ∧ nmErr x.name = 0 ∧ vErr x.val = 0) → (pre ++ ps).length ≤ 20 → Good (keepH S (fun i q => if i = b.id then pre else q) l) f →
    OkAll (keepH S (fun i q => if i = b.id then pre else q) l) (ps.map fun p => (⟨5, b.id, 0, 0, 0, 0, ⟨#[]⟩, p.name, p.val⟩ : Opn)) ∧ applL (keepH S (fun i q => if i = b.id then pre else q) l) (ps.map fun p => (⟨5, b.id, 0, 0, 0, 0, ⟨#[]⟩, p.name, p.val⟩ : Opn)) = keepH S (fun i q => if i = b.id then pre ++ ps else q) l
  | [], pre, f, _, _, _, _ => ⟨fun i o hi => by simp at hi, by rw [List.append_nil]; rfl⟩
  | p :: ps, pre, f, hp, hn, hl, G => by
    have hlt : ∀ x ∈ pre, blt x.name p.name := fun x hx => (List.pairwise_append.1 hp).2.2 x hx p (by simp)
    obtain ⟨hk, hn1, hv1⟩ := hn p (by simp)
    have hy : (⟨b.id, b.parent, b.kids.filter S, b.text, pre⟩ : Bl) ∈ keepH S (fun i q => if i = b.id then pre else q) l := keep_mem.2 ⟨b, hb, hS, by rw [if_pos rfl]⟩
    have he := set_ok G hy h0 hn1 hv1 (.inr (by rw [List.length_append, List.length_cons] at hl; show pre.length < 20; omega))
    have ha : applied (keepH S (fun i q => if i = b.id then pre else q) l) ⟨5, b.id, 0, 0, 0, 0, ⟨#[]⟩, p.name, p.val⟩ = keepH S (fun i q => if i = b.id then pre ++ [p] else q) l := by
      rw [sd_set, keep_upd b.id fun q => setPr q p.name p.val]
      congr 1
      funext i q
      by_cases e : i = b.id
      · rw [if_pos e, if_pos e, if_pos e, setPr_app hlt hk]
      · rw [if_neg e, if_neg e, if_neg e]
    obtain ⟨f', _, G'⟩ := G.applied he
    rw [ha] at G'
    have e1 : pre ++ p :: ps = (pre ++ [p]) ++ ps := by simp
    obtain ⟨k1, k2⟩ := put_props S hb h0 hS ps (pre ++ [p]) f' (by rw [← e1]; exact hp) (fun x hx => hn x (by simp [hx])) (by rw [← e1]; exact hl) G'
    exact ⟨by rw [List.map_cons]; exact .cons G he (by rw [ha]; exact k1), by rw [List.map_cons, applL_cons, ha, e1]; exact k2⟩
theorem insB_first {x : Bl} : ∀ {M : List Bl}, (∀ y ∈ M, x.id < y.id) → insB x M = x :: M
  | [], _ => rfl
  | y :: M, h => by rw [insB, if_neg (by have := h y (by simp); omega)]
theorem insB_filter {b : Bl} {e : Bl → Bl} (he : ∀ a, (e a).id = a.id) : ∀ {l : List Bl}, l.Pairwise (fun x y => x.id < y.id) → b ∈ l → S b.id = false → insB (e b) ((l.filter fun a => S a.id).map e) = (l.filter fun a => S a.id || a.id == b.id).map e
  | [], _, hb, _ => by cases hb
  | a :: l, hs, hb, hS => by
    obtain ⟨h1, h2⟩ := List.pairwise_cons.1 hs
    rcases List.mem_cons.1 hb with rfl | hb
    · rw [List.filter_cons_of_neg (by simp [hS]), List.filter_cons_of_pos (by simp), insB_first, List.map_cons]
      · congr 2
        refine List.filter_congr fun x hx => ?_
        have := h1 x hx
        have : (x.id == b.id) = false := by simp; omega
        rw [this, Bool.or_false]
      · intro y hy
        obtain ⟨x, hx, rfl⟩ := List.mem_map.1 hy
        rw [he, he]
        exact h1 x (List.mem_filter.1 hx).1
    · have hlt := h1 b hb
      have hne : (a.id == b.id) = false := by simp; omega
      cases hSa : S a.id with
      | true => rw [List.filter_cons_of_pos (by simp [hSa]), List.filter_cons_of_pos (by simp [hSa]), List.map_cons, List.map_cons, insB, if_pos (by rw [he, he]; exact hlt), insB_filter he h2 hb hS]
      | false => rw [List.filter_cons_of_neg (by simp [hSa]), List.filter_cons_of_neg (by simp [hSa, hne]), insB_filter he h2 hb hS]
theorem keep_ins (K : Kids l) {b y : Bl} {ka kb : List Int} (hb : b ∈ l) (hS : S b.id = false) (hkb : ∀ c ∈ b.kids, S c = false) (hnb : b.id ∉ b.kids) (hy : y ∈ l) (hyp : y.id = b.parent) (hyk : y.kids = ka ++ b.id :: kb) (hka : ∀ c ∈ ka, S c = true) (hkk : ∀ c ∈ kb, S c = false) :
    insL (keepH S idH l) b.id b.parent ka.length b.text = keepH (fun i => S i || i == b.id) (fun i q => if i = b.id then [] else q) l := by
  obtain ⟨e, hE⟩ : ∃ e : Bl → Bl, e = fun a => ⟨a.id, a.parent, a.kids.filter (fun i => S i || i == b.id), a.text, if a.id = b.id then [] else a.props⟩ := ⟨_, rfl⟩
  have hnd := K.nod y hy
  rw [hyk] at hnd
  have hu : upd (keepH S idH l) b.parent (fun c => c.withKids (plusK c.kids ka.length b.id)) = (l.filter fun a => S a.id).map e := by
    unfold upd keepH
    rw [List.map_map]
    refine List.map_congr_left fun a ha => ?_
    obtain ⟨ha, hs⟩ := List.mem_filter.1 ha
    have hne : a.id ≠ b.id := fun e' => by rw [e', hS] at hs; cases hs
    rw [hE]
    show (if a.id = b.parent then (⟨a.id, a.parent, plusK (a.kids.filter S) ka.length b.id, a.text, a.props⟩ : Bl) else ⟨a.id, a.parent, a.kids.filter S, a.text, a.props⟩) = ⟨a.id, a.parent, a.kids.filter (fun i => S i || i == b.id), a.text, if a.id = b.id then [] else a.props⟩
    rw [if_neg hne]
    by_cases ep : a.id = b.parent
    · obtain rfl := K.rise.inj ha hy (ep.trans hyp.symm)
      rw [if_pos ep, hyk]
      have hbk : b.id ∉ kb := (List.nodup_cons.1 (List.nodup_append.1 hnd).2.1).1
      have e1 : (ka ++ b.id :: kb).filter S = ka := by
        rw [List.filter_append, List.filter_eq_self.2 hka, List.filter_cons_of_neg (by simp [hS]), List.filter_eq_nil_iff.2 fun c hc => by rw [hkk c hc]; decide]
        exact List.append_nil _
      have e2 : (ka ++ b.id :: kb).filter (fun i => S i || i == b.id) = ka ++ [b.id] := by
        rw [List.filter_append, List.filter_eq_self.2 fun c hc => by rw [hka c hc]; rfl, List.filter_cons_of_pos (by simp), List.filter_eq_nil_iff.2 fun c hc => by
          rw [hkk c hc]
          have : c ≠ b.id := fun e => hbk (e ▸ hc)
          simpa using this]
      rw [e1, e2]
      unfold plusK
      rw [List.take_length, List.drop_length]
    · rw [if_neg ep]
      congr 1
      refine List.filter_congr fun c hc => ?_
      have : c ≠ b.id := fun e' => by
        have h2 := parOf_kid K ha hc
        rw [e', parOf_eq K hb] at h2
        exact ep h2.symm
      have : (c == b.id) = false := by simpa using this
      rw [this, Bool.or_false]
  have heb : e b = ⟨b.id, b.parent, [], b.text, []⟩ := by
    rw [hE]
    show (⟨b.id, b.parent, b.kids.filter (fun i => S i || i == b.id), b.text, if b.id = b.id then [] else b.props⟩ : Bl) = _
    rw [if_pos rfl, List.filter_eq_nil_iff.2 fun c hc => by
      rw [hkb c hc]
      have : c ≠ b.id := fun e => hnb (e ▸ hc)
      simpa using this]
  unfold insL
  rw [hu, ← heb, insB_filter (fun a => by rw [hE]) (rise_iff.1 K.rise) hb hS, hE]
  rfl
theorem Dp.of_keep {id : Int} {n : Nat} (hd : Dp (keepH S h l) id n) : Dp l id n := by
  induction hd with
  | root => exact .root
  | step b d k _ hb hk ih =>
    obtain ⟨a, ha, _, rfl⟩ := keep_mem.1 hb
    exact .step a d k ih ha (List.mem_filter.1 hk).1
theorem grow_one (G0 : Good l f) {b y : Bl} {ka kb : List Int} (hb : b ∈ l) (h0 : b.id ≠ 0) (hS : S b.id = false) (hkb : ∀ c ∈ b.kids, S c = false) (hy : y ∈ l) (hyp : y.id = b.parent) (hys : S y.id = true) (hyk : y.kids = ka ++ b.id :: kb) (hka : ∀ c ∈ ka, S c = true) (hkk : ∀ c ∈ kb, S c = false) {f' : Int → Option Int} (G : Good (keepH S idH l) f') :
    OkAll (keepH S idH l) (bldO l b.id) ∧ applL (keepH S idH l) (bldO l b.id) = keepH (fun i => S i || i == b.id) idH l := by
  obtain ⟨hpl, hps, hpn⟩ := cp_ok (G0.tree.loc b hb).2.2
  have hpv := cp_vals (G0.tree.loc b hb).2.2
  have hnd := G0.kids.nod y hy
  rw [hyk] at hnd
  have hia : b.id ∉ ka := fun h => (List.nodup_append.1 hnd).2.2 _ h _ (by simp) rfl
  have hnb : b.id ∉ b.kids := fun hm => by
    obtain ⟨d, _, hd, _⟩ := G0.dp hb
    have := (Dp.step b d b.id hd hb hm).fun_ G0.kids hd
    omega
  have hp1 : putInO l b.id = ⟨1, b.id, y.id, (ka.length : Int), 0, 0, b.text, ⟨#[]⟩, zV⟩ := by
    unfold putInO
    rw [(blkAt_mem G0.kids hb).1, ← hyp, (blkAt_mem G0.kids hy).1, hyk, List.idxOf_append, if_neg hia, List.idxOf_cons_self, Nat.zero_add]
  have hfk : (ka ++ b.id :: kb).filter S = ka := by
    rw [List.filter_append, List.filter_eq_self.2 hka, List.filter_cons_of_neg (by simp [hS]), List.filter_eq_nil_iff.2 fun c hc => by rw [hkk c hc]; decide]
    exact List.append_nil _
  have hy' : (⟨y.id, y.parent, ka, y.text, y.props⟩ : Bl) ∈ keepH S idH l := keep_mem.2 ⟨y, hy, hys, by rw [hyk, hfk]⟩
  have hids := G0.kids.ids b hb
  have hf500 := G0.kids.few y hy
  rw [hyk, List.length_append, List.length_cons] at hf500
  have hlen : (keepH S idH l).length < 2000 := by
    have h1 := G0.kids.short
    have h2 : (l.filter fun a => S a.id).length < l.length := List.length_filter_lt_length_iff_exists.2 ⟨b, hb, by simp [hS]⟩
    unfold keepH
    rw [List.length_map]
    omega
  have hdep : dF f' y.id < 40 := by
    obtain ⟨d, h1, h2, _⟩ := G.dp hy'
    have h3 := Dp.of_keep h2
    have h4 := G0.low (Dp.step y d b.id h3 hy (by rw [hyk]; simp))
    unfold dF
    rw [show f' y.id = some (d : Int) from h1]
    show (d : Int) < 40
    omega
  have he := ins_ok G hy' (id := b.id) (i := ka.length) (s := b.text) (by omega) (fun x hx e => by
    obtain ⟨a, _, hs, rfl⟩ := keep_mem.1 hx
    rw [show a.id = b.id from e, hS] at hs
    cases hs) (Nat.le_refl _) (G0.tree.loc b hb).1 hlen (by show ka.length < 500; omega) hdep
  have ha : applied (keepH S idH l) ⟨1, b.id, y.id, (ka.length : Int), 0, 0, b.text, ⟨#[]⟩, zV⟩ = keepH (fun i => S i || i == b.id) (fun i q => if i = b.id then [] else q) l := by
    rw [sd_ins, hyp]
    exact keep_ins G0.kids hb hS hkb hnb hy hyp hyk hka hkk
  obtain ⟨f2, _, G2⟩ := G.applied he
  rw [ha] at G2
  obtain ⟨k1, k2⟩ := put_props (fun i => S i || i == b.id) hb h0 (by simp) b.props [] f2 hps (fun x hx => ⟨(hpn x hx).1, (hpn x hx).2, hpv x hx⟩) hpl G2
  unfold bldO
  rw [hp1, (blkAt_mem G0.kids hb).1]
  refine ⟨.cons G he (by rw [ha]; exact k1), ?_⟩
  rw [applL_cons, ha, k2]
  refine keep_congr (fun _ _ => ⟨rfl, fun _ _ => rfl⟩) fun a ha _ => ?_
  show (if a.id = b.id then [] ++ b.props else a.props) = a.props
  split
  · rename_i e
    rw [G0.kids.rise.inj ha hb e]; rfl
  · rfl
/-- each block comes behind its parent and the kids ahead of it -/
def Grow (l : List Bl) : (Int → Bool) → List Int → Prop
  | _, [] => True
  | S, k :: ks => (∃ b ∈ l, ∃ y ∈ l, ∃ ka kb, b.id = k ∧ k ≠ 0 ∧ S k = false ∧ (∀ c ∈ b.kids, S c = false) ∧ y.id = b.parent ∧ S y.id = true ∧ y.kids = ka ++ k :: kb ∧ (∀ c ∈ ka, S c = true) ∧ ∀ c ∈ kb, S c = false) ∧ Grow l (fun i => S i || i == k) ks
theorem grow_list (G0 : Good l f) : ∀ (ks : List Int) (S : Int → Bool) (f' : Int → Option Int), Grow l S ks → Good (keepH S idH l) f' → OkAll (keepH S idH l) (ks.flatMap (bldO l)) ∧ applL (keepH S idH l) (ks.flatMap (bldO l)) = keepH (fun i => S i || ks.contains i) idH l
  | [], S, f', _, _ => ⟨fun i o hi => by simp at hi, keep_congr (fun _ _ => ⟨by simp, fun _ _ => by simp⟩) fun _ _ _ => rfl⟩
  | k :: ks, S, f', ⟨⟨b, hb, y, hy, ka, kb, hk, h0, hS, hc, h1, h2, h3, h4, h5⟩, hL⟩, G => by
    subst hk
    obtain ⟨g1, g2⟩ := grow_one G0 hb h0 hS hc hy h1 h2 h3 h4 h5 G
    obtain ⟨f2, G2⟩ := g1.good G _ (Nat.le_refl _)
    rw [List.take_length, g2] at G2
    obtain ⟨g3, g4⟩ := grow_list G0 ks _ f2 hL G2
    rw [List.flatMap_cons]
    refine ⟨g1.app (by rw [g2]; exact g3), ?_⟩
    rw [applL_app, g2, g4]
    refine keep_congr (fun _ _ => ?_) fun _ _ _ => rfl
    have : ∀ i : Int, (S i || i == b.id || ks.contains i) = (S i || (b.id :: ks).contains i) := fun i => by
      rw [List.contains_cons, Bool.or_assoc]
    exact ⟨this _, fun _ _ => this _⟩
theorem grow_of : ∀ (ks : List Int) (S : Int → Bool), (∀ pre k post, ks = pre ++ k :: post → ∃ b ∈ l, ∃ y ∈ l, ∃ ka kb, b.id = k ∧ k ≠ 0 ∧ (S k = false ∧ k ∉ pre) ∧ (∀ c ∈ b.kids, S c = false ∧ c ∉ pre) ∧ y.id = b.parent ∧ (S y.id = true ∨ y.id ∈ pre) ∧ y.kids = ka ++ k :: kb ∧ (∀ c ∈ ka, S c = true ∨ c ∈ pre) ∧ ∀ c ∈ kb, S c = false ∧ c ∉ pre) → Grow l S ks
  | [], _, _ => trivial
  | k :: ks, S, h => by
    obtain ⟨b, hb, y, hy, ka, kb, h1, h2, h3, h4, h5, h6, h7, h8, h9⟩ := h [] k ks rfl
    refine ⟨⟨b, hb, y, hy, ka, kb, h1, h2, h3.1, fun c hc => (h4 c hc).1, h5, h6.resolve_right (by simp), h7, fun c hc => (h8 c hc).resolve_right (by simp), fun c hc => (h9 c hc).1⟩, grow_of ks _ fun pre k' post e => ?_⟩
    obtain ⟨b', hb', y', hy', ka', kb', g1, g2, g3, g4, g5, g6, g7, g8, g9⟩ := h (k :: pre) k' post (by rw [e]; rfl)
    have key : ∀ c, (S c = false ∧ c ∉ k :: pre) → (S c || c == k) = false ∧ c ∉ pre := fun c ⟨a1, a2⟩ => by
      rw [List.mem_cons, not_or] at a2
      refine ⟨?_, a2.2⟩
      rw [a1, Bool.false_or]
      simpa using a2.1
    have key2 : ∀ c, (S c = true ∨ c ∈ k :: pre) → (S c || c == k) = true ∨ c ∈ pre := fun c a => by
      rcases a with a | a
      · exact .inl (by rw [a]; rfl)
      · rcases List.mem_cons.1 a with rfl | a
        · exact .inl (by simp)
        · exact .inr a
    exact ⟨b', hb', y', hy', ka', kb', g1, g2, key _ g3, fun c hc => key _ (g4 c hc), g5, key2 _ g6, g7, fun c hc => key2 _ (g8 c hc), fun c hc => key _ (g9 c hc)⟩
end
end Go.Proofs.YtmkicfjcgbfaaaaGreat
namespace Go.Proofs.YtmkicfjcgbfaaaaGreat
open Go.RowKit

theorem sub_cons {a c : Int} {A C : List Int} (h : (a :: A).Sublist (c :: C)) : (a :: A).Sublist C ∨ (a = c ∧ A.Sublist C) := by
  cases h with
  | cons _ h => exact .inl h
  | cons_cons _ h => exact .inr ⟨rfl, h⟩
theorem sub_split : ∀ {pre post A B : List Int} {k : Int}, (A ++ k :: B).Sublist (pre ++ k :: post) → (pre ++ k :: post).Nodup → (∀ x ∈ A, x ∈ pre) ∧ ∀ x ∈ B, x ∈ post
  | [], post, A, B, k, h, hn => by
    have hk : k ∉ post := (List.nodup_cons.1 hn).1
    cases A with
    | nil => exact ⟨fun x hx => by (cases hx), fun x hx => (List.cons_sublist_cons.1 h).subset hx⟩
    | cons a A =>
      exfalso
      have h : (a :: (A ++ k :: B)).Sublist (k :: post) := h
      rcases sub_cons h with h | ⟨_, h⟩
      · exact hk (h.subset (by simp))
      · exact hk (h.subset (by simp))
  | c :: pre, post, [], B, k, h, hn => by
    have h : (k :: B).Sublist (c :: (pre ++ k :: post)) := h
    have hc : c ∉ pre ++ k :: post := (List.nodup_cons.1 hn).1
    rcases sub_cons h with h | ⟨rfl, _⟩
    · obtain ⟨_, h2⟩ := sub_split (A := []) h (List.nodup_cons.1 hn).2
      exact ⟨fun x hx => by (cases hx), h2⟩
    · exact absurd (by simp) hc
  | c :: pre, post, a :: A, B, k, h, hn => by
    have h : (a :: (A ++ k :: B)).Sublist (c :: (pre ++ k :: post)) := h
    rcases sub_cons h with g | ⟨rfl, g⟩
    · obtain ⟨h1, h2⟩ := sub_split (A := a :: A) g (List.nodup_cons.1 hn).2
      exact ⟨fun x hx => by simp [h1 x hx], h2⟩
    · obtain ⟨h1, h2⟩ := sub_split g (List.nodup_cons.1 hn).2
      refine ⟨fun x hx => ?_, h2⟩
      rcases List.mem_cons.1 hx with rfl | hx
      · simp
      · simp [h1 x hx]
theorem flat_heads (g : Int → List Int) : ∀ L : List Int, L.Sublist (L.flatMap fun k => k :: g k)
  | [] => .slnil
  | a :: L => by
    rw [List.flatMap_cons]
    exact .cons_cons _ ((flat_heads g L).trans (List.sublist_append_right _ _))
section
variable {l : List Bl} {f : Int → Option Int}
/-- a block's kids stand behind it, in their order -/
theorem ord_fam (K : Kids l) {b : Bl} (hb : b ∈ l) : ∀ (n : Nat) {id : Int} {d : Nat}, Dp l id d → b.id ∈ ord l n id → (b.id :: b.kids).Sublist (ord l (n + 1) id)
  | 0, _, _, _, h => by cases h
  | n + 1, id, d, hd, h => by
    obtain ⟨p, c, h1, h2, h3⟩ := hd.blk K
    have hc := List.mem_of_getElem? h2
    rw [ord_at h1 h2, List.mem_flatMap] at h
    rw [ord_at h1 h2]
    obtain ⟨k', hk', hx⟩ := h
    refine List.Sublist.trans ?_ (sub_flat (g := fun k => k :: ord l (n + 1) k) hk')
    rcases List.mem_cons.1 hx with e | hx
    · rw [← e]
      refine List.Sublist.cons_cons _ ?_
      rw [ord_blk K n hb]
      exact flat_heads _ _
    · have hdk : Dp l k' (d + 1) := .step c d k' (h3 ▸ hd) hc hk'
      exact List.Sublist.cons _ (ord_fam K hb n hdk hx)
/-- the order does not grow any more -/
theorem ord_stop (G : Good l f) : ∀ (n : Nat) {id : Int} {d : Nat}, Dp l id d → 40 ≤ d + n → ord l (n + 1) id = ord l n id
  | 0, id, d, hd, hn => by
    obtain ⟨p, b, h1, h2, h3⟩ := hd.blk G.kids
    have hb := List.mem_of_getElem? h2
    rw [ord_at h1 h2]
    cases hk : b.kids with
    | nil => rfl
    | cons k ks =>
      have := G.low (Dp.step b d k (h3 ▸ hd) hb (by rw [hk]; simp))
      omega
  | n + 1, id, d, hd, hn => by
    obtain ⟨p, b, h1, h2, h3⟩ := hd.blk G.kids
    have hb := List.mem_of_getElem? h2
    rw [ord_at h1 h2, ord_at h1 h2]
    refine flatMap_same fun k hk => ?_
    rw [ord_stop G n (Dp.step b d k (h3 ▸ hd) hb hk) (by omega)]
where flatMap_same : ∀ {L : List Int} {g g' : Int → List Int}, (∀ k ∈ L, k :: g k = k :: g' k) → (L.flatMap fun k => k :: g k) = L.flatMap fun k => k :: g' k
  | [], _, _, _ => rfl
  | a :: L, g, g', h => by rw [List.flatMap_cons, List.flatMap_cons, h a (by simp), flatMap_same fun k hk => h k (by simp [hk])]
def sdRoot : Bl := ⟨0, 0, [], ⟨#[]⟩, []⟩
/-- what is left when all is taken away -/
theorem keep_root (G : Good l f) {S : Int → Bool} (hS : ∀ b ∈ l, S b.id = true ↔ b.id = 0) : keepH S idH l = [sdRoot] := by
  obtain ⟨r, t, e, h0, hp, ht, hps⟩ := G.tree.root
  have hrise := G.tree.rise
  subst e
  obtain ⟨h1, _⟩ := List.pairwise_cons.1 hrise
  unfold keepH
  rw [List.filter_cons_of_pos (by exact (hS r (by simp)).2 h0), List.filter_eq_nil_iff.2 fun a ha e => by
    have := (hS a (by simp [ha])).1 e
    have := h1 a ha
    omega]
  show [(⟨r.id, r.parent, r.kids.filter S, r.text, r.props⟩ : Bl)] = _
  have hk : r.kids.filter S = [] := List.filter_eq_nil_iff.2 fun c hc e => by
    obtain ⟨hne, y, hy, e1, _⟩ := G.kids.kid r (by simp) c hc
    rw [← e1] at e hne
    exact hne ((hS y hy).1 e)
  have htx : r.text = ⟨#[]⟩ := tl_eq (by rw [ht, show (⟨#[]⟩ : ByteArray).toList = [] from ByteArray.toList_eq _])
  rw [h0, hp, hk, htx, hps]; rfl
theorem ord_ids (G : Good l f) {b : Bl} (hb : b ∈ l) : b.id ∈ ord l 41 0 ↔ b.id ≠ 0 := by
  constructor
  · intro h e
    rw [e] at h
    exact ord_zero G.kids 41 h
  · intro h
    obtain ⟨d, _, hd, h40⟩ := G.dp hb
    exact ord_has G.kids hd 41 (by omega) h
theorem ord_block (G : Good l f) {k : Int} (hk : k ∈ ord l 41 0) : ∃ b ∈ l, b.id = k ∧ k ≠ 0 := by
  obtain ⟨j, hd, _⟩ := ord_mem G.kids 41 .root hk
  obtain ⟨b, hb, e⟩ := hd.mem G.kids
  exact ⟨b, hb, e, fun e' => ord_zero G.kids 41 (e' ▸ hk)⟩
/-- a block and its kids in the whole order -/
theorem ord_all (G : Good l f) {b : Bl} (hb : b ∈ l) : (b.id ≠ 0 → (b.id :: b.kids).Sublist (ord l 41 0)) ∧ (b.id = 0 → b.kids.Sublist (ord l 41 0)) := by
  obtain ⟨d, _, hd, h40⟩ := G.dp hb
  refine ⟨fun h => ord_fam G.kids hb 40 .root (ord_has G.kids hd 40 (by omega) h), fun h => ?_⟩
  have := ord_blk G.kids 40 hb
  rw [h] at this
  rw [this]
  exact flat_heads _ _
/-- the root alone, and all blocks put in -/
theorem grow_all (G : Good l f) {f0 : Int → Option Int} (G1 : Good [sdRoot] f0) : OkAll [sdRoot] ((ord l 41 0).flatMap (bldO l)) ∧ applL [sdRoot] ((ord l 41 0).flatMap (bldO l)) = l := by
  have hnd := ord_nodup G.kids 41 .root
  have e0 : keepH (fun i => i == 0) idH l = [sdRoot] := keep_root G fun b _ => by simp
  have hg : Grow l (fun i => i == 0) (ord l 41 0) := grow_of _ _ fun pre k post e => by
    have hk : k ∈ ord l 41 0 := by rw [e]; simp
    obtain ⟨b, hb, hbk, h0⟩ := ord_block G hk
    obtain ⟨y, hy, hyp, hky, _⟩ := G.tree.par b hb (by rw [hbk]; exact h0)
    rw [hbk] at hky
    obtain ⟨ka, kb, hkk⟩ := List.append_of_mem hky
    rw [e] at hnd
    have hpre : k ∉ pre := fun h => (List.nodup_append.1 hnd).2.2 _ h _ (by simp) rfl
    have hpost : ∀ x ∈ post, x ∉ pre := fun x hx h => (List.nodup_append.1 hnd).2.2 _ h x (by simp [hx]) rfl
    have hnz : ∀ {a : Bl}, a ∈ l → ∀ c ∈ a.kids, (c == 0) = false := fun ha c hc => by simpa using (G.kids.kid _ ha c hc).1
    have hs1 := (ord_all G hb).1 (by rw [hbk]; exact h0)
    rw [hbk, e] at hs1
    have h1 := (sub_split (A := []) hs1 hnd).2
    have h2 : (∀ x ∈ ka, x ∈ pre) ∧ (∀ x ∈ kb, x ∈ post) ∧ (y.id = 0 ∨ y.id ∈ pre) := by
      by_cases hy0 : y.id = 0
      · have hs2 := (ord_all G hy).2 hy0
        rw [hkk, e] at hs2
        obtain ⟨a1, a2⟩ := sub_split hs2 hnd
        exact ⟨a1, a2, .inl hy0⟩
      · have hs2 := (ord_all G hy).1 hy0
        rw [hkk, e] at hs2
        obtain ⟨a1, a2⟩ := sub_split (A := y.id :: ka) hs2 hnd
        exact ⟨fun x hx => a1 x (by simp [hx]), a2, .inr (a1 _ (by simp))⟩
    refine ⟨b, hb, y, hy, ka, kb, hbk, h0, ⟨by simpa using h0, hpre⟩, fun c hc => ⟨hnz hb c hc, hpost _ (h1 c hc)⟩, hyp, ?_, hkk, fun c hc => .inr (h2.1 c hc), fun c hc => ⟨hnz hy c (by rw [hkk]; simp [hc]), hpost _ (h2.2.1 c hc)⟩⟩
    rcases h2.2.2 with h | h
    · exact .inl (by simp [h])
    · exact .inr h
  rw [← e0] at G1
  obtain ⟨h1, h2⟩ := grow_list G _ _ f0 hg G1
  rw [e0] at h1 h2
  refine ⟨h1, ?_⟩
  rw [h2]
  refine Eq.trans ?_ (keep_all l)
  have key : ∀ b ∈ l, (b.id == 0 || (ord l 41 0).contains b.id) = true := fun b hb => by
    by_cases h : b.id = 0
    · simp [h]
    · simp [(ord_ids G hb).2 h]
  refine keep_congr (fun b hb => ⟨key b hb, fun c hc => ?_⟩) fun _ _ _ => rfl
  obtain ⟨_, y, hy, e, _⟩ := G.kids.kid b hb c hc
  rw [← e]
  exact key y hy
/-- the blocks of all pages, each behind its kids -/
def awayK (l : List Bl) (r : Bl) : List Int := r.kids.flatMap fun p => (p :: ord l 40 p).reverse
theorem away_all (G : Good l f) {r : Bl} (hr : r ∈ l) (hr0 : r.id = 0) : OkAll l ((awayK l r).flatMap (awayO l)) ∧ applL l ((awayK l r).flatMap (awayO l)) = [sdRoot] := by
  have hW : ord l 41 0 = r.kids.flatMap fun k => k :: ord l 40 k := by
    have := ord_blk G.kids 40 hr
    rwa [hr0] at this
  have hnd := ord_nodup G.kids 41 (.root (l := l))
  have hmem : ∀ x, x ∈ awayK l r ↔ x ∈ ord l 41 0 := fun x => by
    rw [hW]
    unfold awayK
    rw [List.mem_flatMap, List.mem_flatMap]
    exact ⟨fun ⟨a, h1, h2⟩ => ⟨a, h1, List.mem_reverse.1 h2⟩, fun ⟨a, h1, h2⟩ => ⟨a, h1, List.mem_reverse.2 h2⟩⟩
  have hnp : (awayK l r).Nodup := by
    rw [hW] at hnd
    unfold awayK
    unfold List.Nodup at hnd ⊢
    rw [List.pairwise_flatMap] at hnd ⊢
    exact ⟨fun p hp => List.pairwise_reverse.2 ((hnd.1 p hp).imp fun h e => h e.symm), hnd.2.imp fun h x hx y hy => h x (List.mem_reverse.1 hx) y (List.mem_reverse.1 hy)⟩
  have hsub : ∀ {b : Bl}, b ∈ l → b.id ≠ 0 → ∀ c ∈ b.kids, [c, b.id].Sublist (awayK l r) := fun {b} hb h0 c hc => by
    have h1 := (hmem b.id).2 ((ord_ids G hb).2 h0)
    unfold awayK at h1 ⊢
    obtain ⟨p, hp, hx⟩ := List.mem_flatMap.1 h1
    refine List.Sublist.trans ?_ (sub_flat (g := fun p => (p :: ord l 40 p).reverse) hp)
    have hx := List.mem_reverse.1 hx
    have hdp : Dp l p 1 := .step r 0 p (by rw [hr0]; exact .root) hr hp
    have : [b.id, c].Sublist (p :: ord l 40 p) := by
      rcases List.mem_cons.1 hx with e | hx
      · rw [← e]
        refine .cons_cons _ (List.singleton_sublist.2 ?_)
        rw [ord_blk G.kids 39 hb]
        exact List.mem_flatMap.2 ⟨c, hc, List.mem_cons_self⟩
      · have := ord_kid G.kids hb hc 40 hdp hx
        rw [ord_stop G 40 hdp (by omega)] at this
        exact .cons _ this
    exact List.reverse_sublist.2 this
  have hg : Leafy l (fun _ => true) (awayK l r) := leafy_of _ _ fun pre k post e => by
    have hk := (hmem k).1 (by rw [e]; simp)
    obtain ⟨b, hb, hbk, h0⟩ := ord_block G hk
    have hnp' := hnp
    rw [e] at hnp'
    refine ⟨b, hb, hbk, h0, rfl, fun h => (List.nodup_append.1 hnp').2.2 _ h _ (by simp) rfl, fun c hc => .inr ?_⟩
    have := hsub hb (by rw [hbk]; exact h0) c hc
    rw [e, hbk] at this
    exact (sub_split (A := [c]) (B := []) this hnp').1 c (by simp)
  have G1 := G
  rw [← keep_all l] at G1
  obtain ⟨h1, h2⟩ := prune_list G _ _ f hg G1
  rw [keep_all] at h1 h2
  refine ⟨h1, ?_⟩
  rw [h2]
  refine keep_root G fun b hb => ?_
  have := (hmem b.id).trans (ord_ids G hb)
  by_cases h : b.id = 0
  · have h2 : b.id ∉ awayK l r := fun hm => this.1 hm h
    have h3 : (awayK l r).contains b.id = false := by simpa using h2
    rw [h3]
    simp [h]
  · simp [h, this.2 h]
end
end Go.Proofs.YtmkicfjcgbfaaaaGreat
namespace Go.Proofs.YtmkicfjcgbfaaaaGreat
open Go.RowKit

abbrev ltI : Int → DU := fun x => .lit (.int .i64 x)
theorem sd_zero : ∀ w, (zeroValue 3).run Tryz.prog w = .ok (.int .i64 0) w := fun w => Tryz.zeroValue3 w
theorem sd_elem : ElemLaw Tryz.prog 3 (Value.int .i64) ltI I64 0 := intElem (P := Tryz.prog) (e := 3) Tryz.underlying3 sd_zero
abbrev MapI := MapIn Tryz.prog 3 3 ltI
/-- what at leaves: where each id stands -/
def AtM (l : List Bl) (w : World) (e : Ending) (w' : World) : Prop := ∃ (b n : Nat) (F : Int → Option Int), e = .returned (.map (some b)) ∧ MapI w' b n F ∧ (∀ (p : Nat) (x : Bl), l[p]? = some x → F x.id = some (p : Int)) ∧ w.heap.size ≤ b ∧ Below w.heap.size w w'
set_option maxRecDepth 100000 in
set_option maxHeartbeats 4000000 in
/-- show.at -/
theorem showAt_any (l : List Bl) (A : Option Addr) (n c : Nat) (w : World) (B : Nat) (hB : B ≤ w.heap.size) (h : RB w B (.slice A n c) l) (hr : Rise l) (hi : IdsIn l) :
    Calls Tryz.prog 91 #[.slice A n c] w (AtM l w) := by
  have HN := Lib.hid h.len
  have H := Lib.hid h
  have HR := Lib.hid hr
  have HI := Lib.hid hi
  have hmm := fun W => run_makeMap (P := Tryz.prog) 86 W
  have HM0 := Lib.hid (MapIn.made (P := Tryz.prog) (k := 3) (e := 3) (lt := ltI) w)
  have HB0 := Lib.hid ((Below.refl w.heap.size w).alloc (Nat.le_refl _) (.map #[] 0))
  clear h hr hi
  go_enter Tryz.func91, Tryz.ntmps91
  go_wp2_with fail
  go_loopg [9] n (fun gg s9 wr => ∃ (i : Nat) (F : Int → Option Int), i + gg = n ∧ s9 = .int .i64 (i : Int) ∧ Hid (MapI wr w.heap.size i F) ∧ Hid (∀ (p : Nat) (x : Bl), p < i → l[p]? = some x → F x.id = some (p : Int)) ∧ Hid (Below w.heap.size w wr))
  case atStart => exact ⟨0, _, by omega, rfl, HM0, fun p x hp => absurd hp (Nat.not_lt_zero _), HB0⟩
  case round =>
    obtain ⟨i, F, hig, rfl, hm, hF, hbel⟩ := hrel
    obtain ⟨W1, rfl⟩ : ∃ W1, W1 = wr := ⟨_, rfl⟩
    have hbg : n * 80 ≤ 140737488351232 := HN.out.2.2
    by_cases hk : i < n
    · obtain ⟨x, hx⟩ : ∃ x, l[i]? = some x := ⟨_, List.getElem?_eq_getElem (by have := HN.out.1; omega)⟩
      obtain ⟨b, off, Ak, nk, ck, Ap, np, cp, rfl, hbb, g0, g1, g2, g3, g4, _, _⟩ := (H.out.below (hbel.out.mono hB)).at_ hx
      have hxi : I64 x.id := by
        have := HI.out x (List.mem_of_getElem? hx)
        unfold I64; omega
      have hii : I64 (i : Int) := by unfold I64; omega
      have j0 : (0 : Int) ≤ (i : Int) := by omega
      have j1 : (i : Int) < (n : Int) := by omega
      obtain ⟨wa, hwa⟩ : ∃ wa, wa = W1.alloc (.cells #[.int .i64 x.id, .int .i64 x.parent, .slice Ak nk ck, .string x.text, .slice Ap np cp] 38) := ⟨_, rfl⟩
      have hal : Below W1.heap.size W1 wa := by rw [hwa]; exact (Below.refl _ _).alloc (Nat.le_refl _) _
      have p0 : Blk wa W1.heap.size 38 #[.int .i64 x.id, .int .i64 x.parent, .slice Ak nk ck, .string x.text, .slice Ap np cp] := by rw [hwa]; exact Blk.new W1 _ _
      have hmlt := hm.out.lt_
      have hma : MapI wa w.heap.size i F := hm.out.below hal hmlt
      obtain ⟨w3, hup, hm3, hg3⟩ := hma.put sd_elem Tryz.underlying3 Tryz.underlying86 (by unfold maxLen; omega) hxi (a := (i : Int)) hii
      have hz1 := hbel.out.size
      have hza := hal.size
      have HB3 : Hid (Below w.heap.size w w3) := (hbel.out.trans (hal.mono hz1)).grown hg3 (by omega) (fun k hk => by injection hk with hk; omega)
      have HM3 := Lib.hid hm3
      have HF3 : Hid (∀ (p : Nat) (y : Bl), p < i + 1 → l[p]? = some y → putF F x.id (i : Int) y.id = some (p : Int)) := fun p y hp hy => by
        by_cases e : p = i
        · subst e
          rw [hx] at hy
          obtain rfl := Option.some.inj hy
          exact putF_same _ _ _
        · have hlt := HR.out p i y x (by omega) hy hx
          rw [putF_other _ _ (by omega)]
          exact hF.out p y (by omega) hy
      have m0 : wa.cell? ⟨W1.heap.size, 0, none⟩ = some (.int .i64 x.id) := p0.cell 0
      have HWA := Lib.hid hwa
      clear hm3 hg3 hx hwa hal p0 hma hmlt
      go_upto_region 5 with fail
      rw [← HWA.out]
      clear g0 g1 g2 g3 g4
      go_wp2_with fail
      go_roundg (n - (i + 1))
      case measure => omega
      case rel => exact ⟨i + 1, _, by omega, by go_num, HM3, HF3, HB3⟩
    · obtain rfl : n = i := by omega
      have HFF : Hid (∀ (p : Nat) (x : Bl), l[p]? = some x → F x.id = some (p : Int)) := fun p x hx => hF.out p x (by have := (List.getElem?_eq_some_iff.1 hx).1; have := HN.out.1; omega) hx
      go_wp2_with fail
      go_ret
      exact ⟨_, _, F, rfl, hm.out, HFF.out, Nat.le_refl _, hbel.out⟩
end Go.Proofs.YtmkicfjcgbfaaaaGreat
namespace Go.Proofs.YtmkicfjcgbfaaaaGreat
open Go.ChangeShapes Go.WideShapes Go.RowKit

theorem cellsB : Tryz.prog.cellsOf 38 = 5 := by kernel_rfl
theorem cells_of_ints : Tryz.prog.cellsOf 34 = 1 := by kernel_rfl

section
variable {H : Type} {enc : TypeId × Value → H} {W : World}
theorem ints_flat : ∀ M : List Int, M.map (Value.int .i64) = M.flatMap fun x => [Value.int .i64 x]
  | [] => rfl
  | x :: M => by rw [List.map_cons, List.flatMap_cons, ints_flat M]; rfl
set_option maxRecDepth 100000 in
theorem ints_open {fuel : Nat} {u : Value} {y : DataW H × List MemPlace} (h : DataW.trod enc Tryz.prog W 0 (fun _ => true) true fuel 34 [u] = some y) (hp : ∀ x ∈ y.2, x.block < W.heap.size) (hfit : Fits Tryz.prog 34 y.1) : ∃ ks, RIn W W.heap.size u ks := by
  obtain ⟨A, len, cap, M, rfl, h1, h2, h3, h4⟩ := open_list (en := fun x : Int => [Value.int .i64 x]) (Q := fun _ x => I64 x) Tryz.underlying34 cells_of_int (by omega) (show _ = 8 by kernel_rfl) (fun _ => rfl)
    (fun m cs z hm htr hz hft => by
      obtain ⟨k, e0, rfl, hk⟩ := DataW.trod_int Tryz.underlying3 htr
      exact ⟨k, e0.symm, i64_bounds hk⟩) h hp hfit
  exact ⟨M, A, len, cap, rfl, h1, h2, by rw [show M.map (Value.int .i64) = M.flatMap fun x => [Value.int .i64 x] from ints_flat M]; exact h3, fun x hx => by
    obtain ⟨m, _, hq⟩ := h4 x hx
    exact hq⟩

set_option maxRecDepth 100000 in
theorem block_open (fuel : Nat) (cs : List Value) (x : DataW H × List MemPlace)
    (h : DataW.trod enc Tryz.prog W 0 (fun _ => true) true fuel 38 cs = some x) (hp : ∀ y ∈ x.2, y.block < W.heap.size) (hfit : Fits Tryz.prog 38 x.1) : ∃ b : Bl × Value × Value, blV b = cs ∧ RIn W W.heap.size b.2.1 b.1.kids ∧ RPr W W.heap.size b.2.2 b.1.props := by
  obtain ⟨xs, n, rfl, rfl, hlen, hxl, hf⟩ := DataW.trod_struct Tryz.underlying38 h
  rw [cellsB] at hlen
  match cs, hlen with
  | [u0, u1, u2, u3, u4], _ =>
    match xs, hxl with
    | [y0, y1, y2, y3, y4], _ =>
      have g0 : DataW.trod enc Tryz.prog W 0 (fun _ => true) true n 3 (([u0, u1, u2, u3, u4].drop 0).take (Tryz.prog.cellsOf 3)) = some y0 := hf 0 _ rfl
      have g1 : DataW.trod enc Tryz.prog W 0 (fun _ => true) true n 3 (([u0, u1, u2, u3, u4].drop 1).take (Tryz.prog.cellsOf 3)) = some y1 := hf 1 _ rfl
      have g2 : DataW.trod enc Tryz.prog W 0 (fun _ => true) true n 34 (([u0, u1, u2, u3, u4].drop 2).take (Tryz.prog.cellsOf 34)) = some y2 := hf 2 _ rfl
      have g3 : DataW.trod enc Tryz.prog W 0 (fun _ => true) true n 9 (([u0, u1, u2, u3, u4].drop 3).take (Tryz.prog.cellsOf 9)) = some y3 := hf 3 _ rfl
      have g4 : DataW.trod enc Tryz.prog W 0 (fun _ => true) true n 36 (([u0, u1, u2, u3, u4].drop 4).take (Tryz.prog.cellsOf 36)) = some y4 := hf 4 _ rfl
      rw [cells_of_int] at g0 g1
      rw [cells_of_ints] at g2
      rw [cells_of_str] at g3
      rw [cells_of_props] at g4
      change DataW.trod enc Tryz.prog W 0 (fun _ => true) true n 3 [u0] = some y0 at g0
      change DataW.trod enc Tryz.prog W 0 (fun _ => true) true n 3 [u1] = some y1 at g1
      change DataW.trod enc Tryz.prog W 0 (fun _ => true) true n 34 [u2] = some y2 at g2
      change DataW.trod enc Tryz.prog W 0 (fun _ => true) true n 9 [u3] = some y3 at g3
      change DataW.trod enc Tryz.prog W 0 (fun _ => true) true n 36 [u4] = some y4 at g4
      obtain ⟨k, e0, rfl, _⟩ := DataW.trod_int Tryz.underlying3 g0
      obtain ⟨i, e1, rfl, _⟩ := DataW.trod_int Tryz.underlying3 g1
      obtain ⟨s, e3, rfl, _⟩ := DataW.trod_string Tryz.underlying9 g3
      simp at e0 e1 e3
      subst e0 e1 e3
      obtain ⟨ks, hk⟩ := ints_open g2 (fun y hy => hp y (by simp [hy])) (hfit.part Tryz.underlying38 (j := 2) rfl rfl)
      obtain ⟨ps, hq⟩ := props_open g4 (fun y hy => hp y (by simp [hy])) (hfit.part Tryz.underlying38 (j := 4) rfl rfl)
      exact ⟨(⟨k, i, ks, s, ps⟩, u2, u4), rfl, hk, hq⟩

set_option maxRecDepth 100000 in
/-- a base that came in -/
theorem base_open {u : Value} {d : DataW H} {p : List MemPlace} {r : Reach} {b0 : Nat} (hv : Value.okWide Tryz.prog W r b0 22 u) (h : DataW.Trod enc Tryz.prog W 0 (fun _ => true) true 22 u d p) (hp : ∀ x ∈ p, x.block < W.heap.size) (hfit : Fits Tryz.prog 22 d) :
    ∃ A n c, ∃ l, u = .slice A n c ∧ RB W W.heap.size u l := by
  obtain ⟨a0, n0, c0, rfl⟩ := okWide_slice Tryz.underlying22 hv
  obtain ⟨fuel, hf⟩ := h
  obtain ⟨A, len, cap, M, e, h1, h2, h3, h4⟩ := open_list (en := blV) (Q := fun _ x => RIn W W.heap.size x.2.1 x.1.kids ∧ RPr W W.heap.size x.2.2 x.1.props) Tryz.underlying22 cellsB (by omega) (show _ = 80 by kernel_rfl) blV_len
    (fun m cs z hm htr hz hft => block_open m cs z htr hz hft) hf hp hfit
  exact ⟨a0, n0, c0, M.map Prod.fst, rfl, A, len, cap, M, rfl, e, h1, h2, h3, fun x hx => by
    obtain ⟨m, _, hq⟩ := h4 x hx
    exact hq⟩
end
end Go.Proofs.YtmkicfjcgbfaaaaGreat
namespace Go.Proofs.YtmkicfjcgbfaaaaGreat
open Go.RowKit

/-- what an operation leads to -/
def NO : Nest (Opn × Value) := fun w S x => RVX w S x.2 x.1.val.items
theorem NO_ok : NestOk NO := fun _ _ _ _ _ h hk hS => (h.keep hk).weak hS
abbrev OutO := OutN opV 13 31 NO
theorem OutO.ros {w : World} {base : Nat} {v : Value} {M : List (Opn × Value)} (h : OutO w base v M) (hi : ∀ x ∈ M, OI x.1) (hb : M.length * 144 ≤ 140737488351232) : ∃ A c, v = .slice A M.length c ∧ ROs w w.heap.size (.slice A M.length M.length) (M.map Prod.fst) ∧ M.length ≤ c ∧ (A = none → M.length = 0 ∧ c = 0) := by
  obtain ⟨A, c, e, hR⟩ := own_reads h.own
  refine ⟨A, c, e, ⟨A, _, _, M, rfl, rfl, rfl, ⟨Nat.le_refl _, hb⟩, hR, fun x hx => ⟨(h.nest x hx).reads fun b hb => hb.1, hi x hx⟩⟩, ?_, ?_⟩
  · rcases h.own.2 with ⟨e2, h0⟩ | ⟨g, cap, cur, e2, _, _, hle, _⟩
    · omega
    · rw [e] at e2; injection e2 with _ _ e3; omega
  · rintro rfl
    rcases h.own.2 with ⟨e2, h0⟩ | ⟨g, cap, cur, e2, _⟩
    · rw [e] at e2; injection e2 with _ _ e3
      exact ⟨h0, e3⟩
    · rw [e] at e2; injection e2 with e3; cases e3
set_option maxRecDepth 100000 in
set_option maxHeartbeats 8000000 in
/-- the method Ops -/
theorem histOps_any (w : World) (gh gn : Nat) (lf : List Bl) (os : List Opn) (d : Nat) (h : HistM w gh gn lf os d) (hd5 : d ≤ 5000) :
    Calls Tryz.prog 29 #[.pointer (some ⟨gh, 0, none⟩)] w fun e w' => (∃ A n c, e = .returned (.slice A n c) ∧ ROs w' w'.heap.size (.slice A n c) (os.take d)) ∧ Below w.heap.size w w' := by
  obtain ⟨i0, hi, hz0, hz1, hz2⟩ := info_parts op_info
  have hle := h.le
  obtain ⟨_, ⟨Af, nf, cf, Ao, no, co, nn, cn, M0, h1, _, h3, _, _, _⟩, _, _, _⟩ := h
  have hno := (h3.reads (B := w.heap.size) fun b hb => hb.1).len
  have hro := (h3.take (k := d) (by omega)).reads (B := w.heap.size) fun b hb => hb.1
  obtain ⟨L, hL⟩ : ∃ L, L = os.take d := ⟨_, rfl⟩
  have hdL : d = L.length := by rw [hL, List.length_take]; omega
  rw [← hL] at hro ⊢
  have c1 := h1.cell 1
  have c2 := h1.cell 2
  have hnc : no ≤ co := hno.2.1
  have hnb : no * 144 ≤ 140737488351232 := hno.2.2
  have hk0 : (0 : Int) ≤ (d : Int) := by omega
  have hk2 : (d : Int) ≤ (co : Int) := by omega
  have hk3 : (d : Int) ≤ (no : Int) := by omega
  have HRO := Lib.hid hro
  have HDL := Lib.hid hdL
  clear h1 h3 hno hro hL hdL hle
  go_enter Tryz.func29, Tryz.ntmps29
  go_upto_region 2 with fail
  go_quiet (fail)
  obtain ⟨w0, hw0⟩ : ∃ w0, w0 = w.drewN nq := ⟨_, rfl⟩
  have HB0 : Hid (Below w.heap.size w w0) := by rw [hw0]; exact bdrew (Below.refl _ _) nq
  rw [← hw0]
  clear hw0 c1 c2
  go_wp2_with fail
  go_loopg [3, 16] d (fun gg s3 s16 wr => ∃ (k : Nat) (v : Value) (M : List (Opn × Value)), k + gg = d ∧ v = s3 ∧ s16 = .int .i64 (k : Int) ∧ Hid (M.map Prod.fst = L.take k) ∧ Hid (∀ x ∈ M, OI x.1) ∧ Hid (OutO wr w0.heap.size v M) ∧ Hid (Below w0.heap.size w0 wr))
  case atStart => exact ⟨0, _, [], by omega, rfl, rfl, rfl, fun x hx => (by cases hx), OutN.start _ _, Below.refl _ _⟩
  case round =>
    obtain ⟨k, v, M, hkg, rfl, rfl, hM, hoi, hout, hb⟩ := hrel
    obtain ⟨W1, rfl⟩ : ∃ W1, W1 = wr := ⟨_, rfl⟩
    have hz0' : w0.heap.size ≤ W1.heap.size := hb.out.size
    have hml : M.length = k := by
      have := congrArg List.length hM.out
      rw [List.length_map, List.length_take] at this
      have := HDL.out
      omega
    have HML := Lib.hid hml
    have hm5 : M.length ≤ 5000 := by omega
    clear hml
    have HBW : Hid (Below w.heap.size w W1) := HB0.out.trans (hb.out.mono HB0.out.size)
    by_cases hk : k < d
    · obtain ⟨o, hko⟩ : ∃ o, L[k]? = some o := ⟨_, List.getElem?_eq_getElem (by have := HDL.out; omega)⟩
      have HLK : Hid (L.take (k + 1) = L.take k ++ [o]) := by
        show _ = _
        rw [List.take_add_one, hko]; rfl
      obtain ⟨b, off, Av, nv, cv, rfl, hbb, hc, hrv, hoo⟩ := (HRO.out.below HBW.out).at_ hko
      have HOI := Lib.hid hoo
      have hw1 : w.heap.size ≤ W1.heap.size := HBW.out.size
      have HRV : Hid (RV W1 W1.heap.size (.slice Av nv cv) o.val.items) := hrv.more hw1
      obtain ⟨ok, oi, op, oa, of, ot, ox, on, ⟨vk, vi, vt, vs, vl⟩⟩ := o
      have g0 : W1.cell? ⟨b, off + k * 13, none⟩ = some (.int .i64 ok) := hc 0 _ rfl
      have g1 : W1.cell? ⟨b, off + k * 13 + 1, none⟩ = some (.int .i64 oi) := hc 1 _ rfl
      have g2 : W1.cell? ⟨b, off + k * 13 + 2, none⟩ = some (.int .i64 op) := hc 2 _ rfl
      have g3 : W1.cell? ⟨b, off + k * 13 + 3, none⟩ = some (.int .i64 oa) := hc 3 _ rfl
      have g4 : W1.cell? ⟨b, off + k * 13 + 4, none⟩ = some (.int .i64 of) := hc 4 _ rfl
      have g5 : W1.cell? ⟨b, off + k * 13 + 5, none⟩ = some (.int .i64 ot) := hc 5 _ rfl
      have g6 : W1.cell? ⟨b, off + k * 13 + 6, none⟩ = some (.string ox) := hc 6 _ rfl
      have g7 : W1.cell? ⟨b, off + k * 13 + 7, none⟩ = some (.string on) := hc 7 _ rfl
      have g8 : W1.cell? ⟨b, off + k * 13 + 8, none⟩ = some (.int .i64 vk) := hc 8 _ rfl
      have g9 : W1.cell? ⟨b, off + k * 13 + 9, none⟩ = some (.int .i64 vi) := hc 9 _ rfl
      have g10 : W1.cell? ⟨b, off + k * 13 + 10, none⟩ = some (.int .i64 vt) := hc 10 _ rfl
      have g11 : W1.cell? ⟨b, off + k * 13 + 11, none⟩ = some (.string vs) := hc 11 _ rfl
      have g12 : W1.cell? ⟨b, off + k * 13 + 12, none⟩ = some (.slice Av nv cv) := hc 12 _ rfl
      have j0 : (0 : Int) ≤ (k : Int) := by omega
      have j1 : (k : Int) < (d : Int) := by omega
      obtain ⟨wa, hwa⟩ : ∃ wa, wa = W1.alloc (.cells #[.int .i64 ok, .int .i64 oi, .int .i64 op, .int .i64 oa, .int .i64 of, .int .i64 ot, .string ox, .string on, .int .i64 vk, .int .i64 vi, .int .i64 vt, .string vs, .slice Av nv cv] 31) := ⟨_, rfl⟩
      have hal : Below W1.heap.size W1 wa := by rw [hwa]; exact (Below.refl _ _).alloc (Nat.le_refl _) _
      have P0 : Hid (Blk wa W1.heap.size 31 #[.int .i64 ok, .int .i64 oi, .int .i64 op, .int .i64 oa, .int .i64 of, .int .i64 ot, .string ox, .string on, .int .i64 vk, .int .i64 vi, .int .i64 vt, .string vs, .slice Av nv cv]) := by rw [hwa]; exact Blk.new _ _ _
      have HBA : Hid (Below w0.heap.size w0 wa) := hb.out.trans (hal.mono hz0')
      have HOA := Lib.hid (OutN.below NO_ok hout.out hal)
      have HCP := Lib.hid (copyOp_any ⟨ok, oi, op, oa, of, ot, ox, on, ⟨vk, vi, vt, vs, vl⟩⟩ Av nv cv wa wa.heap.size (Nat.le_refl _) ((HRV.out.below hal).more hal.size))
      unfold CopyOR at HCP
      dsimp only [AO, Vl.kind, Vl.int_, Vl.to_, Vl.text, Vl.items] at HCP
      have HWA := Lib.hid hwa
      clear hko hbb hc hrv hoo hwa hal
      go_upto_region 5 with fail
      rw [← HWA.out]
      clear g0 g1 g2 g3 g4 g5 g6 g7 g8 g9 g10 g11 g12
      have e0 := fun i => P0.out.cell i
      go_wp2_with fail
      refine HCP.out.mono ?_
      rintro e w2 ⟨⟨A2, n2, c2, rfl, hr2⟩, hb2⟩
      have HB2 : Hid (Below w0.heap.size w0 w2) := HBA.out.trans (hb2.mono HBA.out.size)
      have HO2 := Lib.hid (OutN.below NO_ok HOA.out hb2)
      have hob := own_block_lt HOA.out.own
      have HV2 : Hid (RVX w2 (fun b => b < w2.heap.size ∧ v.ownBlock ≠ some b) (.slice A2 n2 c2) vl) := hr2.weak fun b hb => ⟨hb.2, fun e => by have := (hob b e).2; omega⟩
      have hzw : w0.heap.size ≤ w2.heap.size := HB2.out.size
      have HRD : Hid (Reads (w2.alloc (.cells #[.int .i64 ok, .int .i64 oi, .int .i64 op, .int .i64 oa, .int .i64 of, .int .i64 ot, .string ox, .string on, .int .i64 vk, .int .i64 vi, .int .i64 vt, .string vs, .slice A2 n2 c2] 31)) (w2.heap.size + 1) 13 (some ⟨w2.heap.size, 0, none⟩) 1 [.int .i64 ok, .int .i64 oi, .int .i64 op, .int .i64 oa, .int .i64 of, .int .i64 ot, .string ox, .string on, .int .i64 vk, .int .i64 vi, .int .i64 vt, .string vs, .slice A2 n2 c2]) :=
        ⟨rfl, fun _ => ⟨_, rfl, by simp, row_new _ _ [.int .i64 ok, .int .i64 oi, .int .i64 op, .int .i64 oa, .int .i64 of, .int .i64 ot, .string ox, .string on, .int .i64 vk, .int .i64 vi, .int .i64 vt, .string vs, .slice A2 n2 c2] _ rfl⟩⟩
      have HO7 := Lib.hid (OutN.below NO_ok HO2.out ((Below.refl w2.heap.size w2).alloc (Nat.le_refl _) (.cells #[.int .i64 ok, .int .i64 oi, .int .i64 op, .int .i64 oa, .int .i64 of, .int .i64 ot, .string ox, .string on, .int .i64 vk, .int .i64 vi, .int .i64 vt, .string vs, .slice A2 n2 c2] 31)))
      have HM5 : Hid (M.length ≤ 5000) := hm5
      clear hr2 hb2 hob e0
      go_wp2_with (at_builtin; refine wpList_append_any _ rfl _ _ 23 rfl w0.heap.size 31 i0 opZ 13 144 Tryz.underlying23 hi hz0 hz1 hz2 rfl (by decide) v M.length _ rfl HO7.out.own (w2.heap.size + 1) (some ⟨w2.heap.size, 0, none⟩) 1 1 [.int .i64 ok, .int .i64 oi, .int .i64 op, .int .i64 oa, .int .i64 of, .int .i64 ot, .string ox, .string on, .int .i64 vk, .int .i64 vi, .int .i64 vt, .string vs, .slice A2 n2 c2] rfl HRD.out (opV_one (⟨ok, oi, op, oa, of, ot, ox, on, ⟨vk, vi, vt, vs, vl⟩⟩, .slice A2 n2 c2) ⟨_, _, _, rfl⟩) (by unfold maxLen; have := HM5.out; omega) (by have := HM5.out; omega) (by simp; omega) ?_; intro v7 w7 hown7 hg7 hat7)
      have HOF : Hid (OutO w7 w0.heap.size v7 (M ++ [((⟨ok, oi, op, oa, of, ot, ox, on, ⟨vk, vi, vt, vs, vl⟩⟩ : Opn), .slice A2 n2 c2)])) :=
        OutN.app NO_ok HO7.out (x := ((⟨ok, oi, op, oa, of, ot, ox, on, ⟨vk, vi, vt, vs, vl⟩⟩ : Opn), (Value.slice A2 n2 c2))) (S := fun b => b < w2.heap.size ∧ v.ownBlock ≠ some b) (HV2.out.keep fun p hp => World.cell?_alloc_lt _ _ _ hp.1) (fun b hb => ⟨Nat.lt_of_lt_of_le hb.1 (by simp), hb.2⟩) hown7 hg7 hat7
      have HB7 : Hid (Below w0.heap.size w0 w7) := (HB2.out.alloc hzw _).grown hg7 (by simp; omega) (fun g h => (own_block_lt HO7.out.own g h).1)
      clear hown7 hg7 hat7
      go_wp2_with fail
      go_roundg (d - (k + 1))
      case measure => omega
      case rel =>
        refine ⟨k + 1, v7, _, by omega, rfl, by go_num, ?_, ?_, HOF, HB7⟩
        · show _ = _
          rw [HLK.out, List.map_append, hM.out]; rfl
        · intro x hx
          rcases List.mem_append.1 hx with hx | hx
          · exact hoi.out x hx
          · obtain rfl : x = _ := List.mem_singleton.1 hx
            exact HOI.out
    · obtain rfl : k = d := by omega
      obtain ⟨Aq, cq, rfl, hros, hlq, hnone⟩ := hout.out.ros hoi.out (by have := hm5; omega)
      have hml2 : M.map Prod.fst = L := by rw [hM.out, HDL.out, List.take_length]
      rw [hml2] at hros
      have HR := Lib.hid hros
      have HCL := Lib.hid fun W => clipO_any Aq M.length cq W hlq hnone
      clear hros hml2 hnone
      go_wp2_with fail
      refine (HCL.out _).mono ?_
      rintro e w4 ⟨rfl, hw⟩
      rw [hw]
      clear hw
      go_wp2_with fail
      go_ret
      exact ⟨⟨Aq, _, _, rfl, HR.out⟩, HBW.out⟩
end Go.Proofs.YtmkicfjcgbfaaaaGreat
