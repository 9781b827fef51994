/-
  DERIVED. A base without error, another way to say it: each block but the root is among the kids of its parent. Plain law. Conditions: none.
  Operations on a base in plain words; a base without error stays one: insert, remove, edit, a property. Plain law. Conditions: none.
  The walks of slices.DeleteFunc and slices.IndexFunc at properties with prop.without's closure. Conditions: sizes.
  By an AI agent.
-/
import Derived.Test.YtmkicfjcgbfaaaaGreatTg17
import Derived.Test.YtmkicfjcgbfaaaaGreatTg12
import Derived.Test.YtmkicfjcgbfaaaaGreatTg13
namespace Go.Proofs.YtmkicfjcgbfaaaaGreat

theorem rise_iff {l : List Bl} : Rise l ↔ l.Pairwise (fun x y => x.id < y.id) := by
  rw [List.pairwise_iff_getElem]
  constructor
  · intro h i j hi hj hij
    exact h i j _ _ hij (List.getElem?_eq_getElem hi) (List.getElem?_eq_getElem hj)
  · intro h i j x y hij hx hy
    obtain ⟨hi, rfl⟩ := List.getElem?_eq_some_iff.1 hx
    obtain ⟨hj, rfl⟩ := List.getElem?_eq_some_iff.1 hy
    exact h i j hi hj hij

/-- a base without error; g says how deep its blocks are -/
structure Tree (l : List Bl) (g : Int → Nat) : Prop where
  rise : l.Pairwise (fun x y => x.id < y.id)
  ids : IdsIn l
  short : l.length ≤ 2000
  root : ∃ r r', l = r :: r' ∧ r.id = 0 ∧ r.parent = 0 ∧ r.text.toList = [] ∧ r.props = []
  loc : ∀ x ∈ l, txErr x.text = 0 ∧ x.kids.length ≤ 500 ∧ cpErr x.props = 0
  kid : ∀ b ∈ l, ∀ k ∈ b.kids, k ≠ 0 ∧ ∃ y ∈ l, y.id = k ∧ y.parent = b.id
  nod : ∀ b ∈ l, b.kids.Nodup
  par : ∀ x ∈ l, x.id ≠ 0 → ∃ b ∈ l, b.id = x.parent ∧ x.id ∈ b.kids ∧ g x.id = g b.id + 1
  zero : g 0 = 0
  deep : ∀ x ∈ l, g x.id ≤ 40
section
variable {l : List Bl} {g : Int → Nat} {f : Int → Option Int}
theorem Tree.kids (T : Tree l g) : Kids l where
  rise := rise_iff.2 T.rise
  ids := T.ids
  root := by
    obtain ⟨r, r', rfl, h1, h2, _⟩ := T.root
    exact ⟨r, rfl, h1, h2⟩
  kid := T.kid
  nod := T.nod
  short := T.short
  few b hb := (T.loc b hb).2.1
theorem Tree.dp (T : Tree l g) : ∀ (n : Nat) {x : Bl}, x ∈ l → g x.id = n → Dp l x.id n
  | 0, x, hx, h => by
    by_cases e : x.id = 0
    · rw [e]; exact .root
    · obtain ⟨b, _, _, _, h4⟩ := T.par x hx e
      omega
  | n + 1, x, hx, h => by
    by_cases e : x.id = 0
    · rw [e, T.zero] at h; omega
    · obtain ⟨b, hb, _, h3, h4⟩ := T.par x hx e
      exact .step b n _ (T.dp n hb (by omega)) hb h3
theorem Tree.good (T : Tree l g) (hf : IsDep l f) : Good l f where
  kids := T.kids
  dep := hf
  all x hx := ⟨g x.id, (hf _ _).2 ⟨_, rfl, T.dp _ hx rfl⟩, T.deep x hx⟩
  blk k x hk := by
    have hx := List.mem_of_getElem? hk
    obtain ⟨h1, h2, h3⟩ := T.loc x hx
    obtain ⟨r, r', hr, e1, e2, e3, e4⟩ := T.root
    unfold blkErr
    rcases k with _ | k
    · obtain rfl : r = x := by rw [hr] at hk; simpa using hk
      have q1 : rngB (prevB l 0) r = false := by show (r.id != 0) = false; rw [e1]; rfl
      have q2 : ordB (prevB l 0) r = false := rfl
      have q3 : rootB (prevB l 0) r = false := by
        show (!r.text.toList.isEmpty || decide (0 < r.props.length) || (r.parent != 0)) = false
        rw [e2, e3, e4]; rfl
      rw [q1, q2, q3, if_neg (by decide), if_neg (by decide), if_neg (by decide), if_neg (fun e => e h1), if_neg (by omega), h3]
    · have hkl := (List.getElem?_eq_some_iff.1 hk).1
      have hy := List.getElem?_eq_getElem (by omega : k < l.length)
      have hlt := rise_iff.2 T.rise k (k + 1) _ _ (Nat.lt_succ_self k) hy hk
      have hid := T.ids x hx
      have hid2 := T.ids _ (List.getElem_mem (by omega : k < l.length))
      rw [prevB_succ hy]
      have q1 : rngB (some l[k]) x = false := by
        show (decide (x.id < 1) || decide (1000000 < x.id)) = false
        rw [Bool.or_eq_false_iff, decide_eq_false_iff_not, decide_eq_false_iff_not]; omega
      have q2 : ordB (some l[k]) x = false := decide_eq_false (by omega)
      rw [q1, q2, if_neg (by decide), if_neg (by decide), if_neg (by simp [rootB]), if_neg (fun e => e h1), if_neg (by omega), h3]
theorem Good.tree (G : Good l f) : Tree l (fun id => ((f id).getD 0).toNat) where
  rise := rise_iff.1 G.kids.rise
  ids := G.kids.ids
  short := G.kids.short
  root := by
    obtain ⟨r, h1, h2, h3⟩ := G.kids.root
    obtain ⟨r', hr⟩ : ∃ r', l = r :: r' := by
      cases l with
      | nil => simp at h1
      | cons a l => obtain rfl : a = r := by simpa using h1
                    exact ⟨l, rfl⟩
    have := (blkErr_zero (G.blk 0 r h1)).2.2.1
    have e3 : (!r.text.toList.isEmpty || decide (0 < r.props.length) || (r.parent != 0)) = false := this
    rw [Bool.or_eq_false_iff, Bool.or_eq_false_iff] at e3
    refine ⟨r, r', hr, h2, h3, by simpa using e3.1.1, ?_⟩
    have := of_decide_eq_false e3.1.2
    exact List.eq_nil_of_length_eq_zero (by omega)
  loc x hx := by
    obtain ⟨k, hk, rfl⟩ := List.mem_iff_getElem.1 hx
    have := blkErr_zero (G.blk k _ (List.getElem?_eq_getElem hk))
    exact ⟨this.2.2.2.1, this.2.2.2.2.1, this.2.2.2.2.2⟩
  kid := G.kids.kid
  nod := G.kids.nod
  par x hx h0 := by
    obtain ⟨d, h1, h2, _⟩ := G.dp hx
    generalize hz : x.id = z at h1 h2 h0
    cases h2 with
    | root => exact absurd rfl h0
    | step b d' _ h hb hk =>
      obtain ⟨_, y, hy, e1, e2⟩ := G.kids.kid b hb z hk
      have e := G.kids.rise.inj hy hx (e1.trans hz.symm)
      subst e
      refine ⟨b, hb, e2.symm, hk, ?_⟩
      have := (G.dep _ _).2 ⟨d', rfl, h⟩
      simp only [h1, this, Option.getD_some]
      omega
  zero := by
    obtain ⟨r, h1, h2, _⟩ := G.kids.root
    have := (G.dep 0 0).2 ⟨0, rfl, .root⟩
    simp only [this, Option.getD_some]; rfl
  deep x hx := by
    obtain ⟨d, h1, h2⟩ := G.all x hx
    simp only [h1, Option.getD_some]; omega
theorem Tree.depth (T : Tree l g) (hf : IsDep l f) {x : Bl} (hx : x ∈ l) : f x.id = some (g x.id : Int) := (hf _ _).2 ⟨_, rfl, T.dp _ hx rfl⟩
theorem blks_of : ∀ (M : List Bl) (p : Option Bl), (∀ (k : Nat) (x : Bl), M[k]? = some x → blkErr (if k = 0 then p else M[k - 1]?) x = 0) → blksErr p M = 0
  | [], _, _ => by rw [blksErr]
  | x :: M, p, h => by
    have h0 := h 0 x rfl
    rw [if_pos rfl] at h0
    rw [blksErr, if_neg (fun e => e h0)]
    refine blks_of M (some x) fun k y hk => ?_
    have := h (k + 1) y (by simpa using hk)
    rw [if_neg (by omega), Nat.add_sub_cancel] at this
    rcases k with _ | k
    · exact this
    · rw [if_neg (by omega), Nat.add_sub_cancel]; simpa using this
theorem kids_none (l : List Bl) (bid : Int) : ∀ (kids seen : List Int), (∀ k ∈ kids, k ≠ 0 ∧ ∃ (p : Nat) (y : Bl), posOf l k = (p : Int) ∧ l[p]? = some y ∧ y.parent = bid) → kids.Nodup → (∀ k ∈ kids, k ∉ seen) → kidsE l bid seen kids = 0
  | [], _, _, _, _ => by rw [kidsE]
  | k :: r, seen, h, hn, hs => by
    obtain ⟨h0, p, y, h1, h2, h3⟩ := h k (by simp)
    have e : kidE l bid seen k = 0 := by
      unfold kidE
      rw [if_neg (by omega)]
      have e : parAt l (posOf l k) = y.parent := by unfold parAt; rw [h1, Int.toNat_natCast, h2]
      rw [e, h3, if_neg (by simpa using h0), if_neg (by simpa using hs k (by simp))]
    obtain ⟨n1, n2⟩ := List.nodup_cons.1 hn
    rw [kidsE, if_neg (fun q => q e)]
    refine kids_none l bid r _ (fun z hz => h z (by simp [hz])) n2 fun z hz hm => ?_
    rcases List.mem_append.1 hm with g | g
    · exact hs z (by simp [hz]) g
    · obtain rfl : z = k := by simpa using g
      exact n1 hz
theorem all_none (l : List Bl) : ∀ M : List Bl, (∀ b ∈ M, kidsE l b.id [] b.kids = 0) → allKids l M = 0
  | [], _ => by rw [allKids]
  | b :: M, h => by rw [allKids, if_neg (fun e => e (h b (by simp)))]; exact all_none l M fun x hx => h x (by simp [hx])
theorem lvl_none (f : Int → Option Int) : ∀ M : List Bl, (∀ x ∈ M, ∃ d : Nat, f x.id = some (d : Int) ∧ d ≤ 40) → lvlE f M = 0
  | [], _ => by rw [lvlE]
  | b :: M, h => by
    obtain ⟨d, h1, h2⟩ := h b (by simp)
    rw [lvlE, h1, if_neg (by simp), Option.getD_some, if_neg (by omega)]
    exact lvl_none f M fun x hx => h x (by simp [hx])
/-- a base without error has no error -/
theorem Good.clean (G : Good l f) : baseE l f = 0 := by
  unfold baseE
  obtain ⟨r, hr, _⟩ := G.kids.root
  have hl := (List.getElem?_eq_some_iff.1 hr).1
  have hb : blksErr none l = 0 := blks_of l none fun k x hx => by
    have := G.blk k x hx
    unfold prevB at this
    exact this
  rw [if_neg (by omega), if_neg (by have := G.kids.short; omega), if_neg (fun e => e hb)]
  have hk : allKids l l = 0 := all_none l l fun b hb => kids_none l b.id b.kids [] (fun k hk => by
    obtain ⟨h0, y, hy, e1, e2⟩ := G.kids.kid b hb k hk
    obtain ⟨p, hp, e⟩ := List.mem_iff_getElem.1 hy
    have h : l[p]? = some y := by rw [List.getElem?_eq_getElem hp, e]
    exact ⟨h0, p, y, by rw [← e1]; exact posOf_of G.kids.rise h, h, e2⟩) (G.kids.nod b hb) fun _ _ h => by cases h
  rw [if_neg (fun e => e hk)]
  exact lvl_none f l G.all
end
end Go.Proofs.YtmkicfjcgbfaaaaGreat
namespace Go.Proofs.YtmkicfjcgbfaaaaGreat

/-- blocks with an id, turned -/
def upd (l : List Bl) (p : Int) (h : Bl → Bl) : List Bl := l.map fun b => if b.id = p then h b else b
def Bl.withKids (b : Bl) (ks : List Int) : Bl := ⟨b.id, b.parent, ks, b.text, b.props⟩
def Bl.withPar (b : Bl) (p : Int) : Bl := ⟨b.id, p, b.kids, b.text, b.props⟩
def Bl.withText (b : Bl) (s : ByteArray) : Bl := ⟨b.id, b.parent, b.kids, s, b.props⟩
def Bl.withProps (b : Bl) (ps : List Pr) : Bl := ⟨b.id, b.parent, b.kids, b.text, ps⟩
/-- a list without a number -/
def lessK (l : List Int) (n : Int) : List Int := l.filter fun x => x != n
/-- a list with a number at a place -/
def plusK (l : List Int) (i : Nat) (n : Int) : List Int := l.take i ++ n :: l.drop i
/-- a block put in at its place -/
def insB (x : Bl) : List Bl → List Bl
  | [] => [x]
  | y :: l => if y.id < x.id then y :: insB x l else x :: y :: l
theorem insB_mem (x y : Bl) : ∀ l : List Bl, y ∈ insB x l ↔ y = x ∨ y ∈ l
  | [] => by simp [insB]
  | a :: l => by
    rw [insB]
    split
    · rw [List.mem_cons, insB_mem x y l, List.mem_cons]
      exact ⟨fun h => h.elim (fun h => .inr (.inl h)) (fun h => h.elim .inl fun h => .inr (.inr h)), fun h => h.elim (fun h => .inr (.inl h)) (fun h => h.elim .inl fun h => .inr (.inr h))⟩
    · rw [List.mem_cons]
theorem insB_len (x : Bl) : ∀ l : List Bl, (insB x l).length = l.length + 1
  | [] => rfl
  | a :: l => by
    rw [insB]
    split
    · rw [List.length_cons, insB_len x l, List.length_cons]
    · rfl
theorem insB_sorted (x : Bl) : ∀ l : List Bl, l.Pairwise (fun x y => x.id < y.id) → (∀ y ∈ l, y.id ≠ x.id) → (insB x l).Pairwise (fun x y => x.id < y.id)
  | [], _, _ => List.pairwise_singleton _ _
  | a :: l, h, hn => by
    obtain ⟨h1, h2⟩ := List.pairwise_cons.1 h
    have ha := hn a (by simp)
    rw [insB]
    split
    · rename_i hlt
      refine List.pairwise_cons.2 ⟨fun y hy => ?_, insB_sorted x l h2 fun y hy => hn y (by simp [hy])⟩
      rcases (insB_mem x y l).1 hy with rfl | hy
      · exact hlt
      · exact h1 y hy
    · rename_i hlt
      refine List.pairwise_cons.2 ⟨fun y hy => ?_, h⟩
      rcases List.mem_cons.1 hy with rfl | hy
      · omega
      · have := h1 y hy; omega
theorem upd_mem {l : List Bl} {p : Int} {h : Bl → Bl} {y : Bl} : y ∈ upd l p h ↔ ∃ b ∈ l, y = if b.id = p then h b else b := by
  unfold upd
  rw [List.mem_map]
  exact ⟨fun ⟨b, h1, h2⟩ => ⟨b, h1, h2.symm⟩, fun ⟨b, h1, h2⟩ => ⟨b, h1, h2.symm⟩⟩
theorem upd_len (l : List Bl) (p : Int) (h : Bl → Bl) : (upd l p h).length = l.length := List.length_map ..
theorem upd_sorted {l : List Bl} {p : Int} {h : Bl → Bl} (hh : ∀ b, (h b).id = b.id) (hs : l.Pairwise (fun x y => x.id < y.id)) : (upd l p h).Pairwise (fun x y => x.id < y.id) := by
  refine List.pairwise_map.2 (hs.imp fun {x y} hxy => ?_)
  have e : ∀ b : Bl, (if b.id = p then h b else b).id = b.id := fun b => by split; exact hh b; rfl
  rw [e, e]; exact hxy
theorem plus_mem (l : List Int) (i : Nat) (n k : Int) : k ∈ plusK l i n ↔ k = n ∨ k ∈ l := by
  unfold plusK
  rw [List.mem_append, List.mem_cons]
  conv => rhs; rw [← List.take_append_drop i l, List.mem_append]
  exact ⟨fun h => h.elim (fun h => .inr (.inl h)) (fun h => h.elim .inl fun h => .inr (.inr h)), fun h => h.elim (fun h => .inr (.inl h)) (fun h => h.elim .inl fun h => .inr (.inr h))⟩
theorem plus_len (l : List Int) (i : Nat) (n : Int) : (plusK l i n).length = l.length + 1 := by
  unfold plusK
  rw [List.length_append, List.length_cons]
  have := congrArg List.length (List.take_append_drop i l)
  rw [List.length_append] at this
  omega
theorem plus_nodup {l : List Int} {i : Nat} {n : Int} (h : l.Nodup) (hn : n ∉ l) : (plusK l i n).Nodup := by
  have h' := h
  rw [← List.take_append_drop i l] at h' hn
  rw [List.nodup_append] at h'
  rw [List.mem_append] at hn
  unfold plusK
  rw [List.nodup_append]
  refine ⟨h'.1, List.nodup_cons.2 ⟨fun e => hn (.inr e), h'.2.1⟩, fun a ha b hb e => ?_⟩
  rcases List.mem_cons.1 hb with rfl | hb
  · exact hn (.inl (e ▸ ha))
  · exact h'.2.2 a ha b hb e
theorem less_mem (l : List Int) (n k : Int) : k ∈ lessK l n ↔ k ∈ l ∧ k ≠ n := by
  unfold lessK; rw [List.mem_filter]; simp
theorem less_len (l : List Int) (n : Int) : (lessK l n).length ≤ l.length := List.length_filter_le _ _
theorem less_nodup {l : List Int} (h : l.Nodup) (n : Int) : (lessK l n).Nodup := h.sublist List.filter_sublist
theorem less_same {l : List Int} {n : Int} (h : n ∉ l) : lessK l n = l := List.filter_eq_self.2 fun x hx => by
  have : x ≠ n := fun e => h (e ▸ hx)
  simpa using this

section
variable {l : List Bl} {g : Int → Nat}
/-- a text or properties turned -/
theorem Tree.local_ (T : Tree l g) (id : Int) (hid : id ≠ 0) (h : Bl → Bl) (h1 : ∀ b, (h b).id = b.id ∧ (h b).parent = b.parent ∧ (h b).kids = b.kids) (h2 : ∀ b ∈ l, b.id = id → txErr (h b).text = 0 ∧ cpErr (h b).props = 0) : Tree (upd l id h) g := by
  have e : ∀ b : Bl, (if b.id = id then h b else b).id = b.id ∧ (if b.id = id then h b else b).parent = b.parent ∧ (if b.id = id then h b else b).kids = b.kids := fun b => by
    split
    · exact h1 b
    · exact ⟨rfl, rfl, rfl⟩
  refine ⟨upd_sorted (fun b => (h1 b).1) T.rise, fun x hx => ?_, by rw [upd_len]; exact T.short, ?_, fun x hx => ?_, fun c hc k hk => ?_, fun c hc => ?_, fun x hx h0 => ?_, T.zero, fun x hx => ?_⟩
  · obtain ⟨b, hb, rfl⟩ := upd_mem.1 hx
    rw [(e b).1]; exact T.ids b hb
  · obtain ⟨r, r', rfl, a1, a2, a3, a4⟩ := T.root
    exact ⟨r, upd r' id h, by unfold upd; rw [List.map_cons, if_neg (by omega)], a1, a2, a3, a4⟩
  · obtain ⟨b, hb, rfl⟩ := upd_mem.1 hx
    rw [(e b).2.2]
    obtain ⟨a1, a2, a3⟩ := T.loc b hb
    split
    · rename_i hbi
      exact ⟨(h2 b hb hbi).1, a2, (h2 b hb hbi).2⟩
    · exact ⟨a1, a2, a3⟩
  · obtain ⟨b, hb, rfl⟩ := upd_mem.1 hc
    rw [(e b).2.2] at hk
    obtain ⟨a1, y, hy, a2, a3⟩ := T.kid b hb k hk
    exact ⟨a1, _, upd_mem.2 ⟨y, hy, rfl⟩, by rw [(e y).1, a2], by rw [(e y).2.1, (e b).1, a3]⟩
  · obtain ⟨b, hb, rfl⟩ := upd_mem.1 hc
    rw [(e b).2.2]; exact T.nod b hb
  · obtain ⟨b, hb, rfl⟩ := upd_mem.1 hx
    rw [(e b).1] at h0 ⊢
    obtain ⟨c, hc, a1, a2, a3⟩ := T.par b hb h0
    exact ⟨_, upd_mem.2 ⟨c, hc, rfl⟩, by rw [(e c).1, (e b).2.1, a1], by rw [(e c).2.2]; exact a2, by rw [(e c).1]; exact a3⟩
  · obtain ⟨b, hb, rfl⟩ := upd_mem.1 hx
    rw [(e b).1]; exact T.deep b hb
theorem Tree.inj (T : Tree l g) {x y : Bl} (hx : x ∈ l) (hy : y ∈ l) (e : x.id = y.id) : x = y := T.kids.rise.inj hx hy e

/-- what putting a block in makes -/
def insL (l : List Bl) (id p : Int) (i : Nat) (s : ByteArray) : List Bl := insB ⟨id, p, [], s, []⟩ (upd l p fun b => b.withKids (plusK b.kids i id))
theorem Tree.insert (T : Tree l g) {id p : Int} {i : Nat} {s : ByteArray} {b : Bl} (hid : 1 ≤ id ∧ id ≤ 1000000) (hn : ∀ x ∈ l, x.id ≠ id) (hb : b ∈ l) (hbp : b.id = p) (hs : txErr s = 0) (hl : l.length < 2000) (hk : b.kids.length < 500) (hd : g p < 40) :
    Tree (insL l id p i s) (fun x => if x = id then g p + 1 else g x) := by
  have hin : ∀ x ∈ l, (if x.id = id then g p + 1 else g x.id) = g x.id := fun x hx => if_neg (hn x hx)
  have hup : ∀ c : Bl, (if c.id = p then c.withKids (plusK c.kids i id) else c).id = c.id ∧ (if c.id = p then c.withKids (plusK c.kids i id) else c).parent = c.parent ∧ (if c.id = p then c.withKids (plusK c.kids i id) else c).text = c.text ∧ (if c.id = p then c.withKids (plusK c.kids i id) else c).props = c.props := fun c => by
    split <;> exact ⟨rfl, rfl, rfl, rfl⟩
  have hfresh : ∀ c ∈ l, id ∉ c.kids := fun c hc hm => by
    obtain ⟨_, y, hy, e, _⟩ := T.kid c hc id hm
    exact hn y hy e
  have hmem : ∀ c, c ∈ insL l id p i s ↔ c = ⟨id, p, [], s, []⟩ ∨ ∃ b ∈ l, c = if b.id = p then b.withKids (plusK b.kids i id) else b := fun c => by
    unfold insL
    rw [insB_mem, upd_mem]
  refine ⟨?_, fun x hx => ?_, ?_, ?_, fun x hx => ?_, fun e he k hk => ?_, fun e he => ?_, fun x hx h0 => ?_, ?_, fun x hx => ?_⟩
  · refine insB_sorted _ _ (upd_sorted (fun _ => rfl) T.rise) fun y hy => ?_
    obtain ⟨c, hc, rfl⟩ := upd_mem.1 hy
    rw [(hup c).1]; exact hn c hc
  · rcases (hmem x).1 hx with rfl | ⟨c, hc, rfl⟩
    · show 0 ≤ id ∧ id ≤ 1000000; omega
    · rw [(hup c).1]; exact T.ids c hc
  · unfold insL; rw [insB_len, upd_len]; omega
  · obtain ⟨r, r', rfl, a1, a2, a3, a4⟩ := T.root
    refine ⟨if r.id = p then r.withKids (plusK r.kids i id) else r, insB ⟨id, p, [], s, []⟩ (upd r' p fun b => b.withKids (plusK b.kids i id)), ?_, by rw [(hup r).1, a1], by rw [(hup r).2.1, a2], by rw [(hup r).2.2.1, a3], by rw [(hup r).2.2.2, a4]⟩
    unfold insL upd
    rw [List.map_cons, insB, if_pos (by rw [(hup r).1, a1]; show (0 : Int) < id; omega)]
  · rcases (hmem x).1 hx with rfl | ⟨c, hc, rfl⟩
    · exact ⟨hs, by simp, rfl⟩
    · obtain ⟨a1, a2, a3⟩ := T.loc c hc
      rw [(hup c).2.2.1, (hup c).2.2.2]
      refine ⟨a1, ?_, a3⟩
      split
      · rename_i e
        obtain rfl : c = b := T.inj hc hb (e.trans hbp.symm)
        show (plusK c.kids i id).length ≤ 500
        rw [plus_len]; omega
      · exact a2
  · rcases (hmem e).1 he with rfl | ⟨c, hc, rfl⟩
    · cases hk
    · rw [(hup c).1]
      have old : k ∈ c.kids → k ≠ 0 ∧ ∃ y ∈ insL l id p i s, y.id = k ∧ y.parent = c.id := fun hk => by
        obtain ⟨a1, y, hy, a2, a3⟩ := T.kid c hc k hk
        exact ⟨a1, _, (hmem _).2 (.inr ⟨y, hy, rfl⟩), by rw [(hup y).1, a2], by rw [(hup y).2.1, a3]⟩
      by_cases e : c.id = p
      · rw [if_pos e] at hk
        rcases (plus_mem _ _ _ _).1 hk with rfl | hk'
        · exact ⟨by omega, _, (hmem _).2 (.inl rfl), rfl, e.symm⟩
        · exact old hk'
      · rw [if_neg e] at hk
        exact old hk
  · rcases (hmem e).1 he with rfl | ⟨c, hc, rfl⟩
    · exact List.nodup_nil
    · split
      · exact plus_nodup (T.nod c hc) (hfresh c hc)
      · exact T.nod c hc
  · rcases (hmem x).1 hx with rfl | ⟨c, hc, rfl⟩
    · refine ⟨_, (hmem _).2 (.inr ⟨b, hb, rfl⟩), by rw [(hup b).1]; exact hbp, ?_, ?_⟩
      · rw [if_pos hbp]; exact (plus_mem _ _ _ _).2 (.inl rfl)
      · rw [(hup b).1]
        show (if id = id then g p + 1 else g id) = (if b.id = id then g p + 1 else g b.id) + 1
        rw [if_pos rfl, hin b hb, hbp]
    · rw [(hup c).1] at h0 ⊢
      obtain ⟨d, hd', a1, a2, a3⟩ := T.par c hc h0
      refine ⟨_, (hmem _).2 (.inr ⟨d, hd', rfl⟩), by rw [(hup d).1, (hup c).2.1]; exact a1, ?_, ?_⟩
      · split
        · exact (plus_mem _ _ _ _).2 (.inr a2)
        · exact a2
      · rw [(hup d).1, hin c hc, hin d hd', a3]
  · rw [if_neg (by omega)]; exact T.zero
  · rcases (hmem x).1 hx with rfl | ⟨c, hc, rfl⟩
    · show (if id = id then g p + 1 else g id) ≤ 40
      rw [if_pos rfl]; omega
    · rw [(hup c).1, hin c hc]; exact T.deep c hc

/-- what taking a block out makes -/
def remL (l : List Bl) (id p : Int) : List Bl := (upd l p fun b => b.withKids (lessK b.kids id)).filter fun b => b.id != id
theorem Tree.remove (T : Tree l g) {x : Bl} (hx : x ∈ l) (h0 : x.id ≠ 0) (hk : x.kids = []) : Tree (remL l x.id x.parent) g := by
  have hup : ∀ c : Bl, (if c.id = x.parent then c.withKids (lessK c.kids x.id) else c).id = c.id ∧ (if c.id = x.parent then c.withKids (lessK c.kids x.id) else c).parent = c.parent ∧ (if c.id = x.parent then c.withKids (lessK c.kids x.id) else c).text = c.text ∧ (if c.id = x.parent then c.withKids (lessK c.kids x.id) else c).props = c.props := fun c => by
    split <;> exact ⟨rfl, rfl, rfl, rfl⟩
  have hks : ∀ c ∈ l, ∀ k, k ∈ (if c.id = x.parent then c.withKids (lessK c.kids x.id) else c).kids ↔ k ∈ c.kids ∧ k ≠ x.id := fun c hc k => by
    split
    · exact less_mem _ _ _
    · rename_i e
      refine ⟨fun h => ⟨h, fun ek => ?_⟩, fun h => h.1⟩
      subst ek
      obtain ⟨_, y, hy, e1, e2⟩ := T.kid c hc x.id h
      obtain rfl := T.inj hy hx e1
      exact e e2.symm
  have hmem : ∀ c, c ∈ remL l x.id x.parent ↔ ∃ b ∈ l, b.id ≠ x.id ∧ c = if b.id = x.parent then b.withKids (lessK b.kids x.id) else b := fun c => by
    unfold remL
    rw [List.mem_filter, upd_mem]
    constructor
    · rintro ⟨⟨b, hb, rfl⟩, h⟩
      rw [(hup b).1] at h
      exact ⟨b, hb, by simpa using h, rfl⟩
    · rintro ⟨b, hb, h, rfl⟩
      exact ⟨⟨b, hb, rfl⟩, by rw [(hup b).1]; simpa using h⟩
  refine ⟨?_, fun c hc => ?_, ?_, ?_, fun c hc => ?_, fun c hc k hk' => ?_, fun c hc => ?_, fun c hc hc0 => ?_, T.zero, fun c hc => ?_⟩
  · exact (upd_sorted (h := fun b => b.withKids (lessK b.kids x.id)) (fun _ => rfl) T.rise).sublist List.filter_sublist
  · obtain ⟨b, hb, _, rfl⟩ := (hmem c).1 hc
    rw [(hup b).1]; exact T.ids b hb
  · have h1 := T.short
    have h2 := upd_len l x.parent fun b => b.withKids (lessK b.kids x.id)
    have h3 : (remL l x.id x.parent).length ≤ (upd l x.parent fun b => b.withKids (lessK b.kids x.id)).length := List.length_filter_le _ _
    omega
  · obtain ⟨r, r', hl, a1, a2, a3, a4⟩ := T.root
    subst hl
    refine ⟨if r.id = x.parent then r.withKids (lessK r.kids x.id) else r, (upd r' x.parent fun b => b.withKids (lessK b.kids x.id)).filter fun b => b.id != x.id, ?_, by rw [(hup r).1, a1], by rw [(hup r).2.1, a2], by rw [(hup r).2.2.1, a3], by rw [(hup r).2.2.2, a4]⟩
    unfold remL upd
    rw [List.map_cons, List.filter_cons, if_pos (by rw [(hup r).1, a1]; simpa using fun e => h0 e.symm)]
  · obtain ⟨b, hb, _, rfl⟩ := (hmem c).1 hc
    obtain ⟨a1, a2, a3⟩ := T.loc b hb
    rw [(hup b).2.2.1, (hup b).2.2.2]
    refine ⟨a1, ?_, a3⟩
    split
    · exact Nat.le_trans (less_len _ _) a2
    · exact a2
  · obtain ⟨b, hb, hne, rfl⟩ := (hmem c).1 hc
    obtain ⟨hk1, hk2⟩ := (hks b hb k).1 hk'
    obtain ⟨a1, y, hy, a2, a3⟩ := T.kid b hb k hk1
    exact ⟨a1, _, (hmem _).2 ⟨y, hy, by omega, rfl⟩, by rw [(hup y).1, a2], by rw [(hup y).2.1, (hup b).1, a3]⟩
  · obtain ⟨b, hb, hne, rfl⟩ := (hmem c).1 hc
    split
    · exact less_nodup (T.nod b hb) _
    · exact T.nod b hb
  · obtain ⟨b, hb, hne, rfl⟩ := (hmem c).1 hc
    rw [(hup b).1] at hc0 ⊢
    obtain ⟨d, hd, a1, a2, a3⟩ := T.par b hb hc0
    have hdx : d.id ≠ x.id := fun e => by
      obtain rfl := T.inj hd hx e
      rw [hk] at a2; cases a2
    exact ⟨_, (hmem _).2 ⟨d, hd, hdx, rfl⟩, by rw [(hup d).1, (hup b).2.1, a1], (hks d hd _).2 ⟨a2, hne⟩, by rw [(hup d).1]; exact a3⟩
  · obtain ⟨b, hb, _, rfl⟩ := (hmem c).1 hc
    rw [(hup b).1]; exact T.deep b hb
end
end Go.Proofs.YtmkicfjcgbfaaaaGreat
namespace Go.Proofs.YtmkicfjcgbfaaaaGreat
open Go.RowKit

set_option maxHeartbeats 400000 in
theorem wo1_any (x : Pr) (u : Value) (P : Nat) (s : ByteArray) (w : World) (hP : P < w.heap.size) (hc : w.cell? ⟨P, 0, none⟩ = some (.string s)) :
    Calls Tryz.prog 190 #[AP (x, u), .pointer (some ⟨P, 0, none⟩)] w fun e w' => e = .returned (.bool (decide (x.name = s))) ∧ Below w.heap.size w w' := by
  rw [dec_toList]
  have hc' : ∀ o, (w.alloc o).cell? ⟨P, 0, none⟩ = some (.string s) := fun o => (World.cell?_alloc_lt _ _ _ hP).trans hc
  dsimp only [AP]
  go_enter Tryz.func190, Tryz.ntmps190
  go_wp2_with fail
  go_ret
  exact ⟨rfl, (Below.refl _ _).alloc (Nat.le_refl _) _⟩

set_option maxHeartbeats 2000000 in
theorem indexW_any (l : List Pr) (A : Option Addr) (n c P : Nat) (s : ByteArray) (w : World) (B : Nat) (hB : B ≤ w.heap.size) (hP : P < w.heap.size) (hPc : w.cell? ⟨P, 0, none⟩ = some (.string s)) (h : RPr w B (.slice A n c) l) :
    Calls Tryz.prog 166 #[.slice A n c, .func (.func 190) #[] #[.pointer (some ⟨P, 0, none⟩)]] w fun e w' => e = .returned (.int .i64 (nmOf l s)) ∧ Below w.heap.size w w' := by
  obtain ⟨V, hV⟩ : ∃ V, V = nmOf l s := ⟨_, rfl⟩
  rw [← hV]
  have HV : Hid (V = nmFrom (l.drop 0) s 0) := hV
  have HN := Lib.hid h.len
  have H := Lib.hid h
  have HPC := Lib.hid hPc
  clear h hV hPc
  go_enter Tryz.func166, Tryz.ntmps166
  go_wp2_with fail
  go_loopg [8] n (fun gg s8 wr => ∃ k : Nat, k + gg = n ∧ s8 = .int .i64 (k : Int) ∧ Hid (V = nmFrom (l.drop k) s k) ∧ Hid (Below w.heap.size w wr))
  case atStart => exact ⟨0, by omega, rfl, HV, Below.refl _ _⟩
  case round =>
    obtain ⟨k, hkg, rfl, hno, hbel⟩ := hrel
    have hbg : n * 80 ≤ 140737488351232 := HN.out.2.2
    by_cases hk : k < n
    · obtain ⟨x, hx⟩ : ∃ x, l[k]? = some x := ⟨_, List.getElem?_eq_getElem (by have := HN.out.1; omega)⟩
      obtain ⟨b, off, Av, nv, cv, rfl, hbb, g0, g1, g2, g3, g4, g5, _⟩ := (H.out.below (hbel.out.mono hB)).at_ hx
      have hst := hno.out.trans (nmFrom_at hx s)
      have HX := Lib.hid (wo1_any x (.slice Av nv cv) P s wr (Nat.lt_of_lt_of_le hP hbel.out.size) ((hbel.out.cell (p := ⟨P, 0, none⟩) hP).trans HPC.out))
      dsimp only [AP] at HX
      have j0 : (0 : Int) ≤ (k : Int) := by omega
      have j1 : (k : Int) < (n : Int) := by omega
      clear hx
      obtain ⟨q, hq⟩ : ∃ q, decide (x.name = s) = q := ⟨_, rfl⟩
      rw [hq] at HX
      cases q
      · have HS := Lib.hid (hst.trans (if_neg (of_decide_eq_false hq)))
        clear hst hq
        go_wp2_with fail
        refine HX.out.mono ?_
        rintro e w2 ⟨rfl, hb⟩
        have HB2 : Hid (Below w.heap.size w w2) := hbel.out.trans (hb.mono hbel.out.size)
        clear hb
        go_wp2_with fail
        go_roundg (n - (k + 1))
        case measure => omega
        case rel => exact ⟨k + 1, by omega, by go_num, HS, HB2⟩
      · have HS := Lib.hid (hst.trans (if_pos (of_decide_eq_true hq)))
        clear hst hq
        go_wp2_with fail
        refine HX.out.mono ?_
        rintro e w2 ⟨rfl, hb⟩
        have HB2 : Hid (Below w.heap.size w w2) := hbel.out.trans (hb.mono hbel.out.size)
        clear hb
        go_wp2_with fail
        go_ret
        exact ⟨by rw [HS.out]; rfl, HB2.out⟩
    · obtain rfl : n = k := by omega
      have HZ : Hid (V = -1) := hno.out.trans (by rw [List.drop_of_length_le (by rw [← HN.out.1]; exact Nat.le_refl _)]; rfl)
      go_wp2_with fail
      go_ret
      exact ⟨by rw [HZ.out]; rfl, hbel.out⟩

theorem nmFrom_first : ∀ (l : List Pr) (s : ByteArray) (k : Nat), (nmFrom l s k = -1 ∧ ∀ x ∈ l, x.name ≠ s) ∨ ∃ (i : Nat) (x : Pr), nmFrom l s k = ((k + i : Nat) : Int) ∧ l[i]? = some x ∧ x.name = s ∧ ∀ y ∈ l.take i, y.name ≠ s
  | [], _, _ => .inl ⟨by rw [nmFrom], by simp⟩
  | x :: l, s, k => by
    rw [nmFrom]
    by_cases h : x.name = s
    · rw [if_pos h]; exact .inr ⟨0, x, rfl, rfl, h, by simp⟩
    · rw [if_neg h]
      rcases nmFrom_first l s (k + 1) with ⟨h1, h2⟩ | ⟨i, y, h1, h2, h3, h4⟩
      · exact .inl ⟨h1, fun y hy => by
          rcases List.mem_cons.1 hy with rfl | hy
          · exact h
          · exact h2 y hy⟩
      · refine .inr ⟨i + 1, y, by rw [h1]; congr 1; omega, by simpa using h2, h3, fun z hz => ?_⟩
        rw [List.take_succ_cons] at hz
        rcases List.mem_cons.1 hz with rfl | hz
        · exact h
        · exact h4 z hz
/-- properties without a name -/
def keepP (M : List (Pr × Value)) (s : ByteArray) : List (Pr × Value) := M.filter fun x => !decide (x.1.name = s)
theorem keepP_all {M : List (Pr × Value)} {s : ByteArray} (h : ∀ x ∈ M, x.1.name ≠ s) : keepP M s = M := List.filter_eq_self.2 fun x hx => by simp [h x hx]
theorem keepP_add {M : List (Pr × Value)} {s : ByteArray} {j : Nat} {x : Pr × Value} (h : M[j]? = some x) : keepP (M.take (j + 1)) s = if x.1.name = s then keepP (M.take j) s else keepP (M.take j) s ++ [x] := by
  unfold keepP
  rw [List.take_add_one, h, List.filter_append]
  by_cases e : x.1.name = s
  · simp [e]
  · simp [e]
def CRp (W : World) (g : Nat) (Y : List (Pr × Value)) : Prop := ∀ k x, Y[k]? = some x → ∀ j u, (prV x)[j]? = some u → W.cell? ⟨g, k * 6 + j, none⟩ = some u
def FRp (W : World) (g cap : Nat) : Prop := ∃ cur, Blk W g 116 cur ∧ cap * 6 ≤ cur.size
theorem CRp.below {W W' : World} {B g : Nat} {Y : List (Pr × Value)} (h : CRp W g Y) (hb : Below B W W') (hg : g < B) : CRp W' g Y := fun k x hx j u hu => (hb.cell (p := ⟨g, k * 6 + j, none⟩) hg).trans (h k x hx j u hu)
theorem FRp.below {W W' : World} {B g n : Nat} (h : FRp W g n) (hb : Below B W W') (hg : g < B) : FRp W' g n := by
  obtain ⟨cur, h1, h2⟩ := h
  exact ⟨cur, h1.below hb hg, h2⟩
theorem FRp.lt {W : World} {g n : Nat} (h : FRp W g n) : g < W.heap.size := by
  obtain ⟨cur, h1, h2⟩ := h
  exact h1.lt
theorem FRp.setCells {W : World} {g n o : Nat} {vs : List Value} (h : FRp W g n) : FRp (W.setCells g o vs) g n := by
  obtain ⟨cur, h1, h2⟩ := h
  obtain ⟨cs', k1, k2, _⟩ := Blk.setCells vs o W _ h1
  exact ⟨cs', k1, by omega⟩
theorem CRp.put {W : World} {g cap i : Nat} {Y : List (Pr × Value)} (h : CRp W g Y) (hF : FRp W g cap) (hi : i < cap) (x : Pr × Value) : CRp (W.setCells g (i * 6) (prV x)) g (Y.set i x) := by
  obtain ⟨cur, h1, h2⟩ := hF
  intro k y hy j u hu
  have hj : j < 6 := by have := (List.getElem?_eq_some_iff.1 hu).1; rwa [prV_len] at this
  rw [List.getElem?_set] at hy
  by_cases hk : i = k
  · subst hk
    rw [if_pos rfl] at hy
    have hxy : x = y := by
      split at hy
      · injection hy
      · cases hy
    subst hxy
    obtain ⟨hjl, rfl⟩ := List.getElem?_eq_some_iff.1 hu
    have := World.cell?_setCells_in g (prV x) (i * 6) W (fun j hj => by
      rw [prV_len] at hj
      rw [h1.cell, Array.getElem?_eq_getElem (by omega)]; rfl) j hjl
    exact this
  · rw [if_neg hk] at hy
    rw [World.cell?_setCells_out g (prV x) (i * 6) W _ (fun _ _ => by
      rw [prV_len]
      show k * 6 + j < i * 6 ∨ i * 6 + 6 ≤ k * 6 + j
      omega)]
    exact h k y hy j u hu
theorem gb_below {w wr w2 : World} {r : Option Nat} (h : w.grownBy wr r) (hb : Below wr.heap.size wr w2) : w.grownBy w2 r :=
  ⟨hb.os.trans h.os, hb.tape.trans h.tape, hb.output.trans h.output, Nat.le_trans h.size hb.size, fun k hk hne => (hb.block k (Nat.lt_of_lt_of_le hk h.size)).trans (h.block k hk hne)⟩
theorem gb_setCells {w wr : World} {g : Nat} (h : w.grownBy wr (some g)) (o : Nat) (vs : List Value) : w.grownBy (wr.setCells g o vs) (some g) := by
  obtain ⟨r1, r2, r3⟩ := setCells_rest vs o g wr
  exact ⟨r1.trans h.os, r3.trans h.tape, r2.trans h.output, by rw [setCells_size]; exact h.size, fun k hk hne => (setCells_other vs o g k wr fun e => hne (by rw [e])).trans (h.block k hk hne)⟩
theorem gb_base {w wr : World} {g base : Nat} (h : w.grownBy wr (some g)) (hg : base ≤ g) (hb : base ≤ w.heap.size) : Below base w wr :=
  ⟨h.os, h.tape, h.output, h.size, fun k hk => h.block k (by omega) (fun e => by injection e with e; omega)⟩
theorem prs_cells : ∀ Y : List (Pr × Value), (Y.flatMap prV).length = Y.length * 6
  | [] => rfl
  | x :: Y => by rw [List.flatMap_cons, List.length_append, prs_cells Y, prV_len, List.length_cons]; omega
theorem CRp.take {W : World} {g : Nat} {Y : List (Pr × Value)} {cur : Array Value} (h : CRp W g Y) (hb : Blk W g 116 cur) (_hs : Y.length * 6 ≤ cur.size) : cur.toList.take (Y.length * 6) = Y.flatMap prV := by
  have hl : (Y.flatMap prV).length = Y.length * 6 := prs_cells Y
  apply List.ext_getElem?
  intro m
  by_cases hm : m < Y.length * 6
  · rw [List.getElem?_take, if_pos hm]
    obtain ⟨x, hx⟩ : ∃ x, Y[m / 6]? = some x := ⟨_, List.getElem?_eq_getElem (by omega)⟩
    have h4 := fm_get prV 6 prV_len Y (m / 6) (m % 6) x hx (by omega)
    obtain ⟨u, hu⟩ : ∃ u, (prV x)[m % 6]? = some u := ⟨_, List.getElem?_eq_getElem (by rw [prV_len]; omega)⟩
    have := h _ x hx _ u hu
    rw [hb.cell] at this
    rw [show m / 6 * 6 + m % 6 = m by omega] at h4 this
    rw [h4, hu, ← this]; simp
  · rw [List.getElem?_take, if_neg hm, List.getElem?_eq_none (by omega)]
theorem clearP_run (W : World) (g i n cap : Nat) (cur : Array Value) (h1 : Blk W g 116 cur) (h2 : n * 6 ≤ cur.size) (hi : i < n) (ty : TypeId) :
    (Builtin.clear_ #[36] ty #[.slice (some ⟨g, i * 6, none⟩) (n - i) cap]).run Tryz.prog W = .ok (.tuple #[]) (W.setCells g (i * 6) (Builtin.zeroCells pZ.cells (n - i)).toList) := by
  have hv : ∀ w, (zeroValue 116).run Tryz.prog w = .ok pZ w := fun w => by
    obtain ⟨i0, hi0, hz0, hz1, hz2⟩ := info_parts prop_info
    simp [zeroValue, typeInfo, hi0, hz0]
  have hl : (Builtin.zeroCells pZ.cells (n - i)).toList.length = (n - i) * 6 := by
    simp [Builtin.zeroCells, pZ, Value.cells]
  have hst := run_storeCells_cells (P := Tryz.prog) g (i * 6) (Builtin.zeroCells pZ.cells (n - i)).toList 0 W
    (fun j hj => by
      rw [hl] at hj
      rw [h1.cell, Array.getElem?_eq_getElem (by omega)]; rfl)
    (fun j _ => h1.frozen _)
    (fun v hv => by
      simp only [Builtin.zeroCells, Array.toList_map, List.mem_map] at hv
      obtain ⟨q, _, rfl⟩ := hv
      have hq : q % pZ.cells.size = 0 ∨ q % pZ.cells.size = 1 ∨ q % pZ.cells.size = 2 ∨ q % pZ.cells.size = 3 ∨ q % pZ.cells.size = 4 ∨ q % pZ.cells.size = 5 := by
        show q % 6 = 0 ∨ q % 6 = 1 ∨ q % 6 = 2 ∨ q % 6 = 3 ∨ q % 6 = 4 ∨ q % 6 = 5
        omega
      rcases hq with e | e | e | e | e | e <;> rw [e] <;> rfl)
  simp only [Nat.add_zero] at hst
  obtain ⟨m, hm⟩ : ∃ m, n - i = m + 1 := ⟨n - i - 1, by omega⟩
  rw [hm] at hst ⊢
  simp [Builtin.clear_, run_underlying Tryz.underlying36, hv, hst]
end Go.Proofs.YtmkicfjcgbfaaaaGreat
