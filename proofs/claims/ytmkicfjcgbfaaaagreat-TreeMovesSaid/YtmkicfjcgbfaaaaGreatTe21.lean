/-
  DERIVED. Operations on a base in plain words; a base without error stays one: insert, remove, edit, a property. Plain law. Conditions: none.
  Operations on a base in plain words; a base without error stays one: a block moved. Plain law. Conditions: none.
  The walk of tree.attach on a base that is turned in place. Conditions: sizes; ids that rise.
  By an AI agent.
-/
import Derived.Test.YtmkicfjcgbfaaaaGreatTe17
import Derived.Test.YtmkicfjcgbfaaaaGreatTe12
import Derived.Test.YtmkicfjcgbfaaaaGreatTe11
import Derived.Test.YtmkicfjcgbfaaaaGreatTe06
import Derived.Test.YtmkicfjcgbfaaaaGreatTe14
namespace Go.Proofs.YtmkicfjcgbfaaaaGreat

/-- blocks with an id, turned -/
def upd (l : List Bl) (p : Int) (h : Bl → Bl) : List Bl := l.map fun b => if b.id = p then h b else b
def Bl.withKids (b : Bl) (ks : List Int) : Bl := ⟨b.id, b.parent, ks, b.text, b.props⟩
def Bl.withPar (b : Bl) (p : Int) : Bl := ⟨b.id, p, b.kids, b.text, b.props⟩
def Bl.withText (b : Bl) (s : ByteArray) : Bl := ⟨b.id, b.parent, b.kids, s, b.props⟩
def Bl.withProps (b : Bl) (ps : List Pr) : Bl := ⟨b.id, b.parent, b.kids, b.text, ps⟩
/-- a list without a number -/
def lessK (l : List Int) (n : Int) : List Int := l.filter fun x => x != n
/-- a list with a number at a place -/
def plusK (l : List Int) (i : Nat) (n : Int) : List Int := l.take i ++ n :: l.drop i
/-- a block put in at its place -/
def insB (x : Bl) : List Bl → List Bl
  | [] => [x]
  | y :: l => if y.id < x.id then y :: insB x l else x :: y :: l
theorem insB_mem (x y : Bl) : ∀ l : List Bl, y ∈ insB x l ↔ y = x ∨ y ∈ l
  | [] => by simp [insB]
  | a :: l => by
    rw [insB]
    split
    · rw [List.mem_cons, insB_mem x y l, List.mem_cons]
      exact ⟨fun h => h.elim (fun h => .inr (.inl h)) (fun h => h.elim .inl fun h => .inr (.inr h)), fun h => h.elim (fun h => .inr (.inl h)) (fun h => h.elim .inl fun h => .inr (.inr h))⟩
    · rw [List.mem_cons]
theorem insB_len (x : Bl) : ∀ l : List Bl, (insB x l).length = l.length + 1
  | [] => rfl
  | a :: l => by
    rw [insB]
    split
    · rw [List.length_cons, insB_len x l, List.length_cons]
    · rfl
theorem insB_sorted (x : Bl) : ∀ l : List Bl, l.Pairwise (fun x y => x.id < y.id) → (∀ y ∈ l, y.id ≠ x.id) → (insB x l).Pairwise (fun x y => x.id < y.id)
  | [], _, _ => List.pairwise_singleton _ _
  | a :: l, h, hn => by
    obtain ⟨h1, h2⟩ := List.pairwise_cons.1 h
    have ha := hn a (by simp)
    rw [insB]
    split
    · rename_i hlt
      refine List.pairwise_cons.2 ⟨fun y hy => ?_, insB_sorted x l h2 fun y hy => hn y (by simp [hy])⟩
      rcases (insB_mem x y l).1 hy with rfl | hy
      · exact hlt
      · exact h1 y hy
    · rename_i hlt
      refine List.pairwise_cons.2 ⟨fun y hy => ?_, h⟩
      rcases List.mem_cons.1 hy with rfl | hy
      · omega
      · have := h1 y hy; omega
theorem upd_mem {l : List Bl} {p : Int} {h : Bl → Bl} {y : Bl} : y ∈ upd l p h ↔ ∃ b ∈ l, y = if b.id = p then h b else b := by
  unfold upd
  rw [List.mem_map]
  exact ⟨fun ⟨b, h1, h2⟩ => ⟨b, h1, h2.symm⟩, fun ⟨b, h1, h2⟩ => ⟨b, h1, h2.symm⟩⟩
theorem upd_len (l : List Bl) (p : Int) (h : Bl → Bl) : (upd l p h).length = l.length := List.length_map ..
theorem upd_sorted {l : List Bl} {p : Int} {h : Bl → Bl} (hh : ∀ b, (h b).id = b.id) (hs : l.Pairwise (fun x y => x.id < y.id)) : (upd l p h).Pairwise (fun x y => x.id < y.id) := by
  refine List.pairwise_map.2 (hs.imp fun {x y} hxy => ?_)
  have e : ∀ b : Bl, (if b.id = p then h b else b).id = b.id := fun b => by split; exact hh b; rfl
  rw [e, e]; exact hxy
theorem plus_mem (l : List Int) (i : Nat) (n k : Int) : k ∈ plusK l i n ↔ k = n ∨ k ∈ l := by
  unfold plusK
  rw [List.mem_append, List.mem_cons]
  conv => rhs; rw [← List.take_append_drop i l, List.mem_append]
  exact ⟨fun h => h.elim (fun h => .inr (.inl h)) (fun h => h.elim .inl fun h => .inr (.inr h)), fun h => h.elim (fun h => .inr (.inl h)) (fun h => h.elim .inl fun h => .inr (.inr h))⟩
theorem plus_len (l : List Int) (i : Nat) (n : Int) : (plusK l i n).length = l.length + 1 := by
  unfold plusK
  rw [List.length_append, List.length_cons]
  have := congrArg List.length (List.take_append_drop i l)
  rw [List.length_append] at this
  omega
theorem plus_nodup {l : List Int} {i : Nat} {n : Int} (h : l.Nodup) (hn : n ∉ l) : (plusK l i n).Nodup := by
  have h' := h
  rw [← List.take_append_drop i l] at h' hn
  rw [List.nodup_append] at h'
  rw [List.mem_append] at hn
  unfold plusK
  rw [List.nodup_append]
  refine ⟨h'.1, List.nodup_cons.2 ⟨fun e => hn (.inr e), h'.2.1⟩, fun a ha b hb e => ?_⟩
  rcases List.mem_cons.1 hb with rfl | hb
  · exact hn (.inl (e ▸ ha))
  · exact h'.2.2 a ha b hb e
theorem less_mem (l : List Int) (n k : Int) : k ∈ lessK l n ↔ k ∈ l ∧ k ≠ n := by
  unfold lessK; rw [List.mem_filter]; simp
theorem less_len (l : List Int) (n : Int) : (lessK l n).length ≤ l.length := List.length_filter_le _ _
theorem less_nodup {l : List Int} (h : l.Nodup) (n : Int) : (lessK l n).Nodup := h.sublist List.filter_sublist
theorem less_same {l : List Int} {n : Int} (h : n ∉ l) : lessK l n = l := List.filter_eq_self.2 fun x hx => by
  have : x ≠ n := fun e => h (e ▸ hx)
  simpa using this

section
variable {l : List Bl} {g : Int → Nat}
/-- a text or properties turned -/
theorem Tree.local_ (T : Tree l g) (id : Int) (hid : id ≠ 0) (h : Bl → Bl) (h1 : ∀ b, (h b).id = b.id ∧ (h b).parent = b.parent ∧ (h b).kids = b.kids) (h2 : ∀ b ∈ l, b.id = id → txErr (h b).text = 0 ∧ cpErr (h b).props = 0) : Tree (upd l id h) g := by
  have e : ∀ b : Bl, (if b.id = id then h b else b).id = b.id ∧ (if b.id = id then h b else b).parent = b.parent ∧ (if b.id = id then h b else b).kids = b.kids := fun b => by
    split
    · exact h1 b
    · exact ⟨rfl, rfl, rfl⟩
  refine ⟨upd_sorted (fun b => (h1 b).1) T.rise, fun x hx => ?_, by rw [upd_len]; exact T.short, ?_, fun x hx => ?_, fun c hc k hk => ?_, fun c hc => ?_, fun x hx h0 => ?_, T.zero, fun x hx => ?_⟩
  · obtain ⟨b, hb, rfl⟩ := upd_mem.1 hx
    rw [(e b).1]; exact T.ids b hb
  · obtain ⟨r, r', rfl, a1, a2, a3, a4⟩ := T.root
    exact ⟨r, upd r' id h, by unfold upd; rw [List.map_cons, if_neg (by omega)], a1, a2, a3, a4⟩
  · obtain ⟨b, hb, rfl⟩ := upd_mem.1 hx
    rw [(e b).2.2]
    obtain ⟨a1, a2, a3⟩ := T.loc b hb
    split
    · rename_i hbi
      exact ⟨(h2 b hb hbi).1, a2, (h2 b hb hbi).2⟩
    · exact ⟨a1, a2, a3⟩
  · obtain ⟨b, hb, rfl⟩ := upd_mem.1 hc
    rw [(e b).2.2] at hk
    obtain ⟨a1, y, hy, a2, a3⟩ := T.kid b hb k hk
    exact ⟨a1, _, upd_mem.2 ⟨y, hy, rfl⟩, by rw [(e y).1, a2], by rw [(e y).2.1, (e b).1, a3]⟩
  · obtain ⟨b, hb, rfl⟩ := upd_mem.1 hc
    rw [(e b).2.2]; exact T.nod b hb
  · obtain ⟨b, hb, rfl⟩ := upd_mem.1 hx
    rw [(e b).1] at h0 ⊢
    obtain ⟨c, hc, a1, a2, a3⟩ := T.par b hb h0
    exact ⟨_, upd_mem.2 ⟨c, hc, rfl⟩, by rw [(e c).1, (e b).2.1, a1], by rw [(e c).2.2]; exact a2, by rw [(e c).1]; exact a3⟩
  · obtain ⟨b, hb, rfl⟩ := upd_mem.1 hx
    rw [(e b).1]; exact T.deep b hb
theorem Tree.inj (T : Tree l g) {x y : Bl} (hx : x ∈ l) (hy : y ∈ l) (e : x.id = y.id) : x = y := T.kids.rise.inj hx hy e

/-- what putting a block in makes -/
def insL (l : List Bl) (id p : Int) (i : Nat) (s : ByteArray) : List Bl := insB ⟨id, p, [], s, []⟩ (upd l p fun b => b.withKids (plusK b.kids i id))
theorem Tree.insert (T : Tree l g) {id p : Int} {i : Nat} {s : ByteArray} {b : Bl} (hid : 1 ≤ id ∧ id ≤ 1000000) (hn : ∀ x ∈ l, x.id ≠ id) (hb : b ∈ l) (hbp : b.id = p) (hs : txErr s = 0) (hl : l.length < 2000) (hk : b.kids.length < 500) (hd : g p < 40) :
    Tree (insL l id p i s) (fun x => if x = id then g p + 1 else g x) := by
  have hin : ∀ x ∈ l, (if x.id = id then g p + 1 else g x.id) = g x.id := fun x hx => if_neg (hn x hx)
  have hup : ∀ c : Bl, (if c.id = p then c.withKids (plusK c.kids i id) else c).id = c.id ∧ (if c.id = p then c.withKids (plusK c.kids i id) else c).parent = c.parent ∧ (if c.id = p then c.withKids (plusK c.kids i id) else c).text = c.text ∧ (if c.id = p then c.withKids (plusK c.kids i id) else c).props = c.props := fun c => by
    split <;> exact ⟨rfl, rfl, rfl, rfl⟩
  have hfresh : ∀ c ∈ l, id ∉ c.kids := fun c hc hm => by
    obtain ⟨_, y, hy, e, _⟩ := T.kid c hc id hm
    exact hn y hy e
  have hmem : ∀ c, c ∈ insL l id p i s ↔ c = ⟨id, p, [], s, []⟩ ∨ ∃ b ∈ l, c = if b.id = p then b.withKids (plusK b.kids i id) else b := fun c => by
    unfold insL
    rw [insB_mem, upd_mem]
  refine ⟨?_, fun x hx => ?_, ?_, ?_, fun x hx => ?_, fun e he k hk => ?_, fun e he => ?_, fun x hx h0 => ?_, ?_, fun x hx => ?_⟩
  · refine insB_sorted _ _ (upd_sorted (fun _ => rfl) T.rise) fun y hy => ?_
    obtain ⟨c, hc, rfl⟩ := upd_mem.1 hy
    rw [(hup c).1]; exact hn c hc
  · rcases (hmem x).1 hx with rfl | ⟨c, hc, rfl⟩
    · show 0 ≤ id ∧ id ≤ 1000000; omega
    · rw [(hup c).1]; exact T.ids c hc
  · unfold insL; rw [insB_len, upd_len]; omega
  · obtain ⟨r, r', rfl, a1, a2, a3, a4⟩ := T.root
    refine ⟨if r.id = p then r.withKids (plusK r.kids i id) else r, insB ⟨id, p, [], s, []⟩ (upd r' p fun b => b.withKids (plusK b.kids i id)), ?_, by rw [(hup r).1, a1], by rw [(hup r).2.1, a2], by rw [(hup r).2.2.1, a3], by rw [(hup r).2.2.2, a4]⟩
    unfold insL upd
    rw [List.map_cons, insB, if_pos (by rw [(hup r).1, a1]; show (0 : Int) < id; omega)]
  · rcases (hmem x).1 hx with rfl | ⟨c, hc, rfl⟩
    · exact ⟨hs, by simp, rfl⟩
    · obtain ⟨a1, a2, a3⟩ := T.loc c hc
      rw [(hup c).2.2.1, (hup c).2.2.2]
      refine ⟨a1, ?_, a3⟩
      split
      · rename_i e
        obtain rfl : c = b := T.inj hc hb (e.trans hbp.symm)
        show (plusK c.kids i id).length ≤ 500
        rw [plus_len]; omega
      · exact a2
  · rcases (hmem e).1 he with rfl | ⟨c, hc, rfl⟩
    · cases hk
    · rw [(hup c).1]
      have old : k ∈ c.kids → k ≠ 0 ∧ ∃ y ∈ insL l id p i s, y.id = k ∧ y.parent = c.id := fun hk => by
        obtain ⟨a1, y, hy, a2, a3⟩ := T.kid c hc k hk
        exact ⟨a1, _, (hmem _).2 (.inr ⟨y, hy, rfl⟩), by rw [(hup y).1, a2], by rw [(hup y).2.1, a3]⟩
      by_cases e : c.id = p
      · rw [if_pos e] at hk
        rcases (plus_mem _ _ _ _).1 hk with rfl | hk'
        · exact ⟨by omega, _, (hmem _).2 (.inl rfl), rfl, e.symm⟩
        · exact old hk'
      · rw [if_neg e] at hk
        exact old hk
  · rcases (hmem e).1 he with rfl | ⟨c, hc, rfl⟩
    · exact List.nodup_nil
    · split
      · exact plus_nodup (T.nod c hc) (hfresh c hc)
      · exact T.nod c hc
  · rcases (hmem x).1 hx with rfl | ⟨c, hc, rfl⟩
    · refine ⟨_, (hmem _).2 (.inr ⟨b, hb, rfl⟩), by rw [(hup b).1]; exact hbp, ?_, ?_⟩
      · rw [if_pos hbp]; exact (plus_mem _ _ _ _).2 (.inl rfl)
      · rw [(hup b).1]
        show (if id = id then g p + 1 else g id) = (if b.id = id then g p + 1 else g b.id) + 1
        rw [if_pos rfl, hin b hb, hbp]
    · rw [(hup c).1] at h0 ⊢
      obtain ⟨d, hd', a1, a2, a3⟩ := T.par c hc h0
      refine ⟨_, (hmem _).2 (.inr ⟨d, hd', rfl⟩), by rw [(hup d).1, (hup c).2.1]; exact a1, ?_, ?_⟩
      · split
        · exact (plus_mem _ _ _ _).2 (.inr a2)
        · exact a2
      · rw [(hup d).1, hin c hc, hin d hd', a3]
  · rw [if_neg (by omega)]; exact T.zero
  · rcases (hmem x).1 hx with rfl | ⟨c, hc, rfl⟩
    · show (if id = id then g p + 1 else g id) ≤ 40
      rw [if_pos rfl]; omega
    · rw [(hup c).1, hin c hc]; exact T.deep c hc

/-- what taking a block out makes -/
def remL (l : List Bl) (id p : Int) : List Bl := (upd l p fun b => b.withKids (lessK b.kids id)).filter fun b => b.id != id
theorem Tree.remove (T : Tree l g) {x : Bl} (hx : x ∈ l) (h0 : x.id ≠ 0) (hk : x.kids = []) : Tree (remL l x.id x.parent) g := by
  have hup : ∀ c : Bl, (if c.id = x.parent then c.withKids (lessK c.kids x.id) else c).id = c.id ∧ (if c.id = x.parent then c.withKids (lessK c.kids x.id) else c).parent = c.parent ∧ (if c.id = x.parent then c.withKids (lessK c.kids x.id) else c).text = c.text ∧ (if c.id = x.parent then c.withKids (lessK c.kids x.id) else c).props = c.props := fun c => by
    split <;> exact ⟨rfl, rfl, rfl, rfl⟩
  have hks : ∀ c ∈ l, ∀ k, k ∈ (if c.id = x.parent then c.withKids (lessK c.kids x.id) else c).kids ↔ k ∈ c.kids ∧ k ≠ x.id := fun c hc k => by
    split
    · exact less_mem _ _ _
    · rename_i e
      refine ⟨fun h => ⟨h, fun ek => ?_⟩, fun h => h.1⟩
      subst ek
      obtain ⟨_, y, hy, e1, e2⟩ := T.kid c hc x.id h
      obtain rfl := T.inj hy hx e1
      exact e e2.symm
  have hmem : ∀ c, c ∈ remL l x.id x.parent ↔ ∃ b ∈ l, b.id ≠ x.id ∧ c = if b.id = x.parent then b.withKids (lessK b.kids x.id) else b := fun c => by
    unfold remL
    rw [List.mem_filter, upd_mem]
    constructor
    · rintro ⟨⟨b, hb, rfl⟩, h⟩
      rw [(hup b).1] at h
      exact ⟨b, hb, by simpa using h, rfl⟩
    · rintro ⟨b, hb, h, rfl⟩
      exact ⟨⟨b, hb, rfl⟩, by rw [(hup b).1]; simpa using h⟩
  refine ⟨?_, fun c hc => ?_, ?_, ?_, fun c hc => ?_, fun c hc k hk' => ?_, fun c hc => ?_, fun c hc hc0 => ?_, T.zero, fun c hc => ?_⟩
  · exact (upd_sorted (h := fun b => b.withKids (lessK b.kids x.id)) (fun _ => rfl) T.rise).sublist List.filter_sublist
  · obtain ⟨b, hb, _, rfl⟩ := (hmem c).1 hc
    rw [(hup b).1]; exact T.ids b hb
  · have h1 := T.short
    have h2 := upd_len l x.parent fun b => b.withKids (lessK b.kids x.id)
    have h3 : (remL l x.id x.parent).length ≤ (upd l x.parent fun b => b.withKids (lessK b.kids x.id)).length := List.length_filter_le _ _
    omega
  · obtain ⟨r, r', hl, a1, a2, a3, a4⟩ := T.root
    subst hl
    refine ⟨if r.id = x.parent then r.withKids (lessK r.kids x.id) else r, (upd r' x.parent fun b => b.withKids (lessK b.kids x.id)).filter fun b => b.id != x.id, ?_, by rw [(hup r).1, a1], by rw [(hup r).2.1, a2], by rw [(hup r).2.2.1, a3], by rw [(hup r).2.2.2, a4]⟩
    unfold remL upd
    rw [List.map_cons, List.filter_cons, if_pos (by rw [(hup r).1, a1]; simpa using fun e => h0 e.symm)]
  · obtain ⟨b, hb, _, rfl⟩ := (hmem c).1 hc
    obtain ⟨a1, a2, a3⟩ := T.loc b hb
    rw [(hup b).2.2.1, (hup b).2.2.2]
    refine ⟨a1, ?_, a3⟩
    split
    · exact Nat.le_trans (less_len _ _) a2
    · exact a2
  · obtain ⟨b, hb, hne, rfl⟩ := (hmem c).1 hc
    obtain ⟨hk1, hk2⟩ := (hks b hb k).1 hk'
    obtain ⟨a1, y, hy, a2, a3⟩ := T.kid b hb k hk1
    exact ⟨a1, _, (hmem _).2 ⟨y, hy, by omega, rfl⟩, by rw [(hup y).1, a2], by rw [(hup y).2.1, (hup b).1, a3]⟩
  · obtain ⟨b, hb, hne, rfl⟩ := (hmem c).1 hc
    split
    · exact less_nodup (T.nod b hb) _
    · exact T.nod b hb
  · obtain ⟨b, hb, hne, rfl⟩ := (hmem c).1 hc
    rw [(hup b).1] at hc0 ⊢
    obtain ⟨d, hd, a1, a2, a3⟩ := T.par b hb hc0
    have hdx : d.id ≠ x.id := fun e => by
      obtain rfl := T.inj hd hx e
      rw [hk] at a2; cases a2
    exact ⟨_, (hmem _).2 ⟨d, hd, hdx, rfl⟩, by rw [(hup d).1, (hup b).2.1, a1], (hks d hd _).2 ⟨a2, hne⟩, by rw [(hup d).1]; exact a3⟩
  · obtain ⟨b, hb, _, rfl⟩ := (hmem c).1 hc
    rw [(hup b).1]; exact T.deep b hb
end
end Go.Proofs.YtmkicfjcgbfaaaaGreat
namespace Go.Proofs.YtmkicfjcgbfaaaaGreat

/-- how many levels a block has, with itself -/
def hgt (l : List Bl) : Nat → Int → Nat
  | 0, _ => 0
  | n + 1, id => match l[(posOf l id).toNat]? with
    | some b => (b.kids.map (hgt l n)).foldr max 0 + 1
    | none => 0
theorem hgt_at {l : List Bl} {id : Int} {p : Nat} {b : Bl} (hp : posOf l id = (p : Int)) (hb : l[p]? = some b) (n : Nat) : hgt l (n + 1) id = (b.kids.map (hgt l n)).foldr max 0 + 1 := by
  rw [hgt, hp, Int.toNat_natCast, hb]
theorem foldr_max {L : List Nat} {x : Nat} (h : x ∈ L) : x ≤ L.foldr max 0 := by
  induction L with
  | nil => cases h
  | cons a L ih =>
    rw [List.foldr_cons]
    rcases List.mem_cons.1 h with rfl | h
    · exact Nat.le_max_left _ _
    · exact Nat.le_trans (ih h) (Nat.le_max_right _ _)
section
variable {l : List Bl} {g : Int → Nat}
theorem Dp.ups (K : Kids l) : ∀ (j : Nat) {x : Int} {d : Nat}, Dp l x d → j ≤ d → Dp l (upN l j x) (d - j)
  | 0, x, d, h, _ => h
  | j + 1, x, d, h, hj => by
    obtain ⟨d', rfl⟩ : ∃ d', d = d' + 1 := ⟨d - 1, by omega⟩
    have := Dp.ups K j (h.up K).2 (by omega)
    rw [show d' + 1 - (j + 1) = d' - j by omega]
    exact this
/-- a block is among the kids of its parent -/
theorem Dp.kid (K : Kids l) {x : Int} {d : Nat} (h : Dp l x (d + 1)) : ∃ b ∈ l, b.id = parOf l x ∧ x ∈ b.kids := by
  generalize hn : d + 1 = n at h
  cases h with
  | root => omega
  | step b d' _ h hb hk => exact ⟨b, hb, (parOf_kid K hb hk).symm, hk⟩
theorem hgt_ge (K : Kids l) : ∀ (j : Nat) {x : Int} {d m : Nat}, Dp l x d → j ≤ d → j + 1 ≤ hgt l (j + 1 + m) (upN l j x)
  | 0, x, d, m, h, _ => by
    obtain ⟨p, b, h1, h2, _⟩ := h.blk K
    show 1 ≤ hgt l (0 + 1 + m) x
    rw [show 0 + 1 + m = m + 1 by omega, hgt_at h1 h2]
    omega
  | j + 1, x, d, m, h, hj => by
    have hy := Dp.ups K j h (by omega)
    obtain ⟨e, he⟩ : ∃ e, d - j = e + 1 := ⟨d - j - 1, by omega⟩
    rw [he] at hy
    obtain ⟨b, hb, hbi, hk⟩ := hy.kid K
    have hpar := (hy.up K).2
    obtain ⟨p, c, h1, h2, h3⟩ := hpar.blk K
    obtain rfl := K.rise.inj hb (List.mem_of_getElem? h2) (hbi.trans h3.symm)
    have ih := hgt_ge K j (m := m) h (by omega)
    rw [upN_succ, show j + 1 + 1 + m = (j + 1 + m) + 1 by omega, hgt_at h1 h2]
    have := foldr_max (L := b.kids.map (hgt l (j + 1 + m))) (List.mem_map.2 ⟨_, hk, rfl⟩)
    omega
/-- the numbers on the way to a block -/
theorem pth_mem : ∀ (d : Nat) (x y : Int), y ∈ pth l d x ↔ ∃ j, j < d ∧ upN l j x = y
  | 0, x, y => by simp [pth]
  | d + 1, x, y => by
    rw [pth, List.mem_append, pth_mem d]
    constructor
    · rintro (⟨j, hj, h⟩ | h)
      · exact ⟨j + 1, by omega, h⟩
      · exact ⟨0, by omega, (by simpa using h : y = x).symm⟩
    · rintro ⟨j, hj, h⟩
      rcases j with _ | j
      · exact .inr (by have : x = y := h; simp [this])
      · exact .inl ⟨j, by omega, h⟩

/-- what moving a block makes -/
def movB (id p : Int) (i : Nat) (b : Bl) : Bl := ⟨b.id, if b.id = id then p else b.parent, if b.id = p then plusK (lessK b.kids id) i id else lessK b.kids id, b.text, b.props⟩
def movL (l : List Bl) (id p : Int) (i : Nat) : List Bl := l.map (movB id p i)
theorem Tree.move (T : Tree l g) {x b : Bl} (hx : x ∈ l) (h0 : x.id ≠ 0) (hb : b ∈ l) (i : Nat) (hway : x.id ∉ pth l (g b.id) b.id) (hk : (lessK b.kids x.id).length < 500) (hd : g b.id + hgt l 41 x.id ≤ 40) : ∃ g', Tree (movL l x.id b.id i) g' := by
  classical
  have K := T.kids
  obtain ⟨id, hid⟩ : ∃ id, id = x.id := ⟨_, rfl⟩
  rw [← hid] at h0 hway hk hd ⊢
  have hDx : ∀ y ∈ l, Dp l y.id (g y.id) := fun y hy => T.dp _ hy rfl
  let S : Int → Prop := fun y => ∃ j d, Dp l y d ∧ j ≤ d ∧ upN l j y = id
  have hSid : S id := ⟨0, _, hid ▸ hDx x hx, Nat.zero_le _, rfl⟩
  have hSb : ¬ S b.id := by
    rintro ⟨j, d, h1, h2, h3⟩
    have e := h1.fun_ K (hDx b hb)
    subst e
    rcases Nat.lt_or_ge j (g b.id) with h | h
    · exact hway ((pth_mem _ _ _).2 ⟨j, h, h3⟩)
    · obtain rfl : j = g b.id := by omega
      have := Dp.ups K (g b.id) h1 (Nat.le_refl _)
      rw [h3, Nat.sub_self] at this
      exact h0 ((Dp.zero_iff K this).2 rfl)
  have hSk : ∀ c ∈ l, ∀ k ∈ c.kids, k ≠ id → (S k ↔ S c.id) := fun c hc k hk hne => by
    have hp := parOf_kid K hc hk
    have hDk : Dp l k (g c.id + 1) := .step c _ k (hDx c hc) hc hk
    constructor
    · rintro ⟨j, d, h1, h2, h3⟩
      have e := h1.fun_ K hDk
      subst e
      rcases j with _ | j
      · exact absurd h3 hne
      · exact ⟨j, _, hDx c hc, by omega, by rw [← hp]; exact h3⟩
    · rintro ⟨j, d, h1, h2, h3⟩
      have e := h1.fun_ K (hDx c hc)
      subst e
      exact ⟨j + 1, _, hDk, by omega, by show upN l j (parOf l k) = id; rw [hp]; exact h3⟩
  have hSg : ∀ y ∈ l, S y.id → g id ≤ g y.id ∧ g y.id - g id + g b.id + 1 ≤ 40 := fun y hy => by
    rintro ⟨j, d, h1, h2, h3⟩
    have e := h1.fun_ K (hDx y hy)
    subst e
    have h4 := Dp.ups K j h1 h2
    rw [h3] at h4
    have h5 := h4.fun_ K (hid ▸ hDx x hx : Dp l id (g id))
    have h6 := T.deep y hy
    have h7 := hgt_ge K j (m := 40 - j) h1 h2
    rw [h3, show j + 1 + (40 - j) = 41 by omega] at h7
    omega
  have hS0 : ¬ S 0 := by
    rintro ⟨j, d, h1, h2, h3⟩
    have := h1.zero K
    subst this
    obtain rfl : j = 0 := by omega
    exact h0 h3.symm
  refine ⟨fun y => if S y then g y - g id + (g b.id + 1) else g y, ?_⟩
  have hmem : ∀ c, c ∈ movL l id b.id i ↔ ∃ y ∈ l, c = movB id b.id i y := fun c => by
    unfold movL
    rw [List.mem_map]
    exact ⟨fun ⟨y, h1, h2⟩ => ⟨y, h1, h2.symm⟩, fun ⟨y, h1, h2⟩ => ⟨y, h1, h2.symm⟩⟩
  have hkm : ∀ c k, k ∈ (movB id b.id i c).kids ↔ (c.id = b.id ∧ k = id) ∨ (k ∈ c.kids ∧ k ≠ id) := fun c k => by
    show k ∈ (if c.id = b.id then plusK (lessK c.kids id) i id else lessK c.kids id) ↔ _
    by_cases e : c.id = b.id
    · rw [if_pos e, plus_mem, less_mem]
      exact ⟨fun h => h.elim (fun h => .inl ⟨e, h⟩) .inr, fun h => h.elim (fun h => .inl h.2) .inr⟩
    · rw [if_neg e, less_mem]
      exact ⟨.inr, fun h => h.elim (fun h => absurd h.1 e) fun h => h⟩
  refine ⟨?_, fun c hc => ?_, by unfold movL; rw [List.length_map]; exact T.short, ?_, fun c hc => ?_, fun c hc k hkc => ?_, fun c hc => ?_, fun c hc hc0 => ?_, ?_, fun c hc => ?_⟩
  · exact List.pairwise_map.2 (T.rise.imp fun h => h)
  · obtain ⟨y, hy, rfl⟩ := (hmem c).1 hc
    exact T.ids y hy
  · obtain ⟨r, r', hl, a1, a2, a3, a4⟩ := T.root
    subst hl
    exact ⟨movB id b.id i r, r'.map (movB id b.id i), rfl, a1, by show (if r.id = id then b.id else r.parent) = 0; rw [if_neg (by omega), a2], a3, a4⟩
  · obtain ⟨y, hy, rfl⟩ := (hmem c).1 hc
    obtain ⟨a1, a2, a3⟩ := T.loc y hy
    refine ⟨a1, ?_, a3⟩
    show (if y.id = b.id then plusK (lessK y.kids id) i id else lessK y.kids id).length ≤ 500
    by_cases e : y.id = b.id
    · obtain rfl := T.inj hy hb e
      rw [if_pos rfl, plus_len]; omega
    · rw [if_neg e]
      exact Nat.le_trans (less_len _ _) a2
  · obtain ⟨y, hy, rfl⟩ := (hmem c).1 hc
    rcases (hkm y k).1 hkc with ⟨e, rfl⟩ | ⟨hk1, hne⟩
    · refine ⟨h0, _, (hmem _).2 ⟨x, hx, rfl⟩, hid.symm, ?_⟩
      show (if x.id = k then b.id else x.parent) = y.id
      rw [if_pos hid.symm, e]
    · obtain ⟨a1, z, hz, a2, a3⟩ := T.kid y hy k hk1
      refine ⟨a1, _, (hmem _).2 ⟨z, hz, rfl⟩, a2, ?_⟩
      show (if z.id = id then b.id else z.parent) = y.id
      rw [if_neg (by omega), a3]
  · obtain ⟨y, hy, rfl⟩ := (hmem c).1 hc
    show (if y.id = b.id then plusK (lessK y.kids id) i id else lessK y.kids id).Nodup
    split
    · exact plus_nodup (less_nodup (T.nod y hy) _) (fun h => ((less_mem _ _ _).1 h).2 rfl)
    · exact less_nodup (T.nod y hy) _
  · obtain ⟨y, hy, rfl⟩ := (hmem c).1 hc
    have hc0 : y.id ≠ 0 := hc0
    show ∃ c' ∈ movL l id b.id i, c'.id = (if y.id = id then b.id else y.parent) ∧ y.id ∈ c'.kids ∧ (if S y.id then g y.id - g id + (g b.id + 1) else g y.id) = (if S c'.id then g c'.id - g id + (g b.id + 1) else g c'.id) + 1
    by_cases e : y.id = id
    · rw [if_pos e, e, if_pos hSid]
      refine ⟨_, (hmem _).2 ⟨b, hb, rfl⟩, rfl, (hkm b id).2 (.inl ⟨rfl, rfl⟩), ?_⟩
      show _ = (if S b.id then _ else g b.id) + 1
      rw [if_neg hSb]; omega
    · rw [if_neg e]
      obtain ⟨d, hd', a1, a2, a3⟩ := T.par y hy hc0
      refine ⟨_, (hmem _).2 ⟨d, hd', rfl⟩, a1, (hkm d _).2 (.inr ⟨a2, e⟩), ?_⟩
      show _ = (if S d.id then g d.id - g id + (g b.id + 1) else g d.id) + 1
      have hs := hSk d hd' y.id a2 e
      by_cases h : S d.id
      · rw [if_pos h, if_pos (hs.2 h), a3]
        have := (hSg d hd' h).1
        omega
      · rw [if_neg h, if_neg (fun q => h (hs.1 q)), a3]
  · show (if S 0 then _ else g 0) = 0
    rw [if_neg hS0]; exact T.zero
  · obtain ⟨y, hy, rfl⟩ := (hmem c).1 hc
    show (if S y.id then g y.id - g id + (g b.id + 1) else g y.id) ≤ 40
    split
    · rename_i h
      have := (hSg y hy h).2
      omega
    · exact T.deep y hy
end
end Go.Proofs.YtmkicfjcgbfaaaaGreat
namespace Go.Proofs.YtmkicfjcgbfaaaaGreat
open Go.RowKit

/-- slices.Clone at ints: a row of the call's own -/
theorem cloneI_own (A : Option Addr) (n c : Nat) (l : List Int) (w : World) (B : Nat) (h : RIn w B (.slice A n c) l) :
    Calls Tryz.prog 67 #[.slice A n c] w fun e w' => ∃ v', e = .returned v' ∧ w'.ownsRow w.heap.size 3 1 v' n (l.map (.int .i64)) ∧ Below w.heap.size w w' := by
  have hn := h.len
  rcases A with _ | ad
  · have h0 : n = 0 := by
      rcases Nat.eq_zero_or_pos n with g | g
      · exact g
      · obtain ⟨ad, e, _⟩ := h.reads.2 g
        cases e
    subst h0
    have hl : l = [] := List.eq_nil_of_length_eq_zero hn.1.symm
    subst hl
    refine (Tryz.slices_Clone_int_nil 0 c w).mono ?_
    rintro e w' ⟨rfl, rfl⟩
    exact ⟨_, rfl, World.ownsRow_nil _ _ _ _, Below.refl _ _⟩
  · rcases Nat.eq_zero_or_pos n with g | g
    · subst g
      have hl : l = [] := List.eq_nil_of_length_eq_zero hn.1.symm
      subst hl
      refine (Tryz.slices_Clone_int_zero ad c w).mono ?_
      rintro e w' ⟨v', rfl, ho, _, hb⟩
      exact ⟨_, rfl, ho, hb⟩
    · obtain ⟨b, off, e, _, _⟩ := h.reads.plain g (by omega)
      injection e with e
      subst e
      refine (Tryz.slices_Clone_int b off n c l w (by omega) (by omega) h.getD).mono ?_
      rintro e w' ⟨v', rfl, ho, _, hb⟩
      rw [List.take_of_length_le (by omega)] at ho
      exact ⟨_, rfl, ho, hb⟩
theorem plus_map (l : List Int) (i : Nat) (n : Int) : (plusK l i n).map (Value.int .i64) = (l.map (Value.int .i64)).take (i * 1) ++ [.int .i64 n] ++ (l.map (Value.int .i64)).drop (i * 1) := by
  unfold plusK
  rw [Nat.mul_one, List.map_append, List.map_cons, List.map_take, List.map_drop, List.append_assoc]; rfl
theorem grown_put {w w' : World} (h : Below w.heap.size w w') (g i : Nat) (u : Value) : w.grownBy (w'.setCell ⟨g, i, none⟩ u) (some g) :=
  ⟨h.os, h.tape, h.output, by simp only [World.setCell, Array.size_modify]; exact h.size, fun k hk hn => by
    have hne : k ≠ g := fun e => hn (by rw [e])
    rw [← h.block k hk]
    simp only [World.setCell, Array.getElem?_modify, if_neg (Ne.symm hne)]⟩
/-- what a turn of one block's kids leaves -/
def KidsR (S : Nat → Prop) (w : World) (g cap : Nat) (M : List BK) (q : Nat) (y : BK) (ks : List Int) (e : Ending) (w' : World) : Prop :=
  e = .returned (.tuple #[]) ∧ (∃ kv, RowS S w' g cap (M.set q (y.1.withKids ks, kv, y.2.2))) ∧ w.grownBy w' (some g)

set_option maxRecDepth 100000 in
set_option maxHeartbeats 4000000 in
/-- tree.attach -/
theorem attach_any {S : Nat → Prop} (w : World) (hS : ∀ b, w.heap.size ≤ b → S b) (g cap : Nat) (M : List BK) (h : RowS S w g cap M) (hr : Rise (M.map Prod.fst)) (hi : IdsIn (M.map Prod.fst)) (id : Int) (i p q : Nat) (x y : BK) (hx : M[p]? = some x) (hxi : x.1.id = id) (hy : M[q]? = some y) (hyi : y.1.id = x.1.parent) (hat : i ≤ y.1.kids.length) (hk : y.1.kids.length ≤ 500) :
    Calls Tryz.prog 129 #[.slice (some ⟨g, 0, none⟩) M.length cap, .int .i64 id, .int .i64 i] w (KidsR S w g cap M q y (plusK y.1.kids i id)) := by
  have HSS := Lib.hid hS
  clear hS
  have hml := h.few
  have hpx : (M.map Prod.fst)[p]? = some x.1 := by rw [List.getElem?_map, hx]; rfl
  have hqy : (M.map Prod.fst)[q]? = some y.1 := by rw [List.getElem?_map, hy]; rfl
  have hp : posOf (M.map Prod.fst) id = (p : Int) := by rw [← hxi]; exact posOf_of hr hpx
  have hq : posOf (M.map Prod.fst) x.1.parent = (q : Int) := by rw [← hyi]; exact posOf_of hr hqy
  have hidr := hi x.1 (List.mem_of_getElem? hpx)
  have hpar := hi y.1 (List.mem_of_getElem? hqy)
  rw [hxi] at hidr
  rw [hyi] at hpar
  have hid64 : I64 id := by unfold I64; omega
  have hpn : p < M.length := (List.getElem?_eq_some_iff.1 hx).1
  have hqn : q < M.length := (List.getElem?_eq_some_iff.1 hy).1
  obtain ⟨y1, yk, yp⟩ := y
  obtain ⟨⟨xid, xpar, xks, xtx, xps⟩, xk, xpv⟩ := x
  have hxi : xid = id := hxi
  have hnst := h.far _ (List.mem_of_getElem? hy)
  obtain ⟨hkx, hpxx⟩ := hnst
  obtain ⟨Ak, nk, ck, rfl⟩ : ∃ A n c, yk = .slice A n c := by
    obtain ⟨A, n, c, e, _⟩ := hkx
    exact ⟨A, n, c, e⟩
  have hkr := hkx.reads (B := w.heap.size) fun b hb => hb.1.1
  have hkl := hkr.len
  have HIX := Lib.hid (index_any (M.map Prod.fst) (some ⟨g, 0, none⟩) M.length cap id w w.heap.size (Nat.le_refl _) h.rb hr hi hid64)
  rw [hp] at HIX
  have HIP : Hid (∀ W, Below w.heap.size w W → Calls Tryz.prog 105 #[.slice (some ⟨g, 0, none⟩) M.length cap, .int .i64 xpar] W fun e w' => e = .returned (.int .i64 (q : Int)) ∧ Below W.heap.size W w') := fun W hW => by
    have := index_any (M.map Prod.fst) (some ⟨g, 0, none⟩) M.length cap xpar W W.heap.size (Nat.le_refl _) (h.below hW).rb hr hi (by have hpar : 0 ≤ xpar ∧ xpar ≤ 1000000 := hpar; unfold I64; omega)
    have hq : posOf (M.map Prod.fst) xpar = (q : Int) := hq
    rwa [hq] at this
  have H := Lib.hid h
  have HX := Lib.hid hx
  have HY := Lib.hid hy
  have HKR := Lib.hid hkr
  have HPX := Lib.hid hpxx
  have hgw := h.lt
  have i0 : (0 : Int) ≤ (p : Int) := by omega
  have i1 : (p : Int) < (M.length : Int) := by omega
  have i2 : (0 : Int) ≤ (q : Int) := by omega
  have i3 : (q : Int) < (M.length : Int) := by omega
  have H64 : Hid (∀ z ∈ plusK y1.kids i id, I64 z) := fun z hz => by
    rcases (plus_mem _ _ _ _).1 hz with rfl | hz
    · exact hid64
    · exact hkr.i64 hz
  obtain ⟨n, hn⟩ : ∃ n, n = M.length := ⟨_, rfl⟩
  rw [← hn] at HIX HIP i1 i3 hml ⊢
  have HNN := Lib.hid hn
  have HK1 : Hid (nk = y1.kids.length) := hkl.1
  have hkl1 : nk ≤ 500 := by have := HK1.out; omega
  have hat1 : i ≤ nk := by have := HK1.out; omega
  clear hkl hk hat h hx hy hp hq hpx hqy hidr hpar hkr hkx hpxx hr hi hn hxi hyi
  go_enter Tryz.func129, Tryz.ntmps129
  go_wp2_with fail
  refine HIX.out.mono ?_
  rintro e w1 ⟨rfl, hb1⟩
  have HB1 := Lib.hid hb1
  have H1 := Lib.hid (H.out.below hb1)
  have c1 : w1.cell? ⟨g, p * 5 + 1, none⟩ = some (.int .i64 xpar) := H1.out.cell HX.out rfl
  clear hb1
  go_wp2_with fail
  refine (HIP.out w1 HB1.out).mono ?_
  rintro e w2 ⟨rfl, hb⟩
  have HB2 : Hid (Below w.heap.size w w2) := HB1.out.trans (hb.mono HB1.out.size)
  have H2 := Lib.hid (H.out.below HB2.out)
  have c2 : w2.cell? ⟨g, q * 5 + 2, none⟩ = some (.slice Ak nk ck) := H2.out.cell HY.out rfl
  have HCL := Lib.hid (cloneI_own Ak nk ck y1.kids w2 w.heap.size (HKR.out.below HB2.out))
  clear hb c1
  go_wp2_with fail
  refine HCL.out.mono ?_
  rintro e w3 ⟨v3, rfl, hown3, hb3⟩
  have HB3 : Hid (Below w.heap.size w w3) := HB2.out.trans (hb3.mono HB2.out.size)
  have hz3 : w2.heap.size ≤ w3.heap.size := hb3.size
  have hz2 : w.heap.size ≤ w2.heap.size := HB2.out.size
  have HO3 := Lib.hid hown3
  obtain ⟨A3, c3, rfl⟩ : ∃ A c, v3 = .slice A nk c := by
    obtain ⟨A, c, e, _⟩ := RdX.of_own hown3
    exact ⟨A, c, e⟩
  have hob := own_block_lt hown3
  have HINS : Hid (Calls Tryz.prog 158 #[.slice A3 nk c3, .int .i64 i, .slice (some ⟨w3.heap.size, 0, none⟩) 1 1] (w3.alloc (.cells #[.int .i64 id] 3)) (InsR w2.heap.size 3 1 nk (y1.kids.map (.int .i64)) [.int .i64 id] i (w3.alloc (.cells #[.int .i64 id] 3)) (.slice A3 nk c3))) :=
    insI_own (.slice A3 nk c3) nk (y1.kids.map (.int .i64)) w2.heap.size i w3.heap.size [.int .i64 id] _ (hown3.alloc _) (by omega) (by omega) rfl (Blk.new w3 3 #[.int .i64 id]) (fun e => by have := (hob _ e).2; omega) (ints_one _) (ints_one [id]) (by simp; omega)
  clear hb3 hown3 c2
  go_wp2_with fail
  refine HINS.out.mono ?_
  rintro e w4 ⟨v4, rfl, hown4, hg4, hat4⟩
  have HB4 : Hid (Below w.heap.size w w4) := (HB3.out.alloc HB3.out.size (.cells #[.int .i64 id] 3)).grown hg4 (by simp; omega) (fun gg hgg => by have := (hob gg hgg).1; omega)
  obtain ⟨A4, c4, rfl, hc4, hr4⟩ := RdX.of_own hown4
  have hnone : A4 = none → nk + 1 = 0 ∧ c4 = 0 := fun e => by
    rcases hown4.2 with ⟨h, h0⟩ | ⟨g, cap, cur, h, _⟩
    · omega
    · injection h with h; rw [e] at h; cases h
  have HCP := Lib.hid fun W => clipI_any A4 (nk + 1) c4 W hc4 hnone
  have hkid : RInX w4 (fun b => (b < w4.heap.size ∧ b ≠ g) ∧ S b) (.slice A4 (nk + 1) (nk + 1)) (plusK y1.kids i id) :=
    ⟨A4, nk + 1, nk + 1, rfl, by rw [plus_len, HK1.out], ⟨Nat.le_refl _, by omega⟩, by rw [plus_map]; exact hr4.weak fun b hb => ⟨⟨hb.2.2, by have := hb.2.1; omega⟩, HSS.out b (Nat.le_trans hz2 hb.2.1)⟩, H64.out⟩
  have HKD := Lib.hid hkid
  have H4 := Lib.hid (H.out.below HB4.out)
  clear hown4 hg4 hat4 hc4 hr4 hnone hkid
  go_wp2_with fail
  refine (HCP.out _).mono ?_
  rintro e w5 ⟨rfl, rfl⟩
  have f2 := H4.out.frozen (q * 5 + 2)
  have c2 : w5.cell? ⟨g, q * 5 + 2, none⟩ = some (.slice Ak nk ck) := H4.out.cell HY.out rfl
  go_wp2_with fail
  go_end0
  refine ⟨rfl, ⟨.slice A4 (nk + 1) (nk + 1), ?_⟩, ?_⟩
  · refine H4.out.store HY.out (j := 2) (by omega) rfl ⟨HKD.out, ?_⟩
    exact (HPX.out.keep fun p hp => HB4.out.cell hp.1.1).weak fun b hb => ⟨⟨Nat.lt_of_lt_of_le hb.1.1 HB4.out.size, hb.1.2⟩, hb.2⟩
  · exact grown_put HB4.out g _ _
end Go.Proofs.YtmkicfjcgbfaaaaGreat
