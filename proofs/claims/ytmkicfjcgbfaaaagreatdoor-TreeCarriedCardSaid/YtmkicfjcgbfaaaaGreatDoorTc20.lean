/-
  DERIVED. Operations on a base in plain words; a base without error stays one: insert, remove, edit, a property. Plain law. Conditions: none.
  The walks of slices.DeleteFunc and slices.IndexFunc at properties with prop.without's closure. Conditions: sizes.
  By an AI agent.
-/
import Derived.Test.YtmkicfjcgbfaaaaGreatDoorTc19
import Derived.Test.YtmkicfjcgbfaaaaGreatDoorTc09
import Derived.Test.YtmkicfjcgbfaaaaGreatDoorTc14
namespace Go.Proofs.YtmkicfjcgbfaaaaGreatDoor

/-- blocks with an id, turned -/
def upd (l : List Bl) (p : Int) (h : Bl → Bl) : List Bl := l.map fun b => if b.id = p then h b else b
def Bl.withKids (b : Bl) (ks : List Int) : Bl := ⟨b.id, b.parent, ks, b.text, b.props⟩
def Bl.withPar (b : Bl) (p : Int) : Bl := ⟨b.id, p, b.kids, b.text, b.props⟩
def Bl.withText (b : Bl) (s : ByteArray) : Bl := ⟨b.id, b.parent, b.kids, s, b.props⟩
def Bl.withProps (b : Bl) (ps : List Pr) : Bl := ⟨b.id, b.parent, b.kids, b.text, ps⟩
/-- a list without a number -/
def lessK (l : List Int) (n : Int) : List Int := l.filter fun x => x != n
/-- a list with a number at a place -/
def plusK (l : List Int) (i : Nat) (n : Int) : List Int := l.take i ++ n :: l.drop i
/-- a block put in at its place -/
def insB (x : Bl) : List Bl → List Bl
  | [] => [x]
  | y :: l => if y.id < x.id then y :: insB x l else x :: y :: l
theorem insB_mem (x y : Bl) : ∀ l : List Bl, y ∈ insB x l ↔ y = x ∨ y ∈ l
  | [] => by simp [insB]
  | a :: l => by
    rw [insB]
    split
    · rw [List.mem_cons, insB_mem x y l, List.mem_cons]
      exact ⟨fun h => h.elim (fun h => .inr (.inl h)) (fun h => h.elim .inl fun h => .inr (.inr h)), fun h => h.elim (fun h => .inr (.inl h)) (fun h => h.elim .inl fun h => .inr (.inr h))⟩
    · rw [List.mem_cons]
theorem insB_len (x : Bl) : ∀ l : List Bl, (insB x l).length = l.length + 1
  | [] => rfl
  | a :: l => by
    rw [insB]
    split
    · rw [List.length_cons, insB_len x l, List.length_cons]
    · rfl
theorem insB_sorted (x : Bl) : ∀ l : List Bl, l.Pairwise (fun x y => x.id < y.id) → (∀ y ∈ l, y.id ≠ x.id) → (insB x l).Pairwise (fun x y => x.id < y.id)
  | [], _, _ => List.pairwise_singleton _ _
  | a :: l, h, hn => by
    obtain ⟨h1, h2⟩ := List.pairwise_cons.1 h
    have ha := hn a (by simp)
    rw [insB]
    split
    · rename_i hlt
      refine List.pairwise_cons.2 ⟨fun y hy => ?_, insB_sorted x l h2 fun y hy => hn y (by simp [hy])⟩
      rcases (insB_mem x y l).1 hy with rfl | hy
      · exact hlt
      · exact h1 y hy
    · rename_i hlt
      refine List.pairwise_cons.2 ⟨fun y hy => ?_, h⟩
      rcases List.mem_cons.1 hy with rfl | hy
      · omega
      · have := h1 y hy; omega
theorem upd_mem {l : List Bl} {p : Int} {h : Bl → Bl} {y : Bl} : y ∈ upd l p h ↔ ∃ b ∈ l, y = if b.id = p then h b else b := by
  unfold upd
  rw [List.mem_map]
  exact ⟨fun ⟨b, h1, h2⟩ => ⟨b, h1, h2.symm⟩, fun ⟨b, h1, h2⟩ => ⟨b, h1, h2.symm⟩⟩
theorem upd_len (l : List Bl) (p : Int) (h : Bl → Bl) : (upd l p h).length = l.length := List.length_map ..
theorem upd_sorted {l : List Bl} {p : Int} {h : Bl → Bl} (hh : ∀ b, (h b).id = b.id) (hs : l.Pairwise (fun x y => x.id < y.id)) : (upd l p h).Pairwise (fun x y => x.id < y.id) := by
  refine List.pairwise_map.2 (hs.imp fun {x y} hxy => ?_)
  have e : ∀ b : Bl, (if b.id = p then h b else b).id = b.id := fun b => by split; exact hh b; rfl
  rw [e, e]; exact hxy
theorem plus_mem (l : List Int) (i : Nat) (n k : Int) : k ∈ plusK l i n ↔ k = n ∨ k ∈ l := by
  unfold plusK
  rw [List.mem_append, List.mem_cons]
  conv => rhs; rw [← List.take_append_drop i l, List.mem_append]
  exact ⟨fun h => h.elim (fun h => .inr (.inl h)) (fun h => h.elim .inl fun h => .inr (.inr h)), fun h => h.elim (fun h => .inr (.inl h)) (fun h => h.elim .inl fun h => .inr (.inr h))⟩
theorem plus_len (l : List Int) (i : Nat) (n : Int) : (plusK l i n).length = l.length + 1 := by
  unfold plusK
  rw [List.length_append, List.length_cons]
  have := congrArg List.length (List.take_append_drop i l)
  rw [List.length_append] at this
  omega
theorem plus_nodup {l : List Int} {i : Nat} {n : Int} (h : l.Nodup) (hn : n ∉ l) : (plusK l i n).Nodup := by
  have h' := h
  rw [← List.take_append_drop i l] at h' hn
  rw [List.nodup_append] at h'
  rw [List.mem_append] at hn
  unfold plusK
  rw [List.nodup_append]
  refine ⟨h'.1, List.nodup_cons.2 ⟨fun e => hn (.inr e), h'.2.1⟩, fun a ha b hb e => ?_⟩
  rcases List.mem_cons.1 hb with rfl | hb
  · exact hn (.inl (e ▸ ha))
  · exact h'.2.2 a ha b hb e
theorem less_mem (l : List Int) (n k : Int) : k ∈ lessK l n ↔ k ∈ l ∧ k ≠ n := by
  unfold lessK; rw [List.mem_filter]; simp
theorem less_len (l : List Int) (n : Int) : (lessK l n).length ≤ l.length := List.length_filter_le _ _
theorem less_nodup {l : List Int} (h : l.Nodup) (n : Int) : (lessK l n).Nodup := h.sublist List.filter_sublist
theorem less_same {l : List Int} {n : Int} (h : n ∉ l) : lessK l n = l := List.filter_eq_self.2 fun x hx => by
  have : x ≠ n := fun e => h (e ▸ hx)
  simpa using this

section
variable {l : List Bl} {g : Int → Nat}
/-- a text or properties turned -/
theorem Tree.local_ (T : Tree l g) (id : Int) (hid : id ≠ 0) (h : Bl → Bl) (h1 : ∀ b, (h b).id = b.id ∧ (h b).parent = b.parent ∧ (h b).kids = b.kids) (h2 : ∀ b ∈ l, b.id = id → txErr (h b).text = 0 ∧ cpErr (h b).props = 0) : Tree (upd l id h) g := by
  have e : ∀ b : Bl, (if b.id = id then h b else b).id = b.id ∧ (if b.id = id then h b else b).parent = b.parent ∧ (if b.id = id then h b else b).kids = b.kids := fun b => by
    split
    · exact h1 b
    · exact ⟨rfl, rfl, rfl⟩
  refine ⟨upd_sorted (fun b => (h1 b).1) T.rise, fun x hx => ?_, by rw [upd_len]; exact T.short, ?_, fun x hx => ?_, fun c hc k hk => ?_, fun c hc => ?_, fun x hx h0 => ?_, T.zero, fun x hx => ?_⟩
  · obtain ⟨b, hb, rfl⟩ := upd_mem.1 hx
    rw [(e b).1]; exact T.ids b hb
  · obtain ⟨r, r', rfl, a1, a2, a3, a4⟩ := T.root
    exact ⟨r, upd r' id h, by unfold upd; rw [List.map_cons, if_neg (by omega)], a1, a2, a3, a4⟩
  · obtain ⟨b, hb, rfl⟩ := upd_mem.1 hx
    rw [(e b).2.2]
    obtain ⟨a1, a2, a3⟩ := T.loc b hb
    split
    · rename_i hbi
      exact ⟨(h2 b hb hbi).1, a2, (h2 b hb hbi).2⟩
    · exact ⟨a1, a2, a3⟩
  · obtain ⟨b, hb, rfl⟩ := upd_mem.1 hc
    rw [(e b).2.2] at hk
    obtain ⟨a1, y, hy, a2, a3⟩ := T.kid b hb k hk
    exact ⟨a1, _, upd_mem.2 ⟨y, hy, rfl⟩, by rw [(e y).1, a2], by rw [(e y).2.1, (e b).1, a3]⟩
  · obtain ⟨b, hb, rfl⟩ := upd_mem.1 hc
    rw [(e b).2.2]; exact T.nod b hb
  · obtain ⟨b, hb, rfl⟩ := upd_mem.1 hx
    rw [(e b).1] at h0 ⊢
    obtain ⟨c, hc, a1, a2, a3⟩ := T.par b hb h0
    exact ⟨_, upd_mem.2 ⟨c, hc, rfl⟩, by rw [(e c).1, (e b).2.1, a1], by rw [(e c).2.2]; exact a2, by rw [(e c).1]; exact a3⟩
  · obtain ⟨b, hb, rfl⟩ := upd_mem.1 hx
    rw [(e b).1]; exact T.deep b hb
theorem Tree.inj (T : Tree l g) {x y : Bl} (hx : x ∈ l) (hy : y ∈ l) (e : x.id = y.id) : x = y := T.kids.rise.inj hx hy e

/-- what putting a block in makes -/
def insL (l : List Bl) (id p : Int) (i : Nat) (s : ByteArray) : List Bl := insB ⟨id, p, [], s, []⟩ (upd l p fun b => b.withKids (plusK b.kids i id))
theorem Tree.insert (T : Tree l g) {id p : Int} {i : Nat} {s : ByteArray} {b : Bl} (hid : 1 ≤ id ∧ id ≤ 1000000) (hn : ∀ x ∈ l, x.id ≠ id) (hb : b ∈ l) (hbp : b.id = p) (hs : txErr s = 0) (hl : l.length < 2000) (hk : b.kids.length < 500) (hd : g p < 40) :
    Tree (insL l id p i s) (fun x => if x = id then g p + 1 else g x) := by
  have hin : ∀ x ∈ l, (if x.id = id then g p + 1 else g x.id) = g x.id := fun x hx => if_neg (hn x hx)
  have hup : ∀ c : Bl, (if c.id = p then c.withKids (plusK c.kids i id) else c).id = c.id ∧ (if c.id = p then c.withKids (plusK c.kids i id) else c).parent = c.parent ∧ (if c.id = p then c.withKids (plusK c.kids i id) else c).text = c.text ∧ (if c.id = p then c.withKids (plusK c.kids i id) else c).props = c.props := fun c => by
    split <;> exact ⟨rfl, rfl, rfl, rfl⟩
  have hfresh : ∀ c ∈ l, id ∉ c.kids := fun c hc hm => by
    obtain ⟨_, y, hy, e, _⟩ := T.kid c hc id hm
    exact hn y hy e
  have hmem : ∀ c, c ∈ insL l id p i s ↔ c = ⟨id, p, [], s, []⟩ ∨ ∃ b ∈ l, c = if b.id = p then b.withKids (plusK b.kids i id) else b := fun c => by
    unfold insL
    rw [insB_mem, upd_mem]
  refine ⟨?_, fun x hx => ?_, ?_, ?_, fun x hx => ?_, fun e he k hk => ?_, fun e he => ?_, fun x hx h0 => ?_, ?_, fun x hx => ?_⟩
  · refine insB_sorted _ _ (upd_sorted (fun _ => rfl) T.rise) fun y hy => ?_
    obtain ⟨c, hc, rfl⟩ := upd_mem.1 hy
    rw [(hup c).1]; exact hn c hc
  · rcases (hmem x).1 hx with rfl | ⟨c, hc, rfl⟩
    · show 0 ≤ id ∧ id ≤ 1000000; omega
    · rw [(hup c).1]; exact T.ids c hc
  · unfold insL; rw [insB_len, upd_len]; omega
  · obtain ⟨r, r', rfl, a1, a2, a3, a4⟩ := T.root
    refine ⟨if r.id = p then r.withKids (plusK r.kids i id) else r, insB ⟨id, p, [], s, []⟩ (upd r' p fun b => b.withKids (plusK b.kids i id)), ?_, by rw [(hup r).1, a1], by rw [(hup r).2.1, a2], by rw [(hup r).2.2.1, a3], by rw [(hup r).2.2.2, a4]⟩
    unfold insL upd
    rw [List.map_cons, insB, if_pos (by rw [(hup r).1, a1]; show (0 : Int) < id; omega)]
  · rcases (hmem x).1 hx with rfl | ⟨c, hc, rfl⟩
    · exact ⟨hs, by simp, rfl⟩
    · obtain ⟨a1, a2, a3⟩ := T.loc c hc
      rw [(hup c).2.2.1, (hup c).2.2.2]
      refine ⟨a1, ?_, a3⟩
      split
      · rename_i e
        obtain rfl : c = b := T.inj hc hb (e.trans hbp.symm)
        show (plusK c.kids i id).length ≤ 500
        rw [plus_len]; omega
      · exact a2
  · rcases (hmem e).1 he with rfl | ⟨c, hc, rfl⟩
    · cases hk
    · rw [(hup c).1]
      have old : k ∈ c.kids → k ≠ 0 ∧ ∃ y ∈ insL l id p i s, y.id = k ∧ y.parent = c.id := fun hk => by
        obtain ⟨a1, y, hy, a2, a3⟩ := T.kid c hc k hk
        exact ⟨a1, _, (hmem _).2 (.inr ⟨y, hy, rfl⟩), by rw [(hup y).1, a2], by rw [(hup y).2.1, a3]⟩
      by_cases e : c.id = p
      · rw [if_pos e] at hk
        rcases (plus_mem _ _ _ _).1 hk with rfl | hk'
        · exact ⟨by omega, _, (hmem _).2 (.inl rfl), rfl, e.symm⟩
        · exact old hk'
      · rw [if_neg e] at hk
        exact old hk
  · rcases (hmem e).1 he with rfl | ⟨c, hc, rfl⟩
    · exact List.nodup_nil
    · split
      · exact plus_nodup (T.nod c hc) (hfresh c hc)
      · exact T.nod c hc
  · rcases (hmem x).1 hx with rfl | ⟨c, hc, rfl⟩
    · refine ⟨_, (hmem _).2 (.inr ⟨b, hb, rfl⟩), by rw [(hup b).1]; exact hbp, ?_, ?_⟩
      · rw [if_pos hbp]; exact (plus_mem _ _ _ _).2 (.inl rfl)
      · rw [(hup b).1]
        show (if id = id then g p + 1 else g id) = (if b.id = id then g p + 1 else g b.id) + 1
        rw [if_pos rfl, hin b hb, hbp]
    · rw [(hup c).1] at h0 ⊢
      obtain ⟨d, hd', a1, a2, a3⟩ := T.par c hc h0
      refine ⟨_, (hmem _).2 (.inr ⟨d, hd', rfl⟩), by rw [(hup d).1, (hup c).2.1]; exact a1, ?_, ?_⟩
      · split
        · exact (plus_mem _ _ _ _).2 (.inr a2)
        · exact a2
      · rw [(hup d).1, hin c hc, hin d hd', a3]
  · rw [if_neg (by omega)]; exact T.zero
  · rcases (hmem x).1 hx with rfl | ⟨c, hc, rfl⟩
    · show (if id = id then g p + 1 else g id) ≤ 40
      rw [if_pos rfl]; omega
    · rw [(hup c).1, hin c hc]; exact T.deep c hc

/-- what taking a block out makes -/
def remL (l : List Bl) (id p : Int) : List Bl := (upd l p fun b => b.withKids (lessK b.kids id)).filter fun b => b.id != id
theorem Tree.remove (T : Tree l g) {x : Bl} (hx : x ∈ l) (h0 : x.id ≠ 0) (hk : x.kids = []) : Tree (remL l x.id x.parent) g := by
  have hup : ∀ c : Bl, (if c.id = x.parent then c.withKids (lessK c.kids x.id) else c).id = c.id ∧ (if c.id = x.parent then c.withKids (lessK c.kids x.id) else c).parent = c.parent ∧ (if c.id = x.parent then c.withKids (lessK c.kids x.id) else c).text = c.text ∧ (if c.id = x.parent then c.withKids (lessK c.kids x.id) else c).props = c.props := fun c => by
    split <;> exact ⟨rfl, rfl, rfl, rfl⟩
  have hks : ∀ c ∈ l, ∀ k, k ∈ (if c.id = x.parent then c.withKids (lessK c.kids x.id) else c).kids ↔ k ∈ c.kids ∧ k ≠ x.id := fun c hc k => by
    split
    · exact less_mem _ _ _
    · rename_i e
      refine ⟨fun h => ⟨h, fun ek => ?_⟩, fun h => h.1⟩
      subst ek
      obtain ⟨_, y, hy, e1, e2⟩ := T.kid c hc x.id h
      obtain rfl := T.inj hy hx e1
      exact e e2.symm
  have hmem : ∀ c, c ∈ remL l x.id x.parent ↔ ∃ b ∈ l, b.id ≠ x.id ∧ c = if b.id = x.parent then b.withKids (lessK b.kids x.id) else b := fun c => by
    unfold remL
    rw [List.mem_filter, upd_mem]
    constructor
    · rintro ⟨⟨b, hb, rfl⟩, h⟩
      rw [(hup b).1] at h
      exact ⟨b, hb, by simpa using h, rfl⟩
    · rintro ⟨b, hb, h, rfl⟩
      exact ⟨⟨b, hb, rfl⟩, by rw [(hup b).1]; simpa using h⟩
  refine ⟨?_, fun c hc => ?_, ?_, ?_, fun c hc => ?_, fun c hc k hk' => ?_, fun c hc => ?_, fun c hc hc0 => ?_, T.zero, fun c hc => ?_⟩
  · exact (upd_sorted (h := fun b => b.withKids (lessK b.kids x.id)) (fun _ => rfl) T.rise).sublist List.filter_sublist
  · obtain ⟨b, hb, _, rfl⟩ := (hmem c).1 hc
    rw [(hup b).1]; exact T.ids b hb
  · have h1 := T.short
    have h2 := upd_len l x.parent fun b => b.withKids (lessK b.kids x.id)
    have h3 : (remL l x.id x.parent).length ≤ (upd l x.parent fun b => b.withKids (lessK b.kids x.id)).length := List.length_filter_le _ _
    omega
  · obtain ⟨r, r', hl, a1, a2, a3, a4⟩ := T.root
    subst hl
    refine ⟨if r.id = x.parent then r.withKids (lessK r.kids x.id) else r, (upd r' x.parent fun b => b.withKids (lessK b.kids x.id)).filter fun b => b.id != x.id, ?_, by rw [(hup r).1, a1], by rw [(hup r).2.1, a2], by rw [(hup r).2.2.1, a3], by rw [(hup r).2.2.2, a4]⟩
    unfold remL upd
    rw [List.map_cons, List.filter_cons, if_pos (by rw [(hup r).1, a1]; simpa using fun e => h0 e.symm)]
  · obtain ⟨b, hb, _, rfl⟩ := (hmem c).1 hc
    obtain ⟨a1, a2, a3⟩ := T.loc b hb
    rw [(hup b).2.2.1, (hup b).2.2.2]
    refine ⟨a1, ?_, a3⟩
    split
    · exact Nat.le_trans (less_len _ _) a2
    · exact a2
  · obtain ⟨b, hb, hne, rfl⟩ := (hmem c).1 hc
    obtain ⟨hk1, hk2⟩ := (hks b hb k).1 hk'
    obtain ⟨a1, y, hy, a2, a3⟩ := T.kid b hb k hk1
    exact ⟨a1, _, (hmem _).2 ⟨y, hy, by omega, rfl⟩, by rw [(hup y).1, a2], by rw [(hup y).2.1, (hup b).1, a3]⟩
  · obtain ⟨b, hb, hne, rfl⟩ := (hmem c).1 hc
    split
    · exact less_nodup (T.nod b hb) _
    · exact T.nod b hb
  · obtain ⟨b, hb, hne, rfl⟩ := (hmem c).1 hc
    rw [(hup b).1] at hc0 ⊢
    obtain ⟨d, hd, a1, a2, a3⟩ := T.par b hb hc0
    have hdx : d.id ≠ x.id := fun e => by
      obtain rfl := T.inj hd hx e
      rw [hk] at a2; cases a2
    exact ⟨_, (hmem _).2 ⟨d, hd, hdx, rfl⟩, by rw [(hup d).1, (hup b).2.1, a1], (hks d hd _).2 ⟨a2, hne⟩, by rw [(hup d).1]; exact a3⟩
  · obtain ⟨b, hb, _, rfl⟩ := (hmem c).1 hc
    rw [(hup b).1]; exact T.deep b hb
end
end Go.Proofs.YtmkicfjcgbfaaaaGreatDoor
namespace Go.Proofs.YtmkicfjcgbfaaaaGreatDoor
open Go.RowKit

set_option maxHeartbeats 400000 in
theorem wo1_any (x : Pr) (u : Value) (P : Nat) (s : ByteArray) (w : World) (hP : P < w.heap.size) (hc : w.cell? ⟨P, 0, none⟩ = some (.string s)) :
    Calls Tryz.prog 124 #[AP (x, u), .pointer (some ⟨P, 0, none⟩)] w fun e w' => e = .returned (.bool (decide (x.name = s))) ∧ Below w.heap.size w w' := by
  rw [dec_toList]
  have hc' : ∀ o, (w.alloc o).cell? ⟨P, 0, none⟩ = some (.string s) := fun o => (World.cell?_alloc_lt _ _ _ hP).trans hc
  dsimp only [AP]
  go_enter Tryz.func124, Tryz.ntmps124
  go_wp2_with fail
  go_ret
  exact ⟨rfl, (Below.refl _ _).alloc (Nat.le_refl _) _⟩

set_option maxHeartbeats 2000000 in
theorem indexW_any (l : List Pr) (A : Option Addr) (n c P : Nat) (s : ByteArray) (w : World) (B : Nat) (hB : B ≤ w.heap.size) (hP : P < w.heap.size) (hPc : w.cell? ⟨P, 0, none⟩ = some (.string s)) (h : RPr w B (.slice A n c) l) :
    Calls Tryz.prog 119 #[.slice A n c, .func (.func 124) #[] #[.pointer (some ⟨P, 0, none⟩)]] w fun e w' => e = .returned (.int .i64 (nmOf l s)) ∧ Below w.heap.size w w' := by
  obtain ⟨V, hV⟩ : ∃ V, V = nmOf l s := ⟨_, rfl⟩
  rw [← hV]
  have HV : Hid (V = nmFrom (l.drop 0) s 0) := hV
  have HN := Lib.hid h.len
  have H := Lib.hid h
  have HPC := Lib.hid hPc
  clear h hV hPc
  go_enter Tryz.func119, Tryz.ntmps119
  go_wp2_with fail
  go_loopg [8] n (fun gg s8 wr => ∃ k : Nat, k + gg = n ∧ s8 = .int .i64 (k : Int) ∧ Hid (V = nmFrom (l.drop k) s k) ∧ Hid (Below w.heap.size w wr))
  case atStart => exact ⟨0, by omega, rfl, HV, Below.refl _ _⟩
  case round =>
    obtain ⟨k, hkg, rfl, hno, hbel⟩ := hrel
    have hbg : n * 80 ≤ 140737488351232 := HN.out.2.2
    by_cases hk : k < n
    · obtain ⟨x, hx⟩ : ∃ x, l[k]? = some x := ⟨_, List.getElem?_eq_getElem (by have := HN.out.1; omega)⟩
      obtain ⟨b, off, Av, nv, cv, rfl, hbb, g0, g1, g2, g3, g4, g5, _⟩ := (H.out.below (hbel.out.mono hB)).at_ hx
      have hst := hno.out.trans (nmFrom_at hx s)
      have HX := Lib.hid (wo1_any x (.slice Av nv cv) P s wr (Nat.lt_of_lt_of_le hP hbel.out.size) ((hbel.out.cell (p := ⟨P, 0, none⟩) hP).trans HPC.out))
      dsimp only [AP] at HX
      have j0 : (0 : Int) ≤ (k : Int) := by omega
      have j1 : (k : Int) < (n : Int) := by omega
      clear hx
      obtain ⟨q, hq⟩ : ∃ q, decide (x.name = s) = q := ⟨_, rfl⟩
      rw [hq] at HX
      cases q
      · have HS := Lib.hid (hst.trans (if_neg (of_decide_eq_false hq)))
        clear hst hq
        go_wp2_with fail
        refine HX.out.mono ?_
        rintro e w2 ⟨rfl, hb⟩
        have HB2 : Hid (Below w.heap.size w w2) := hbel.out.trans (hb.mono hbel.out.size)
        clear hb
        go_wp2_with fail
        go_roundg (n - (k + 1))
        case measure => omega
        case rel => exact ⟨k + 1, by omega, by go_num, HS, HB2⟩
      · have HS := Lib.hid (hst.trans (if_pos (of_decide_eq_true hq)))
        clear hst hq
        go_wp2_with fail
        refine HX.out.mono ?_
        rintro e w2 ⟨rfl, hb⟩
        have HB2 : Hid (Below w.heap.size w w2) := hbel.out.trans (hb.mono hbel.out.size)
        clear hb
        go_wp2_with fail
        go_ret
        exact ⟨by rw [HS.out]; rfl, HB2.out⟩
    · obtain rfl : n = k := by omega
      have HZ : Hid (V = -1) := hno.out.trans (by rw [List.drop_of_length_le (by rw [← HN.out.1]; exact Nat.le_refl _)]; rfl)
      go_wp2_with fail
      go_ret
      exact ⟨by rw [HZ.out]; rfl, hbel.out⟩

theorem nmFrom_first : ∀ (l : List Pr) (s : ByteArray) (k : Nat), (nmFrom l s k = -1 ∧ ∀ x ∈ l, x.name ≠ s) ∨ ∃ (i : Nat) (x : Pr), nmFrom l s k = ((k + i : Nat) : Int) ∧ l[i]? = some x ∧ x.name = s ∧ ∀ y ∈ l.take i, y.name ≠ s
  | [], _, _ => .inl ⟨by rw [nmFrom], by simp⟩
  | x :: l, s, k => by
    rw [nmFrom]
    by_cases h : x.name = s
    · rw [if_pos h]; exact .inr ⟨0, x, rfl, rfl, h, by simp⟩
    · rw [if_neg h]
      rcases nmFrom_first l s (k + 1) with ⟨h1, h2⟩ | ⟨i, y, h1, h2, h3, h4⟩
      · exact .inl ⟨h1, fun y hy => by
          rcases List.mem_cons.1 hy with rfl | hy
          · exact h
          · exact h2 y hy⟩
      · refine .inr ⟨i + 1, y, by rw [h1]; congr 1; omega, by simpa using h2, h3, fun z hz => ?_⟩
        rw [List.take_succ_cons] at hz
        rcases List.mem_cons.1 hz with rfl | hz
        · exact h
        · exact h4 z hz
/-- properties without a name -/
def keepP (M : List (Pr × Value)) (s : ByteArray) : List (Pr × Value) := M.filter fun x => !decide (x.1.name = s)
theorem keepP_all {M : List (Pr × Value)} {s : ByteArray} (h : ∀ x ∈ M, x.1.name ≠ s) : keepP M s = M := List.filter_eq_self.2 fun x hx => by simp [h x hx]
theorem keepP_add {M : List (Pr × Value)} {s : ByteArray} {j : Nat} {x : Pr × Value} (h : M[j]? = some x) : keepP (M.take (j + 1)) s = if x.1.name = s then keepP (M.take j) s else keepP (M.take j) s ++ [x] := by
  unfold keepP
  rw [List.take_add_one, h, List.filter_append]
  by_cases e : x.1.name = s
  · simp [e]
  · simp [e]
def CRp (W : World) (g : Nat) (Y : List (Pr × Value)) : Prop := ∀ k x, Y[k]? = some x → ∀ j u, (prV x)[j]? = some u → W.cell? ⟨g, k * 6 + j, none⟩ = some u
def FRp (W : World) (g cap : Nat) : Prop := ∃ cur, Blk W g 129 cur ∧ cap * 6 ≤ cur.size
theorem CRp.below {W W' : World} {B g : Nat} {Y : List (Pr × Value)} (h : CRp W g Y) (hb : Below B W W') (hg : g < B) : CRp W' g Y := fun k x hx j u hu => (hb.cell (p := ⟨g, k * 6 + j, none⟩) hg).trans (h k x hx j u hu)
theorem FRp.below {W W' : World} {B g n : Nat} (h : FRp W g n) (hb : Below B W W') (hg : g < B) : FRp W' g n := by
  obtain ⟨cur, h1, h2⟩ := h
  exact ⟨cur, h1.below hb hg, h2⟩
theorem FRp.lt {W : World} {g n : Nat} (h : FRp W g n) : g < W.heap.size := by
  obtain ⟨cur, h1, h2⟩ := h
  exact h1.lt
theorem FRp.setCells {W : World} {g n o : Nat} {vs : List Value} (h : FRp W g n) : FRp (W.setCells g o vs) g n := by
  obtain ⟨cur, h1, h2⟩ := h
  obtain ⟨cs', k1, k2, _⟩ := Blk.setCells vs o W _ h1
  exact ⟨cs', k1, by omega⟩
theorem CRp.put {W : World} {g cap i : Nat} {Y : List (Pr × Value)} (h : CRp W g Y) (hF : FRp W g cap) (hi : i < cap) (x : Pr × Value) : CRp (W.setCells g (i * 6) (prV x)) g (Y.set i x) := by
  obtain ⟨cur, h1, h2⟩ := hF
  intro k y hy j u hu
  have hj : j < 6 := by have := (List.getElem?_eq_some_iff.1 hu).1; rwa [prV_len] at this
  rw [List.getElem?_set] at hy
  by_cases hk : i = k
  · subst hk
    rw [if_pos rfl] at hy
    have hxy : x = y := by
      split at hy
      · injection hy
      · cases hy
    subst hxy
    obtain ⟨hjl, rfl⟩ := List.getElem?_eq_some_iff.1 hu
    have := World.cell?_setCells_in g (prV x) (i * 6) W (fun j hj => by
      rw [prV_len] at hj
      rw [h1.cell, Array.getElem?_eq_getElem (by omega)]; rfl) j hjl
    exact this
  · rw [if_neg hk] at hy
    rw [World.cell?_setCells_out g (prV x) (i * 6) W _ (fun _ _ => by
      rw [prV_len]
      show k * 6 + j < i * 6 ∨ i * 6 + 6 ≤ k * 6 + j
      omega)]
    exact h k y hy j u hu
theorem gb_below {w wr w2 : World} {r : Option Nat} (h : w.grownBy wr r) (hb : Below wr.heap.size wr w2) : w.grownBy w2 r :=
  ⟨hb.os.trans h.os, hb.tape.trans h.tape, hb.output.trans h.output, Nat.le_trans h.size hb.size, fun k hk hne => (hb.block k (Nat.lt_of_lt_of_le hk h.size)).trans (h.block k hk hne)⟩
theorem gb_setCells {w wr : World} {g : Nat} (h : w.grownBy wr (some g)) (o : Nat) (vs : List Value) : w.grownBy (wr.setCells g o vs) (some g) := by
  obtain ⟨r1, r2, r3⟩ := setCells_rest vs o g wr
  exact ⟨r1.trans h.os, r3.trans h.tape, r2.trans h.output, by rw [setCells_size]; exact h.size, fun k hk hne => (setCells_other vs o g k wr fun e => hne (by rw [e])).trans (h.block k hk hne)⟩
theorem gb_base {w wr : World} {g base : Nat} (h : w.grownBy wr (some g)) (hg : base ≤ g) (hb : base ≤ w.heap.size) : Below base w wr :=
  ⟨h.os, h.tape, h.output, h.size, fun k hk => h.block k (by omega) (fun e => by injection e with e; omega)⟩
theorem prs_cells : ∀ Y : List (Pr × Value), (Y.flatMap prV).length = Y.length * 6
  | [] => rfl
  | x :: Y => by rw [List.flatMap_cons, List.length_append, prs_cells Y, prV_len, List.length_cons]; omega
theorem CRp.take {W : World} {g : Nat} {Y : List (Pr × Value)} {cur : Array Value} (h : CRp W g Y) (hb : Blk W g 129 cur) (_hs : Y.length * 6 ≤ cur.size) : cur.toList.take (Y.length * 6) = Y.flatMap prV := by
  have hl : (Y.flatMap prV).length = Y.length * 6 := prs_cells Y
  apply List.ext_getElem?
  intro m
  by_cases hm : m < Y.length * 6
  · rw [List.getElem?_take, if_pos hm]
    obtain ⟨x, hx⟩ : ∃ x, Y[m / 6]? = some x := ⟨_, List.getElem?_eq_getElem (by omega)⟩
    have h4 := fm_get prV 6 prV_len Y (m / 6) (m % 6) x hx (by omega)
    obtain ⟨u, hu⟩ : ∃ u, (prV x)[m % 6]? = some u := ⟨_, List.getElem?_eq_getElem (by rw [prV_len]; omega)⟩
    have := h _ x hx _ u hu
    rw [hb.cell] at this
    rw [show m / 6 * 6 + m % 6 = m by omega] at h4 this
    rw [h4, hu, ← this]; simp
  · rw [List.getElem?_take, if_neg hm, List.getElem?_eq_none (by omega)]
theorem clearP_run (W : World) (g i n cap : Nat) (cur : Array Value) (h1 : Blk W g 129 cur) (h2 : n * 6 ≤ cur.size) (hi : i < n) (ty : TypeId) :
    (Builtin.clear_ #[50] ty #[.slice (some ⟨g, i * 6, none⟩) (n - i) cap]).run Tryz.prog W = .ok (.tuple #[]) (W.setCells g (i * 6) (Builtin.zeroCells pZ.cells (n - i)).toList) := by
  have hv : ∀ w, (zeroValue 129).run Tryz.prog w = .ok pZ w := fun w => by
    obtain ⟨i0, hi0, hz0, hz1, hz2⟩ := info_parts prop_info
    simp [zeroValue, typeInfo, hi0, hz0]
  have hl : (Builtin.zeroCells pZ.cells (n - i)).toList.length = (n - i) * 6 := by
    simp [Builtin.zeroCells, pZ, Value.cells]
  have hst := run_storeCells_cells (P := Tryz.prog) g (i * 6) (Builtin.zeroCells pZ.cells (n - i)).toList 0 W
    (fun j hj => by
      rw [hl] at hj
      rw [h1.cell, Array.getElem?_eq_getElem (by omega)]; rfl)
    (fun j _ => h1.frozen _)
    (fun v hv => by
      simp only [Builtin.zeroCells, Array.toList_map, List.mem_map] at hv
      obtain ⟨q, _, rfl⟩ := hv
      have hq : q % pZ.cells.size = 0 ∨ q % pZ.cells.size = 1 ∨ q % pZ.cells.size = 2 ∨ q % pZ.cells.size = 3 ∨ q % pZ.cells.size = 4 ∨ q % pZ.cells.size = 5 := by
        show q % 6 = 0 ∨ q % 6 = 1 ∨ q % 6 = 2 ∨ q % 6 = 3 ∨ q % 6 = 4 ∨ q % 6 = 5
        omega
      rcases hq with e | e | e | e | e | e <;> rw [e] <;> rfl)
  simp only [Nat.add_zero] at hst
  obtain ⟨m, hm⟩ : ∃ m, n - i = m + 1 := ⟨n - i - 1, by omega⟩
  rw [hm] at hst ⊢
  simp [Builtin.clear_, run_underlying Tryz.underlying50, hv, hst]
end Go.Proofs.YtmkicfjcgbfaaaaGreatDoor
