/-
  DERIVED. What operations make, place by place; what an operation without error gives. Plain law. Conditions: none.
  slices.Insert and Delete at a base's row that is turned in place. Conditions: sizes.
  Operations one after another, in plain words and in memory. Conditions: none.
  The walks of text.edited, florref1.Edited, text.CheckEdit, florref1.EditError. Conditions: the lengths are within the form's reach.
  The reference's walks of Edited and EditError. Conditions: lengths in reach.
  Plain law: how many bytes two strings have in common at the front, and behind that at the end. Conditions: none.
  Plain law: a list of edits, one after the other. Conditions: none.
  The walks of text.Apply and text.Inverse. Conditions: the lengths are within the form's reach.
  By an AI agent.
-/
import Derived.Test.YtackphgnkdpgnaaGreatTj09
import Derived.Test.YtackphgnkdpgnaaGreatTj16
import Derived.Test.YtackphgnkdpgnaaGreatTj10
import Derived.Test.YtackphgnkdpgnaaGreatTj08
import Derived.Deep.QuietTactic
import Derived.BigQuiet
import Derived.WalkSpells
import Derived.Test.YtackphgnkdpgnaaGreatTj02
import Derived.Test.YtackphgnkdpgnaaGreatTj01
import Derived.RegionTactic
namespace Go.Proofs.YtackphgnkdpgnaaGreat

theorem upd_none {l : List Bl} {p : Int} {h : Bl → Bl} (hn : ∀ x ∈ l, x.id ≠ p) : upd l p h = l := by
  unfold upd
  conv => rhs; rw [← List.map_id l]
  exact List.map_congr_left fun x hx => by rw [if_neg (hn x hx)]; rfl
/-- a block turned, by its place -/
theorem upd_set {l : List Bl} (hr : Rise l) {q : Nat} {y : Bl} (hy : l[q]? = some y) {p : Int} (hp : y.id = p) (h : Bl → Bl) : upd l p h = l.set q (h y) := by
  refine List.ext_getElem? fun i => ?_
  unfold upd
  rw [List.getElem?_map, List.getElem?_set]
  obtain ⟨hq, _⟩ := List.getElem?_eq_some_iff.1 hy
  by_cases e : q = i
  · subst e
    rw [if_pos rfl, if_pos hq, hy]
    show some (if y.id = p then h y else y) = _
    rw [if_pos hp]
  · rw [if_neg e]
    cases hx : l[i]? with
    | none => rfl
    | some x =>
      show some (if x.id = p then h x else x) = _
      rw [if_neg]
      intro hxp
      rcases Nat.lt_or_ge i q with g | g
      · have := hr i q x y g hx hy; omega
      · have := hr q i y x (by omega) hy hx; omega
theorem upd_insB {x : Bl} {p : Int} {h : Bl → Bl} (hp : x.id ≠ p) (hh : ∀ b, (h b).id = b.id) : ∀ l : List Bl, upd (insB x l) p h = insB x (upd l p h)
  | [] => by simp [upd, insB, hp]
  | y :: l => by
    have hid : (if y.id = p then h y else y).id = y.id := by split <;> first | exact hh y | rfl
    have ih := upd_insB hp hh l
    unfold upd at ih ⊢
    rw [insB]
    by_cases e : y.id < x.id
    · rw [if_pos e, List.map_cons, List.map_cons, insB, hid, if_pos e, ih]
    · rw [if_neg e, List.map_cons, if_neg hp, List.map_cons, insB, hid, if_neg e]
theorem LowB.tail {y : Bl} {l : List Bl} {id : Int} {i : Nat} (h : LowB (y :: l) id (i + 1)) : LowB l id i :=
  ⟨by have := h.1; simpa using this, fun k x hk hx => h.2.1 (k + 1) x (by omega) (by simpa using hx), fun k x hk hx => h.2.2 (k + 1) x (by omega) (by simpa using hx)⟩
theorem insB_low {x : Bl} : ∀ {l : List Bl} {i : Nat}, LowB l x.id i → insB x l = l.take i ++ x :: l.drop i
  | [], i, h => by
    obtain rfl : i = 0 := by have := h.1; simpa using this
    rfl
  | y :: l, 0, h => by
    have := h.2.2 0 y (Nat.le_refl _) rfl
    rw [insB, if_neg (by omega)]; rfl
  | y :: l, i + 1, h => by
    have := h.2.1 0 y (by omega) rfl
    rw [insB, if_pos this, insB_low h.tail]; rfl
theorem LowB.place {l : List Bl} {id : Int} {i p : Nat} {x : Bl} (h : LowB l id i) (hr : Rise l) (hx : l[p]? = some x) (hi : x.id = id) : i = p := by
  rcases Nat.lt_trichotomy i p with g | g | g
  · obtain ⟨hp, _⟩ := List.getElem?_eq_some_iff.1 hx
    have hi' : i < l.length := by omega
    have h1 := h.2.2 i _ (Nat.le_refl _) (List.getElem?_eq_getElem hi')
    have h2 := hr i p _ x g (List.getElem?_eq_getElem hi') hx
    omega
  · exact g
  · have := h.2.1 p x g hx; omega
/-- a block taken out, by its place -/
theorem filter_out {l : List Bl} (hr : Rise l) {p : Nat} {x : Bl} (hx : l[p]? = some x) : (l.filter fun b => b.id != x.id) = l.take p ++ l.drop (p + 1) := by
  obtain ⟨hp, e⟩ := List.getElem?_eq_some_iff.1 hx
  conv => lhs; rw [← List.take_append_drop p l, List.drop_eq_getElem_cons hp, e]
  rw [List.filter_append, List.filter_cons, if_neg (by simp), List.filter_eq_self.2, List.filter_eq_self.2]
  · intro b hb
    obtain ⟨j, hj⟩ := List.mem_iff_getElem?.1 hb
    rw [List.getElem?_drop] at hj
    have := hr p _ x b (by omega) hx hj
    rw [bne_iff_ne]; omega
  · intro b hb
    obtain ⟨j, hj⟩ := List.mem_iff_getElem?.1 hb
    rw [List.getElem?_take] at hj
    split at hj
    · have := hr j p b x (by omega) hj hx
      rw [bne_iff_ne]; omega
    · cases hj
theorem Rise.upd {l : List Bl} (hr : Rise l) {p : Int} {h : Bl → Bl} (hh : ∀ b, (h b).id = b.id) : Rise (upd l p h) := rise_iff.2 (upd_sorted hh (rise_iff.1 hr))
theorem IdsIn.upd {l : List Bl} (hi : IdsIn l) {p : Int} {h : Bl → Bl} (hh : ∀ b, (h b).id = b.id) : IdsIn (upd l p h) := fun x hx => by
  obtain ⟨b, hb, e⟩ := upd_mem.1 hx
  rw [e]
  split
  · rw [hh]; exact hi b hb
  · exact hi b hb
theorem upd_at {l : List Bl} {p : Int} {h : Bl → Bl} {k : Nat} {x : Bl} (hx : l[k]? = some x) : (upd l p h)[k]? = some (if x.id = p then h x else x) := by
  unfold upd; rw [List.getElem?_map, hx]; rfl
/-- what a move makes, step by step -/
theorem movL_eq {l : List Bl} {id p par : Int} {i : Nat} (hk : ∀ b ∈ l, b.id ≠ par → id ∉ b.kids) : movL l id p i = upd (upd (upd l par fun b => b.withKids (lessK b.kids id)) id fun b => b.withPar p) p fun b => b.withKids (plusK b.kids i id) := by
  unfold movL upd
  rw [List.map_map, List.map_map]
  refine List.map_congr_left fun b hb => ?_
  have hless : b.id ≠ par → lessK b.kids id = b.kids := fun e => less_same (hk b hb e)
  obtain ⟨bi, bp, bk, bt, bs⟩ := b
  simp only [Function.comp, movB, Bl.withKids, Bl.withPar] at hless ⊢
  by_cases h1 : bi = par
  · by_cases h2 : bi = id
    · by_cases h3 : bi = p
      · simp only [if_pos h1, if_pos h2, if_pos h3]
      · simp only [if_pos h1, if_pos h2, if_neg h3]
    · by_cases h3 : bi = p
      · simp only [if_pos h1, if_neg h2, if_pos h3]
      · simp only [if_pos h1, if_neg h2, if_neg h3]
  · have := hless h1
    by_cases h2 : bi = id
    · by_cases h3 : bi = p
      · simp only [if_neg h1, if_pos h2, if_pos h3, this]
      · simp only [if_neg h1, if_pos h2, if_neg h3, this]
    · by_cases h3 : bi = p
      · simp only [if_neg h1, if_neg h2, if_pos h3, this]
      · simp only [if_neg h1, if_neg h2, if_neg h3, this]

/-- what an operation without error gives, kind by kind -/
inductive OpF (l : List Bl) (o : Opn) : Prop
  | ins (h : o.kind = 1) (hn : ∀ x ∈ l, x.id ≠ o.id) (hid : 1 ≤ o.id ∧ o.id ≤ 1000000) (q : Nat) (y : Bl) (hy : l[q]? = some y) (hyi : y.id = o.parent) (ha : 0 ≤ o.at_) (hk : o.at_.toNat ≤ y.kids.length) (h5 : y.kids.length < 500) (hl : l.length < 2000)
  | rem (h : o.kind = 2) (p : Nat) (x : Bl) (hx : l[p]? = some x) (hxi : x.id = o.id) (h0 : x.id ≠ 0) (hk : x.kids = []) (q : Nat) (y : Bl) (hy : l[q]? = some y) (hyi : y.id = x.parent) (hin : x.id ∈ y.kids)
  | mov (h : o.kind = 3) (p : Nat) (x : Bl) (hx : l[p]? = some x) (hxi : x.id = o.id) (h0 : x.id ≠ 0) (q : Nat) (y : Bl) (hy : l[q]? = some y) (hyi : y.id = x.parent) (hin : x.id ∈ y.kids) (r : Nat) (z : Bl) (hz : l[r]? = some z) (hzi : z.id = o.parent) (ha : 0 ≤ o.at_) (hk : o.at_.toNat ≤ (lessK z.kids o.id).length)
  | edit (h : o.kind = 4) (p : Nat) (x : Bl) (hx : l[p]? = some x) (hxi : x.id = o.id) (he : edErr x.text o.text o.from_ o.to_ = 0)
  | set (h : o.kind = 5) (p : Nat) (x : Bl) (hx : l[p]? = some x) (hxi : x.id = o.id) (hn : nmErr o.name = 0) (hv : vErr o.val = 0) (hp : cpErr x.props = 0) (hl : (setPr x.props o.name o.val).length ≤ 20)
theorem Good.par_at {l : List Bl} {f : Int → Option Int} (G : Good l f) {x : Bl} (hx : x ∈ l) (h0 : x.id ≠ 0) : ∃ (q : Nat) (y : Bl), l[q]? = some y ∧ y.id = x.parent ∧ x.id ∈ y.kids := by
  obtain ⟨b, hb, h1, h2, _⟩ := G.tree.par x hx h0
  obtain ⟨q, hq⟩ := List.mem_iff_getElem?.1 hb
  exact ⟨q, b, hq, h1, h2⟩
theorem Good.op_facts {l : List Bl} {f : Int → Option Int} (G : Good l f) {o : Opn} (h : opErr l f o = 0) : OpF l o := by
  unfold opErr at h
  by_cases h1 : outI o.kind 1 5 = true
  · rw [if_pos h1] at h; omega
  rw [if_neg h1] at h
  by_cases h2 : usedB o = false
  · rw [if_pos h2] at h; omega
  rw [if_neg h2] at h
  by_cases k1 : o.kind = 1
  · rw [if_pos k1] at h
    unfold insErr at h
    by_cases q1 : o.id < 1 ∨ 1000000 < o.id
    · rw [if_pos q1] at h; omega
    rw [if_neg q1] at h
    by_cases q2 : 0 ≤ posOf l o.id
    · rw [if_pos q2] at h; omega
    rw [if_neg q2] at h
    by_cases q3 : posOf l o.parent < 0
    · rw [if_pos q3] at h; omega
    rw [if_neg q3] at h
    by_cases q4 : o.at_ < 0 ∨ ((blkAt l o.parent).kids.length : Int) < o.at_
    · rw [if_pos q4] at h; omega
    rw [if_neg q4] at h
    by_cases q5 : txErr o.text = 0
    case neg => rw [if_pos q5] at h; exact absurd h q5
    rw [if_neg (fun e => e q5)] at h
    by_cases q6 : 2000 ≤ l.length ∨ 500 ≤ (blkAt l o.parent).kids.length
    · rw [if_pos q6] at h; omega
    rcases posOf_spec l o.id with ⟨_, hn⟩ | ⟨i, b, e, _⟩
    case inr => omega
    rcases posOf_spec l o.parent with ⟨e, _⟩ | ⟨i, b, e, hb, hbi, _⟩
    · omega
    rw [blkAt_of e hb] at q4 q6
    exact .ins k1 hn (by omega) i b hb hbi (by omega) (by omega) (by omega) (by omega)
  rw [if_neg k1] at h
  by_cases k3 : o.kind = 3
  · rw [if_pos k3] at h
    unfold movErr at h
    by_cases q1 : o.id = 0 ∨ posOf l o.id < 0 ∨ posOf l o.parent < 0
    · rw [if_pos q1] at h; omega
    rw [if_neg q1] at h
    by_cases q2 : o.id ∈ pth l (dF f o.parent).toNat o.parent
    · rw [if_pos q2] at h; omega
    rw [if_neg q2] at h
    by_cases q3 : o.at_ < 0 ∨ ((lessK (blkAt l o.parent).kids o.id).length : Int) < o.at_
    · rw [if_pos q3] at h; omega
    rcases posOf_spec l o.id with ⟨e, _⟩ | ⟨i, x, _, hx, hxi, _⟩
    · omega
    rcases posOf_spec l o.parent with ⟨e, _⟩ | ⟨r, z, e, hz, hzi, _⟩
    · omega
    rw [blkAt_of e hz] at q3
    have hx0 : x.id ≠ 0 := by omega
    obtain ⟨q, y, hy, hyi, hin⟩ := G.par_at (List.mem_of_getElem? hx) hx0
    exact .mov k3 i x hx hxi hx0 q y hy hyi hin r z hz hzi (by omega) (by omega)
  rw [if_neg k3] at h
  by_cases q1 : posOf l o.id < 1
  · rw [if_pos q1] at h; omega
  rw [if_neg q1] at h
  rcases posOf_spec l o.id with ⟨e, _⟩ | ⟨i, x, e, hx, hxi, hxf⟩
  · omega
  have hxm := List.mem_of_getElem? hx
  rw [blkAt_of e hx] at h
  have hx0 : x.id ≠ 0 := fun e0 => by
    obtain ⟨r, r', hl, a1, _⟩ := G.tree.root
    exact hxf 0 r (by omega) (by rw [hl]; rfl) (by rw [a1, ← hxi, e0])
  by_cases k2 : o.kind = 2
  · rw [if_pos k2] at h
    by_cases q2 : 0 < x.kids.length
    · rw [if_pos q2] at h; omega
    obtain ⟨q, y, hy, hyi, hin⟩ := G.par_at hxm hx0
    exact .rem k2 i x hx hxi hx0 (List.eq_nil_of_length_eq_zero (by omega)) q y hy hyi hin
  rw [if_neg k2] at h
  by_cases k4 : o.kind = 4
  · rw [if_pos k4] at h
    exact .edit k4 i x hx hxi h
  rw [if_neg k4] at h
  have k5 : o.kind = 5 := by
    unfold outI at h1
    simp at h1; omega
  have hcp := (G.tree.loc x hxm).2.2
  unfold setErr at h
  by_cases q2 : nmErr o.name = 0
  case neg => rw [if_pos q2] at h; exact absurd h q2
  rw [if_neg (fun e => e q2)] at h
  by_cases q3 : vErr o.val = 0
  case neg => rw [if_pos q3] at h; exact absurd h q3
  rw [if_neg (fun e => e q3)] at h
  by_cases q4 : o.val.kind ≠ 0 ∧ nmOf x.props o.name < 0 ∧ 20 ≤ x.props.length
  · rw [if_pos q4] at h; omega
  exact .set k5 i x hx hxi q2 q3 hcp (cp_ok (setPr_ok hcp q2 q3 q4)).1
end Go.Proofs.YtackphgnkdpgnaaGreat
namespace Go.Proofs.YtackphgnkdpgnaaGreat
open Go.RowKit

theorem blk_one (x : BK) (h1 : ∃ A n c, x.2.1 = .slice A n c) (h2 : ∃ A n c, x.2.2 = .slice A n c) : ∀ u ∈ blV x, u.oneCell' = true := by
  obtain ⟨A, n, c, e1⟩ := h1
  obtain ⟨A', n', c', e2⟩ := h2
  intro u hu
  unfold blV at hu
  rw [e1, e2] at hu
  simp at hu
  rcases hu with rfl | rfl | rfl | rfl | rfl <;> rfl
theorem NB.slices {w : World} {S : Nat → Prop} {x : BK} (h : NB w S x) : (∃ A n c, x.2.1 = .slice A n c) ∧ ∃ A n c, x.2.2 = .slice A n c := by
  obtain ⟨⟨A, n, c, e, _⟩, ⟨A', n', c', M, _, e', _⟩⟩ := h
  exact ⟨⟨A, n, c, e⟩, ⟨A', n', c', e'⟩⟩
theorem RowB.one {w : World} {g cap : Nat} {M : List BK} (h : RowB w g cap M) : ∀ u ∈ M.flatMap blV, u.oneCell' = true := by
  intro u hu
  obtain ⟨x, hx, hu⟩ := List.mem_flatMap.1 hu
  obtain ⟨h1, h2⟩ := (h.nest x hx).slices
  exact blk_one x h1 h2 u hu
/-- a new block -/
def newB (id p : Int) (s : ByteArray) : BK := (⟨id, p, [], s, []⟩, .slice none 0 0, .slice none 0 0)
theorem newB_nest (w : World) (S : Nat → Prop) (id p : Int) (s : ByteArray) : NB w S (newB id p s) :=
  ⟨⟨none, 0, 0, rfl, rfl, ⟨Nat.le_refl _, by omega⟩, ⟨rfl, fun h => absurd h (by omega)⟩, fun x hx => by cases hx⟩, ⟨none, 0, 0, [], rfl, rfl, rfl, ⟨Nat.le_refl _, by omega⟩, ⟨rfl, fun h => absurd h (by omega)⟩, fun x hx => by cases hx⟩⟩
theorem fmB_take (M : List BK) (i : Nat) : (M.flatMap blV).take (i * 5) = (M.take i).flatMap blV := by
  conv => lhs; rw [← List.take_append_drop i M, List.flatMap_append]
  rcases Nat.lt_or_ge i M.length with h | h
  · rw [List.take_append_of_le_length (by rw [fmB_len, List.length_take]; omega), List.take_of_length_le (by rw [fmB_len, List.length_take]; omega)]
  · rw [List.drop_eq_nil_of_le h, List.flatMap_nil, List.append_nil, List.take_of_length_le (by rw [fmB_len, List.length_take]; omega)]
theorem fmB_drop (M : List BK) (i : Nat) : (M.flatMap blV).drop (i * 5) = (M.drop i).flatMap blV := by
  conv => lhs; rw [← List.take_append_drop i M, List.flatMap_append]
  rcases Nat.lt_or_ge i M.length with h | h
  · have : ((M.take i).flatMap blV).length = i * 5 := by rw [fmB_len, List.length_take]; omega
    rw [← this, List.drop_left]
  · rw [List.drop_eq_nil_of_le h, List.flatMap_nil, List.append_nil, List.drop_eq_nil_of_le]
    rw [fmB_len, List.length_take]; omega
/-- what an insert leaves -/
def InsBR (g : Nat) (M' : List BK) (w : World) (e : Ending) (w' : World) : Prop := ∃ g' cap', e = .returned (.slice (some ⟨g', 0, none⟩) M'.length cap') ∧ RowB w' g' cap' M' ∧ w.grownBy w' (some g) ∧ (g' = g ∨ w.heap.size ≤ g')
theorem insertB_any (w : World) (g cap : Nat) (M : List BK) (h : RowB w g cap M) (i : Nat) (hi : i ≤ M.length) (hl : M.length < 100000) (id p : Int) (s : ByteArray) :
    Calls Tryz.prog 60 #[.slice (some ⟨g, 0, none⟩) M.length cap, .int .i64 i, .slice (some ⟨w.heap.size, 0, none⟩) 1 1] (w.alloc (.cells #[.int .i64 id, .int .i64 p, .slice none 0 0, .string s, .slice none 0 0] 45)) (InsBR g (M.take i ++ newB id p s :: M.drop i) (w.alloc (.cells #[.int .i64 id, .int .i64 p, .slice none 0 0, .string s, .slice none 0 0] 45))) := by
  obtain ⟨wa, hwa⟩ : ∃ wa, wa = w.alloc (.cells #[.int .i64 id, .int .i64 p, .slice none 0 0, .string s, .slice none 0 0] 45) := ⟨_, rfl⟩
  have hk : Blk wa w.heap.size 45 (blV (newB id p s)).toArray := by rw [hwa]; exact Blk.new _ _ _
  have hb : Below w.heap.size w wa := by rw [hwa]; exact (Below.refl _ _).alloc (Nat.le_refl _) _
  rw [← hwa]
  have ha := h.below hb
  have hgl := h.lt
  have hbz := hb.size
  refine (insB_own (.slice (some ⟨g, 0, none⟩) M.length cap) M.length (M.flatMap blV) g i w.heap.size (blV (newB id p s)) wa (ha.own (Nat.le_refl _)) hi (by omega) (blV_len _) hk (fun e => by have : g = w.heap.size := Option.some.inj e; omega) ha.one (blk_one _ ⟨_, _, _, rfl⟩ ⟨_, _, _, rfl⟩) (Nat.le_of_lt ha.lt)).mono ?_
  rintro e w1 ⟨v', rfl, hown, hg, hv⟩
  have hfm : (M.take i ++ newB id p s :: M.drop i).flatMap blV = (M.flatMap blV).take (i * 5) ++ blV (newB id p s) ++ (M.flatMap blV).drop (i * 5) := by
    rw [fmB_take, fmB_drop, List.flatMap_append, List.flatMap_cons, List.append_assoc]
  have hlen : (M.take i ++ newB id p s :: M.drop i).length = M.length + 1 := by
    rw [List.length_append, List.length_cons, List.length_take, List.length_drop]; omega
  rw [← hfm, ← hlen] at hown
  have hg' : wa.grownBy w1 (some g) := hg
  obtain ⟨g', cap', rfl, hgg, hrow⟩ := RowB.of_own hown (by omega) (by omega) fun x hx => by
    have hx' : NB wa (fun b => b < wa.heap.size ∧ b ≠ g) x := by
      rcases List.mem_append.1 hx with hx | hx
      · exact ha.nest x (List.mem_of_mem_take hx)
      · rcases List.mem_cons.1 hx with rfl | hx
        · exact newB_nest _ _ _ _ _
        · exact ha.nest x (List.mem_of_mem_drop hx)
    refine NB_ok _ _ _ _ x hx' (fun q hq => World.cell?_of_block (hg'.block q.block hq.1 fun e => hq.2 (Option.some.inj e))) fun b hb' => ⟨Nat.lt_of_lt_of_le hb'.1 hg'.size, ?_⟩
    rcases hv with e | e <;> rw [e]
    · exact fun e => hb'.2 (Option.some.inj e).symm
    · exact fun e => by have := Option.some.inj e; omega
  refine ⟨g', cap', rfl, hrow, hg', ?_⟩
  rcases hv with e | e
  · exact .inl (Option.some.inj e)
  · exact .inr (Nat.le_of_eq (Option.some.inj e).symm)
/-- what a delete leaves -/
def DelBR (g cap : Nat) (M' : List BK) (w : World) (e : Ending) (w' : World) : Prop := ∃ cap', e = .returned (.slice (some ⟨g, 0, none⟩) M'.length cap') ∧ RowB w' g cap' M' ∧ w.grownBy w' (some g) ∧ cap = cap
theorem deleteB_any (w : World) (g cap : Nat) (M : List BK) (h : RowB w g cap M) (i : Nat) (hi : i < M.length) (h2 : 2 ≤ M.length) :
    Calls Tryz.prog 63 #[.slice (some ⟨g, 0, none⟩) M.length cap, .int .i64 i, .int .i64 ((i : Int) + 1)] w (DelBR g cap (M.take i ++ M.drop (i + 1)) w) := by
  have hfew := h.few
  refine (deleteB_own (.slice (some ⟨g, 0, none⟩) M.length cap) M.length (M.flatMap blV) g i w (h.own (Nat.le_refl _)) hi hfew h.one).mono ?_
  rintro e w1 ⟨v', rfl, hown, hg, hv⟩
  have hfm : (M.take i ++ M.drop (i + 1)).flatMap blV = (M.flatMap blV).take (i * 5) ++ (M.flatMap blV).drop ((i + 1) * 5) := by
    rw [fmB_take, fmB_drop, List.flatMap_append]
  have hlen : (M.take i ++ M.drop (i + 1)).length = M.length - 1 := by
    rw [List.length_append, List.length_take, List.length_drop]; omega
  rw [← hfm, ← hlen] at hown
  have hg' : w.grownBy w1 (some g) := hg
  have hv' : v'.ownBlock = some g := hv
  obtain ⟨g', cap', rfl, hgg, hrow⟩ := RowB.of_own hown (by omega) (by omega) fun x hx => by
    have hx' : NB w (fun b => b < w.heap.size ∧ b ≠ g) x := by
      rcases List.mem_append.1 hx with hx | hx
      · exact h.nest x (List.mem_of_mem_take hx)
      · exact h.nest x (List.mem_of_mem_drop hx)
    exact NB_ok _ _ _ _ x hx' (fun q hq => World.cell?_of_block (hg'.block q.block hq.1 fun e => hq.2 (Option.some.inj e))) fun b hb' => ⟨Nat.lt_of_lt_of_le hb'.1 hg'.size, by rw [hv']; exact fun e => hb'.2 (Option.some.inj e).symm⟩
  obtain rfl : g' = g := Option.some.inj hv'
  exact ⟨cap', rfl, hrow, hg', rfl⟩
end Go.Proofs.YtackphgnkdpgnaaGreat
namespace Go.Proofs.YtackphgnkdpgnaaGreat
open Go.RowKit

/-- operations one after another -/
def applL (l : List Bl) (os : List Opn) : List Bl := os.foldl applied l
theorem applL_snoc {l : List Bl} {os : List Opn} {k : Nat} {o : Opn} (h : os[k]? = some o) : applL l (os.take (k + 1)) = applied (applL l (os.take k)) o := by
  obtain ⟨hk, e⟩ := List.getElem?_eq_some_iff.1 h
  unfold applL
  rw [List.take_succ_eq_append_getElem hk, List.foldl_append, e]; rfl
/-- each of them has no error where it is done -/
def OkAll (l : List Bl) (os : List Opn) : Prop := ∀ (k : Nat) (o : Opn), os[k]? = some o → ∃ f, Good (applL l (os.take k)) f ∧ opErr (applL l (os.take k)) f o = 0
theorem OkAll.one {l : List Bl} {o : Opn} {f : Int → Option Int} (G : Good l f) (h : opErr l f o = 0) : OkAll l [o] := fun k x hx => by
  cases k with
  | zero =>
    obtain rfl : o = x := by simpa using hx
    exact ⟨f, G, h⟩
  | succ k => simp at hx

/-! ### operations in memory, in blocks of a sort -/
def ROsX (W : World) (S : Nat → Prop) (v : Value) (l : List Opn) : Prop := ∃ A n c, ∃ M : List (Opn × Value), M.map Prod.fst = l ∧ v = .slice A n c ∧ n = M.length ∧ (n ≤ c ∧ n * 144 ≤ 140737488351232) ∧ RdX W S 13 A n (M.flatMap opV) ∧ ∀ x ∈ M, RVX W S x.2 x.1.val.items ∧ OI x.1
section
variable {W W' : World} {S S' : Nat → Prop} {v : Value} {l : List Opn}
theorem ROsX.keep (h : ROsX W S v l) (hk : ∀ p : Addr, S p.block → W'.cell? p = W.cell? p) : ROsX W' S v l := by
  obtain ⟨A, n, c, M, h1, h2, h3, h4, h5, h6⟩ := h
  exact ⟨A, n, c, M, h1, h2, h3, h4, h5.keep hk, fun x hx => ⟨(h6 x hx).1.keep hk, (h6 x hx).2⟩⟩
theorem ROsX.weak (h : ROsX W S v l) (hS : ∀ b, S b → S' b) : ROsX W S' v l := by
  obtain ⟨A, n, c, M, h1, h2, h3, h4, h5, h6⟩ := h
  exact ⟨A, n, c, M, h1, h2, h3, h4, h5.weak hS, fun x hx => ⟨(h6 x hx).1.weak hS, (h6 x hx).2⟩⟩
theorem ROsX.of {B : Nat} (h : ROs W B v l) : ROsX W (· < B) v l := by
  obtain ⟨A, n, c, M, h1, h2, h3, h4, h5, h6⟩ := h
  exact ⟨A, n, c, M, h1, h2, h3, h4, h5, fun x hx => ⟨.of (h6 x hx).1, (h6 x hx).2⟩⟩
theorem ROsX.reads {B : Nat} (h : ROsX W S v l) (hS : ∀ b, S b → b < B) : ROs W B v l := by
  obtain ⟨A, n, c, M, h1, h2, h3, h4, h5, h6⟩ := h
  exact ⟨A, n, c, M, h1, h2, h3, h4, h5.reads hS, fun x hx => ⟨(h6 x hx).1.reads hS, (h6 x hx).2⟩⟩
/-- an operation in a row -/
theorem ROsX.at_ {n c B : Nat} {A : Option Addr} (h : ROsX W S (.slice A n c) l) (hB : ∀ b, S b → b < B) {k : Nat} {o : Opn} (hk : l[k]? = some o) :
    ∃ b off Av nv cv, A = some ⟨b, off, none⟩ ∧ S b ∧ (∀ i u, (opV (o, .slice Av nv cv))[i]? = some u → W.cell? ⟨b, off + k * 13 + i, none⟩ = some u) ∧ RVX W S (.slice Av nv cv) o.val.items ∧ OI o := by
  obtain ⟨A', n', c', M, h1, e, h2, h3, h4, h5⟩ := h
  injection e with e1 e2 e3
  subst e1 e2 e3
  obtain ⟨y, hy, rfl⟩ : ∃ y, M[k]? = some y ∧ y.1 = o := by
    rw [← h1, List.getElem?_map, Option.map_eq_some_iff] at hk
    exact hk
  obtain ⟨b, off, e, hb, hc⟩ := (h4.reads hB).plain_at (by omega) opV_len h2 hy
  obtain ⟨ad, e2, hS, _⟩ := h4.2 (by have := (List.getElem?_eq_some_iff.1 hy).1; omega)
  have e3 : ad = ⟨b, off, none⟩ := by rw [e] at e2; exact (Option.some.inj e2).symm
  rw [e3] at hS
  obtain ⟨k1, k2⟩ := h5 y (List.mem_of_getElem? hy)
  obtain ⟨o, v⟩ := y
  obtain ⟨Av, nv, cv, rfl⟩ := (k1.reads hB).slice
  exact ⟨b, off, Av, nv, cv, e, hS, hc, k1, k2⟩
/-- one operation that lies in a block -/
theorem ROsX.one {g : Nat} {o : Opn} {u : Value} (h : Blk W g 32 (opV (o, u)).toArray) (hS : S g) (hv : RVX W S u o.val.items) (hi : OI o) : ROsX W S (.slice (some ⟨g, 0, none⟩) 1 1) [o] :=
  ⟨_, 1, 1, [(o, u)], rfl, rfl, rfl, ⟨Nat.le_refl _, by omega⟩, ⟨rfl, fun _ => ⟨_, rfl, hS, fun j x hx => by
    rw [Addr.add_lit, Nat.zero_add, h.cell, ← hx, List.flatMap_singleton, List.getElem?_toArray]⟩⟩, fun x hx => by
    obtain rfl := List.mem_singleton.1 hx
    exact ⟨hv, hi⟩⟩
end

/-! ### what each kind makes -/
theorem insB_rise {L : List Bl} (hr : Rise L) {x : Bl} (hn : ∀ y ∈ L, y.id ≠ x.id) : Rise (insB x L) := rise_iff.2 (insB_sorted x L (rise_iff.1 hr) hn)
theorem insB_ids {L : List Bl} (hi : IdsIn L) {x : Bl} (hx : 0 ≤ x.id ∧ x.id ≤ 1000000) : IdsIn (insB x L) := fun y hy => by
  rcases (insB_mem x y L).1 hy with rfl | hy
  · exact hx
  · exact hi y hy
theorem put_at {α : Type} {M : List α} {i q : Nat} {x y : α} (h : M[q]? = some y) : ∃ q' : Nat, (M.take i ++ x :: M.drop i)[q']? = some y := by
  refine List.mem_iff_getElem?.1 ?_
  have hy := List.mem_of_getElem? h
  rw [← List.take_append_drop i M] at hy
  rcases List.mem_append.1 hy with hy | hy
  · exact List.mem_append_left _ hy
  · exact List.mem_append_right _ (List.mem_cons_of_mem _ hy)
theorem put_new {α : Type} {M : List α} {i : Nat} (hi : i ≤ M.length) (x : α) : (M.take i ++ x :: M.drop i)[i]? = some x := by
  have : (M.take i).length = i := by rw [List.length_take]; omega
  rw [List.getElem?_append_right (by omega), this, Nat.sub_self]; rfl
theorem map_put {M : List BK} {i : Nat} {x : BK} (hlow : LowB (M.map Prod.fst) x.1.id i) : (M.take i ++ x :: M.drop i).map Prod.fst = insB x.1 (M.map Prod.fst) := by
  rw [insB_low hlow, List.map_append, List.map_cons, List.map_take, List.map_drop]
theorem map_setk (M : List BK) (q : Nat) (y : BK) : (M.set q y).map Prod.fst = (M.map Prod.fst).set q y.1 := by rw [List.map_set]
/-- a block turned at its place in a row -/
theorem map_upd {M : List BK} (hr : Rise (M.map Prod.fst)) {q : Nat} {y : BK} (hy : M[q]? = some y) (h : Bl → Bl) (kv pv : Value) : (M.set q (h y.1, kv, pv)).map Prod.fst = upd (M.map Prod.fst) y.1.id h := by
  rw [map_setk, upd_set hr (q := q) (y := y.1) (by rw [List.getElem?_map, hy]; rfl) rfl]
theorem applied_ins {l : List Bl} {o : Opn} (h : o.kind = 1) (hn : ∀ x ∈ l, x.id ≠ o.id) {y : Bl} (hy : y ∈ l) (hyi : y.id = o.parent) : applied l o = upd (insB ⟨o.id, o.parent, [], o.text, []⟩ l) o.parent fun b => b.withKids (plusK b.kids o.at_.toNat o.id) := by
  unfold applied insL
  rw [if_pos h, upd_insB]
  · show o.id ≠ o.parent
    rw [← hyi]; exact fun e => hn y hy e.symm
  · exact fun b => rfl
theorem applied_rem {l : List Bl} (K : Kids l) {o : Opn} (h : o.kind = 2) {x : Bl} (hx : x ∈ l) (hxi : x.id = o.id) : applied l o = (upd l x.parent fun b => b.withKids (lessK b.kids o.id)).filter fun b => b.id != o.id := by
  unfold applied remL
  rw [if_neg (by omega), if_pos h, ← hxi, parOf_eq K hx]
theorem applied_mov {l : List Bl} (K : Kids l) {o : Opn} (h : o.kind = 3) {x : Bl} (hx : x ∈ l) (hxi : x.id = o.id) : applied l o = upd (upd (upd l x.parent fun b => b.withKids (lessK b.kids o.id)) o.id fun b => b.withPar o.parent) o.parent fun b => b.withKids (plusK b.kids o.at_.toNat o.id) := by
  unfold applied
  rw [if_neg (by omega), if_neg (by omega), if_pos h]
  refine movL_eq fun b hb hp hin => ?_
  obtain ⟨_, y, hy, hyi, hyp⟩ := K.kid b hb _ hin
  have : y = x := K.rise.inj hy hx (by rw [hyi, hxi])
  subst this
  exact hp hyp.symm
theorem applied_edit {l : List Bl} {o : Opn} (h : o.kind = 4) : applied l o = upd l o.id fun b => b.withText (edS b.text o.text o.from_ o.to_) := by
  unfold applied
  rw [if_neg (by omega), if_neg (by omega), if_neg (by omega), if_pos h]
theorem applied_set {l : List Bl} {o : Opn} (h : o.kind = 5) : applied l o = upd l o.id fun b => b.withProps (setPr b.props o.name o.val) := by
  unfold applied
  rw [if_neg (by omega), if_neg (by omega), if_neg (by omega), if_neg (by omega)]
theorem txt_size {s : ByteArray} (h : txErr s = 0) : s.size ≤ 65536 := by
  unfold txErr at h
  split at h
  · omega
  · omega
theorem row_at {M : List BK} {L : List Bl} (h : M.map Prod.fst = L) {q : Nat} {y : Bl} (hy : L[q]? = some y) : ∃ yk, M[q]? = some yk ∧ yk.1 = y := by
  rw [← h, List.getElem?_map, Option.map_eq_some_iff] at hy
  exact hy
end Go.Proofs.YtackphgnkdpgnaaGreat
namespace Go.Proofs.YtackphgnkdpgnaaGreat
open Go.RowKit

set_option maxHeartbeats 1000000 in
theorem edited_any (s x : ByteArray) (f t : Int) (w : World) (hs : s.size ≤ 140737488351232) (hx : x.size ≤ 140737488351232) (h0 : 0 ≤ f) (h1 : f ≤ t) (h2 : t ≤ (s.size : Int)) :
    Calls Tryz.prog 89 #[.string s, .agg #[.int .i64 f, .int .i64 t, .string x]] w fun e w' => e = .returned (.string (edS s x f t)) ∧ Below w.heap.size w w' := by
  obtain ⟨a, rfl⟩ := Int.eq_ofNat_of_zero_le h0
  obtain ⟨b, rfl⟩ := Int.eq_ofNat_of_zero_le (Int.le_trans h0 h1)
  go_enter Tryz.func89, Tryz.ntmps89
  go_wp2
  go_quiet (fail)
  go_wp2
  go_ret
  exact ⟨rfl, bdrew ((Below.refl _ _).alloc (Nat.le_refl _) _) _⟩

set_option maxHeartbeats 2000000 in
theorem checkEdit_any (s x : ByteArray) (f t : Int) (w : World) (hs : s.size ≤ 140737488351232) (hx : x.size ≤ 140737488351232) :
    Calls Tryz.prog 55 #[.string s, .agg #[.int .i64 f, .int .i64 t, .string x]] w fun e w' => e = .returned (.int .i64 (edErr s x f t)) ∧ Below w.heap.size w w' := by
  rcases edErr_ways s x f t with ⟨g, h⟩ | ⟨⟨g, g1⟩, h⟩ | ⟨⟨g, g1, g2⟩, h⟩ | ⟨⟨g, g1, g2⟩, g3, h⟩ | ⟨⟨g, g1, g2⟩, g3, g4, h⟩ | ⟨⟨g, g1, g2⟩, g3, g4, h⟩
  all_goals
    rw [h]
    clear h
    go_enter Tryz.func55, Tryz.ntmps55
    go_wp2_with (go_at_call 83; refine (hasControl_any x _ hx).mono ?_; rintro e w' ⟨rfl, rfl⟩)
    go_ret
    exact ⟨rfl, (Below.refl _ _).alloc (Nat.le_refl _) _⟩

end Go.Proofs.YtackphgnkdpgnaaGreat
namespace Go.Proofs.YtackphgnkdpgnaaGreat
open Go.RowKit

set_option maxHeartbeats 1000000 in
theorem Edited_any (s x : ByteArray) (f t : Int) (w : World) (hs : s.size ≤ 140737488351232) (hx : x.size ≤ 140737488351232) (h0 : 0 ≤ f) (h1 : f ≤ t) (h2 : t ≤ (s.size : Int)) :
    Calls Tryz.prog 38 #[.string s, .agg #[.int .i64 f, .int .i64 t, .string x]] w fun e w' => e = .returned (.string (edS s x f t)) ∧ Below w.heap.size w w' := by
  obtain ⟨a, rfl⟩ := Int.eq_ofNat_of_zero_le h0
  obtain ⟨b, rfl⟩ := Int.eq_ofNat_of_zero_le (Int.le_trans h0 h1)
  go_enter Tryz.func38, Tryz.ntmps38
  go_wp2
  go_quiet (fail)
  go_wp2
  go_ret
  exact ⟨rfl, bdrew ((Below.refl _ _).alloc (Nat.le_refl _) _) _⟩

set_option maxHeartbeats 2000000 in
theorem editError_any (s x : ByteArray) (f t : Int) (w : World) (hs : s.size ≤ 140737488351232) (hx : x.size ≤ 140737488351232) :
    Calls Tryz.prog 26 #[.string s, .agg #[.int .i64 f, .int .i64 t, .string x]] w fun e w' => e = .returned (.int .i64 (edErr s x f t)) ∧ Below w.heap.size w w' := by
  rcases edErr_ways s x f t with ⟨g, h⟩ | ⟨⟨g, g1⟩, h⟩ | ⟨⟨g, g1, g2⟩, h⟩ | ⟨⟨g, g1, g2⟩, g3, h⟩ | ⟨⟨g, g1, g2⟩, g3, g4, h⟩ | ⟨⟨g, g1, g2⟩, g3, g4, h⟩
  all_goals
    rw [h]
    clear h
    go_enter Tryz.func26, Tryz.ntmps26
    go_wp2_with (go_at_call 40; refine (below_any x _ hx).mono ?_; rintro e w' ⟨rfl, rfl⟩)
    go_ret
    exact ⟨rfl, (Below.refl _ _).alloc (Nat.le_refl _) _⟩

end Go.Proofs.YtackphgnkdpgnaaGreat
namespace Go.Proofs.YtackphgnkdpgnaaGreat
open Go.RowKit

/-- the bytes are the same there -/
def eqAt (a b : ByteArray) (i j : Nat) : Bool := if h : i < a.size ∧ j < b.size then (a[i]'h.1).toNat == (b[j]'h.2).toNat else false
theorem eqAt_yes {a b : ByteArray} {i j : Nat} (hi : i < a.size) (hj : j < b.size) (h : (((a[i]).toNat : Int) == ((b[j]).toNat : Int)) = true) : eqAt a b i j = true := by
  unfold eqAt; rw [dif_pos ⟨hi, hj⟩]; simp at h ⊢; omega
theorem eqAt_no {a b : ByteArray} {i j : Nat} (hi : i < a.size) (hj : j < b.size) (h : (((a[i]).toNat : Int) == ((b[j]).toNat : Int)) = false) : eqAt a b i j = false := by
  unfold eqAt; rw [dif_pos ⟨hi, hj⟩]; simp at h ⊢; omega

def cpN (a b : ByteArray) : Nat → Nat → Nat
  | 0, k => k
  | n + 1, k => if eqAt a b k k = true then cpN a b n (k + 1) else k
def cp (a b : ByteArray) : Nat := cpN a b a.size 0

theorem cpN_yes {a b : ByteArray} {k : Nat} (hk : k < a.size) (h : eqAt a b k k = true) : cpN a b (a.size - (k + 1)) (k + 1) = cpN a b (a.size - k) k := by
  obtain ⟨n, hn⟩ : ∃ n, a.size - k = n + 1 := ⟨a.size - k - 1, by omega⟩
  rw [hn, show a.size - (k + 1) = n by omega]
  simp [cpN, h]
theorem cpN_no {a b : ByteArray} {n k : Nat} (h : eqAt a b k k = false) : cpN a b n k = k := by
  cases n <;> simp [cpN, h]
theorem eqAt_out {a b : ByteArray} {i j : Nat} (h : a.size ≤ i ∨ b.size ≤ j) : eqAt a b i j = false := by
  unfold eqAt; rw [dif_neg (by omega)]

theorem cpN_le (a b : ByteArray) : ∀ n k, k ≤ a.size → k ≤ b.size → cpN a b n k ≤ a.size ∧ cpN a b n k ≤ b.size
  | 0, k, h, h' => ⟨h, h'⟩
  | n + 1, k, h, h' => by
    unfold cpN
    split
    · rename_i he
      have : k < a.size ∧ k < b.size := by
        unfold eqAt at he
        split at he
        · assumption
        · cases he
      exact cpN_le a b n (k + 1) (by omega) (by omega)
    · exact ⟨h, h'⟩
theorem cp_le (a b : ByteArray) : cp a b ≤ a.size ∧ cp a b ≤ b.size := cpN_le a b _ _ (Nat.zero_le _) (Nat.zero_le _)

def sfN (a b : ByteArray) (k : Nat) : Nat → Nat → Nat
  | 0, n => n
  | m + 1, n => if n < a.size - k ∧ n < b.size - k ∧ eqAt a b (a.size - 1 - n) (b.size - 1 - n) = true then sfN a b k m (n + 1) else n
def sf (a b : ByteArray) : Nat := sfN a b (cp a b) a.size 0

theorem sfN_yes {a b : ByteArray} {k n : Nat} (hk : n < a.size) (h : n < a.size - k ∧ n < b.size - k ∧ eqAt a b (a.size - 1 - n) (b.size - 1 - n) = true) : sfN a b k (a.size - (n + 1)) (n + 1) = sfN a b k (a.size - n) n := by
  obtain ⟨m, hm⟩ : ∃ m, a.size - n = m + 1 := ⟨a.size - n - 1, by omega⟩
  rw [hm, show a.size - (n + 1) = m by omega]
  simp only [sfN, if_pos h]
theorem sfN_no {a b : ByteArray} {k m n : Nat} (h : ¬ (n < a.size - k ∧ n < b.size - k ∧ eqAt a b (a.size - 1 - n) (b.size - 1 - n) = true)) : sfN a b k m n = n := by
  cases m
  · rfl
  · simp only [sfN, if_neg h]
theorem sfN_le (a b : ByteArray) (k : Nat) : ∀ m n, n ≤ a.size - k → n ≤ b.size - k → sfN a b k m n ≤ a.size - k ∧ sfN a b k m n ≤ b.size - k
  | 0, n, h, h' => ⟨h, h'⟩
  | m + 1, n, h, h' => by
    unfold sfN
    split
    · rename_i he
      exact sfN_le a b k m (n + 1) (by omega) (by omega)
    · exact ⟨h, h'⟩
theorem sf_le (a b : ByteArray) : sf a b ≤ a.size - cp a b ∧ sf a b ≤ b.size - cp a b := sfN_le a b _ _ _ (Nat.zero_le _) (Nat.zero_le _)

/-- the shortest edit that makes b of a, as a value -/
def diffV (a b : ByteArray) : Value := .agg #[.int .i64 (cp a b : Nat), .int .i64 ((a.size - sf a b : Nat) : Int), .string (b.extract (cp a b) (b.size - sf a b))]

end Go.Proofs.YtackphgnkdpgnaaGreat
namespace Go.Proofs.YtackphgnkdpgnaaGreat
open Go.RowKit

structure Ed where
  from_ : Int
  to_ : Int
  with_ : ByteArray

def edCell (e : Ed) : List Value := [.int .i64 e.from_, .int .i64 e.to_, .string e.with_]
def edCells (es : List Ed) : List Value := es.flatMap edCell
def errOf (s : ByteArray) (e : Ed) : Int := edErr s e.with_ e.from_ e.to_
def madeOf (s : ByteArray) (e : Ed) : ByteArray := edS s e.with_ e.from_ e.to_

theorem edCells_len (es : List Ed) : (edCells es).length = es.length * 3 := by
  induction es with
  | nil => rfl
  | cons e es ih => simp only [edCells, List.flatMap_cons, List.length_append, List.length_cons] at *; rw [ih]; simp [edCell]; omega
theorem edCells_at {es : List Ed} {k : Nat} {e : Ed} (h : es[k]? = some e) : (edCells es)[k * 3]? = some (.int .i64 e.from_) ∧ (edCells es)[k * 3 + 1]? = some (.int .i64 e.to_) ∧ (edCells es)[k * 3 + 2]? = some (.string e.with_) := by
  induction es generalizing k with
  | nil => simp at h
  | cons a es ih =>
    cases k with
    | zero =>
      simp at h
      subst h
      simp [edCells, edCell]
    | succ k =>
      have := ih (k := k) (by simpa using h)
      simp only [edCells, List.flatMap_cons] at *
      have e0 : ∀ j, (edCell a ++ List.flatMap edCell es)[(k + 1) * 3 + j]? = (List.flatMap edCell es)[k * 3 + j]? := fun j => by
        rw [List.getElem?_append_right (by simp [edCell]; omega)]
        congr 1
        simp [edCell]; omega
      exact ⟨(e0 0).trans this.1, (e0 1).trans this.2.1, (e0 2).trans this.2.2⟩

/-- the first error, and what is made if there is none -/
def compE : ByteArray → List Ed → Int
  | _, [] => 0
  | s, e :: r => if errOf s e = 0 then compE (madeOf s e) r else errOf s e
def compS : ByteArray → List Ed → ByteArray
  | s, [] => s
  | s, e :: r => if errOf s e = 0 then compS (madeOf s e) r else s
theorem drop_at {α : Type} {l : List α} {k : Nat} {x : α} (h : l[k]? = some x) : l.drop k = x :: l.drop (k + 1) := by
  have hk : k < l.length := by
    rcases Nat.lt_or_ge k l.length with h' | h'
    · exact h'
    · rw [List.getElem?_eq_none h'] at h; cases h
  rw [List.drop_eq_getElem_cons hk]
  rw [List.getElem?_eq_getElem hk] at h
  injection h with h
  rw [h]
theorem comp_good {s : ByteArray} {es : List Ed} {k : Nat} {e : Ed} (h : es[k]? = some e) (h0 : errOf s e = 0) : compE s (es.drop k) = compE (madeOf s e) (es.drop (k + 1)) ∧ compS s (es.drop k) = compS (madeOf s e) (es.drop (k + 1)) := by
  rw [drop_at h]; simp [compE, compS, h0]
theorem comp_bad {s : ByteArray} {es : List Ed} {k : Nat} {e : Ed} (h : es[k]? = some e) (h0 : errOf s e ≠ 0) : compE s (es.drop k) = errOf s e := by
  rw [drop_at h]; simp [compE, h0]
theorem made_size {s : ByteArray} {e : Ed} (h : errOf s e = 0) : (madeOf s e).size ≤ 2000 := by
  have g := edErr_ok h
  have := edS_size g.1 g.2.1 g.2.2.1 (x := e.with_)
  unfold madeOf
  omega
def compW (s : ByteArray) (es : List Ed) : Int := if 100 < es.length then 4 else compE s es
def zeroEd : Value := .agg #[.int .i64 0, .int .i64 0, .string ⟨#[]⟩]

end Go.Proofs.YtackphgnkdpgnaaGreat
namespace Go.Proofs.YtackphgnkdpgnaaGreat
open Go.RowKit

set_option maxHeartbeats 1000000 in
theorem apply_ok (s x : ByteArray) (f t : Int) (w : World) (hs : s.size ≤ 140737488351232) (hx : x.size ≤ 140737488351232) (h : edErr s x f t = 0) :
    Calls Tryz.prog 64 #[.string s, .agg #[.int .i64 f, .int .i64 t, .string x]] w fun e w' => e = .returned (.tuple #[.string (edS s x f t), .int .i64 0]) ∧ Below w.heap.size w w' := by
  obtain ⟨h0, h1, h2, h3, h4⟩ := edErr_ok h
  have H := Lib.hid h
  clear h h3
  go_enter Tryz.func64, Tryz.ntmps64
  go_wp2_with fail
  refine (checkEdit_any s x f t _ hs hx).mono ?_
  rintro e w1 ⟨rfl, hb1⟩
  rw [H.out]
  have c0 := hb1.cell (p := ⟨w.heap.size, 0, none⟩) (by simp)
  have c1 := hb1.cell (p := ⟨w.heap.size, 1, none⟩) (by simp)
  have c2 := hb1.cell (p := ⟨w.heap.size, 2, none⟩) (by simp)
  go_wp2_with fail
  refine (edited_any s x f t _ hs hx h0 h1 h2).mono ?_
  rintro e w2 ⟨rfl, hb2⟩
  go_wp2
  go_ret2
  exact ⟨rfl, (((Below.refl _ _).alloc (Nat.le_refl _) _).trans (hb1.mono (by simp))).trans (hb2.mono (by have := hb1.size; simp at this; omega))⟩

set_option maxHeartbeats 1000000 in
theorem apply_bad (s x : ByteArray) (f t : Int) (w : World) (hs : s.size ≤ 140737488351232) (hx : x.size ≤ 140737488351232) (h : edErr s x f t ≠ 0) :
    Calls Tryz.prog 64 #[.string s, .agg #[.int .i64 f, .int .i64 t, .string x]] w fun e w' => e = .returned (.tuple #[.string ⟨#[]⟩, .int .i64 (edErr s x f t)]) ∧ Below w.heap.size w w' := by
  have hn : ((edErr s x f t) == 0) = false := by simpa using h
  have hn' : ((edErr s x f t) != 0) = true := by simpa using h
  clear h
  go_enter Tryz.func64, Tryz.ntmps64
  go_wp2_with fail
  refine (checkEdit_any s x f t _ hs hx).mono ?_
  rintro e w1 ⟨rfl, hb1⟩
  go_wp2
  go_ret2
  exact ⟨rfl, (((Below.refl _ _).alloc (Nat.le_refl _) _).trans (hb1.mono (by simp)))⟩

set_option maxHeartbeats 1000000 in
theorem inverse_bad (s x : ByteArray) (f t : Int) (w : World) (hs : s.size ≤ 140737488351232) (hx : x.size ≤ 140737488351232) (h : edErr s x f t ≠ 0) :
    Calls Tryz.prog 67 #[.string s, .agg #[.int .i64 f, .int .i64 t, .string x]] w fun e w' => e = .returned (.tuple #[zeroEd, .int .i64 (edErr s x f t)]) ∧ Below w.heap.size w w' := by
  have hn : ((edErr s x f t) == 0) = false := by simpa using h
  have hn' : ((edErr s x f t) != 0) = true := by simpa using h
  clear h
  go_enter Tryz.func67, Tryz.ntmps67
  go_wp2_with fail
  refine (checkEdit_any s x f t _ hs hx).mono ?_
  rintro e w1 ⟨rfl, hb1⟩
  have d0 := hb1.cell (p := ⟨w.heap.size + 1, 0, none⟩) (by simp <;> omega)
  have d1 := hb1.cell (p := ⟨w.heap.size + 1, 1, none⟩) (by simp <;> omega)
  have d2 := hb1.cell (p := ⟨w.heap.size + 1, 2, none⟩) (by simp <;> omega)
  have f0 := hb1.frozen (p := ⟨w.heap.size + 1, 0, none⟩) (by simp <;> omega)
  have f1 := hb1.frozen (p := ⟨w.heap.size + 1, 1, none⟩) (by simp <;> omega)
  have f2 := hb1.frozen (p := ⟨w.heap.size + 1, 2, none⟩) (by simp <;> omega)
  go_wp2
  refine bodyPost_ret (v := .tuple #[.agg #[.int .i64 0, .int .i64 0, .string ⟨#[]⟩], .int .i64 (edErr s x f t)]) (by simp [results, Tryz.results67, go_sem, d0, d1, d2]) rfl ⟨rfl, ?_⟩
  exact (((((((Below.refl _ _).alloc (Nat.le_refl _) _).alloc (by simp) _).trans (hb1.mono (B' := w.heap.size) (by simp <;> omega))).setCell (by simp) _).setCell (by simp) _).setCell (by simp) _)

set_option maxHeartbeats 1000000 in
theorem inverse_ok (s x : ByteArray) (f t : Int) (w : World) (hs : s.size ≤ 140737488351232) (hx : x.size ≤ 140737488351232) (h : edErr s x f t = 0) :
    Calls Tryz.prog 67 #[.string s, .agg #[.int .i64 f, .int .i64 t, .string x]] w fun e w' => e = .returned (.tuple #[.agg #[.int .i64 f, .int .i64 (f + x.size), .string (s.extract f.toNat t.toNat)], .int .i64 0]) ∧ Below w.heap.size w w' := by
  obtain ⟨h0, h1, h2, h3, h4⟩ := edErr_ok h
  have H := Lib.hid h
  clear h h3
  obtain ⟨a, rfl⟩ := Int.eq_ofNat_of_zero_le h0
  obtain ⟨b, rfl⟩ := Int.eq_ofNat_of_zero_le (Int.le_trans h0 h1)
  go_enter Tryz.func67, Tryz.ntmps67
  go_wp2_with fail
  refine (checkEdit_any s x a b _ hs hx).mono ?_
  rintro e w1 ⟨rfl, hb1⟩
  rw [H.out]
  have c0 := hb1.cell (p := ⟨w.heap.size, 0, none⟩) (by simp <;> omega)
  have c1 := hb1.cell (p := ⟨w.heap.size, 1, none⟩) (by simp <;> omega)
  have c2 := hb1.cell (p := ⟨w.heap.size, 2, none⟩) (by simp <;> omega)
  have d0 := hb1.cell (p := ⟨w.heap.size + 1, 0, none⟩) (by simp <;> omega)
  have d1 := hb1.cell (p := ⟨w.heap.size + 1, 1, none⟩) (by simp <;> omega)
  have d2 := hb1.cell (p := ⟨w.heap.size + 1, 2, none⟩) (by simp <;> omega)
  have f0 := hb1.frozen (p := ⟨w.heap.size + 1, 0, none⟩) (by simp <;> omega)
  have f1 := hb1.frozen (p := ⟨w.heap.size + 1, 1, none⟩) (by simp <;> omega)
  have f2 := hb1.frozen (p := ⟨w.heap.size + 1, 2, none⟩) (by simp <;> omega)
  go_wp2
  go_region
  go_wp2
  refine bodyPost_ret (v := .tuple #[.agg #[.int .i64 (a : Int), .int .i64 ((a : Int) + x.size), .string (s.extract a b)], .int .i64 0]) (by simp [results, Tryz.results67, go_sem, d0, d1, d2]) rfl ⟨rfl, ?_⟩
  exact (((((((Below.refl _ _).alloc (Nat.le_refl _) _).alloc (by simp) _).trans (hb1.mono (B' := w.heap.size) (by simp <;> omega))).drew.setCell (by simp) _).setCell (by simp) _).setCell (by simp) _)

end Go.Proofs.YtackphgnkdpgnaaGreat
