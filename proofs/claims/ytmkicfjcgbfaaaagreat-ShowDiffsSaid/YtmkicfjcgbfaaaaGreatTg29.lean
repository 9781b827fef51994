/-
  DERIVED. Operations one after another, in plain words and in memory. Conditions: none.
  slices.Insert and Delete at a base's row that is turned in place. Conditions: sizes.
  The walk of prop.Put where there is no error. Conditions: sizes.
  The walk of the reference's copied: a base of the call's own whose properties' items lie where they lay. Conditions: sizes.
  By an AI agent.
-/
import Derived.Test.YtmkicfjcgbfaaaaGreatTg27
import Derived.Test.YtmkicfjcgbfaaaaGreatTg26
import Derived.Test.YtmkicfjcgbfaaaaGreatTg11
import Derived.Test.YtmkicfjcgbfaaaaGreatTg24
import Derived.Test.YtmkicfjcgbfaaaaGreatTg17
import Derived.Test.YtmkicfjcgbfaaaaGreatTg19
namespace Go.Proofs.YtmkicfjcgbfaaaaGreat
open Go.RowKit

/-- operations one after another -/
def applL (l : List Bl) (os : List Opn) : List Bl := os.foldl applied l
theorem applL_snoc {l : List Bl} {os : List Opn} {k : Nat} {o : Opn} (h : os[k]? = some o) : applL l (os.take (k + 1)) = applied (applL l (os.take k)) o := by
  obtain ⟨hk, e⟩ := List.getElem?_eq_some_iff.1 h
  unfold applL
  rw [List.take_succ_eq_append_getElem hk, List.foldl_append, e]; rfl
/-- each of them has no error where it is done -/
def OkAll (l : List Bl) (os : List Opn) : Prop := ∀ (k : Nat) (o : Opn), os[k]? = some o → ∃ f, Good (applL l (os.take k)) f ∧ opErr (applL l (os.take k)) f o = 0
theorem OkAll.one {l : List Bl} {o : Opn} {f : Int → Option Int} (G : Good l f) (h : opErr l f o = 0) : OkAll l [o] := fun k x hx => by
  cases k with
  | zero =>
    obtain rfl : o = x := by simpa using hx
    exact ⟨f, G, h⟩
  | succ k => simp at hx

/-! ### operations in memory, in blocks of a sort -/
def ROsX (W : World) (S : Nat → Prop) (v : Value) (l : List Opn) : Prop := ∃ A n c, ∃ M : List (Opn × Value), M.map Prod.fst = l ∧ v = .slice A n c ∧ n = M.length ∧ (n ≤ c ∧ n * 144 ≤ 140737488351232) ∧ RdX W S 13 A n (M.flatMap opV) ∧ ∀ x ∈ M, RVX W S x.2 x.1.val.items ∧ OI x.1
section
variable {W W' : World} {S S' : Nat → Prop} {v : Value} {l : List Opn}
theorem ROsX.keep (h : ROsX W S v l) (hk : ∀ p : Addr, S p.block → W'.cell? p = W.cell? p) : ROsX W' S v l := by
  obtain ⟨A, n, c, M, h1, h2, h3, h4, h5, h6⟩ := h
  exact ⟨A, n, c, M, h1, h2, h3, h4, h5.keep hk, fun x hx => ⟨(h6 x hx).1.keep hk, (h6 x hx).2⟩⟩
theorem ROsX.weak (h : ROsX W S v l) (hS : ∀ b, S b → S' b) : ROsX W S' v l := by
  obtain ⟨A, n, c, M, h1, h2, h3, h4, h5, h6⟩ := h
  exact ⟨A, n, c, M, h1, h2, h3, h4, h5.weak hS, fun x hx => ⟨(h6 x hx).1.weak hS, (h6 x hx).2⟩⟩
theorem ROsX.of {B : Nat} (h : ROs W B v l) : ROsX W (· < B) v l := by
  obtain ⟨A, n, c, M, h1, h2, h3, h4, h5, h6⟩ := h
  exact ⟨A, n, c, M, h1, h2, h3, h4, h5, fun x hx => ⟨.of (h6 x hx).1, (h6 x hx).2⟩⟩
theorem ROsX.reads {B : Nat} (h : ROsX W S v l) (hS : ∀ b, S b → b < B) : ROs W B v l := by
  obtain ⟨A, n, c, M, h1, h2, h3, h4, h5, h6⟩ := h
  exact ⟨A, n, c, M, h1, h2, h3, h4, h5.reads hS, fun x hx => ⟨(h6 x hx).1.reads hS, (h6 x hx).2⟩⟩
/-- an operation in a row -/
theorem ROsX.at_ {n c B : Nat} {A : Option Addr} (h : ROsX W S (.slice A n c) l) (hB : ∀ b, S b → b < B) {k : Nat} {o : Opn} (hk : l[k]? = some o) :
    ∃ b off Av nv cv, A = some ⟨b, off, none⟩ ∧ S b ∧ (∀ i u, (opV (o, .slice Av nv cv))[i]? = some u → W.cell? ⟨b, off + k * 13 + i, none⟩ = some u) ∧ RVX W S (.slice Av nv cv) o.val.items ∧ OI o := by
  obtain ⟨A', n', c', M, h1, e, h2, h3, h4, h5⟩ := h
  injection e with e1 e2 e3
  subst e1 e2 e3
  obtain ⟨y, hy, rfl⟩ : ∃ y, M[k]? = some y ∧ y.1 = o := by
    rw [← h1, List.getElem?_map, Option.map_eq_some_iff] at hk
    exact hk
  obtain ⟨b, off, e, hb, hc⟩ := (h4.reads hB).plain_at (by omega) opV_len h2 hy
  obtain ⟨ad, e2, hS, _⟩ := h4.2 (by have := (List.getElem?_eq_some_iff.1 hy).1; omega)
  have e3 : ad = ⟨b, off, none⟩ := by rw [e] at e2; exact (Option.some.inj e2).symm
  rw [e3] at hS
  obtain ⟨k1, k2⟩ := h5 y (List.mem_of_getElem? hy)
  obtain ⟨o, v⟩ := y
  obtain ⟨Av, nv, cv, rfl⟩ := (k1.reads hB).slice
  exact ⟨b, off, Av, nv, cv, e, hS, hc, k1, k2⟩
/-- one operation that lies in a block -/
theorem ROsX.one {g : Nat} {o : Opn} {u : Value} (h : Blk W g 31 (opV (o, u)).toArray) (hS : S g) (hv : RVX W S u o.val.items) (hi : OI o) : ROsX W S (.slice (some ⟨g, 0, none⟩) 1 1) [o] :=
  ⟨_, 1, 1, [(o, u)], rfl, rfl, rfl, ⟨Nat.le_refl _, by omega⟩, ⟨rfl, fun _ => ⟨_, rfl, hS, fun j x hx => by
    rw [Addr.add_lit, Nat.zero_add, h.cell, ← hx, List.flatMap_singleton, List.getElem?_toArray]⟩⟩, fun x hx => by
    obtain rfl := List.mem_singleton.1 hx
    exact ⟨hv, hi⟩⟩
end

/-! ### what each kind makes -/
theorem insB_rise {L : List Bl} (hr : Rise L) {x : Bl} (hn : ∀ y ∈ L, y.id ≠ x.id) : Rise (insB x L) := rise_iff.2 (insB_sorted x L (rise_iff.1 hr) hn)
theorem insB_ids {L : List Bl} (hi : IdsIn L) {x : Bl} (hx : 0 ≤ x.id ∧ x.id ≤ 1000000) : IdsIn (insB x L) := fun y hy => by
  rcases (insB_mem x y L).1 hy with rfl | hy
  · exact hx
  · exact hi y hy
theorem put_at {α : Type} {M : List α} {i q : Nat} {x y : α} (h : M[q]? = some y) : ∃ q' : Nat, (M.take i ++ x :: M.drop i)[q']? = some y := by
  refine List.mem_iff_getElem?.1 ?_
  have hy := List.mem_of_getElem? h
  rw [← List.take_append_drop i M] at hy
  rcases List.mem_append.1 hy with hy | hy
  · exact List.mem_append_left _ hy
  · exact List.mem_append_right _ (List.mem_cons_of_mem _ hy)
theorem put_new {α : Type} {M : List α} {i : Nat} (hi : i ≤ M.length) (x : α) : (M.take i ++ x :: M.drop i)[i]? = some x := by
  have : (M.take i).length = i := by rw [List.length_take]; omega
  rw [List.getElem?_append_right (by omega), this, Nat.sub_self]; rfl
theorem map_put {M : List BK} {i : Nat} {x : BK} (hlow : LowB (M.map Prod.fst) x.1.id i) : (M.take i ++ x :: M.drop i).map Prod.fst = insB x.1 (M.map Prod.fst) := by
  rw [insB_low hlow, List.map_append, List.map_cons, List.map_take, List.map_drop]
theorem map_setk (M : List BK) (q : Nat) (y : BK) : (M.set q y).map Prod.fst = (M.map Prod.fst).set q y.1 := by rw [List.map_set]
/-- a block turned at its place in a row -/
theorem map_upd {M : List BK} (hr : Rise (M.map Prod.fst)) {q : Nat} {y : BK} (hy : M[q]? = some y) (h : Bl → Bl) (kv pv : Value) : (M.set q (h y.1, kv, pv)).map Prod.fst = upd (M.map Prod.fst) y.1.id h := by
  rw [map_setk, upd_set hr (q := q) (y := y.1) (by rw [List.getElem?_map, hy]; rfl) rfl]
theorem applied_ins {l : List Bl} {o : Opn} (h : o.kind = 1) (hn : ∀ x ∈ l, x.id ≠ o.id) {y : Bl} (hy : y ∈ l) (hyi : y.id = o.parent) : applied l o = upd (insB ⟨o.id, o.parent, [], o.text, []⟩ l) o.parent fun b => b.withKids (plusK b.kids o.at_.toNat o.id) := by
  unfold applied insL
  rw [if_pos h, upd_insB]
  · show o.id ≠ o.parent
    rw [← hyi]; exact fun e => hn y hy e.symm
  · exact fun b => rfl
theorem applied_rem {l : List Bl} (K : Kids l) {o : Opn} (h : o.kind = 2) {x : Bl} (hx : x ∈ l) (hxi : x.id = o.id) : applied l o = (upd l x.parent fun b => b.withKids (lessK b.kids o.id)).filter fun b => b.id != o.id := by
  unfold applied remL
  rw [if_neg (by omega), if_pos h, ← hxi, parOf_eq K hx]
theorem applied_mov {l : List Bl} (K : Kids l) {o : Opn} (h : o.kind = 3) {x : Bl} (hx : x ∈ l) (hxi : x.id = o.id) : applied l o = upd (upd (upd l x.parent fun b => b.withKids (lessK b.kids o.id)) o.id fun b => b.withPar o.parent) o.parent fun b => b.withKids (plusK b.kids o.at_.toNat o.id) := by
  unfold applied
  rw [if_neg (by omega), if_neg (by omega), if_pos h]
  refine movL_eq fun b hb hp hin => ?_
  obtain ⟨_, y, hy, hyi, hyp⟩ := K.kid b hb _ hin
  have : y = x := K.rise.inj hy hx (by rw [hyi, hxi])
  subst this
  exact hp hyp.symm
theorem applied_edit {l : List Bl} {o : Opn} (h : o.kind = 4) : applied l o = upd l o.id fun b => b.withText (edS b.text o.text o.from_ o.to_) := by
  unfold applied
  rw [if_neg (by omega), if_neg (by omega), if_neg (by omega), if_pos h]
theorem applied_set {l : List Bl} {o : Opn} (h : o.kind = 5) : applied l o = upd l o.id fun b => b.withProps (setPr b.props o.name o.val) := by
  unfold applied
  rw [if_neg (by omega), if_neg (by omega), if_neg (by omega), if_neg (by omega)]
theorem txt_size {s : ByteArray} (h : txErr s = 0) : s.size ≤ 65536 := by
  unfold txErr at h
  split at h
  · omega
  · omega
theorem row_at {M : List BK} {L : List Bl} (h : M.map Prod.fst = L) {q : Nat} {y : Bl} (hy : L[q]? = some y) : ∃ yk, M[q]? = some yk ∧ yk.1 = y := by
  rw [← h, List.getElem?_map, Option.map_eq_some_iff] at hy
  exact hy
end Go.Proofs.YtmkicfjcgbfaaaaGreat
namespace Go.Proofs.YtmkicfjcgbfaaaaGreat
open Go.RowKit

theorem blk_one (x : BK) (h1 : ∃ A n c, x.2.1 = .slice A n c) (h2 : ∃ A n c, x.2.2 = .slice A n c) : ∀ u ∈ blV x, u.oneCell' = true := by
  obtain ⟨A, n, c, e1⟩ := h1
  obtain ⟨A', n', c', e2⟩ := h2
  intro u hu
  unfold blV at hu
  rw [e1, e2] at hu
  simp at hu
  rcases hu with rfl | rfl | rfl | rfl | rfl <;> rfl
theorem NB.slices {w : World} {S : Nat → Prop} {x : BK} (h : NB w S x) : (∃ A n c, x.2.1 = .slice A n c) ∧ ∃ A n c, x.2.2 = .slice A n c := by
  obtain ⟨⟨A, n, c, e, _⟩, ⟨A', n', c', M, _, e', _⟩⟩ := h
  exact ⟨⟨A, n, c, e⟩, ⟨A', n', c', e'⟩⟩
theorem RowB.one {w : World} {g cap : Nat} {M : List BK} (h : RowB w g cap M) : ∀ u ∈ M.flatMap blV, u.oneCell' = true := by
  intro u hu
  obtain ⟨x, hx, hu⟩ := List.mem_flatMap.1 hu
  obtain ⟨h1, h2⟩ := (h.nest x hx).slices
  exact blk_one x h1 h2 u hu
/-- a new block -/
def newB (id p : Int) (s : ByteArray) : BK := (⟨id, p, [], s, []⟩, .slice none 0 0, .slice none 0 0)
theorem newB_nest (w : World) (S : Nat → Prop) (id p : Int) (s : ByteArray) : NB w S (newB id p s) :=
  ⟨⟨none, 0, 0, rfl, rfl, ⟨Nat.le_refl _, by omega⟩, ⟨rfl, fun h => absurd h (by omega)⟩, fun x hx => by cases hx⟩, ⟨none, 0, 0, [], rfl, rfl, rfl, ⟨Nat.le_refl _, by omega⟩, ⟨rfl, fun h => absurd h (by omega)⟩, fun x hx => by cases hx⟩⟩
theorem fmB_take (M : List BK) (i : Nat) : (M.flatMap blV).take (i * 5) = (M.take i).flatMap blV := by
  conv => lhs; rw [← List.take_append_drop i M, List.flatMap_append]
  rcases Nat.lt_or_ge i M.length with h | h
  · rw [List.take_append_of_le_length (by rw [fmB_len, List.length_take]; omega), List.take_of_length_le (by rw [fmB_len, List.length_take]; omega)]
  · rw [List.drop_eq_nil_of_le h, List.flatMap_nil, List.append_nil, List.take_of_length_le (by rw [fmB_len, List.length_take]; omega)]
theorem fmB_drop (M : List BK) (i : Nat) : (M.flatMap blV).drop (i * 5) = (M.drop i).flatMap blV := by
  conv => lhs; rw [← List.take_append_drop i M, List.flatMap_append]
  rcases Nat.lt_or_ge i M.length with h | h
  · have : ((M.take i).flatMap blV).length = i * 5 := by rw [fmB_len, List.length_take]; omega
    rw [← this, List.drop_left]
  · rw [List.drop_eq_nil_of_le h, List.flatMap_nil, List.append_nil, List.drop_eq_nil_of_le]
    rw [fmB_len, List.length_take]; omega
/-- what an insert leaves -/
def InsBR (S : Nat → Prop) (g : Nat) (M' : List BK) (w : World) (e : Ending) (w' : World) : Prop := ∃ g' cap', e = .returned (.slice (some ⟨g', 0, none⟩) M'.length cap') ∧ RowS S w' g' cap' M' ∧ w.grownBy w' (some g) ∧ (g' = g ∨ w.heap.size ≤ g')
theorem insertB_any {S : Nat → Prop} (w : World) (g cap : Nat) (M : List BK) (h : RowS S w g cap M) (i : Nat) (hi : i ≤ M.length) (hl : M.length < 100000) (id p : Int) (s : ByteArray) :
    Calls Tryz.prog 128 #[.slice (some ⟨g, 0, none⟩) M.length cap, .int .i64 i, .slice (some ⟨w.heap.size, 0, none⟩) 1 1] (w.alloc (.cells #[.int .i64 id, .int .i64 p, .slice none 0 0, .string s, .slice none 0 0] 38)) (InsBR S g (M.take i ++ newB id p s :: M.drop i) (w.alloc (.cells #[.int .i64 id, .int .i64 p, .slice none 0 0, .string s, .slice none 0 0] 38))) := by
  obtain ⟨wa, hwa⟩ : ∃ wa, wa = w.alloc (.cells #[.int .i64 id, .int .i64 p, .slice none 0 0, .string s, .slice none 0 0] 38) := ⟨_, rfl⟩
  have hk : Blk wa w.heap.size 38 (blV (newB id p s)).toArray := by rw [hwa]; exact Blk.new _ _ _
  have hb : Below w.heap.size w wa := by rw [hwa]; exact (Below.refl _ _).alloc (Nat.le_refl _) _
  rw [← hwa]
  have ha := h.below hb
  have hgl := h.lt
  have hbz := hb.size
  refine (insB_own (.slice (some ⟨g, 0, none⟩) M.length cap) M.length (M.flatMap blV) g i w.heap.size (blV (newB id p s)) wa (ha.own (Nat.le_refl _)) hi (by omega) (blV_len _) hk (fun e => by have : g = w.heap.size := Option.some.inj e; omega) ha.one (blk_one _ ⟨_, _, _, rfl⟩ ⟨_, _, _, rfl⟩) (Nat.le_of_lt ha.lt)).mono ?_
  rintro e w1 ⟨v', rfl, hown, hg, hv⟩
  have hfm : (M.take i ++ newB id p s :: M.drop i).flatMap blV = (M.flatMap blV).take (i * 5) ++ blV (newB id p s) ++ (M.flatMap blV).drop (i * 5) := by
    rw [fmB_take, fmB_drop, List.flatMap_append, List.flatMap_cons, List.append_assoc]
  have hlen : (M.take i ++ newB id p s :: M.drop i).length = M.length + 1 := by
    rw [List.length_append, List.length_cons, List.length_take, List.length_drop]; omega
  rw [← hfm, ← hlen] at hown
  have hg' : wa.grownBy w1 (some g) := hg
  obtain ⟨g', cap', rfl, hgg, hrow⟩ := RowS.of_own (S := S) hown (by omega) (by omega) fun x hx => by
    have hx' : NB wa (fun b => (b < wa.heap.size ∧ b ≠ g) ∧ S b) x := by
      rcases List.mem_append.1 hx with hx | hx
      · exact ha.far x (List.mem_of_mem_take hx)
      · rcases List.mem_cons.1 hx with rfl | hx
        · exact newB_nest _ _ _ _ _
        · exact ha.far x (List.mem_of_mem_drop hx)
    refine NB_ok _ _ _ _ x hx' (fun q hq => World.cell?_of_block (hg'.block q.block hq.1.1 fun e => hq.1.2 (Option.some.inj e))) fun b hb' => ⟨⟨Nat.lt_of_lt_of_le hb'.1.1 hg'.size, ?_⟩, hb'.2⟩
    rcases hv with e | e <;> rw [e]
    · exact fun e => hb'.1.2 (Option.some.inj e).symm
    · exact fun e => by have := Option.some.inj e; omega
  refine ⟨g', cap', rfl, hrow, hg', ?_⟩
  rcases hv with e | e
  · exact .inl (Option.some.inj e)
  · exact .inr (Nat.le_of_eq (Option.some.inj e).symm)
/-- what a delete leaves -/
def DelBR (S : Nat → Prop) (g cap : Nat) (M' : List BK) (w : World) (e : Ending) (w' : World) : Prop := ∃ cap', e = .returned (.slice (some ⟨g, 0, none⟩) M'.length cap') ∧ RowS S w' g cap' M' ∧ w.grownBy w' (some g) ∧ cap = cap
theorem deleteB_any {S : Nat → Prop} (w : World) (g cap : Nat) (M : List BK) (h : RowS S w g cap M) (i : Nat) (hi : i < M.length) (h2 : 2 ≤ M.length) :
    Calls Tryz.prog 131 #[.slice (some ⟨g, 0, none⟩) M.length cap, .int .i64 i, .int .i64 ((i : Int) + 1)] w (DelBR S g cap (M.take i ++ M.drop (i + 1)) w) := by
  have hfew := h.few
  refine (deleteB_own (.slice (some ⟨g, 0, none⟩) M.length cap) M.length (M.flatMap blV) g i w (h.own (Nat.le_refl _)) hi hfew h.one).mono ?_
  rintro e w1 ⟨v', rfl, hown, hg, hv⟩
  have hfm : (M.take i ++ M.drop (i + 1)).flatMap blV = (M.flatMap blV).take (i * 5) ++ (M.flatMap blV).drop ((i + 1) * 5) := by
    rw [fmB_take, fmB_drop, List.flatMap_append]
  have hlen : (M.take i ++ M.drop (i + 1)).length = M.length - 1 := by
    rw [List.length_append, List.length_take, List.length_drop]; omega
  rw [← hfm, ← hlen] at hown
  have hg' : w.grownBy w1 (some g) := hg
  have hv' : v'.ownBlock = some g := hv
  obtain ⟨g', cap', rfl, hgg, hrow⟩ := RowS.of_own (S := S) hown (by omega) (by omega) fun x hx => by
    have hx' : NB w (fun b => (b < w.heap.size ∧ b ≠ g) ∧ S b) x := by
      rcases List.mem_append.1 hx with hx | hx
      · exact h.far x (List.mem_of_mem_take hx)
      · exact h.far x (List.mem_of_mem_drop hx)
    exact NB_ok _ _ _ _ x hx' (fun q hq => World.cell?_of_block (hg'.block q.block hq.1.1 fun e => hq.1.2 (Option.some.inj e))) fun b hb' => ⟨⟨Nat.lt_of_lt_of_le hb'.1.1 hg'.size, by rw [hv']; exact fun e => hb'.1.2 (Option.some.inj e).symm⟩, hb'.2⟩
  obtain rfl : g' = g := Option.some.inj hv'
  exact ⟨cap', rfl, hrow, hg', rfl⟩
end Go.Proofs.YtmkicfjcgbfaaaaGreat
namespace Go.Proofs.YtmkicfjcgbfaaaaGreat
open Go.RowKit

/-- what Put leaves -/
def PutR (l : List Pr) (w : World) (e : Ending) (w' : World) : Prop := (∃ A n c, e = .returned (.tuple #[.slice A n c, .int .i64 0]) ∧ RPrX w' (fun b => w.heap.size ≤ b ∧ b < w'.heap.size) (.slice A n c) l) ∧ Below w.heap.size w w'

set_option maxRecDepth 100000 in
set_option maxHeartbeats 4000000 in
/-- prop.Put without an error -/
theorem put_ok (A : Option Addr) (n c : Nat) (l : List Pr) (s : ByteArray) (v : Vl) (Av : Option Addr) (nv cv : Nat) (w : World) (B : Nat) (hB : B ≤ w.heap.size) (h : RPr w B (.slice A n c) l) (hcp : cpErr l = 0) (hv : RV w B (.slice Av nv cv) v.items) (hs : nmErr s = 0) (hve : vErr v = 0) (hl : (setPr l s v).length ≤ 20) :
    Calls Tryz.prog 133 #[.slice A n c, .string s, AV (v, .slice Av nv cv)] w (PutR (setPr l s v) w) := by
  obtain ⟨wb, hwb⟩ : ∃ wb, wb = w.alloc (.cells #[.int .i64 v.kind, .int .i64 v.int_, .int .i64 v.to_, .string v.text, .slice Av nv cv] 29) := ⟨_, rfl⟩
  have HWB0 : Hid (Below w.heap.size w wb) := by rw [hwb]; exact (Below.refl _ _).alloc (Nat.le_refl _) _
  have P0 : Hid (Blk wb w.heap.size 29 #[.int .i64 v.kind, .int .i64 v.int_, .int .i64 v.to_, .string v.text, .slice Av nv cv]) := by rw [hwb]; exact Blk.new _ _ _
  have HP := Lib.hid fun W (hW : Below w.heap.size w W) => checkProps_any (.slice A n c) l W B (Nat.le_trans hB hW.size) (h.below (hW.mono hB))
  have HNM := Lib.hid fun W => checkName_any s W
  have HWI := Lib.hid fun W (hW : Below w.heap.size w W) => with_any A n c l s v Av nv cv W B (Nat.le_trans hB hW.size) (h.below (hW.mono hB)) hcp (hv.below (hW.mono hB))
  obtain ⟨dv, hdv⟩ := hv
  have HCV := Lib.hid fun W (hW : Below w.heap.size w W) => checkValue_any dv (v, .slice Av nv cv) W B (Nat.le_trans hB hW.size) (hdv.below (hW.mono hB))
  rw [hcp] at HP
  rw [hs] at HNM
  dsimp only at HCV
  rw [hve] at HCV
  have HWB := Lib.hid hwb
  have HL := Lib.hid hl
  dsimp only [AV] at HCV HWI ⊢
  clear h hcp hdv hwb hs hve hl
  go_enter Tryz.func133, Tryz.ntmps133
  go_upto_region 1 with fail
  rw [← HWB.out]
  go_wp2_with fail
  refine (HP.out wb HWB0.out).mono ?_
  rintro e w1 ⟨rfl, hb1⟩
  have HB1 : Hid (Below w.heap.size w w1) := HWB0.out.trans (hb1.mono HWB0.out.size)
  have P1 := Lib.hid (P0.out.below hb1 P0.out.lt)
  clear hb1
  go_wp2_with fail
  refine (HNM.out w1).mono ?_
  rintro e w2 ⟨rfl, hw2⟩
  rw [hw2]
  clear hw2
  have e0 := P1.out.cell 0
  have e1 := P1.out.cell 1
  have e2 := P1.out.cell 2
  have e3 := P1.out.cell 3
  have e4 := P1.out.cell 4
  go_wp2_with fail
  refine (HCV.out w1 HB1.out).mono ?_
  rintro e w3 ⟨rfl, hb3⟩
  have HB3 : Hid (Below w.heap.size w w3) := HB1.out.trans (hb3.mono HB1.out.size)
  have P3 := Lib.hid (P1.out.below hb3 P1.out.lt)
  clear hb3 e0 e1 e2 e3 e4
  have e0 := P3.out.cell 0
  have e1 := P3.out.cell 1
  have e2 := P3.out.cell 2
  have e3 := P3.out.cell 3
  have e4 := P3.out.cell 4
  go_wp2_with fail
  refine (HWI.out w3 HB3.out).mono ?_
  rintro e w4 ⟨⟨A4, n4, c4, rfl, hrx⟩, hb4⟩
  have HB4 : Hid (Below w.heap.size w w4) := HB3.out.trans (hb4.mono HB3.out.size)
  have hz3 := HB3.out.size
  have HRX : Hid (RPrX w4 (fun b => w.heap.size ≤ b ∧ b < w4.heap.size) (.slice A4 n4 c4) (setPr l s v)) := hrx.weak fun b hb => ⟨by omega, hb.2⟩
  have hn4 : n4 ≤ 20 := by
    have h1 := (hrx.reads (B := w4.heap.size) fun b hb => hb.2).len.1
    have := HL.out
    omega
  clear hrx hb4 e0 e1 e2 e3 e4
  go_wp2_with fail
  go_ret2
  exact ⟨⟨A4, n4, c4, rfl, HRX.out⟩, HB4.out⟩
end Go.Proofs.YtmkicfjcgbfaaaaGreat
namespace Go.Proofs.YtmkicfjcgbfaaaaGreat
open Go.RowKit

/-- a row of the call's own; what its elements lead to lies in any other blocks -/
structure OutN {α : Type} (enc : α → List Value) (size : Nat) (e : TypeId) (N : Nest α) (w : World) (base : Nat) (v : Value) (M : List α) : Prop where
  own : w.ownsRow base e size v M.length (M.flatMap enc)
  nest : ∀ x ∈ M, N w (fun b => b < w.heap.size ∧ v.ownBlock ≠ some b) x
section
variable {α : Type} {enc : α → List Value} {size base : Nat} {e : TypeId} {N : Nest α} {w w' : World} {v v' : Value} {M : List α} {x : α}
theorem OutN.start (w : World) (base : Nat) : OutN enc size e N w base (.slice none 0 0) [] := ⟨World.ownsRow_nil w base e size, fun x hx => by cases hx⟩
theorem OutN.below (hN : NestOk N) (h : OutN enc size e N w base v M) (hb : Below w.heap.size w w') : OutN enc size e N w' base v M :=
  ⟨own_below h.own hb, fun x hx => hN _ _ _ _ x (h.nest x hx) (fun _ hp => hb.cell hp.1) fun _b hb' => ⟨Nat.lt_of_lt_of_le hb'.1 hb.size, hb'.2⟩⟩
theorem OutN.app (hN : NestOk N) (h : OutN enc size e N w base v M) {S : Nat → Prop} (hx : N w S x) (hS : ∀ b, S b → b < w.heap.size ∧ v.ownBlock ≠ some b)
    (hown : w'.ownsRow base e size v' (M.length + 1) (M.flatMap enc ++ enc x)) (hg : w.grownBy w' v.ownBlock) (hat : v'.ownBlock = v.ownBlock ∨ v'.ownBlock = some w.heap.size) : OutN enc size e N w' base v' (M ++ [x]) := by
  have key : ∀ b, b < w.heap.size ∧ v.ownBlock ≠ some b → b < w'.heap.size ∧ v'.ownBlock ≠ some b := fun b ⟨h2, h3⟩ => by
    refine ⟨Nat.lt_of_lt_of_le h2 hg.size, ?_⟩
    rcases hat with g | g
    · rw [g]; exact h3
    · rw [g]; intro e; injection e with e; omega
  refine ⟨by rw [List.length_append, List.flatMap_append]; simpa using hown, fun y hy => ?_⟩
  rcases List.mem_append.1 hy with hy | hy
  · exact hN _ _ _ _ y (h.nest y hy) (fun _ hp => World.cell?_of_block (hg.block _ hp.1 (fun e => hp.2 e.symm))) key
  · obtain rfl : y = x := by simpa using hy
    exact hN _ _ _ _ y hx (fun _ hp => World.cell?_of_block (hg.block _ (hS _ hp).1 (fun e => (hS _ hp).2 e.symm))) fun b hb => key b (hS b hb)
theorem OutN.blocks (h : OutN enc size e N w base v M) : ∀ g, v.ownBlock = some g → base ≤ g ∧ g < w.heap.size := own_block_lt h.own
end
abbrev OutB := OutN blV 5 38 NB
abbrev OutP := OutN prV 6 116 NP
section
variable {w w' : World} {base : Nat} {v v' : Value}
theorem own_empty {w : World} {g : Nat} {t : TypeId} {size base : Nat} (hg : base ≤ g) (h : Blk w g t #[]) : w.ownsRow base t size (.slice (some ⟨g, 0, none⟩) 0 0) 0 [] :=
  ⟨by simp, .inr ⟨g, 0, #[], rfl, hg, h, Nat.le_refl _, Nat.zero_le _, by simp, by simp⟩⟩
end
theorem prs_one (M : List (Pr × Value)) (h : ∀ x ∈ M, ∃ A n c, x.2 = .slice A n c) : ∀ u ∈ M.flatMap prV, u.oneCell' = true := by
  intro u hu
  obtain ⟨x, hx, hu⟩ := List.mem_flatMap.1 hu
  exact prV_one x (h x hx) u hu
/-- what copied leaves -/
def CopiedR (l : List Bl) (w : World) (e : Ending) (w' : World) : Prop := ∃ (g cap n : Nat) (M : List BK), e = .returned (.slice (some ⟨g, 0, none⟩) n cap) ∧ M.length = n ∧ M.map Prod.fst = l ∧ w.heap.size ≤ g ∧ RowB w' g cap M ∧ Below w.heap.size w w'
set_option maxRecDepth 100000 in
set_option maxHeartbeats 8000000 in
/-- the reference's copied -/
theorem copied_any (l : List Bl) (A : Option Addr) (n c : Nat) (w : World) (B : Nat) (hB : B ≤ w.heap.size) (h : RB w B (.slice A n c) l) (hn0 : 0 < n) (hn1 : n ≤ 100000) :
    Calls Tryz.prog 83 #[.slice A n c] w (CopiedR l w) := by
  obtain ⟨i0, hi, hq0, hq1, hq2⟩ := info_parts int_info
  obtain ⟨j0, hj, hr0, hr1, hr2⟩ := info_parts prop_info
  obtain ⟨k0, hki, hs0, hs1, hs2⟩ := info_parts block_info
  have HN := Lib.hid h.len
  have H := Lib.hid h
  clear h
  go_enter Tryz.func83, Tryz.ntmps83
  go_wp2_with fail
  go_loopg [3, 8] n (fun gg s3 s8 wr => ∃ (k : Nat) (v : Value) (M : List BK), k + gg = n ∧ v = s3 ∧ s8 = .int .i64 (k : Int) ∧ Hid (M.map Prod.fst = l.take k) ∧ Hid (OutB wr w.heap.size v M) ∧ Hid (Below w.heap.size w wr))
  case atStart => exact ⟨0, _, [], by omega, rfl, rfl, rfl, OutN.start _ _, Below.refl _ _⟩
  case round =>
    obtain ⟨k, v, M, hkg, rfl, rfl, hM, hown, hbel⟩ := hrel
    obtain ⟨W1, rfl⟩ : ∃ W1, W1 = wr := ⟨_, rfl⟩
    have hzr : w.heap.size ≤ W1.heap.size := hbel.out.size
    have HML : Hid (M.length = k) := by
      show _ = _
      have := congrArg List.length hM.out
      rw [List.length_map, List.length_take, ← HN.out.1] at this
      omega
    by_cases hk : k < n
    · obtain ⟨x, hx⟩ : ∃ x, l[k]? = some x := ⟨_, List.getElem?_eq_getElem (by have := HN.out.1; omega)⟩
      have HLK : Hid (l.take (k + 1) = l.take k ++ [x]) := by
        show _ = _
        rw [List.take_add_one, hx]; rfl
      obtain ⟨b, off, Kx, nkx, ckx, Px, npx, cpx, rfl, hbb, g0, g1, g2, g3, g4, hKx, hPx⟩ := (H.out.below (hbel.out.mono hB)).at_ hx
      obtain ⟨xid, xpar, xks, xtx, xps⟩ := x
      dsimp only at g0 g1 g2 g3 g4 hKx hPx
      obtain ⟨wa, hwa⟩ : ∃ wa, wa = W1.alloc (.cells #[.int .i64 xid, .int .i64 xpar, .slice Kx nkx ckx, .string xtx, .slice Px npx cpx] 38) := ⟨_, rfl⟩
      have hal : Below W1.heap.size W1 wa := by rw [hwa]; exact (Below.refl _ _).alloc (Nat.le_refl _) _
      have hza : wa.heap.size = W1.heap.size + 1 := by rw [hwa]; simp
      have Q0 : Hid (Blk wa W1.heap.size 38 #[.int .i64 xid, .int .i64 xpar, .slice Kx nkx ckx, .string xtx, .slice Px npx cpx]) := by rw [hwa]; exact Blk.new _ _ _
      have HBA : Hid (Below W1.heap.size W1 wa) := hal
      have HK := Lib.hid (hKx.below (hal.mono (Nat.le_trans hB hzr)))
      have hPX := hPx
      have i1 : (0 : Int) ≤ (k : Int) := by omega
      have i2 : (k : Int) < (n : Int) := by omega
      have HWA := Lib.hid hwa
      clear hx hwa hal hKx hPx
      go_upto_region 5 with fail
      rw [← HWA.out]
      clear g0 g1 g2 g3 g4
      have e0 := fun i => Q0.out.cell i
      have HKL := Lib.hid HK.out.len
      have HR1 : Hid (Reads (wa.alloc (.cells #[] 3)) B 1 Kx nkx (xks.map (.int .i64))) := HK.out.reads.below ((Below.refl _ _).alloc (by omega) _)
      have HO1 : Hid ((wa.alloc (.cells #[] 3)).ownsRow (W1.heap.size + 1) 3 1 (.slice (some ⟨W1.heap.size + 1, 0, none⟩) 0 0) 0 []) := own_empty (Nat.le_refl _) (by rw [← hza]; exact Blk.new _ _ _)
      have hone := ints_one xks
      have HC1 : Hid (0 + nkx ≤ maxLen) := by show _ ≤ _; unfold maxLen; have := HKL.out; omega
      have HC2 : Hid ((0 + nkx) * 8 ≤ 140737488355328) := by show _ ≤ _; have := HKL.out; omega
      have hbase : W1.heap.size + 1 ≤ (wa.alloc (.cells #[] 3)).heap.size := by simp; omega
      have Q1 : Hid (Blk (wa.alloc (.cells #[] 3)) W1.heap.size 38 #[.int .i64 xid, .int .i64 xpar, .slice Kx nkx ckx, .string xtx, .slice Px npx cpx]) := Q0.out.alloc _
      have e1 := fun i => Q1.out.cell i
      go_wp2_with (at_builtin; refine wpList_append_any _ rfl _ _ 34 rfl (W1.heap.size + 1) 3 i0 (.int .i64 0) 1 8 Tryz.underlying34 hi hq0 hq1 hq2 rfl (by decide) (.slice (some ⟨W1.heap.size + 1, 0, none⟩) 0 0) 0 [] rfl HO1.out B Kx nkx ckx (xks.map (.int .i64)) rfl HR1.out hone HC1.out HC2.out hbase ?_)
      intro v2 w2 hown2 hg2 hat2
      try rw [Nat.zero_add] at hown2
      try rw [List.nil_append] at hown2
      have hR2 := RInX.of_own hown2 HKL.out.1 (by have := HKL.out; omega) (fun z hz => HK.out.i64 hz)
      obtain ⟨A2, c2, rfl, _, hr2, _⟩ := hR2
      have hza2 : W1.heap.size + 2 ≤ w2.heap.size := by have := hg2.size; simp at this; omega
      have hne2 : ∀ {i : Nat}, some i = (Value.slice (some ⟨W1.heap.size + 1, 0, none⟩) 0 0).ownBlock → i = W1.heap.size + 1 := fun e => Option.some.inj e
      have hbl2 : Below W1.heap.size W1 w2 := (HBA.out.alloc HBA.out.size _).grown hg2 (by simp; omega) (fun g hg => by have := hne2 hg.symm; omega)
      have q2 := Q1.out.grown hg2 (fun e => by have := hne2 e; omega)
      obtain ⟨w3, hw3⟩ : ∃ w3, w3 = w2.setCell ⟨W1.heap.size, 2, none⟩ (.slice A2 nkx c2) := ⟨_, rfl⟩
      have hz3 : w3.heap.size = w2.heap.size := by rw [hw3]; simp [World.setCell]
      have Q3 : Hid (Blk w3 W1.heap.size 38 #[.int .i64 xid, .int .i64 xpar, .slice A2 nkx c2, .string xtx, .slice Px npx cpx]) := by rw [hw3]; exact q2.set_ 2 _
      have HB3 : Hid (Below W1.heap.size W1 w3) := by rw [hw3]; exact hbl2.setCell (p := ⟨W1.heap.size, 2, none⟩) (Nat.le_refl _) _
      have HK3 : Hid (RInX w3 (fun b => W1.heap.size + 1 ≤ b ∧ b < w3.heap.size) (.slice A2 nkx c2) xks) := by
        show RInX _ _ _ _
        rw [hz3]
        exact (hr2.keep fun p hp => by rw [hw3]; exact World.cell?_setCell_other _ _ _ _ (by intro e; subst e; exact absurd hp.2.1 (by show ¬ (W1.heap.size + 1 ≤ W1.heap.size); omega))).weak fun b hb => ⟨hb.2.1, hb.2.2⟩
      have HW3 := Lib.hid hw3
      have HZ3 : Hid (W1.heap.size + 2 ≤ w3.heap.size) := by show _ ≤ _; omega
      have F2 := Lib.hid q2
      clear hown2 hg2 hat2 hr2 e0 e1 hw3 hz3 hbl2 hne2 hza2 q2 hone hbase
      have e2 := fun i => F2.out.cell i
      have f2 := fun i => F2.out.frozen i
      go_upto_region 6 with fail
      rw [← HW3.out]
      clear e2 f2
      have hp3 := hPX.below (HB3.out.mono (Nat.le_trans hB hzr))
      obtain ⟨A', n', c', MP, hMP, e, hnp, hcp, hrp, hnp2⟩ := hp3
      injection e with e1 e2 e3
      subst e1 e2 e3
      have HMP := Lib.hid hMP
      have HNP := Lib.hid hnp
      have HCP := Lib.hid hcp
      have HNN := Lib.hid hnp2
      have hones := prs_one MP fun z hz => (hnp2 z hz).slice
      have HR5 : Hid (Reads (w3.alloc (.cells #[] 116)) B 6 Px npx (MP.flatMap prV)) := hrp.below ((Below.refl _ _).alloc (by have := HZ3.out; omega) _)
      have HO5 : Hid ((w3.alloc (.cells #[] 116)).ownsRow w3.heap.size 116 6 (.slice (some ⟨w3.heap.size, 0, none⟩) 0 0) 0 []) := own_empty (Nat.le_refl _) (Blk.new _ _ _)
      have HC5 : Hid (0 + npx ≤ maxLen) := by show _ ≤ _; unfold maxLen; have := HCP.out; omega
      have HC6 : Hid ((0 + npx) * 80 ≤ 140737488355328) := by show _ ≤ _; have := HCP.out; omega
      have hbase : w3.heap.size ≤ (w3.alloc (.cells #[] 116)).heap.size := by simp
      have Q4 : Hid (Blk (w3.alloc (.cells #[] 116)) W1.heap.size 38 #[.int .i64 xid, .int .i64 xpar, .slice A2 nkx c2, .string xtx, .slice Px npx cpx]) := Q3.out.alloc _
      have e0 := fun i => Q3.out.cell i
      have e1 := fun i => Q4.out.cell i
      clear hMP hnp hcp hnp2 hrp
      go_wp2_with (at_builtin; refine wpList_append_any _ rfl _ _ 36 rfl w3.heap.size 116 j0 pZ 6 80 Tryz.underlying36 hj hr0 hr1 hr2 rfl (by decide) (.slice (some ⟨w3.heap.size, 0, none⟩) 0 0) 0 [] rfl HO5.out B Px npx cpx (MP.flatMap prV) rfl HR5.out hones HC5.out HC6.out hbase ?_)
      intro v5 w5 hown5 hg5 hat5
      try rw [Nat.zero_add] at hown5
      try rw [List.nil_append] at hown5
      have hR5 := RdX.of_own hown5
      obtain ⟨A5, c5, rfl, hc5, hr5⟩ := hR5
      have hne5 : ∀ {i : Nat}, some i = (Value.slice (some ⟨w3.heap.size, 0, none⟩) 0 0).ownBlock → i = w3.heap.size := fun e => Option.some.inj e
      have hza5 : w3.heap.size + 1 ≤ w5.heap.size := by have := hg5.size; simp at this; omega
      have hz3 := HZ3.out
      have hbl5 : Below W1.heap.size W1 w5 := (HB3.out.alloc HB3.out.size _).grown hg5 (by simp; omega) (fun g hg => by have := hne5 hg.symm; omega)
      have q5 := Q4.out.grown hg5 (fun e => by have := hne5 e; omega)
      obtain ⟨w6, hw6⟩ : ∃ w6, w6 = w5.setCell ⟨W1.heap.size, 4, none⟩ (.slice A5 npx c5) := ⟨_, rfl⟩
      have hz6 : w6.heap.size = w5.heap.size := by rw [hw6]; simp [World.setCell]
      have Q6 : Hid (Blk w6 W1.heap.size 38 #[.int .i64 xid, .int .i64 xpar, .slice A2 nkx c2, .string xtx, .slice A5 npx c5]) := by rw [hw6]; exact q5.set_ 4 _
      have HB6 : Hid (Below W1.heap.size W1 w6) := by rw [hw6]; exact hbl5.setCell (p := ⟨W1.heap.size, 4, none⟩) (Nat.le_refl _) _
      have hkeep : ∀ p : Addr, p.block ≠ W1.heap.size → p.block < w3.heap.size → w6.cell? p = w3.cell? p := fun p h1 h2 => by
        rw [hw6, World.cell?_setCell_other _ _ _ _ (by intro e; subst e; exact h1 rfl)]
        exact (World.cell?_of_block (hg5.block _ (by simp; omega) (fun e => by have := hne5 e; omega))).trans (World.cell?_alloc_lt _ _ _ h2)
      have HNB : Hid (NB w6 (fun b => (b < B ∨ W1.heap.size + 1 ≤ b) ∧ b < w6.heap.size) (⟨xid, xpar, xks, xtx, xps⟩, .slice A2 nkx c2, .slice A5 npx c5)) := by
        refine ⟨(HK3.out.keep fun p hp => hkeep p (by have := hp.1; omega) hp.2).weak fun b hb => ⟨.inr hb.1, by omega⟩, A5, npx, c5, MP, HMP.out, rfl, HNP.out, ⟨hc5, HCP.out.2⟩, (hr5.keep fun p hp => by rw [hw6]; exact World.cell?_setCell_other _ _ _ _ (by intro e; subst e; exact absurd hp.2.1 (by show ¬ (w3.heap.size ≤ W1.heap.size); omega))).weak fun b hb => ⟨.inr (by omega), by have := hb.2.2; omega⟩, fun z hz => ?_⟩
        exact ((RVX.of (HNN.out z hz)).keep fun p hp => by
          have hp : p.block < B := hp
          exact hkeep p (by omega) (by omega)).weak fun b hb => ⟨.inl hb, by have hb : b < B := hb; omega⟩
      have HW6 := Lib.hid hw6
      have F5 := Lib.hid q5
      clear hown5 hg5 hat5 hr5 hc5 e0 e1 hw6 hz6 hbl5 hne5 hza5 q5 hones hbase hz3 hkeep
      have e5 := fun i => F5.out.cell i
      have f5 := fun i => F5.out.frozen i
      go_upto_region 7 with fail
      rw [← HW6.out]
      clear e5 f5
      have e6 := fun i => Q6.out.cell i
      obtain ⟨O, hO⟩ : ∃ O, O = Obj.cells #[.int .i64 xid, .int .i64 xpar, .slice A2 nkx c2, .string xtx, .slice A5 npx c5] 38 := ⟨_, rfl⟩
      have HOW := Lib.hid ((hown.out.below NB_ok HB6.out).below NB_ok ((Below.refl _ _).alloc (Nat.le_refl _) O))
      have HR7 : Hid (Reads (w6.alloc O) (w6.heap.size + 1) 5 (some ⟨w6.heap.size, 0, none⟩) 1 (blV (⟨xid, xpar, xks, xtx, xps⟩, .slice A2 nkx c2, .slice A5 npx c5))) := by rw [hO]; exact Reads.blk (Blk.new _ _ _) rfl
      have hone7 := blV_one (⟨xid, xpar, xks, xtx, xps⟩, .slice A2 nkx c2, .slice A5 npx c5) ⟨_, _, _, rfl⟩ ⟨_, _, _, rfl⟩
      have HC7 : Hid (M.length + 1 ≤ maxLen) := by show _ ≤ _; unfold maxLen; have := HML.out; omega
      have HC8 : Hid ((M.length + 1) * 80 ≤ 140737488355328) := by show _ ≤ _; have := HML.out; omega
      have hbase : w.heap.size ≤ (w6.alloc O).heap.size := by have := HB6.out.size; simp; omega
      have HNB7 : Hid (NB (w6.alloc O) (fun b => (b < B ∨ W1.heap.size + 1 ≤ b) ∧ b < w6.heap.size) (⟨xid, xpar, xks, xtx, xps⟩, .slice A2 nkx c2, .slice A5 npx c5)) := NB_ok _ _ _ _ _ HNB.out (fun p hp => World.cell?_alloc_lt _ _ _ hp.2) fun b hb => hb
      have HB7 : Hid (Below w.heap.size w (w6.alloc O)) := (hbel.out.trans (HB6.out.mono hzr)).alloc (Nat.le_trans hzr HB6.out.size) O
      rw [hO] at HOW HR7 hbase HNB7 HB7
      go_wp2_with (at_builtin; refine wpList_append_any _ rfl _ _ 22 rfl w.heap.size 38 k0 bZ 5 80 Tryz.underlying22 hki hs0 hs1 hs2 rfl (by decide) v M.length (M.flatMap blV) rfl HOW.out.own (w6.heap.size + 1) (some ⟨w6.heap.size, 0, none⟩) 1 1 (blV (⟨xid, xpar, xks, xtx, xps⟩, .slice A2 nkx c2, .slice A5 npx c5)) rfl HR7.out hone7 HC7.out HC8.out hbase ?_)
      intro v8 w8 hown8 hg8 hat8
      have HO8 : Hid (OutB w8 w.heap.size v8 (M ++ [(⟨xid, xpar, xks, xtx, xps⟩, .slice A2 nkx c2, .slice A5 npx c5)])) := HOW.out.app NB_ok HNB7.out (fun b hb => ⟨by have := hb.2; simp; omega, fun e => by
        have := (hown.out.blocks b e)
        have := hb.1
        omega⟩) hown8 hg8 (by simpa using hat8)
      have HB8 : Hid (Below w.heap.size w w8) := HB7.out.grown hg8 hbase (fun g hg => (hown.out.blocks g hg).1)
      have HM8 : Hid ((M ++ [((⟨xid, xpar, xks, xtx, xps⟩ : Bl), Value.slice A2 nkx c2, Value.slice A5 npx c5)]).map Prod.fst = l.take (k + 1)) := by
        show _ = _
        rw [HLK.out, List.map_append, hM.out]; rfl
      clear hown8 hg8 hat8 e6 hone7 hbase
      go_wp2_with fail
      go_roundg (n - (k + 1))
      case measure => omega
      case rel => exact ⟨k + 1, v8, _, by omega, rfl, by go_num, HM8, HO8, HB8⟩
    · obtain rfl : n = k := by omega
      have HF : Hid (CopiedR l w (.returned v) W1) := by
        show CopiedR _ _ _ _
        have e : M.map Prod.fst = l := by rw [hM.out, List.take_of_length_le (by rw [← HN.out.1]; exact Nat.le_refl _)]
        have hml := HML.out
        obtain ⟨g, cap, e2, hg, hr⟩ := RowB.of_own hown.out.own (by omega) (by omega) hown.out.nest
        subst e2
        rw [hml]
        exact ⟨g, cap, n, M, rfl, hml, e, hg, hr, hbel.out⟩
      go_wp2_with fail
      go_ret
      exact HF.out
end Go.Proofs.YtmkicfjcgbfaaaaGreat
