/-
  DERIVED. What operations make, place by place; what an operation without error gives. Plain law. Conditions: none.
  The walk of prop.with. Conditions: sizes; a list of properties without error.
  By an AI agent.
-/
import Derived.Test.YtmkicfjcgbfaaaaGreatDoorTc25
import Derived.Test.YtmkicfjcgbfaaaaGreatDoorTc06
import Derived.Test.YtmkicfjcgbfaaaaGreatDoorTc27
namespace Go.Proofs.YtmkicfjcgbfaaaaGreatDoor

/-- a block turned, by its place -/
theorem upd_set {l : List Bl} (hr : Rise l) {q : Nat} {y : Bl} (hy : l[q]? = some y) {p : Int} (hp : y.id = p) (h : Bl → Bl) : upd l p h = l.set q (h y) := by
  refine List.ext_getElem? fun i => ?_
  unfold upd
  rw [List.getElem?_map, List.getElem?_set]
  obtain ⟨hq, _⟩ := List.getElem?_eq_some_iff.1 hy
  by_cases e : q = i
  · subst e
    rw [if_pos rfl, if_pos hq, hy]
    show some (if y.id = p then h y else y) = _
    rw [if_pos hp]
  · rw [if_neg e]
    cases hx : l[i]? with
    | none => rfl
    | some x =>
      show some (if x.id = p then h x else x) = _
      rw [if_neg]
      intro hxp
      rcases Nat.lt_or_ge i q with g | g
      · have := hr i q x y g hx hy; omega
      · have := hr q i y x (by omega) hy hx; omega
theorem upd_insB {x : Bl} {p : Int} {h : Bl → Bl} (hp : x.id ≠ p) (hh : ∀ b, (h b).id = b.id) : ∀ l : List Bl, upd (insB x l) p h = insB x (upd l p h)
  | [] => by simp [upd, insB, hp]
  | y :: l => by
    have hid : (if y.id = p then h y else y).id = y.id := by split <;> first | exact hh y | rfl
    have ih := upd_insB hp hh l
    unfold upd at ih ⊢
    rw [insB]
    by_cases e : y.id < x.id
    · rw [if_pos e, List.map_cons, List.map_cons, insB, hid, if_pos e, ih]
    · rw [if_neg e, List.map_cons, if_neg hp, List.map_cons, insB, hid, if_neg e]
theorem LowB.tail {y : Bl} {l : List Bl} {id : Int} {i : Nat} (h : LowB (y :: l) id (i + 1)) : LowB l id i :=
  ⟨by have := h.1; simpa using this, fun k x hk hx => h.2.1 (k + 1) x (by omega) (by simpa using hx), fun k x hk hx => h.2.2 (k + 1) x (by omega) (by simpa using hx)⟩
theorem insB_low {x : Bl} : ∀ {l : List Bl} {i : Nat}, LowB l x.id i → insB x l = l.take i ++ x :: l.drop i
  | [], i, h => by
    obtain rfl : i = 0 := by have := h.1; simpa using this
    rfl
  | y :: l, 0, h => by
    have := h.2.2 0 y (Nat.le_refl _) rfl
    rw [insB, if_neg (by omega)]; rfl
  | y :: l, i + 1, h => by
    have := h.2.1 0 y (by omega) rfl
    rw [insB, if_pos this, insB_low h.tail]; rfl
theorem LowB.place {l : List Bl} {id : Int} {i p : Nat} {x : Bl} (h : LowB l id i) (hr : Rise l) (hx : l[p]? = some x) (hi : x.id = id) : i = p := by
  rcases Nat.lt_trichotomy i p with g | g | g
  · obtain ⟨hp, _⟩ := List.getElem?_eq_some_iff.1 hx
    have hi' : i < l.length := by omega
    have h1 := h.2.2 i _ (Nat.le_refl _) (List.getElem?_eq_getElem hi')
    have h2 := hr i p _ x g (List.getElem?_eq_getElem hi') hx
    omega
  · exact g
  · have := h.2.1 p x g hx; omega
/-- a block taken out, by its place -/
theorem filter_out {l : List Bl} (hr : Rise l) {p : Nat} {x : Bl} (hx : l[p]? = some x) : (l.filter fun b => b.id != x.id) = l.take p ++ l.drop (p + 1) := by
  obtain ⟨hp, e⟩ := List.getElem?_eq_some_iff.1 hx
  conv => lhs; rw [← List.take_append_drop p l, List.drop_eq_getElem_cons hp, e]
  rw [List.filter_append, List.filter_cons, if_neg (by simp), List.filter_eq_self.2, List.filter_eq_self.2]
  · intro b hb
    obtain ⟨j, hj⟩ := List.mem_iff_getElem?.1 hb
    rw [List.getElem?_drop] at hj
    have := hr p _ x b (by omega) hx hj
    rw [bne_iff_ne]; omega
  · intro b hb
    obtain ⟨j, hj⟩ := List.mem_iff_getElem?.1 hb
    rw [List.getElem?_take] at hj
    split at hj
    · have := hr j p b x (by omega) hj hx
      rw [bne_iff_ne]; omega
    · cases hj
theorem Rise.upd {l : List Bl} (hr : Rise l) {p : Int} {h : Bl → Bl} (hh : ∀ b, (h b).id = b.id) : Rise (upd l p h) := rise_iff.2 (upd_sorted hh (rise_iff.1 hr))
theorem IdsIn.upd {l : List Bl} (hi : IdsIn l) {p : Int} {h : Bl → Bl} (hh : ∀ b, (h b).id = b.id) : IdsIn (upd l p h) := fun x hx => by
  obtain ⟨b, hb, e⟩ := upd_mem.1 hx
  rw [e]
  split
  · rw [hh]; exact hi b hb
  · exact hi b hb
theorem upd_at {l : List Bl} {p : Int} {h : Bl → Bl} {k : Nat} {x : Bl} (hx : l[k]? = some x) : (upd l p h)[k]? = some (if x.id = p then h x else x) := by
  unfold upd; rw [List.getElem?_map, hx]; rfl
/-- what a move makes, step by step -/
theorem movL_eq {l : List Bl} {id p par : Int} {i : Nat} (hk : ∀ b ∈ l, b.id ≠ par → id ∉ b.kids) : movL l id p i = upd (upd (upd l par fun b => b.withKids (lessK b.kids id)) id fun b => b.withPar p) p fun b => b.withKids (plusK b.kids i id) := by
  unfold movL upd
  rw [List.map_map, List.map_map]
  refine List.map_congr_left fun b hb => ?_
  have hless : b.id ≠ par → lessK b.kids id = b.kids := fun e => less_same (hk b hb e)
  obtain ⟨bi, bp, bk, bt, bs⟩ := b
  simp only [Function.comp, movB, Bl.withKids, Bl.withPar] at hless ⊢
  by_cases h1 : bi = par
  · by_cases h2 : bi = id
    · by_cases h3 : bi = p
      · simp only [if_pos h1, if_pos h2, if_pos h3]
      · simp only [if_pos h1, if_pos h2, if_neg h3]
    · by_cases h3 : bi = p
      · simp only [if_pos h1, if_neg h2, if_pos h3]
      · simp only [if_pos h1, if_neg h2, if_neg h3]
  · have := hless h1
    by_cases h2 : bi = id
    · by_cases h3 : bi = p
      · simp only [if_neg h1, if_pos h2, if_pos h3, this]
      · simp only [if_neg h1, if_pos h2, if_neg h3, this]
    · by_cases h3 : bi = p
      · simp only [if_neg h1, if_neg h2, if_pos h3, this]
      · simp only [if_neg h1, if_neg h2, if_neg h3, this]

/-- what an operation without error gives, kind by kind -/
inductive OpF (l : List Bl) (o : Opn) : Prop
  | ins (h : o.kind = 1) (hn : ∀ x ∈ l, x.id ≠ o.id) (hid : 1 ≤ o.id ∧ o.id ≤ 1000000) (q : Nat) (y : Bl) (hy : l[q]? = some y) (hyi : y.id = o.parent) (ha : 0 ≤ o.at_) (hk : o.at_.toNat ≤ y.kids.length) (h5 : y.kids.length < 500) (hl : l.length < 2000)
  | rem (h : o.kind = 2) (p : Nat) (x : Bl) (hx : l[p]? = some x) (hxi : x.id = o.id) (h0 : x.id ≠ 0) (hk : x.kids = []) (q : Nat) (y : Bl) (hy : l[q]? = some y) (hyi : y.id = x.parent) (hin : x.id ∈ y.kids)
  | mov (h : o.kind = 3) (p : Nat) (x : Bl) (hx : l[p]? = some x) (hxi : x.id = o.id) (h0 : x.id ≠ 0) (q : Nat) (y : Bl) (hy : l[q]? = some y) (hyi : y.id = x.parent) (hin : x.id ∈ y.kids) (r : Nat) (z : Bl) (hz : l[r]? = some z) (hzi : z.id = o.parent) (ha : 0 ≤ o.at_) (hk : o.at_.toNat ≤ (lessK z.kids o.id).length)
  | edit (h : o.kind = 4) (p : Nat) (x : Bl) (hx : l[p]? = some x) (hxi : x.id = o.id) (he : edErr x.text o.text o.from_ o.to_ = 0)
  | set (h : o.kind = 5) (p : Nat) (x : Bl) (hx : l[p]? = some x) (hxi : x.id = o.id) (hn : nmErr o.name = 0) (hv : vErr o.val = 0) (hp : cpErr x.props = 0) (hl : (setPr x.props o.name o.val).length ≤ 20)
theorem Good.par_at {l : List Bl} {f : Int → Option Int} (G : Good l f) {x : Bl} (hx : x ∈ l) (h0 : x.id ≠ 0) : ∃ (q : Nat) (y : Bl), l[q]? = some y ∧ y.id = x.parent ∧ x.id ∈ y.kids := by
  obtain ⟨b, hb, h1, h2, _⟩ := G.tree.par x hx h0
  obtain ⟨q, hq⟩ := List.mem_iff_getElem?.1 hb
  exact ⟨q, b, hq, h1, h2⟩
theorem Good.op_facts {l : List Bl} {f : Int → Option Int} (G : Good l f) {o : Opn} (h : opErr l f o = 0) : OpF l o := by
  unfold opErr at h
  by_cases h1 : outI o.kind 1 5 = true
  · rw [if_pos h1] at h; omega
  rw [if_neg h1] at h
  by_cases h2 : usedB o = false
  · rw [if_pos h2] at h; omega
  rw [if_neg h2] at h
  by_cases k1 : o.kind = 1
  · rw [if_pos k1] at h
    unfold insErr at h
    by_cases q1 : o.id < 1 ∨ 1000000 < o.id
    · rw [if_pos q1] at h; omega
    rw [if_neg q1] at h
    by_cases q2 : 0 ≤ posOf l o.id
    · rw [if_pos q2] at h; omega
    rw [if_neg q2] at h
    by_cases q3 : posOf l o.parent < 0
    · rw [if_pos q3] at h; omega
    rw [if_neg q3] at h
    by_cases q4 : o.at_ < 0 ∨ ((blkAt l o.parent).kids.length : Int) < o.at_
    · rw [if_pos q4] at h; omega
    rw [if_neg q4] at h
    by_cases q5 : txErr o.text = 0
    case neg => rw [if_pos q5] at h; exact absurd h q5
    rw [if_neg (fun e => e q5)] at h
    by_cases q6 : 2000 ≤ l.length ∨ 500 ≤ (blkAt l o.parent).kids.length
    · rw [if_pos q6] at h; omega
    rcases posOf_spec l o.id with ⟨_, hn⟩ | ⟨i, b, e, _⟩
    case inr => omega
    rcases posOf_spec l o.parent with ⟨e, _⟩ | ⟨i, b, e, hb, hbi, _⟩
    · omega
    rw [blkAt_of e hb] at q4 q6
    exact .ins k1 hn (by omega) i b hb hbi (by omega) (by omega) (by omega) (by omega)
  rw [if_neg k1] at h
  by_cases k3 : o.kind = 3
  · rw [if_pos k3] at h
    unfold movErr at h
    by_cases q1 : o.id = 0 ∨ posOf l o.id < 0 ∨ posOf l o.parent < 0
    · rw [if_pos q1] at h; omega
    rw [if_neg q1] at h
    by_cases q2 : o.id ∈ pth l (dF f o.parent).toNat o.parent
    · rw [if_pos q2] at h; omega
    rw [if_neg q2] at h
    by_cases q3 : o.at_ < 0 ∨ ((lessK (blkAt l o.parent).kids o.id).length : Int) < o.at_
    · rw [if_pos q3] at h; omega
    rcases posOf_spec l o.id with ⟨e, _⟩ | ⟨i, x, _, hx, hxi, _⟩
    · omega
    rcases posOf_spec l o.parent with ⟨e, _⟩ | ⟨r, z, e, hz, hzi, _⟩
    · omega
    rw [blkAt_of e hz] at q3
    have hx0 : x.id ≠ 0 := by omega
    obtain ⟨q, y, hy, hyi, hin⟩ := G.par_at (List.mem_of_getElem? hx) hx0
    exact .mov k3 i x hx hxi hx0 q y hy hyi hin r z hz hzi (by omega) (by omega)
  rw [if_neg k3] at h
  by_cases q1 : posOf l o.id < 1
  · rw [if_pos q1] at h; omega
  rw [if_neg q1] at h
  rcases posOf_spec l o.id with ⟨e, _⟩ | ⟨i, x, e, hx, hxi, hxf⟩
  · omega
  have hxm := List.mem_of_getElem? hx
  rw [blkAt_of e hx] at h
  have hx0 : x.id ≠ 0 := fun e0 => by
    obtain ⟨r, r', hl, a1, _⟩ := G.tree.root
    exact hxf 0 r (by omega) (by rw [hl]; rfl) (by rw [a1, ← hxi, e0])
  by_cases k2 : o.kind = 2
  · rw [if_pos k2] at h
    by_cases q2 : 0 < x.kids.length
    · rw [if_pos q2] at h; omega
    obtain ⟨q, y, hy, hyi, hin⟩ := G.par_at hxm hx0
    exact .rem k2 i x hx hxi hx0 (List.eq_nil_of_length_eq_zero (by omega)) q y hy hyi hin
  rw [if_neg k2] at h
  by_cases k4 : o.kind = 4
  · rw [if_pos k4] at h
    exact .edit k4 i x hx hxi h
  rw [if_neg k4] at h
  have k5 : o.kind = 5 := by
    unfold outI at h1
    simp at h1; omega
  have hcp := (G.tree.loc x hxm).2.2
  unfold setErr at h
  by_cases q2 : nmErr o.name = 0
  case neg => rw [if_pos q2] at h; exact absurd h q2
  rw [if_neg (fun e => e q2)] at h
  by_cases q3 : vErr o.val = 0
  case neg => rw [if_pos q3] at h; exact absurd h q3
  rw [if_neg (fun e => e q3)] at h
  by_cases q4 : o.val.kind ≠ 0 ∧ nmOf x.props o.name < 0 ∧ 20 ≤ x.props.length
  · rw [if_pos q4] at h; omega
  exact .set k5 i x hx hxi q2 q3 hcp (cp_ok (setPr_ok hcp q2 q3 q4)).1
end Go.Proofs.YtmkicfjcgbfaaaaGreatDoor
namespace Go.Proofs.YtmkicfjcgbfaaaaGreatDoor
open Go.RowKit

theorem OwnP.rprX {w : World} {base c c' : Nat} {A : Option Addr} {M : List (Pr × Value)} (h : OwnP w base A c M) (hb : M.length * 80 ≤ 140737488351232) (hc : M.length ≤ c') : RPrX w (fun b => base ≤ b ∧ b < w.heap.size) (.slice A M.length c') (M.map Prod.fst) := by
  refine ⟨A, M.length, c', M, rfl, rfl, rfl, ⟨hc, hb⟩, ⟨prs_cells M, fun hp => ?_⟩, fun x hx => (h.nest x hx).weak fun b hb => ⟨hb.1, hb.2.1⟩⟩
  have hr := h.row.reads
  rcases h.row.2 with ⟨_, h0⟩ | ⟨g, rfl, hge, _, h4⟩
  · have := h.row.1; omega
  · obtain ⟨ad, e, hlt, hcell⟩ := hr.2 hp
    have e : ad = ⟨g, 0, none⟩ := (Option.some.inj e).symm
    subst e
    exact ⟨_, rfl, ⟨hge, hlt⟩, hcell⟩
theorem sp_of : ∀ {M : List (Pr × Value)}, (∀ x ∈ M, ∃ A n c, x.2 = .slice A n c) → ∃ L : List SPr, L.map spP = M
  | [], _ => ⟨[], rfl⟩
  | x :: M, h => by
    obtain ⟨A, n, c, e⟩ := h x (by simp)
    obtain ⟨L, hL⟩ := sp_of (M := M) fun y hy => h y (by simp [hy])
    obtain ⟨x1, x2⟩ := x
    obtain rfl : x2 = _ := e
    exact ⟨(x1, A, n, c) :: L, by rw [List.map_cons, hL]; rfl⟩
/-- an append of one property, whether there is room or not -/
theorem run_appP (w : World) (A : Option Addr) (c base : Nat) (M : List (Pr × Value)) (hb : base ≤ w.heap.size) (h : OwnP w base A c M) (hm : M.length ≤ 1000) (ad : Addr) (x : Pr × Value) (hx1 : ∀ u ∈ prV x, u.oneCell' = true) (hx : ∀ j u, (prV x)[j]? = some u → w.cell? (ad.add j) = some u)
    (hn : NP w (fun b => base ≤ b ∧ b < w.heap.size ∧ A.map Addr.block ≠ some b) x) :
    ∃ (g c' : Nat) (w' : World), (∀ ty, (Builtin.append_ #[50, 50] ty #[.slice A M.length c, .slice (some ad) 1 1]).run Tryz.prog w = .ok (.slice (some ⟨g, 0, none⟩) (M.length + 1) c') w') ∧ OwnP w' base (some ⟨g, 0, none⟩) c' (M ++ [x]) ∧ w.grownBy w' (A.map Addr.block) := by
  have hall : ∀ y ∈ M ++ [x], NP w (fun b => base ≤ b ∧ b < w.heap.size ∧ A.map Addr.block ≠ some b) y := fun y hy => by
    rcases List.mem_append.1 hy with hy | hy
    · exact h.nest y hy
    · rw [List.mem_singleton.1 hy]; exact hn
  by_cases hc : M.length + 1 ≤ c
  · rcases h.row.2 with ⟨_, h0⟩ | ⟨g, rfl, hge, hR, hF⟩
    · omega
    · obtain ⟨w', h1, h2, h3⟩ := run_appP_room w g c base M hge hR hF hc ad x hx1 hx
      exact ⟨g, c, w', h1, ⟨h2, fun y hy => ((hall y hy).keep fun p hp => World.cell?_of_block (h3.block p.block hp.2.1 fun e => hp.2.2 e.symm)).weak fun b hb => ⟨hb.1, Nat.lt_of_lt_of_le hb.2.1 h3.size, hb.2.2⟩⟩, h3⟩
  · obtain ⟨G, w', h1, h2, h3⟩ := run_appP_grow w A c base M hb h.row (by have := h.row.1; omega) hm ad x hx
    exact ⟨w.heap.size, G, w', h1, ⟨h2, fun y hy => ((hall y hy).keep fun p hp => World.cell?_of_block (h3.block p.block hp.2.1 (by simp))).weak fun b hb => ⟨hb.1, Nat.lt_of_lt_of_le hb.2.1 h3.size, fun e => by have : w.heap.size = b := Option.some.inj e; omega⟩⟩, ⟨h3.os, h3.tape, h3.output, h3.size, fun k hk _ => h3.block k hk (by simp)⟩⟩

/-- the append of prop.with, behind the copy of the value -/
theorem with_app (w1 w2 : World) (base : Nat) (A1 : Option Addr) (c1 : Nat) (M : List (Pr × Value)) (s : ByteArray) (v : Vl) (A' : Option Addr) (n' c' : Nat) (hb : base ≤ w1.heap.size) (hb2 : Below w1.heap.size w1 w2) (ho : OwnP w1 base A1 c1 M) (hml : M.length ≤ 20)
    (hrv : RVX w2 (fun b => w1.heap.size ≤ b ∧ b < w2.heap.size) (.slice A' n' c') v.items) :
    ∃ (g c3 : Nat) (w3 : World), (∀ ty, (Builtin.append_ #[50, 50] ty #[.slice A1 M.length c1, .slice (some ⟨w2.heap.size, 0, none⟩) 1 1]).run Tryz.prog (w2.alloc (.cells #[.string s, .int .i64 v.kind, .int .i64 v.int_, .int .i64 v.to_, .string v.text, .slice A' n' c'] 129)) = .ok (.slice (some ⟨g, 0, none⟩) (M.length + 1) c3) w3) ∧
      OwnP w3 base (some ⟨g, 0, none⟩) c3 (M ++ [(⟨s, v⟩, .slice A' n' c')]) ∧ Below base w1 w3 := by
  obtain ⟨wc, hwc⟩ : ∃ wc, wc = w2.alloc (.cells #[.string s, .int .i64 v.kind, .int .i64 v.int_, .int .i64 v.to_, .string v.text, .slice A' n' c'] 129) := ⟨_, rfl⟩
  have hbc : Below w2.heap.size w2 wc := by rw [hwc]; exact (Below.refl _ _).alloc (Nat.le_refl _) _
  have hb1c : Below w1.heap.size w1 wc := hb2.trans (hbc.mono hb2.size)
  have hk : Blk wc w2.heap.size 129 #[.string s, .int .i64 v.kind, .int .i64 v.int_, .int .i64 v.to_, .string v.text, .slice A' n' c'] := by rw [hwc]; exact Blk.new _ _ _
  have hz1 := hb2.size
  have hz2 := hbc.size
  have hA : ∀ b, A1.map Addr.block = some b → base ≤ b ∧ b < w1.heap.size := fun b e => by
    rcases ho.row.2 with ⟨h0, _⟩ | ⟨g, h0, hg, _, hF⟩
    · rw [h0] at e; cases e
    · rw [h0] at e
      obtain rfl : g = b := Option.some.inj e
      exact ⟨hg, hF.lt⟩
  have hoc : OwnP wc base A1 c1 M := ho.grown (M' := M) ⟨hb1c.os, hb1c.tape, hb1c.output, hb1c.size, fun k hk _ => hb1c.block k hk⟩ ⟨ho.row.1, ho.row.2.imp id fun ⟨g, a, b, c, d⟩ => ⟨g, a, b, c.below hb1c d.lt, d.below hb1c d.lt⟩⟩ fun x hx => hx
  obtain ⟨g, c3, w3, h1, h2, h3⟩ := run_appP wc A1 c1 base M (by omega) hoc (by omega) ⟨w2.heap.size, 0, none⟩ (⟨s, v⟩, .slice A' n' c') (prV_one _ ⟨_, _, _, rfl⟩) (fun j u hu => by
    rw [Addr.add_lit, Nat.zero_add, hk.cell, ← hu]; exact (List.getElem?_toArray (xs := prV (⟨s, v⟩, .slice A' n' c')) (i := j)))
    ((hrv.keep fun p hp => hbc.cell hp.2).weak fun b hb => ⟨by omega, by omega, fun e => by have := (hA b e).2; omega⟩)
  rw [hwc] at h1
  exact ⟨g, c3, w3, h1, h2, (hb1c.mono hb).trans ⟨h3.os, h3.tape, h3.output, h3.size, fun k hk => h3.block k (by omega) fun e => by have := (hA k e.symm).1; omega⟩⟩

/-- what the sort of prop.with leaves -/
def SrtR (base : Nat) (g n : Nat) (l : List Pr) (w : World) (e : Ending) (w' : World) : Prop := e = .returned (.tuple #[]) ∧ RPrX w' (fun b => base ≤ b ∧ b < w'.heap.size) (.slice (some ⟨g, 0, none⟩) n n) l ∧ Below base w w'
/-- the sort of prop.with -/
theorem with_sort (w3 : World) (base g c3 : Nat) (M : List (Pr × Value)) (l : List Pr) (s : ByteArray) (v : Vl) (A' : Option Addr) (n' c' : Nat) (hcp : cpErr l = 0) (hk : v.kind ≠ 0) (hM : M.map Prod.fst = l.filter fun p => !decide (p.name = s)) (hml : M.length ≤ 20)
    (ho : OwnP w3 base (some ⟨g, 0, none⟩) c3 (M ++ [(⟨s, v⟩, .slice A' n' c')])) :
    Calls Tryz.prog 112 #[.slice (some ⟨g, 0, none⟩) (M.length + 1) c3, .func (.func 113) #[] #[]] w3 (SrtR base g (M.length + 1) (setPr l s v) w3) := by
  obtain ⟨L, hL⟩ := sp_of (M := M ++ [(⟨s, v⟩, .slice A' n' c')]) fun x hx => (ho.nest x hx).slice
  have hLl : L.length = M.length + 1 := by
    have := congrArg List.length hL
    rw [List.length_map, List.length_append] at this
    exact this
  have hLf : L.map Prod.fst = (l.filter fun p => !decide (p.name = s)) ++ [⟨s, v⟩] := by
    have := congrArg (List.map Prod.fst) hL
    rw [List.map_map, List.map_append, hM] at this
    exact this
  rw [← hL] at ho
  have hrow := ho.row
  have hle : L.length ≤ c3 := by have := hrow.1; rwa [List.length_map] at this
  rcases hrow.2 with ⟨h0, _⟩ | ⟨g', h0, hge, hR, hF⟩
  · cases h0
  have hgg : g' = g := by injection h0 with h0; injection h0 with h0; exact h0.symm
  subst hgg
  have hS := sortP_any g' c3 L w3 hR hF hle (by omega)
  rw [hLl] at hS
  refine hS.mono ?_
  rintro e w4 ⟨rfl, d', hp, hsd, hR4, hF4, hg4⟩
  rw [← hLl] at hp hsd
  obtain ⟨e1, e2, e3⟩ := setPr_srt hcp hk hLf hp hsd
  have hlen : (d'.toList.map spP).length = M.length + 1 := by rw [List.length_map, Array.length_toList, e3, hLl]
  have ho4 : OwnP w4 base (some ⟨g', 0, none⟩) c3 (d'.toList.map spP) := ho.grown hg4 ⟨by rw [hlen, ← hLl]; exact hle, .inr ⟨g', rfl, hge, hR4, hF4⟩⟩ fun x hx => by
    obtain ⟨y, hy, rfl⟩ := List.mem_map.1 hx
    exact List.mem_map.2 ⟨y, e2 y hy, rfl⟩
  have h5 := ho4.rprX (c' := M.length + 1) (by rw [hlen]; omega) (by rw [hlen]; exact Nat.le_refl _)
  rw [hlen, List.map_map] at h5
  refine ⟨rfl, by rw [← e1]; exact h5, ⟨hg4.os, hg4.tape, hg4.output, hg4.size, fun k hk => hg4.block k (by have := hF.lt; omega) fun e => by have : k = g' := Option.some.inj e; omega⟩⟩

set_option maxRecDepth 100000 in
set_option maxHeartbeats 4000000 in
/-- prop.with -/
theorem with_any (A : Option Addr) (n c : Nat) (l : List Pr) (s : ByteArray) (v : Vl) (Av : Option Addr) (nv cv : Nat) (w : World) (B : Nat) (hB : B ≤ w.heap.size) (h : RPr w B (.slice A n c) l) (hcp : cpErr l = 0) (hv : RV w B (.slice Av nv cv) v.items) :
    Calls Tryz.prog 93 #[.slice A n c, .string s, AV (v, .slice Av nv cv)] w (CopyPR (setPr l s v) w) := by
  have hl20 : l.length ≤ 20 := (cp_ok hcp).1
  obtain ⟨wb, hwb⟩ : ∃ wb, wb = w.alloc (.cells #[.int .i64 v.kind, .int .i64 v.int_, .int .i64 v.to_, .string v.text, .slice Av nv cv] 65) := ⟨_, rfl⟩
  have HWB0 : Hid (Below w.heap.size w wb) := by rw [hwb]; exact (Below.refl _ _).alloc (Nat.le_refl _) _
  have P0 : Hid (Blk wb w.heap.size 65 #[.int .i64 v.kind, .int .i64 v.int_, .int .i64 v.to_, .string v.text, .slice Av nv cv]) := by rw [hwb]; exact Blk.new _ _ _
  have hzb : w.heap.size < wb.heap.size := by rw [hwb]; simp
  have HWO := Lib.hid (withoutP_any A n c l s wb B (Nat.le_trans hB (Nat.le_of_lt hzb)) (h.below (HWB0.out.mono hB)))
  obtain ⟨dv, hdv⟩ := hv
  have HCV := Lib.hid fun W (hW : Below w.heap.size w W) => copyValue_any dv (v, .slice Av nv cv) W B (Nat.le_trans hB hW.size) (hdv.below (hW.mono hB))
  have HCP := Lib.hid hcp
  have HWB := Lib.hid hwb
  dsimp only [AV] at HCV ⊢
  clear h hcp hdv hwb
  by_cases hk : v.kind = 0
  · have hk' : (v.kind == 0) = true := by simpa using hk
    have HSP := Lib.hid (setPr_none (l := l) (s := s) hk)
    clear hk
    go_enter Tryz.func93, Tryz.ntmps93
    go_upto_region 1 with fail
    rw [← HWB.out]
    go_wp2_with fail
    refine HWO.out.mono ?_
    rintro e w1 ⟨⟨A1, c1, M, rfl, hc1, hM, ho⟩, hb1⟩
    have hml : M.length ≤ 20 := by
      have := congrArg List.length hM
      rw [List.length_map] at this
      have := List.length_filter_le (fun p : Pr => !decide (p.name = s)) l
      omega
    have HRX : Hid (RPrX w1 (fun b => w.heap.size ≤ b ∧ b < w1.heap.size) (.slice A1 M.length c1) (setPr l s v)) := by
      rw [HSP.out, ← hM]
      exact (ho.rprX (by omega) ho.row.1).weak fun b hb => ⟨by omega, hb.2⟩
    have HB1 : Hid (Below w.heap.size w w1) := HWB0.out.trans (hb1.mono HWB0.out.size)
    have e0 : w1.cell? ⟨w.heap.size, 0, none⟩ = some (.int .i64 v.kind) := (P0.out.below hb1 P0.out.lt).cell 0
    clear ho hM hc1 hb1 hml
    go_wp2_with fail
    go_ret
    exact ⟨⟨A1, M.length, c1, rfl, HRX.out⟩, HB1.out⟩
  · have hk' : (v.kind == 0) = false := by simpa using hk
    have HK := Lib.hid hk
    clear hk
    go_enter Tryz.func93, Tryz.ntmps93
    go_upto_region 1 with fail
    rw [← HWB.out]
    go_wp2_with fail
    refine HWO.out.mono ?_
    rintro e w1 ⟨⟨A1, c1, M, rfl, hc1, hM, ho⟩, hb1⟩
    have hml : M.length ≤ 20 := by
      have := congrArg List.length hM
      rw [List.length_map] at this
      have := List.length_filter_le (fun p : Pr => !decide (p.name = s)) l
      omega
    have HB1 : Hid (Below w.heap.size w w1) := HWB0.out.trans (hb1.mono HWB0.out.size)
    have P1 := Lib.hid (P0.out.below hb1 P0.out.lt)
    have e0 := P1.out.cell 0
    have e1 := P1.out.cell 1
    have e2 := P1.out.cell 2
    have e3 := P1.out.cell 3
    have e4 := P1.out.cell 4
    have HO := Lib.hid ho
    have HM := Lib.hid hM
    have HX := Lib.hid (HCV.out w1 HB1.out)
    have hwz : wb.heap.size ≤ w1.heap.size := hb1.size
    clear ho hM hc1 hb1
    go_wp2_with (first
      | (go_at_call 94; refine HX.out.mono ?_; rintro e w2 ⟨⟨A', n', c', rfl, hrv⟩, hb⟩; dsimp only [AV]; have HB2 : Hid (Below w1.heap.size w1 w2) := hb; have HRV := Lib.hid hrv; clear hb hrv; obtain ⟨g3, c3, w3, hrun, ho3, hg3⟩ := with_app w1 w2 wb.heap.size A1 c1 M s v A' n' c' hwz HB2.out HO.out hml HRV.out; have HO3 := Lib.hid ho3; have HG3 := Lib.hid hg3; clear ho3 hg3)
      | (at_builtin; refine Lib.wpList_append_run _ rfl _ _ _ _ rfl _ _ rfl rfl _ _ (hrun _) ?_))
    have HSO := Lib.hid (with_sort w3 wb.heap.size g3 c3 M l s v A' n' c' HCP.out HK.out HM.out hml HO3.out)
    clear hrun
    go_wp2_with fail
    refine HSO.out.mono ?_
    rintro e w4 ⟨rfl, hrx, hb4⟩
    have HB4 : Hid (Below w.heap.size w w4) := (HB1.out.trans (HG3.out.mono (Nat.le_of_lt hzb))).trans (hb4.mono (Nat.le_of_lt hzb))
    have HRX : Hid (RPrX w4 (fun b => w.heap.size ≤ b ∧ b < w4.heap.size) (.slice (some ⟨g3, 0, none⟩) (M.length + 1) (M.length + 1)) (setPr l s v)) := hrx.weak fun b hb => ⟨by omega, hb.2⟩
    have hle : M.length + 1 ≤ c3 := by have := HO3.out.row.1; rwa [List.length_append] at this
    have HCL := Lib.hid fun W => clipP_any (some ⟨g3, 0, none⟩) (M.length + 1) c3 W hle fun e => by cases e
    clear hrx hb4
    go_wp2_with fail
    refine (HCL.out _).mono ?_
    rintro e w5 ⟨rfl, hw5⟩
    subst hw5
    go_wp2_with fail
    go_ret
    exact ⟨⟨some ⟨g3, 0, none⟩, M.length + 1, M.length + 1, rfl, HRX.out⟩, HB4.out⟩
end Go.Proofs.YtmkicfjcgbfaaaaGreatDoor
