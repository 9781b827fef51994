/-
  DERIVED. The words on memory that this seat's walks use: a slice that reads as a list (nil let in), a block that is known whole, an append onto a row of the call's own. Conditions: none.
  How a law's row closes: what the arguments weigh, part by part; the arguments read behind the call as before it. Conditions: none.
  Values, properties and blocks of a base as they lie in memory. Conditions: none.
  Lists of properties that came in, opened: values, properties. Conditions: none.
  By an AI agent.
-/
import Derived.WalkKit
import Derived.Below
import Derived.Laws.OwnMore
import Derived.Deep.AppendLies
import Derived.Deep.Draws
import Derived.Deep.Onto
import Derived.Laws.Rows
import Derived.Maps.AppendAt
import Derived.RegionTactic
import Derived.OwnWalk
import Derived.Lib.Hide
import Derived.Outline
import Derived.Test.YtmkicfjcgbfaaaaGreatRows
import Derived.ProofKit
import Derived.SizedLaws
import Derived.OpenShut
import Derived.Lib.SmallJoins
import Derived.Deep.Slices
namespace Go.Proofs.YtmkicfjcgbfaaaaGreat
open Go.RowKit

theorem block_of_add (a : Addr) (n : Nat) : (a.add n).block = a.block := by unfold Addr.add; split <;> rfl
theorem add_of_add (a : Addr) (i j : Nat) : (a.add i).add j = a.add (i + j) := by
  unfold Addr.add
  by_cases hi : i = 0 <;> by_cases hj : j = 0 <;> simp [hi, hj, Nat.add_assoc]

def Reads (w : World) (B size : Nat) (A : Option Addr) (n : Nat) (xs : List Value) : Prop :=
  xs.length = n * size ∧ (0 < n → ∃ ad, A = some ad ∧ ad.block < B ∧ ∀ j u, xs[j]? = some u → w.cell? (ad.add j) = some u)

section
variable {w w' : World} {B B' size n : Nat} {A : Option Addr} {xs : List Value}
theorem Reads.none_ : Reads w B size A 0 [] := ⟨by simp, fun h => absurd h (by omega)⟩
theorem Reads.at_ {k : Nat} (h : Reads w B 1 A n xs) (hk : k < n) : ∃ ad u, A = some ad ∧ ad.block < B ∧ xs[k]? = some u ∧ w.cell? (ad.add k) = some u := by
  obtain ⟨ad, e, hb, hc⟩ := h.2 (by omega)
  have hl : k < xs.length := by have := h.1; omega
  exact ⟨ad, xs[k], e, hb, List.getElem?_eq_getElem hl, hc k _ (List.getElem?_eq_getElem hl)⟩
theorem Reads.keep (h : Reads w B size A n xs) (hk : ∀ p : Addr, p.block < B → w'.cell? p = w.cell? p) : Reads w' B size A n xs :=
  ⟨h.1, fun hn => by
    obtain ⟨ad, e, hb, hc⟩ := h.2 hn
    exact ⟨ad, e, hb, fun j u hu => (hk _ (by rw [block_of_add]; exact hb)).trans (hc j u hu)⟩⟩
theorem Reads.more (h : Reads w B size A n xs) (hB : B ≤ B') : Reads w B' size A n xs :=
  ⟨h.1, fun hn => by
    obtain ⟨ad, e, hb, hc⟩ := h.2 hn
    exact ⟨ad, e, by omega, hc⟩⟩
theorem Reads.below (h : Reads w B size A n xs) (hb : Below B w w') : Reads w' B size A n xs := h.keep fun _ hp => hb.cell hp
theorem Reads.drew (h : Reads w B size A n xs) : Reads w.drew B size A n xs := h
theorem Reads.drewN (h : Reads w B size A n xs) (k : Nat) : Reads (w.drewN k) B size A n xs := h
theorem Reads.alloc (h : Reads w B size A n xs) (hB : B ≤ w.heap.size) (o : Obj) : Reads (w.alloc o) B size A n xs := h.keep fun p hp => World.cell?_alloc_lt w o p (by omega)
theorem Reads.setCell (h : Reads w B size A n xs) {p : Addr} (hB : B ≤ p.block) (u : Value) : Reads (w.setCell p u) B size A n xs :=
  h.keep fun q hq => World.cell?_setCell_other w p q u (fun e => by subst e; omega)
theorem Reads.grown (h : Reads w B size A n xs) {row : Option Nat} (hg : w.grownBy w' row) (hB : B ≤ w.heap.size) (hr : ∀ g, row = some g → B ≤ g) : Reads w' B size A n xs :=
  h.keep fun p hp => World.cell?_of_block (hg.block p.block (by omega) (fun e => by have := hr _ e.symm; omega))
theorem Reads.cut (h : Reads w B size A n xs) {k cap : Nat} (hk : k ≤ n) (hc : n ≤ cap) :
    Reads w B size (if cap = k then A else A.map (·.add (k * size))) (n - k) (xs.drop (k * size)) := by
  refine ⟨by rw [List.length_drop, h.1, Nat.sub_mul], fun hn => ?_⟩
  obtain ⟨ad, rfl, hb, hcell⟩ := h.2 (by omega)
  rw [if_neg (by omega)]
  refine ⟨ad.add (k * size), rfl, by rw [block_of_add]; exact hb, fun j u hu => ?_⟩
  rw [add_of_add]
  exact hcell _ u (by rw [← hu, List.getElem?_drop])
theorem Reads.of_own {base : Nat} {e : TypeId} {c : Nat} (h : w.ownsRow base e size (.slice A n c) n xs) : Reads w w.heap.size size A n xs := by
  refine ⟨h.1, fun hn => ?_⟩
  obtain ⟨g, cap, hv, _, hlt⟩ := h.form hn
  have hA : A = some ⟨g, 0, none⟩ := by injection hv
  subst hA
  exact ⟨_, rfl, hlt, h.cells (g := g) rfl⟩
end

def Blk (w : World) (g : Nat) (t : TypeId) (cs : Array Value) : Prop := w.heap[g]? = some (.cells cs t (0, 0))

section
variable {w w' : World} {g : Nat} {t : TypeId} {cs : Array Value}
theorem Blk.lt (h : Blk w g t cs) : g < w.heap.size := by
  rcases Nat.lt_or_ge g w.heap.size with hlt | hge
  · exact hlt
  · unfold Blk at h; rw [Array.getElem?_eq_none hge] at h; cases h
theorem Blk.cell (h : Blk w g t cs) (i : Nat) : w.cell? ⟨g, i, none⟩ = cs[i]? := cell_of_row w g i cs t (0, 0) h
theorem Blk.frozen (h : Blk w g t cs) (i : Nat) : w.frozen? ⟨g, i, none⟩ = false := by
  unfold Blk at h
  simp [World.frozen?, h]
theorem Blk.new (w : World) (t : TypeId) (cs : Array Value) : Blk (w.alloc (.cells cs t)) w.heap.size t cs := heap_alloc_new w _
theorem Blk.drew (h : Blk w g t cs) : Blk w.drew g t cs := h
theorem Blk.drewN (h : Blk w g t cs) (n : Nat) : Blk (w.drewN n) g t cs := h
theorem Blk.alloc (h : Blk w g t cs) (o : Obj) : Blk (w.alloc o) g t cs := (Below.heap_alloc w o g h.lt).trans h
theorem Blk.set_ (h : Blk w g t cs) (i : Nat) (u : Value) : Blk (w.setCell ⟨g, i, none⟩ u) g t (cs.setIfInBounds i u) := by
  unfold Blk at h ⊢
  simp [World.setCell, Array.getElem?_modify, h]
theorem Blk.far (h : Blk w g t cs) {p : Addr} (hp : g ≠ p.block) (u : Value) : Blk (w.setCell p u) g t cs := (Below.heap_setCell w p u g hp).trans h
theorem Blk.below {B : Nat} (h : Blk w g t cs) (hb : Below B w w') (hg : g < B) : Blk w' g t cs := (hb.block g hg).trans h
theorem Blk.grown {row : Option Nat} (h : Blk w g t cs) (hb : w.grownBy w' row) (hg : some g ≠ row) : Blk w' g t cs := (hb.block g h.lt hg).trans h
theorem Blk.ne_ {g' : Nat} {t' : TypeId} {cs' : Array Value} (h : Blk w g t cs) (h' : Blk w g' t' cs') (hne : t ≠ t') : g ≠ g' := by
  rintro rfl
  unfold Blk at h h'
  rw [h] at h'
  injection h' with h'
  injection h' with _ ht
  exact hne ht
theorem own_blk_ne {base : Nat} {e : TypeId} {size n : Nat} {v : Value} {xs : List Value} (h : w.ownsRow base e size v n xs) (hg : Blk w g t cs) (hne : e ≠ t) : v.ownBlock ≠ some g := by
  rcases h.2 with ⟨rfl, _⟩ | ⟨g', cap, cur, rfl, _, hh, _⟩
  · simp [Value.ownBlock]
  · intro he
    have : g' = g := by simpa [Value.ownBlock] using he
    subst this
    exact Blk.ne_ (t := e) hh hg hne rfl
end

section
variable {P : Program} (w : World)

theorem run_append_of_nil (base : Nat) (t ty e : TypeId) (i : TypeInfo) (size : Nat) (ht : P.underlying t = some (.slice e)) (hi : P.info? e = some i)
    (v : Value) (n : Nat) (xs : List Value) (hown : w.ownsRow base e size v n xs) (c : Nat) : (Builtin.append_ #[t, t] ty #[v, .slice none 0 c]).run P w = .ok v w := by
  rcases hown.2 with ⟨rfl, rfl⟩ | ⟨g, cap, cur, rfl, _, _, hnc, _⟩
  · simp [Builtin.append_, run_underlying ht, sizeOf, typeInfo, hi, Builtin.lenOf, Builtin.firstCells]
  · simp [Builtin.append_, run_underlying ht, sizeOf, typeInfo, hi, Builtin.lenOf, Builtin.firstCells, hnc, storeCells]

theorem run_append_any (base : Nat) (t ty e : TypeId) (i : TypeInfo) (z : Value) (size bytes : Nat) (ht : P.underlying t = some (.slice e)) (hi : P.info? e = some i) (hz : i.zero = some z)
    (hsize : i.size = size) (hby : i.bytes = bytes) (hzs : z.cells.size = size) (hsz : 0 < size)
    (v : Value) (n : Nat) (xs : List Value) (hown : w.ownsRow base e size v n xs)
    (B : Nat) (A : Option Addr) (m c : Nat) (news : List Value) (hr : Reads w B size A m news) (h1 : ∀ u ∈ news, u.oneCell' = true)
    (h63 : n + m ≤ maxLen) (hbytes : (n + m) * bytes ≤ 140737488355328) (hbase : base ≤ w.heap.size) :
    ∃ v' w', (Builtin.append_ #[t, t] ty #[v, .slice A m c]).run P w = .ok v' w' ∧ w'.ownsRow base e size v' (n + m) (xs ++ news) ∧ w.grownBy w' v.ownBlock ∧
      (v'.ownBlock = v.ownBlock ∨ v'.ownBlock = some w.heap.size) := by
  rcases A with _ | ad
  · have hm : m = 0 := by
      rcases Nat.eq_zero_or_pos m with h0 | h0
      · exact h0
      · obtain ⟨ad, h, _⟩ := hr.2 h0
        cases h
    subst hm
    have hn : news = [] := List.eq_nil_of_length_eq_zero (by simpa using hr.1)
    subst hn
    exact ⟨v, w, run_append_of_nil w base t ty e i size ht hi v n xs hown c, by simpa using hown, World.grownBy.refl w _, .inl rfl⟩
  · have hcells : ∀ j u, news[j]? = some u → w.cell? (ad.add j) = some u := by
      intro j u hu
      rcases Nat.eq_zero_or_pos m with h0 | h0
      · subst h0
        have hn : news = [] := List.eq_nil_of_length_eq_zero (by simpa using hr.1)
        subst hn
        simp at hu
      · obtain ⟨ad', h, _, hc⟩ := hr.2 h0
        injection h with h
        subst h
        exact hc j u hu
    obtain ⟨v', w', hrun, h2, h3, _, h5⟩ := run_append_own_at (P := P) w base t ty e i z size bytes ht hi hz hsize hby hzs hsz v n xs hown ad m c news hr.1 hcells h1 h63 hbytes hbase
    exact ⟨v', w', hrun, h2, h3, h5⟩

theorem wp_append_any {o : Oper} {a : Act} {K : Act → World → Prop} {Q : Exit → Act → World → Prop} (s x : Operand) (t : TypeId)
    (ho : o.op = .call { callee := .builtin .append, args := #[s, x], argTypes := #[t, t] })
    (base : Nat) (e : TypeId) (i : TypeInfo) (z : Value) (size bytes : Nat) (ht : P.underlying t = some (.slice e)) (hi : P.info? e = some i) (hz : i.zero = some z)
    (hsize : i.size = size) (hby : i.bytes = bytes) (hzs : z.cells.size = size) (hsz : 0 < size)
    (v : Value) (n : Nat) (xs : List Value) (hs : a.eval s = v) (hown : w.ownsRow base e size v n xs)
    (B : Nat) (A : Option Addr) (m c : Nat) (news : List Value) (hx : a.eval x = .slice A m c) (hr : Reads w B size A m news) (h1 : ∀ u ∈ news, u.oneCell' = true)
    (h63 : n + m ≤ maxLen) (hbytes : (n + m) * bytes ≤ 140737488355328) (hbase : base ≤ w.heap.size)
    (h : ∀ v' w', w'.ownsRow base e size v' (n + m) (xs ++ news) → w.grownBy w' v.ownBlock → (v'.ownBlock = v.ownBlock ∨ v'.ownBlock = some w.heap.size) → K (a.put o.dst v') w') : o.wp P a w K Q := by
  obtain ⟨v', w', hrun, h2, h3, h4⟩ := run_append_any (P := P) w base t o.type e i z size bytes ht hi hz hsize hby hzs hsz v n xs hown B A m c news hr h1 h63 hbytes hbase
  unfold Oper.wp execOp
  simp only [ho, resolve, invoke, builtin, Sem.run_bind, Sem.run_pure, Result.andThen_ok, List.map_toArray, List.map_cons, List.map_nil, hs, hx, hrun]
  exact h v' w' h2 h3 h4

theorem wpList_append_any {ops : Array Oper} {rest : List Oper} {o : Oper} {a : Act} {Q : Exit → Act → World → Prop} (hgd : o.guard = none) (s x : Operand) (t : TypeId)
    (ho : o.op = .call { callee := .builtin .append, args := #[s, x], argTypes := #[t, t] })
    (base : Nat) (e : TypeId) (i : TypeInfo) (z : Value) (size bytes : Nat) (ht : P.underlying t = some (.slice e)) (hi : P.info? e = some i) (hz : i.zero = some z)
    (hsize : i.size = size) (hby : i.bytes = bytes) (hzs : z.cells.size = size) (hsz : 0 < size)
    (v : Value) (n : Nat) (xs : List Value) (hs : a.eval s = v) (hown : w.ownsRow base e size v n xs)
    (B : Nat) (A : Option Addr) (m c : Nat) (news : List Value) (hx : a.eval x = .slice A m c) (hr : Reads w B size A m news) (h1 : ∀ u ∈ news, u.oneCell' = true)
    (h63 : n + m ≤ maxLen) (hbytes : (n + m) * bytes ≤ 140737488355328) (hbase : base ≤ w.heap.size)
    (h : ∀ v' w', w'.ownsRow base e size v' (n + m) (xs ++ news) → w.grownBy w' v.ownBlock → (v'.ownBlock = v.ownBlock ∨ v'.ownBlock = some w.heap.size) → wpList P ops Q rest (a.put o.dst v') w') : wpList P ops Q (o :: rest) a w :=
  wpList_plain hgd fun _ hK => wp_append_any w s x t ho base e i z size bytes ht hi hz hsize hby hzs hsz v n xs hs hown B A m c news hx hr h1 h63 hbytes hbase fun v' w' h2 h3 h4 => hK _ _ (h v' w' h2 h3 h4)

theorem step_append_any {ops : Array Oper} {o : Oper} {a : Act} {K : Act → World → Prop} {Q : Exit → Act → World → Prop} {E : Prop} (hgd : o.guard = none) (s x : Operand) (t : TypeId)
    (ho : o.op = .call { callee := .builtin .append, args := #[s, x], argTypes := #[t, t] })
    (base : Nat) (e : TypeId) (i : TypeInfo) (z : Value) (size bytes : Nat) (ht : P.underlying t = some (.slice e)) (hi : P.info? e = some i) (hz : i.zero = some z)
    (hsize : i.size = size) (hby : i.bytes = bytes) (hzs : z.cells.size = size) (hsz : 0 < size)
    (v : Value) (n : Nat) (xs : List Value) (hs : a.eval s = v) (hown : w.ownsRow base e size v n xs)
    (B : Nat) (A : Option Addr) (m c : Nat) (news : List Value) (hx : a.eval x = .slice A m c) (hr : Reads w B size A m news) (h1 : ∀ u ∈ news, u.oneCell' = true)
    (h63 : n + m ≤ maxLen) (hbytes : (n + m) * bytes ≤ 140737488355328) (hbase : base ≤ w.heap.size)
    (h : ∀ v' w', w'.ownsRow base e size v' (n + m) (xs ++ news) → w.grownBy w' v.ownBlock → (v'.ownBlock = v.ownBlock ∨ v'.ownBlock = some w.heap.size) → K (a.put o.dst v') w') :
    if Region.wanted o (yielded ops a.tmps) = true then Oper.wp P o a w K Q else E := by
  have hw : Region.wanted o (yielded ops a.tmps) = true := by simp [Region.wanted, hgd]
  rw [if_pos hw]
  exact wp_append_any w s x t ho base e i z size bytes ht hi hz hsize hby hzs hsz v n xs hs hown B A m c news hx hr h1 h63 hbytes hbase h
end


theorem own_below {w w' : World} {base : Nat} {e : TypeId} {size n : Nat} {v : Value} {xs : List Value} (h : w.ownsRow base e size v n xs) (hb : Below w.heap.size w w') : w'.ownsRow base e size v n xs := by
  obtain ⟨h1, h2⟩ := h
  refine ⟨h1, ?_⟩
  rcases h2 with h2 | ⟨g, cap, cur, hv, hg, hh, r⟩
  · exact .inl h2
  · refine .inr ⟨g, cap, cur, hv, hg, ?_, r⟩
    rw [hb.block g (by rcases Nat.lt_or_ge g w.heap.size with h | h; exact h; rw [Array.getElem?_eq_none h] at hh; cases hh)]
    exact hh

theorem bdrew {B : Nat} {a w : World} (h : Below B a w) (n : Nat) : Below B a (w.drewN n) := h.trans ⟨rfl, rfl, rfl, Nat.le_refl _, fun _ _ => rfl⟩

/-- a row of the call's own, as a slice that reads as a list -/
theorem own_reads {w : World} {base : Nat} {e : TypeId} {size n : Nat} {v : Value} {xs : List Value} (h : w.ownsRow base e size v n xs) : ∃ A c, v = .slice A n c ∧ Reads w w.heap.size size A n xs := by
  obtain ⟨h1, h2⟩ := h
  rcases h2 with ⟨rfl, rfl⟩ | ⟨g, cap, cur, rfl, hg, hh, r⟩
  · exact ⟨none, 0, rfl, h1, fun hn => absurd hn (by omega)⟩
  · exact ⟨_, _, rfl, Reads.of_own (c := cap) ⟨h1, .inr ⟨g, cap, cur, rfl, hg, hh, r⟩⟩⟩

theorem Reads.plain {w : World} {B size n : Nat} {A : Option Addr} {xs : List Value} (h : Reads w B size A n xs) (hn : 0 < n) (hs : 0 < size) :
    ∃ b off, A = some ⟨b, off, none⟩ ∧ b < B ∧ ∀ j u, xs[j]? = some u → w.cell? ⟨b, off + j, none⟩ = some u := by
  obtain ⟨⟨b, off, spot⟩, rfl, hb, hc⟩ := h.2 hn
  have hl : 0 < xs.length := by rw [h.1]; exact Nat.mul_pos hn hs
  have h0 := hc 0 xs[0] (List.getElem?_eq_getElem hl)
  have hspot : spot = none := by simpa [Addr.add] using World.cell?_spot h0
  subst hspot
  refine ⟨b, off, rfl, hb, fun j u hu => ?_⟩
  have := hc j u hu
  unfold Addr.add at this
  split at this
  · rename_i e; subst e; simpa using this
  · simpa using this

theorem results_one_cell {fn : Func} {p : Tmp} {ty : TypeId} (h : fn.results = #[.cell p ty]) (tmps : Array Value) (P : Program) (w : World) :
    (results fn tmps).run P w = ((asAddr (tmps.getD p undef)).run P w).andThen fun a w₁ => (loadVar ty a).run P w₁ := by
  simp only [results, h]
  simp [Sem.run_bind, Result.andThen]

end Go.Proofs.YtmkicfjcgbfaaaaGreat
namespace Go.Proofs.YtmkicfjcgbfaaaaGreat
open Go.ChangeShapes Go.WideShapes Go.ChangeAt Go.RowKit

theorem Tryz.own : ownKnob Tryz.prog.godebug = none := by kernel_rfl
theorem Tryz.laidOut : laidOutB Tryz.prog = true := by kernel_rfl

/-- what a reading weighs is within the form's reach -/
def Fits {H : Type} (P : Program) (t : TypeId) (d : DataW H) : Prop := ∀ n ∈ d.weights P t, n ≤ reachBytes

section
variable {H : Type} {P : Program} {ts : List TypeId} {ds : List (DataW H)}
theorem fits_at (h : (DataW.weightsEach P ts ds).all (· ≤ reachBytes) = true) {j : Nat} {t : TypeId} {d : DataW H} (ht : ts[j]? = some t) (hd : ds[j]? = some d) : Fits P t d := fun n hn => by
  simpa using List.all_eq_true.1 h n (DataW.weights_mem_each ht hd n hn)

theorem Fits.part {t : TypeId} {fs : Array Field} {parts : List (DataW H)} (h : Fits P t (.agg parts)) (hu : P.underlying t = some (.struct fs)) {j : Nat} {f : Field} {d : DataW H} (hf : fs[j]? = some f) (hd : parts[j]? = some d) : Fits P f.type d := fun n hn =>
  h n (by
    simp only [DataW.weights, hu]
    exact DataW.weights_mem_each (by rw [List.getElem?_map, Array.getElem?_toList, hf]; rfl) hd n hn)

theorem weights_mem_all {e : TypeId} : ∀ {ds : List (DataW H)} {d : DataW H}, d ∈ ds → ∀ n ∈ d.weights P e, n ∈ DataW.weightsAll P e ds
  | d0 :: ds, d, hd, n, hn => by
    simp only [DataW.weightsAll, List.mem_append]
    rcases List.mem_cons.1 hd with rfl | hd
    · exact .inl hn
    · exact .inr (weights_mem_all hd n hn)

theorem Fits.elem {t e : TypeId} {elems spare : List (DataW H)} (h : Fits P t (.slice elems spare)) (hu : P.underlying t = some (.slice e)) {d : DataW H} (hd : d ∈ elems) : Fits P e d := fun n hn =>
  h n (by
    simp only [DataW.weights, hu]
    exact List.mem_cons_of_mem _ (List.mem_append_left _ (weights_mem_all hd n hn)))

theorem Fits.slice {t e : TypeId} {elems spare : List (DataW H)} (h : Fits P t (.slice elems spare)) (hu : P.underlying t = some (.slice e)) : (elems.length + spare.length) * P.bytesOf e ≤ 140737488351232 := by
  have := h ((elems.length + spare.length) * P.bytesOf e) (by simp only [DataW.weights, hu]; exact List.mem_cons_self ..)
  simpa [reachBytes] using this

theorem Fits.string {t : TypeId} {s : ByteArray} (h : Fits (H := H) P t (.lit (.string s.data.toList))) : s.size ≤ 140737488351232 := by
  have := h s.data.toList.length (by simp [DataW.weights])
  simpa [reachBytes] using this
end

theorem i64_bounds {n : Int} (h : (Lit.int .i64 n).wf = true) : -9223372036854775808 ≤ n ∧ n ≤ 9223372036854775807 := by
  have h1 : IntKind.i64.min = -9223372036854775808 := rfl
  have h2 : IntKind.i64.max = 9223372036854775807 := rfl
  simpa [Lit.wf, h1, h2] using h

/-- a slice of ints that came in -/
theorem reads_ints {H : Type} {enc : TypeId × Value → H} {P : Program} {W : World} {r : Reach} {b0 : Nat} {t e : TypeId} {v : Value} {d : DataW H} {p : List MemPlace} (ht : P.underlying t = some (.slice e)) (he : P.underlying e = some (.int .i64))
    (hc : P.cellsOf e = 1) (hby : P.bytesOf e = 8) (hv : Value.okWide P W r b0 t v) (h : DataW.Trod enc P W 0 (fun _ => true) true t v d p) (hp : ∀ x ∈ p, x.block < W.heap.size) (hfit : Fits P t d) :
    ∃ A len cap, ∃ zs : List Int, v = .slice A len cap ∧ Reads W W.heap.size 1 A len (zs.map (.int .i64)) ∧ len * 8 ≤ 140737488351232 ∧ ∀ z ∈ zs, (Lit.int .i64 z).wf = true := by
  obtain ⟨a0, len, cap, rfl⟩ := okWide_slice ht hv
  obtain ⟨fuel, hf⟩ := h
  rcases open_ints ht he hc hf with ⟨hcs, hx⟩ | ⟨a, len', cap', zs, hcs, _, hl, hm, hz, hx, hcell, hwz⟩
  · simp [Value.cells] at hcs
    obtain ⟨rfl, rfl, rfl⟩ := hcs
    exact ⟨none, 0, 0, [], rfl, Reads.none_, by omega, by simp⟩
  · simp [Value.cells] at hcs
    obtain ⟨rfl, rfl, rfl⟩ := hcs
    simp only [Prod.mk.injEq] at hx
    obtain ⟨rfl, rfl⟩ := hx
    simp only [if_true] at hz
    have hs := hfit.slice ht
    rw [hby] at hs
    simp only [lits, List.length_map, List.length_take, List.length_drop] at hs
    refine ⟨some a, len, cap, zs.take len, rfl, ⟨by simp; omega, fun hn => ⟨a, rfl, ?_, ?_⟩⟩, by omega, fun z hz => hwz z (List.mem_of_mem_take hz)⟩
    · exact hp (.cell a.block a.off) (by simp only [MemPlace.mem_row]; exact ⟨0, by omega, by simp⟩)
    · intro j u hu
      rw [List.getElem?_map] at hu
      have hj : j < len := by
        rcases Nat.lt_or_ge j len with h | h
        · exact h
        · rw [List.getElem?_eq_none (by simp; omega)] at hu; cases hu
      rw [List.getElem?_take_of_lt hj] at hu
      have := hcell j (by omega)
      rw [List.getD_eq_getElem?_getD] at this
      rw [List.getElem?_eq_getElem (by omega)] at this hu
      simp at hu this
      rw [this, hu]

/-- what came in reads behind the call as before it -/
theorem trodAll_below {H : Type} {enc : TypeId × Value → H} {P : Program} (hl : laidOutB P = true) {W W' : World} (hb : Below W.heap.size W W') : ∀ {ts : List TypeId} {vs : List Value} {ds : List (DataW H)} {ps : List MemPlace},
    (∀ t ∈ ts, P.readableRec t = true ∧ t < P.types.size) → DataW.TrodAll enc P W 0 (fun _ => true) true ts vs ds ps → (∀ x ∈ ps, x.block < W.heap.size) →
    DataW.TrodAll enc P W' 0 (fun b => decide (b < W.heap.size)) true ts vs ds ps
  | [], _, _, _, _, h, _ => by
    obtain ⟨rfl, rfl, rfl⟩ := trodAll_nil h
    exact trodAll_mk0
  | t :: ts, _, _, _, hr, h, hp => by
    obtain ⟨v, vs, d, ds, p, q, rfl, rfl, rfl, h0, h1⟩ := trodAll_cons h
    exact trodAll_cons_mk (Below.trod hl (hr t (by simp)).1 (hr t (by simp)).2 h0 hb (fun x hx => hp x (List.mem_append_left _ hx)))
      (trodAll_below hl hb (fun t ht => hr t (List.mem_cons_of_mem _ ht)) h1 (fun x hx => hp x (List.mem_append_right _ hx)))

/-- a law that answers true and keeps what was there meets its row's post -/
theorem law_post {H : Type} {enc : TypeId × Value → H} {P : Program} {f : Func} {s : ChangeSpec} {W W' : World} {args : Array Value} {ds : List (DataW H)} {ps : List MemPlace} {tb : TypeId}
    (hl : laidOutB P = true) (hvars : s.vars = []) (hb2 : P.underlying tb = some .bool) (hres : f.resultTypes = #[tb]) (hr : ∀ t ∈ f.params.toList, P.readableRec t = true ∧ t < P.types.size)
    (hfn : s.fn H (ds ++ []) = { results := [.lit (.bool true)], args := ds })
    (hW : DataW.Whole enc P f.params.toList s.vars false W args.toList ds [] ps) (hb : Below W.heap.size W W') :
    s.post enc P f false true false false W args (.bool true) W' := by
  have hW2 := hW
  obtain ⟨p, q, hA, hV, rfl, _, _⟩ := hW2
  rw [hvars] at hV
  obtain ⟨_, hq⟩ := trodVars_none hV
  subst hq
  refine ⟨ds, [], _, [], p, [], hW, ?_, ?_, ?_, hb.frame _, fun h => by cases h⟩
  · rw [hfn, hres]
    exact trodAll_mk1 (shut_bool hb2 true)
  · rw [hfn]
    exact trodAll_below hl hb hr hA (fun x hx => by simpa using hW.lt x (by simpa using hx))
  · rw [hvars, hfn]
    exact rfl

end Go.Proofs.YtmkicfjcgbfaaaaGreat
namespace Go.Proofs.YtmkicfjcgbfaaaaGreat
open Go.RowKit

/-- a value of a property -/
inductive Vl where
  | mk (kind int_ to_ : Int) (text : ByteArray) (items : List Vl)
def Vl.kind : Vl → Int | .mk k _ _ _ _ => k
def Vl.int_ : Vl → Int | .mk _ i _ _ _ => i
def Vl.to_ : Vl → Int | .mk _ _ t _ _ => t
def Vl.text : Vl → ByteArray | .mk _ _ _ s _ => s
def Vl.items : Vl → List Vl | .mk _ _ _ _ l => l
structure Pr where
  name : ByteArray
  val : Vl
structure Bl where
  id : Int
  parent : Int
  kids : List Int
  text : ByteArray
  props : List Pr
/-- five cells: a value, its items told apart -/
def vlV (x : Vl × Value) : List Value := [.int .i64 x.1.kind, .int .i64 x.1.int_, .int .i64 x.1.to_, .string x.1.text, x.2]
theorem vlV_len (x : Vl × Value) : (vlV x).length = 5 := rfl
/-- a list of values in memory, below B, at most d deep -/
def RVd (W : World) (B : Nat) : Nat → Value → List Vl → Prop
  | 0, v, l => l = [] ∧ ∃ A c, v = .slice A 0 c
  | d + 1, v, l => ∃ A n c, ∃ M : List (Vl × Value), M.map Prod.fst = l ∧ v = .slice A n c ∧ n = M.length ∧ (n ≤ c ∧ n * 64 ≤ 140737488351232) ∧ Reads W B 5 A n (M.flatMap vlV) ∧ ∀ x ∈ M, RVd W B d x.2 x.1.items
def RV (W : World) (B : Nat) (v : Value) (l : List Vl) : Prop := ∃ d, RVd W B d v l
/-- six cells: a property -/
def prV (x : Pr × Value) : List Value := .string x.1.name :: vlV (x.1.val, x.2)
theorem prV_len (x : Pr × Value) : (prV x).length = 6 := rfl
def RPr (W : World) (B : Nat) (v : Value) (l : List Pr) : Prop := ∃ A n c, ∃ M : List (Pr × Value), M.map Prod.fst = l ∧ v = .slice A n c ∧ n = M.length ∧ (n ≤ c ∧ n * 80 ≤ 140737488351232) ∧ Reads W B 6 A n (M.flatMap prV) ∧ ∀ x ∈ M, RV W B x.2 x.1.val.items
/-- a number that an int holds -/
def I64 (x : Int) : Prop := -9223372036854775808 ≤ x ∧ x ≤ 9223372036854775807
def RIn (W : World) (B : Nat) (v : Value) (l : List Int) : Prop := ∃ A n c, v = .slice A n c ∧ n = l.length ∧ (n ≤ c ∧ n * 8 ≤ 140737488351232) ∧ Reads W B 1 A n (l.map (.int .i64)) ∧ ∀ x ∈ l, I64 x
/-- five cells: a block, its kids and properties told apart -/
def blV (x : Bl × Value × Value) : List Value := [.int .i64 x.1.id, .int .i64 x.1.parent, x.2.1, .string x.1.text, x.2.2]
theorem blV_len (x : Bl × Value × Value) : (blV x).length = 5 := rfl
def RB (W : World) (B : Nat) (v : Value) (l : List Bl) : Prop := ∃ A n c, ∃ M : List (Bl × Value × Value), M.map Prod.fst = l ∧ v = .slice A n c ∧ n = M.length ∧ (n ≤ c ∧ n * 80 ≤ 140737488351232) ∧ Reads W B 5 A n (M.flatMap blV) ∧ ∀ x ∈ M, RIn W B x.2.1 x.1.kids ∧ RPr W B x.2.2 x.1.props
section
variable {W W' : World} {B B' : Nat} {v : Value}
theorem RVd.below (hb : Below B W W') : ∀ {d : Nat} {v : Value} {l : List Vl}, RVd W B d v l → RVd W' B d v l
  | 0, _, _, h => h
  | _ + 1, _, _, ⟨A, n, c, M, h1, h2, h3, h4, h5, h6⟩ => ⟨A, n, c, M, h1, h2, h3, h4, h5.below hb, fun x hx => RVd.below hb (h6 x hx)⟩
theorem RVd.more (hB : B ≤ B') : ∀ {d : Nat} {v : Value} {l : List Vl}, RVd W B d v l → RVd W B' d v l
  | 0, _, _, h => h
  | _ + 1, _, _, ⟨A, n, c, M, h1, h2, h3, h4, h5, h6⟩ => ⟨A, n, c, M, h1, h2, h3, h4, h5.more hB, fun x hx => RVd.more hB (h6 x hx)⟩
theorem RVd.deeper : ∀ {d : Nat} {v : Value} {l : List Vl}, RVd W B d v l → RVd W B (d + 1) v l
  | 0, _, _, ⟨h1, A, c, h2⟩ => ⟨A, 0, c, [], by rw [h1]; rfl, h2, rfl, ⟨Nat.zero_le _, by omega⟩, ⟨rfl, fun h => absurd h (by omega)⟩, fun x hx => by cases hx⟩
  | d + 1, _, _, ⟨A, n, c, M, h1, h2, h3, h4, h5, h6⟩ => ⟨A, n, c, M, h1, h2, h3, h4, h5, fun x hx => RVd.deeper (h6 x hx)⟩
theorem RV.below {l : List Vl} (h : RV W B v l) (hb : Below B W W') : RV W' B v l := h.imp fun _ h => h.below hb
theorem RV.more {l : List Vl} (h : RV W B v l) (hB : B ≤ B') : RV W B' v l := h.imp fun _ h => h.more hB
/-- a list of values opened one step -/
theorem RV.open_ {l : List Vl} (h : RV W B v l) : ∃ A n c, ∃ M : List (Vl × Value), M.map Prod.fst = l ∧ v = .slice A n c ∧ n = M.length ∧ (n ≤ c ∧ n * 64 ≤ 140737488351232) ∧ Reads W B 5 A n (M.flatMap vlV) ∧ ∀ x ∈ M, RV W B x.2 x.1.items := by
  obtain ⟨d, h⟩ := h
  obtain ⟨A, n, c, M, h1, h2, h3, h4, h5, h6⟩ := h.deeper
  exact ⟨A, n, c, M, h1, h2, h3, h4, h5, fun x hx => ⟨d, h6 x hx⟩⟩
theorem RPr.below {l : List Pr} (h : RPr W B v l) (hb : Below B W W') : RPr W' B v l := by
  obtain ⟨A, n, c, M, h1, h2, h3, h4, h5, h6⟩ := h
  exact ⟨A, n, c, M, h1, h2, h3, h4, h5.below hb, fun x hx => (h6 x hx).below hb⟩
theorem RPr.more {l : List Pr} (h : RPr W B v l) (hB : B ≤ B') : RPr W B' v l := by
  obtain ⟨A, n, c, M, h1, h2, h3, h4, h5, h6⟩ := h
  exact ⟨A, n, c, M, h1, h2, h3, h4, h5.more hB, fun x hx => (h6 x hx).more hB⟩
theorem RIn.below {l : List Int} (h : RIn W B v l) (hb : Below B W W') : RIn W' B v l := by
  obtain ⟨A, n, c, h1, h2, h3, h4, h5⟩ := h
  exact ⟨A, n, c, h1, h2, h3, h4.below hb, h5⟩
theorem RIn.more {l : List Int} (h : RIn W B v l) (hB : B ≤ B') : RIn W B' v l := by
  obtain ⟨A, n, c, h1, h2, h3, h4, h5⟩ := h
  exact ⟨A, n, c, h1, h2, h3, h4.more hB, h5⟩
theorem RB.below {l : List Bl} (h : RB W B v l) (hb : Below B W W') : RB W' B v l := by
  obtain ⟨A, n, c, M, h1, h2, h3, h4, h5, h6⟩ := h
  exact ⟨A, n, c, M, h1, h2, h3, h4, h5.below hb, fun x hx => ⟨(h6 x hx).1.below hb, (h6 x hx).2.below hb⟩⟩
theorem RB.more {l : List Bl} (h : RB W B v l) (hB : B ≤ B') : RB W B' v l := by
  obtain ⟨A, n, c, M, h1, h2, h3, h4, h5, h6⟩ := h
  exact ⟨A, n, c, M, h1, h2, h3, h4, h5.more hB, fun x hx => ⟨(h6 x hx).1.more hB, (h6 x hx).2.more hB⟩⟩
end

theorem RVd.up {W : World} {B d d' : Nat} {v : Value} {l : List Vl} (h : RVd W B d v l) (hd : d ≤ d') : RVd W B d' v l := by
  induction hd with
  | refl => exact h
  | step _ ih => exact ih.deeper

/-! ### a list row by row -/
theorem fm_get {α : Type} (enc : α → List Value) (c : Nat) (h : ∀ x, (enc x).length = c) : ∀ (M : List α) (k i : Nat) (x : α), M[k]? = some x → i < c → (M.flatMap enc)[k * c + i]? = (enc x)[i]?
  | [], k, i, x, hk, hi => by simp at hk
  | a :: M, 0, i, x, hk, hi => by
    obtain rfl : a = x := by simpa using hk
    rw [List.flatMap_cons, Nat.zero_mul, Nat.zero_add, List.getElem?_append_left (by rw [h]; exact hi)]
  | a :: M, k + 1, i, x, hk, hi => by
    have := fm_get enc c h M k i x (by simpa using hk) hi
    rw [List.flatMap_cons, List.getElem?_append_right (by rw [h, Nat.succ_mul]; omega), h, ← this]
    congr 1; rw [Nat.succ_mul]; omega
theorem Reads.plain_at {α : Type} {enc : α → List Value} {c : Nat} (hc0 : 0 < c) (henc : ∀ x, (enc x).length = c) {w : World} {B n : Nat} {A : Option Addr} {M : List α} (h : Reads w B c A n (M.flatMap enc)) (hn : n = M.length) {k : Nat} {x : α} (hk : M[k]? = some x) :
    ∃ b off, A = some ⟨b, off, none⟩ ∧ b < B ∧ ∀ i u, (enc x)[i]? = some u → w.cell? ⟨b, off + k * c + i, none⟩ = some u := by
  have hkl : k < M.length := (List.getElem?_eq_some_iff.1 hk).1
  obtain ⟨b, off, e, hb, hcell⟩ := h.plain (by omega) hc0
  refine ⟨b, off, e, hb, fun i u hu => ?_⟩
  rw [Nat.add_assoc]
  refine hcell _ _ ?_
  rw [fm_get enc c henc M k i x hk (by rw [← henc x]; exact (List.getElem?_eq_some_iff.1 hu).1)]
  exact hu
theorem RIn.slice {w : World} {B : Nat} {v : Value} {l : List Int} (h : RIn w B v l) : ∃ A n c, v = .slice A n c := by
  obtain ⟨A, n, c, h1, _⟩ := h
  exact ⟨A, n, c, h1⟩
theorem RPr.slice {w : World} {B : Nat} {v : Value} {l : List Pr} (h : RPr w B v l) : ∃ A n c, v = .slice A n c := by
  obtain ⟨A, n, c, M, _, h1, _⟩ := h
  exact ⟨A, n, c, h1⟩
section
variable {w : World} {B : Nat} {A : Option Addr} {n c : Nat}
theorem RIn.len {l : List Int} (h : RIn w B (.slice A n c) l) : n = l.length ∧ n ≤ c ∧ n * 8 ≤ 140737488351232 := by
  obtain ⟨A', n', c', e, h1, h2, _⟩ := h
  injection e with e1 e2 e3
  subst e2 e3
  exact ⟨h1, h2⟩
theorem RIn.reads {l : List Int} (h : RIn w B (.slice A n c) l) : Reads w B 1 A n (l.map (.int .i64)) := by
  obtain ⟨A', n', c', e, h1, h2, h3, _⟩ := h
  injection e with e1 e2 e3
  subst e1 e2 e3
  exact h3
theorem RIn.i64 {v : Value} {l : List Int} (h : RIn w B v l) {x : Int} (hx : x ∈ l) : I64 x := by
  obtain ⟨A', n', c', e, h1, h2, h3, h4⟩ := h
  exact h4 x hx
/-- a number in a row -/
theorem RIn.at_ {l : List Int} (h : RIn w B (.slice A n c) l) {k : Nat} {x : Int} (hk : l[k]? = some x) : ∃ b off, A = some ⟨b, off, none⟩ ∧ b < B ∧ w.cell? ⟨b, off + k, none⟩ = some (.int .i64 x) := by
  have hl := h.len.1
  have hkl := (List.getElem?_eq_some_iff.1 hk).1
  obtain ⟨b, off, e, hb, hc⟩ := h.reads.plain (by omega) (by omega)
  exact ⟨b, off, e, hb, hc k _ (by rw [List.getElem?_map, hk]; rfl)⟩
theorem RB.len {l : List Bl} (h : RB w B (.slice A n c) l) : n = l.length ∧ n ≤ c ∧ n * 80 ≤ 140737488351232 := by
  obtain ⟨A', n', c', M, h1, e, h2, h3, _⟩ := h
  injection e with e1 e2 e3
  subst e2 e3
  exact ⟨by rw [h2, ← h1, List.length_map], h3⟩
/-- a block in a row -/
theorem RB.at_ {l : List Bl} (h : RB w B (.slice A n c) l) {k : Nat} {x : Bl} (hk : l[k]? = some x) : ∃ b off Ak nk ck Ap np cp, A = some ⟨b, off, none⟩ ∧ b < B ∧ w.cell? ⟨b, off + k * 5, none⟩ = some (.int .i64 x.id) ∧ w.cell? ⟨b, off + k * 5 + 1, none⟩ = some (.int .i64 x.parent) ∧ w.cell? ⟨b, off + k * 5 + 2, none⟩ = some (.slice Ak nk ck) ∧ w.cell? ⟨b, off + k * 5 + 3, none⟩ = some (.string x.text) ∧ w.cell? ⟨b, off + k * 5 + 4, none⟩ = some (.slice Ap np cp) ∧ RIn w B (.slice Ak nk ck) x.kids ∧ RPr w B (.slice Ap np cp) x.props := by
  obtain ⟨A', n', c', M, h1, e, h2, h3, h4, h5⟩ := h
  injection e with e1 e2 e3
  subst e1 e2 e3
  obtain ⟨y, hy, rfl⟩ : ∃ y, M[k]? = some y ∧ y.1 = x := by
    rw [← h1, List.getElem?_map, Option.map_eq_some_iff] at hk
    exact hk
  obtain ⟨b, off, e, hb, hc⟩ := h4.plain_at (by omega) blV_len h2 hy
  obtain ⟨k1, k2⟩ := h5 y (List.mem_of_getElem? hy)
  obtain ⟨⟨id, par, kids, txt, props⟩, kv, pv⟩ := y
  obtain ⟨Ak, nk, ck, rfl⟩ := k1.slice
  obtain ⟨Ap, np, cp, rfl⟩ := k2.slice
  exact ⟨b, off, Ak, nk, ck, Ap, np, cp, e, hb, hc 0 _ rfl, hc 1 _ rfl, hc 2 _ rfl, hc 3 _ rfl, hc 4 _ rfl, k1, k2⟩
end
end Go.Proofs.YtmkicfjcgbfaaaaGreat
namespace Go.Proofs.YtmkicfjcgbfaaaaGreat
open Go.ChangeShapes Go.WideShapes Go.RowKit

theorem fm_len {α : Type} {en : α → List Value} {c : Nat} (h : ∀ x, (en x).length = c) : ∀ M : List α, (M.flatMap en).length = M.length * c
  | [] => by simp
  | x :: M => by rw [List.flatMap_cons, List.length_append, h, fm_len h M, List.length_cons, Nat.succ_mul]; omega
theorem choose_list {α : Type} {p : Nat → α → Prop} : ∀ (n : Nat), (∀ i, i < n → ∃ a, p i a) → ∃ l : List α, l.length = n ∧ ∀ i a, l[i]? = some a → p i a
  | 0, _ => ⟨[], rfl, by simp⟩
  | n + 1, h => by
    obtain ⟨l, hl, hp⟩ := choose_list n (fun i hi => h i (by omega))
    obtain ⟨a, ha⟩ := h n (by omega)
    refine ⟨l ++ [a], by simp [hl], fun i b hb => ?_⟩
    rcases Nat.lt_or_ge i n with hi | hi
    · rw [List.getElem?_append_left (by omega)] at hb
      exact hp i b hb
    · rw [List.getElem?_append_right (by omega)] at hb
      obtain rfl : i = n := by
        rcases Nat.lt_or_ge (i - l.length) 1 with h1 | h1
        · omega
        · rw [List.getElem?_eq_none (by simpa using h1)] at hb; cases hb
      rw [hl, Nat.sub_self] at hb
      simp at hb
      subst hb
      exact ha

section
variable {H : Type} {enc : TypeId × Value → H} {P : Program} {W : World}
/-- a slice that was read, row by row -/
theorem open_list {α : Type} {en : α → List Value} {C Y : Nat} {Q : Nat → α → Prop} {t e : TypeId} {fuel : Nat} {u : Value} {y : DataW H × List MemPlace} (ht : P.underlying t = some (.slice e)) (hC : P.cellsOf e = C) (hC0 : 0 < C) (hY : P.bytesOf e = Y) (hen : ∀ x, (en x).length = C)
    (hrow : ∀ (m : Nat) (cs : List Value) (z : DataW H × List MemPlace), m < fuel → DataW.trod enc P W 0 (fun _ => true) true m e cs = some z → (∀ x ∈ z.2, x.block < W.heap.size) → Fits P e z.1 → ∃ x, en x = cs ∧ Q m x)
    (h : DataW.trod enc P W 0 (fun _ => true) true fuel t [u] = some y) (hp : ∀ x ∈ y.2, x.block < W.heap.size) (hfit : Fits P t y.1) :
    ∃ A n c, ∃ M : List α, u = .slice A n c ∧ n = M.length ∧ (n ≤ c ∧ n * Y ≤ 140737488351232) ∧ Reads W W.heap.size C A n (M.flatMap en) ∧ ∀ x ∈ M, ∃ m, m < fuel ∧ Q m x := by
  rcases DataW.trod_slice ht h with ⟨hcs, hx⟩ | ⟨a, len, cap, elems, rest, m, rfl, hcs, rfl, _, hl, hcap, hel, hi, hsp, _⟩
  · obtain rfl : u = .slice none 0 0 := by simpa using hcs
    exact ⟨none, 0, 0, [], rfl, rfl, ⟨Nat.le_refl _, by omega⟩, ⟨by simp, fun h => absurd h (by omega)⟩, fun x hx => by cases hx⟩
  · obtain rfl : u = .slice (some a) len cap := by simpa using hcs
    rw [hC] at hi
    have hs := hfit.slice ht
    simp only [List.length_map] at hs
    rw [hel, hY] at hs
    have hs : len * Y ≤ 140737488351232 := Nat.le_trans (Nat.mul_le_mul_right _ (by omega)) hs
    obtain ⟨M, h1, h2⟩ := choose_list (p := fun i x => (∀ j w, (en x)[j]? = some w → W.cell? (a.add (i * C + j)) = some w) ∧ Q m x) len fun i hil => by
      have h1 := hi i hil
      rw [List.getElem?_eq_getElem (by omega)] at h1
      obtain ⟨cs, hc, htr⟩ := Option.bind_eq_some_iff.1 h1
      obtain ⟨_, hrl, hat⟩ := World.cells?_some hc
      obtain ⟨x, hx, hq⟩ := hrow m cs _ (Nat.lt_succ_self m) htr (fun z hz => hp z (List.mem_append_right _ (List.mem_flatMap.2 ⟨_, List.mem_append_left _ (List.getElem_mem _), hz⟩)))
        (hfit.elem ht (List.mem_map.2 ⟨_, List.getElem_mem _, rfl⟩))
      refine ⟨x, fun j w hj => ?_, hq⟩
      rw [hx] at hj
      have hjl : j < C := by rw [← hrl]; exact (List.getElem?_eq_some_iff.1 hj).1
      rw [← add_of_add, hat j hjl, hj]
    refine ⟨some a, len, cap, M, rfl, h1.symm, ⟨hl, hs⟩, ⟨by rw [fm_len hen, h1], fun hn => ⟨a, rfl, ?_, fun k w hk => ?_⟩⟩, fun x hx => ?_⟩
    · exact hp (.cell a.block a.off) (List.mem_append_left _ (MemPlace.mem_row.2 ⟨0, Nat.mul_pos (by omega) (by rw [hC]; exact hC0), by simp⟩))
    · have hkl := (List.getElem?_eq_some_iff.1 hk).1
      rw [fm_len hen] at hkl
      have hkk : k / C * C + k % C = k := by rw [Nat.mul_comm]; exact Nat.div_add_mod k C
      have hd : k / C < M.length := Nat.div_lt_of_lt_mul (by rw [Nat.mul_comm]; exact hkl)
      have hm := Nat.mod_lt k hC0
      obtain ⟨x, hx⟩ : ∃ x, M[k / C]? = some x := ⟨_, List.getElem?_eq_getElem hd⟩
      have h4 := fm_get en C hen M (k / C) (k % C) x hx hm
      rw [hkk, hk] at h4
      have h5 := (h2 _ x hx).1 (k % C) w h4.symm
      rw [hkk] at h5
      exact h5
    · obtain ⟨i, hi', rfl⟩ := List.mem_iff_getElem.1 hx
      exact ⟨m, Nat.lt_succ_self m, (h2 i _ (List.getElem?_eq_getElem hi')).2⟩
end

theorem cellsV : Tryz.prog.cellsOf 29 = 5 := by kernel_rfl
theorem cellsP : Tryz.prog.cellsOf 116 = 6 := by kernel_rfl
theorem cells_of_int : Tryz.prog.cellsOf 3 = 1 := by kernel_rfl
theorem cells_of_str : Tryz.prog.cellsOf 9 = 1 := by kernel_rfl
theorem cells_of_vals : Tryz.prog.cellsOf 27 = 1 := by kernel_rfl
theorem cells_of_props : Tryz.prog.cellsOf 36 = 1 := by kernel_rfl

section
variable {H : Type} {enc : TypeId × Value → H} {W : World}
set_option maxRecDepth 100000 in
theorem val_open : ∀ (fuel : Nat) (cs : List Value) (x : DataW H × List MemPlace),
    DataW.trod enc Tryz.prog W 0 (fun _ => true) true fuel 29 cs = some x → (∀ y ∈ x.2, y.block < W.heap.size) → Fits Tryz.prog 29 x.1 → ∃ v : Vl × Value, vlV v = cs ∧ RVd W W.heap.size fuel v.2 v.1.items := by
  intro fuel
  induction fuel using Nat.strongRecOn with
  | _ fuel ih =>
    intro cs x h hp hfit
    obtain ⟨xs, n, rfl, rfl, hlen, hxl, hf⟩ := DataW.trod_struct Tryz.underlying29 h
    rw [cellsV] at hlen
    match cs, hlen with
    | [u0, u1, u2, u3, u4], _ =>
      match xs, hxl with
      | [y0, y1, y2, y3, y4], _ =>
        have g0 : DataW.trod enc Tryz.prog W 0 (fun _ => true) true n 3 (([u0, u1, u2, u3, u4].drop 0).take (Tryz.prog.cellsOf 3)) = some y0 := hf 0 _ rfl
        have g1 : DataW.trod enc Tryz.prog W 0 (fun _ => true) true n 3 (([u0, u1, u2, u3, u4].drop 1).take (Tryz.prog.cellsOf 3)) = some y1 := hf 1 _ rfl
        have g2 : DataW.trod enc Tryz.prog W 0 (fun _ => true) true n 3 (([u0, u1, u2, u3, u4].drop 2).take (Tryz.prog.cellsOf 3)) = some y2 := hf 2 _ rfl
        have g3 : DataW.trod enc Tryz.prog W 0 (fun _ => true) true n 9 (([u0, u1, u2, u3, u4].drop 3).take (Tryz.prog.cellsOf 9)) = some y3 := hf 3 _ rfl
        have g4 : DataW.trod enc Tryz.prog W 0 (fun _ => true) true n 27 (([u0, u1, u2, u3, u4].drop 4).take (Tryz.prog.cellsOf 27)) = some y4 := hf 4 _ rfl
        rw [cells_of_int] at g0 g1 g2
        rw [cells_of_str] at g3
        rw [cells_of_vals] at g4
        change DataW.trod enc Tryz.prog W 0 (fun _ => true) true n 3 [u0] = some y0 at g0
        change DataW.trod enc Tryz.prog W 0 (fun _ => true) true n 3 [u1] = some y1 at g1
        change DataW.trod enc Tryz.prog W 0 (fun _ => true) true n 3 [u2] = some y2 at g2
        change DataW.trod enc Tryz.prog W 0 (fun _ => true) true n 9 [u3] = some y3 at g3
        change DataW.trod enc Tryz.prog W 0 (fun _ => true) true n 27 [u4] = some y4 at g4
        obtain ⟨k, e0, rfl, _⟩ := DataW.trod_int Tryz.underlying3 g0
        obtain ⟨i, e1, rfl, _⟩ := DataW.trod_int Tryz.underlying3 g1
        obtain ⟨t, e2, rfl, _⟩ := DataW.trod_int Tryz.underlying3 g2
        obtain ⟨s, e3, rfl, _⟩ := DataW.trod_string Tryz.underlying9 g3
        simp at e0 e1 e2 e3
        subst e0 e1 e2 e3
        have hfit4 : Fits Tryz.prog 27 y4.1 := hfit.part Tryz.underlying29 (j := 4) rfl rfl
        have hp4 : ∀ y ∈ y4.2, y.block < W.heap.size := fun y hy => hp y (by simp [hy])
        obtain ⟨A, len, cap, M, rfl, h1, h2, h3, h4⟩ := open_list (en := vlV) (Q := fun m x => RVd W W.heap.size m x.2 x.1.items) Tryz.underlying27 cellsV (by omega) (show _ = 64 by kernel_rfl) vlV_len
          (fun m cs z hm htr hz hft => ih m (by omega) cs z htr hz hft) g4 hp4 hfit4
        exact ⟨(.mk k i t s (M.map Prod.fst), .slice A len cap), rfl, A, len, cap, M, rfl, rfl, h1, h2, h3, fun x hx => by
          obtain ⟨m, hm, hq⟩ := h4 x hx
          exact hq.up (by omega)⟩

set_option maxRecDepth 100000 in
theorem prop_open (fuel : Nat) (cs : List Value) (x : DataW H × List MemPlace)
    (h : DataW.trod enc Tryz.prog W 0 (fun _ => true) true fuel 116 cs = some x) (hp : ∀ y ∈ x.2, y.block < W.heap.size) (hfit : Fits Tryz.prog 116 x.1) : ∃ p : Pr × Value, prV p = cs ∧ RV W W.heap.size p.2 p.1.val.items := by
  obtain ⟨xs, n, rfl, rfl, hlen, hxl, hf⟩ := DataW.trod_struct Tryz.underlying116 h
  rw [cellsP] at hlen
  match cs, hlen with
  | [u0, u1, u2, u3, u4, u5], _ =>
    match xs, hxl with
    | [y0, y1], _ =>
      have g0 : DataW.trod enc Tryz.prog W 0 (fun _ => true) true n 9 (([u0, u1, u2, u3, u4, u5].drop 0).take (Tryz.prog.cellsOf 9)) = some y0 := hf 0 _ rfl
      have g1 : DataW.trod enc Tryz.prog W 0 (fun _ => true) true n 29 (([u0, u1, u2, u3, u4, u5].drop 1).take (Tryz.prog.cellsOf 29)) = some y1 := hf 1 _ rfl
      rw [cells_of_str] at g0
      rw [cellsV] at g1
      change DataW.trod enc Tryz.prog W 0 (fun _ => true) true n 9 [u0] = some y0 at g0
      change DataW.trod enc Tryz.prog W 0 (fun _ => true) true n 29 [u1, u2, u3, u4, u5] = some y1 at g1
      obtain ⟨s, e0, rfl, _⟩ := DataW.trod_string Tryz.underlying9 g0
      simp at e0
      subst e0
      obtain ⟨v, hv, hq⟩ := val_open n _ y1 g1 (fun y hy => hp y (by simp [hy])) (hfit.part Tryz.underlying116 (j := 1) rfl rfl)
      exact ⟨(⟨s, v.1⟩, v.2), by rw [prV]; exact congrArg _ hv, n, hq⟩

set_option maxRecDepth 100000 in
theorem props_open {fuel : Nat} {u : Value} {y : DataW H × List MemPlace} (h : DataW.trod enc Tryz.prog W 0 (fun _ => true) true fuel 36 [u] = some y) (hp : ∀ x ∈ y.2, x.block < W.heap.size) (hfit : Fits Tryz.prog 36 y.1) : ∃ ps, RPr W W.heap.size u ps := by
  obtain ⟨A, len, cap, M, rfl, h1, h2, h3, h4⟩ := open_list (en := prV) (Q := fun _ x => RV W W.heap.size x.2 x.1.val.items) Tryz.underlying36 cellsP (by omega) (show _ = 80 by kernel_rfl) prV_len
    (fun m cs z hm htr hz hft => prop_open m cs z htr hz hft) h hp hfit
  exact ⟨M.map Prod.fst, A, len, cap, M, rfl, rfl, h1, h2, h3, fun x hx => by
    obtain ⟨m, _, hq⟩ := h4 x hx
    exact hq⟩

set_option maxRecDepth 100000 in
/-- a list of properties that came in -/
theorem prs_open {u : Value} {d : DataW H} {p : List MemPlace} {r : Reach} {b0 : Nat} (hv : Value.okWide Tryz.prog W r b0 36 u) (h : DataW.Trod enc Tryz.prog W 0 (fun _ => true) true 36 u d p) (hp : ∀ x ∈ p, x.block < W.heap.size) (hfit : Fits Tryz.prog 36 d) :
    ∃ A n c, ∃ l, u = .slice A n c ∧ RPr W W.heap.size u l := by
  obtain ⟨a0, n0, c0, rfl⟩ := okWide_slice Tryz.underlying36 hv
  obtain ⟨fuel, hf⟩ := h
  obtain ⟨ps, hps⟩ := props_open hf hp hfit
  exact ⟨a0, n0, c0, ps, rfl, hps⟩
end
end Go.Proofs.YtmkicfjcgbfaaaaGreat
