/-
  DERIVED. Properties in a row; a property, a block as an aggregate. Conditions: none.
  A base in a row of the call's own that is turned in place: what its blocks lead to lies elsewhere. Conditions: none.
  Slices of ints: the walk of Clip, what Clone says. Conditions: sizes.
  The walks of text.edited, florref1.Edited, text.CheckEdit, florref1.EditError. Conditions: the lengths are within the form's reach.
  The walks of text.Apply and text.Inverse. Conditions: the lengths are within the form's reach.
  A base in a row of the call's own whose nested memory lies in blocks of a sort. Conditions: none.
  By an AI agent.
-/
import Derived.Test.YtmkicfjcgbfaaaaGreatTe05
import Derived.Laws.IdiomCopy
import Derived.Laws.CopyRow
import Derived.Laws.Tables
import Derived.Test.YtmkicfjcgbfaaaaGreatTe01
import Derived.Test.YtmkicfjcgbfaaaaGreatChecked
import Derived.Deep.DeepCutAuto
import Derived.Test.YtmkicfjcgbfaaaaGreatTe04
import Derived.Deep.QuietTactic
import Derived.BigQuiet
import Derived.WalkSpells
import Derived.RegionTactic
namespace Go.Proofs.YtmkicfjcgbfaaaaGreat
open Go.RowKit

/-- a property in memory, its items told apart -/
def AP (x : Pr × Value) : Value := .agg #[.string x.1.name, .int .i64 x.1.val.kind, .int .i64 x.1.val.int_, .int .i64 x.1.val.to_, .string x.1.val.text, x.2]
/-- a block in memory, its kids and properties told apart -/
def AB (x : Bl × Value × Value) : Value := .agg #[.int .i64 x.1.id, .int .i64 x.1.parent, x.2.1, .string x.1.text, x.2.2]

section
variable {w : World} {B : Nat} {A : Option Addr} {n c : Nat}
theorem RPr.len {l : List Pr} (h : RPr w B (.slice A n c) l) : n = l.length ∧ n ≤ c ∧ n * 80 ≤ 140737488351232 := by
  obtain ⟨A', n', c', M, h1, e, h2, h3, _⟩ := h
  injection e with e1 e2 e3
  subst e2 e3
  exact ⟨by rw [h2, ← h1, List.length_map], h3⟩
/-- a property in a row -/
theorem RPr.at_ {l : List Pr} (h : RPr w B (.slice A n c) l) {k : Nat} {x : Pr} (hk : l[k]? = some x) : ∃ b off Av nv cv, A = some ⟨b, off, none⟩ ∧ b < B ∧ w.cell? ⟨b, off + k * 6, none⟩ = some (.string x.name) ∧ w.cell? ⟨b, off + k * 6 + 1, none⟩ = some (.int .i64 x.val.kind) ∧ w.cell? ⟨b, off + k * 6 + 2, none⟩ = some (.int .i64 x.val.int_) ∧ w.cell? ⟨b, off + k * 6 + 3, none⟩ = some (.int .i64 x.val.to_) ∧ w.cell? ⟨b, off + k * 6 + 4, none⟩ = some (.string x.val.text) ∧ w.cell? ⟨b, off + k * 6 + 5, none⟩ = some (.slice Av nv cv) ∧ RV w B (.slice Av nv cv) x.val.items := by
  obtain ⟨A', n', c', M, h1, e, h2, h3, h4, h5⟩ := h
  injection e with e1 e2 e3
  subst e1 e2 e3
  obtain ⟨y, hy, rfl⟩ : ∃ y, M[k]? = some y ∧ y.1 = x := by
    rw [← h1, List.getElem?_map, Option.map_eq_some_iff] at hk
    exact hk
  obtain ⟨b, off, e, hb, hc⟩ := h4.plain_at (by omega) prV_len h2 hy
  have k1 := h5 y (List.mem_of_getElem? hy)
  obtain ⟨⟨nm, ⟨kx, ix, tx, sx, lx⟩⟩, v⟩ := y
  obtain ⟨Av, nv, cv, rfl⟩ := k1.slice
  exact ⟨b, off, Av, nv, cv, e, hb, hc 0 _ rfl, hc 1 _ rfl, hc 2 _ rfl, hc 3 _ rfl, hc 4 _ rfl, hc 5 _ rfl, k1⟩
end
end Go.Proofs.YtmkicfjcgbfaaaaGreat
namespace Go.Proofs.YtmkicfjcgbfaaaaGreat
open Go.RowKit

def bZ : Value := .agg #[.int .i64 0, .int .i64 0, .slice none 0 0, .string ⟨#[]⟩, .slice none 0 0]
theorem block_info : (Tryz.prog.info? 38).map (fun i => (i.zero, i.size, i.bytes)) = some (some bZ, 5, 80) := by kernel_rfl
abbrev BK := Bl × Value × Value
/-- blocks in block g, with room for cap -/
structure RowB (w : World) (g cap : Nat) (M : List BK) : Prop where
  row : ∃ sp : List Value, Blk w g 38 (M.flatMap blV ++ sp).toArray ∧ M.length * 5 + sp.length = cap * 5
  room : cap ≤ maxLen
  few : M.length ≤ 100000
  nest : ∀ x ∈ M, NB w (fun b => b < w.heap.size ∧ b ≠ g) x
theorem fmB_len (M : List BK) : (M.flatMap blV).length = M.length * 5 := by
  induction M with
  | nil => rfl
  | cons a M ih => rw [List.flatMap_cons, List.length_append, ih, List.length_cons, blV_len]; omega
theorem szB (M : List BK) (sp : List Value) : (M.flatMap blV ++ sp).toArray.size = M.length * 5 + sp.length := by rw [List.size_toArray, List.length_append, fmB_len]
theorem fmB_set : ∀ (M : List BK) (k j : Nat) (x y : BK) (u : Value), M[k]? = some x → j < 5 → blV y = (blV x).set j u → (M.flatMap blV).set (k * 5 + j) u = (M.set k y).flatMap blV
  | [], k, j, x, y, u, h, _, _ => by simp at h
  | a :: M, 0, j, x, y, u, h, hj, e => by
    obtain rfl : a = x := by simpa using h
    rw [List.set_cons_zero, List.flatMap_cons, List.flatMap_cons, Nat.zero_mul, Nat.zero_add, List.set_append_left _ _ (by rw [blV_len]; exact hj), e]
  | a :: M, k + 1, j, x, y, u, h, hj, e => by
    rw [List.set_cons_succ, List.flatMap_cons, List.flatMap_cons, List.set_append_right _ _ (by rw [blV_len]; omega), blV_len, show (k + 1) * 5 + j - 5 = k * 5 + j by omega, fmB_set M k j x y u (by simpa using h) hj e]
section
variable {w w' : World} {g cap : Nat} {M : List BK}
theorem RowB.lt (h : RowB w g cap M) : g < w.heap.size := by
  obtain ⟨sp, h1, _⟩ := h.row
  exact h1.lt
theorem RowB.len (h : RowB w g cap M) : M.length ≤ cap := by
  obtain ⟨sp, _, h2⟩ := h.row
  omega
theorem RowB.below (h : RowB w g cap M) (hb : Below w.heap.size w w') : RowB w' g cap M := by
  obtain ⟨sp, h1, h2⟩ := h.row
  exact ⟨⟨sp, h1.below hb h1.lt, h2⟩, h.room, h.few, fun x hx => NB_ok _ _ _ _ x (h.nest x hx) (fun p hp => hb.cell hp.1) fun b hb' => ⟨Nat.lt_of_lt_of_le hb'.1 hb.size, hb'.2⟩⟩
theorem RowB.frozen (h : RowB w g cap M) (i : Nat) : w.frozen? ⟨g, i, none⟩ = false := by
  obtain ⟨sp, h1, _⟩ := h.row
  exact h1.frozen i
theorem RowB.cells (h : RowB w g cap M) {j : Nat} {u : Value} (hu : (M.flatMap blV)[j]? = some u) : w.cell? ⟨g, j, none⟩ = some u := by
  obtain ⟨sp, h1, h2⟩ := h.row
  have hj := (List.getElem?_eq_some_iff.1 hu).1
  rw [h1.cell, List.getElem?_toArray, List.getElem?_append_left hj, hu]
theorem RowB.cell (h : RowB w g cap M) {k : Nat} {x : BK} (hx : M[k]? = some x) {i : Nat} {u : Value} (hu : (blV x)[i]? = some u) : w.cell? ⟨g, k * 5 + i, none⟩ = some u := by
  refine h.cells ?_
  have hi := (List.getElem?_eq_some_iff.1 hu).1
  rw [blV_len] at hi
  rw [fm_get blV 5 blV_len M k i x hx hi, hu]
theorem RowB.reads (h : RowB w g cap M) : Reads w w.heap.size 5 (some ⟨g, 0, none⟩) M.length (M.flatMap blV) :=
  ⟨fmB_len M, fun _ => ⟨_, rfl, h.lt, fun j u hu => by rw [Addr.add_lit, Nat.zero_add]; exact h.cells hu⟩⟩
/-- read as a base -/
theorem RowB.rb (h : RowB w g cap M) : RB w w.heap.size (.slice (some ⟨g, 0, none⟩) M.length cap) (M.map Prod.fst) :=
  ⟨_, _, _, M, rfl, rfl, rfl, ⟨h.len, by have := h.few; omega⟩, h.reads, fun x hx => ⟨(h.nest x hx).1.reads fun b hb => hb.1, (h.nest x hx).2.reads fun b hb => hb.1⟩⟩
/-- a field is stored -/
theorem RowB.store (h : RowB w g cap M) {k j : Nat} {x y : BK} {u : Value} (hx : M[k]? = some x) (hj : j < 5) (he : blV y = (blV x).set j u) (hn : NB w (fun b => b < w.heap.size ∧ b ≠ g) y) : RowB (w.setCell ⟨g, k * 5 + j, none⟩ u) g cap (M.set k y) := by
  obtain ⟨sp, h1, h2⟩ := h.row
  have hk := (List.getElem?_eq_some_iff.1 hx).1
  have hsz : (w.setCell ⟨g, k * 5 + j, none⟩ u).heap.size = w.heap.size := by simp [World.setCell]
  have hkeep : ∀ p : Addr, p.block < w.heap.size ∧ p.block ≠ g → (w.setCell ⟨g, k * 5 + j, none⟩ u).cell? p = w.cell? p := fun p hp => World.cell?_setCell_other _ _ p _ (by intro e; subst e; exact hp.2 rfl)
  refine ⟨⟨sp, ?_, by rw [List.length_set]; exact h2⟩, h.room, by rw [List.length_set]; exact h.few, fun z hz => ?_⟩
  · have := h1.set_ (k * 5 + j) u
    rw [List.setIfInBounds_toArray, List.set_append_left _ _ (by rw [fmB_len]; omega), fmB_set M k j x y u hx hj he] at this
    exact this
  · rw [hsz]
    rcases List.mem_or_eq_of_mem_set hz with hz | rfl
    · exact NB_ok _ _ _ _ z (h.nest z hz) hkeep fun b hb => hb
    · exact NB_ok _ _ _ _ z hn hkeep fun b hb => hb
/-- a whole row anew -/
theorem RowB.setRow (h : RowB w g cap M) {M' : List BK} {sp : List Value} (hl : M'.length * 5 + sp.length = cap * 5) (hf : M'.length ≤ 100000) (hn : ∀ x ∈ M', NB w (fun b => b < w.heap.size ∧ b ≠ g) x) : RowB (w.setRow g (M'.flatMap blV ++ sp).toArray) g cap M' := by
  obtain ⟨sp0, h1, h2⟩ := h.row
  have hkeep : ∀ p : Addr, p.block < w.heap.size ∧ p.block ≠ g → (w.setRow g (M'.flatMap blV ++ sp).toArray).cell? p = w.cell? p := fun p hp => cell_setRow_other _ _ _ _ hp.2
  exact ⟨⟨sp, setRow_heap w g _ _ _ _ h1, hl⟩, h.room, hf, fun x hx => by rw [setRow_size]; exact NB_ok _ _ _ _ x (hn x hx) hkeep fun b hb => hb⟩
/-- a row of the call's own, as the append's law has it -/
theorem RowB.own (h : RowB w g cap M) {base : Nat} (hb : base ≤ g) : w.ownsRow base 38 5 (.slice (some ⟨g, 0, none⟩) M.length cap) M.length (M.flatMap blV) := by
  obtain ⟨sp, h1, h2⟩ := h.row
  refine ⟨fmB_len M, .inr ⟨g, cap, _, rfl, hb, h1, h.len, h.room, by rw [szB, h2], ?_⟩⟩
  rw [List.toList_toArray, List.take_append_of_le_length (by rw [fmB_len]; exact Nat.le_refl _), List.take_of_length_le (by rw [fmB_len]; exact Nat.le_refl _)]
theorem RowB.of_own {base : Nat} {v : Value} (h : w.ownsRow base 38 5 v M.length (M.flatMap blV)) (h0 : 0 < M.length) (hf : M.length ≤ 100000) (hn : ∀ x ∈ M, NB w (fun b => b < w.heap.size ∧ v.ownBlock ≠ some b) x) : ∃ g cap, v = .slice (some ⟨g, 0, none⟩) M.length cap ∧ base ≤ g ∧ RowB w g cap M := by
  rcases h.2 with ⟨_, h1⟩ | ⟨g, cap, cur, rfl, hb, hh, hl, hm, hs, ht⟩
  · omega
  · refine ⟨g, cap, rfl, hb, ⟨⟨cur.toList.drop (M.length * 5), ?_, by
      have e : cur.toList.length = cap * 5 := by rw [Array.length_toList]; exact hs
      rw [List.length_drop, e]; omega⟩, hm, hf, fun x hx => NB_ok _ _ _ _ x (hn x hx) (fun _ _ => rfl) fun b hb => ⟨hb.1, fun e => hb.2 (by rw [e]; rfl)⟩⟩⟩
    show w.heap[g]? = _
    rw [hh, ← ht, List.take_append_drop]
end

/-- copy between rows whose elements take more than one cell -/
theorem run_copy_rowN {P : Program} (w : World) (dT sT ty elem : TypeId) (g o dLen dCap : Nat) (a : Addr) (sLen sCap size : Nat) (cur : Array Value) (t : TypeId) (cs : List Value)
    (hu : P.underlying dT = some (.slice elem)) (hs : (P.info? elem).map (·.size) = some size)
    (hg : w.heap[g]? = some (.cells cur t (0, 0))) (hn : cs.length = Nat.min sLen dLen * size)
    (hsrc : ∀ j v, cs[j]? = some v → w.cell? (a.add j) = some v) (hfit : o + cs.length ≤ cur.size) (h1 : ∀ v ∈ cs, v.oneCell' = true) :
    (Builtin.copy_ #[dT, sT] ty #[.slice (some ⟨g, o, none⟩) dLen dCap, .slice (some a) sLen sCap]).run P w =
      .ok (goInt (Nat.min sLen dLen)) (w.setRow g (cur.toList.take o ++ cs ++ cur.toList.drop (o + cs.length)).toArray) := by
  have hl := run_loadCells_list (P := P) w a cs hsrc
  have hst := run_storeCells_at P g o t cs 0 cur w hg (by simpa using hfit) h1
  cases hq : P.info? elem with
  | none => simp [hq] at hs
  | some i =>
    have hi : i.size = size := by simpa [hq] using hs
    simp [Builtin.copy_, run_underlying hu, Builtin.lenOf, Builtin.firstCells, sizeOf, typeInfo, hq, hi, ← hn, hl, hst]
end Go.Proofs.YtmkicfjcgbfaaaaGreat
namespace Go.Proofs.YtmkicfjcgbfaaaaGreat
open Go.RowKit

set_option maxHeartbeats 400000 in
theorem clipI_any (A : Option Addr) (n c : Nat) (w : World) (hn : n ≤ c) (_h0 : A = none → n = 0 ∧ c = 0) :
    Calls Tryz.prog 63 #[.slice A n c] w fun e w' => e = .returned (.slice A n n) ∧ w' = w := by
  have i0 : (0 : Int) ≤ (n : Int) := by omega
  have i1 : (n : Int) ≤ (c : Int) := by omega
  go_enter Tryz.func63, Tryz.ntmps63
  go_wp2_with fail
  go_ret
  exact ⟨rfl, rfl⟩
/-- a row of ints of the call's own -/
theorem RInX.of_own {w : World} {base n : Nat} {v : Value} {l : List Int} (h : w.ownsRow base 3 1 v n (l.map (.int .i64))) (hn : n = l.length) (hb : n * 8 ≤ 140737488351232) (hl : ∀ x ∈ l, I64 x) : ∃ A c, v = .slice A n c ∧ (A = none → n = 0 ∧ c = 0) ∧ RInX w (fun b => v.ownBlock = some b ∧ base ≤ b ∧ b < w.heap.size) (.slice A n c) l ∧ RInX w (fun b => v.ownBlock = some b ∧ base ≤ b ∧ b < w.heap.size) (.slice A n n) l := by
  obtain ⟨A, c, e, hc, hr⟩ := RdX.of_own h
  refine ⟨A, c, e, fun ha => ?_, ⟨A, n, c, rfl, hn, ⟨hc, hb⟩, hr, hl⟩, ⟨A, n, n, rfl, hn, ⟨Nat.le_refl _, hb⟩, hr, hl⟩⟩
  rcases h.2 with ⟨h, h0⟩ | ⟨g, cap, cur, h, _⟩
  · rw [e] at h; injection h with _ h1 h2
    exact ⟨h1, h2⟩
  · rw [e, ha] at h; injection h with h; cases h
/-- what copying ints leaves -/
def IntsR (l : List Int) (w : World) (e : Ending) (w' : World) : Prop := (∃ A n c, e = .returned (.slice A n c) ∧ (A = none → n = 0 ∧ c = 0) ∧ RInX w' (fun b => w.heap.size ≤ b ∧ b < w'.heap.size) (.slice A n c) l ∧ RInX w' (fun b => w.heap.size ≤ b ∧ b < w'.heap.size) (.slice A n n) l ∧ n ≤ c) ∧ Below w.heap.size w w'
theorem RIn.getD {w : World} {B b off n c : Nat} {l : List Int} (h : RIn w B (.slice (some ⟨b, off, none⟩) n c) l) : ∀ j, j < l.length → w.cell? ⟨b, off + j, none⟩ = some (.int .i64 (l.getD j 0)) := by
  intro j hj
  obtain ⟨b', off', e, _, hc⟩ := h.at_ (List.getElem?_eq_getElem hj)
  injection e with e
  injection e with e1 e2
  subst e1 e2
  rw [hc, List.getD_eq_getElem?_getD, List.getElem?_eq_getElem hj]; rfl
theorem cloneI_any (A : Option Addr) (n c : Nat) (l : List Int) (w : World) (B : Nat) (h : RIn w B (.slice A n c) l) :
    Calls Tryz.prog 67 #[.slice A n c] w (IntsR l w) := by
  have hn := h.len
  have hi : ∀ x ∈ l, I64 x := fun x hx => h.i64 hx
  have key : ∀ (v' : Value) (w' : World), w'.ownsRow w.heap.size 3 1 v' n (l.map (.int .i64)) → Below w.heap.size w w' → IntsR l w (.returned v') w' := fun v' w' ho hb => by
    obtain ⟨A', c', rfl, h0, h1, h2⟩ := RInX.of_own ho hn.1 hn.2.2 hi
    refine ⟨⟨A', n, c', rfl, h0, h1.weak fun b hb => hb.2, h2.weak fun b hb => hb.2, ?_⟩, hb⟩
    obtain ⟨_, _, _, e, _, h3, _⟩ := h1
    injection e with _ e1 e2
    omega
  rcases A with _ | ad
  · have h0 : n = 0 := by
      rcases Nat.eq_zero_or_pos n with g | g
      · exact g
      · obtain ⟨ad, e, _⟩ := h.reads.2 g
        cases e
    subst h0
    have hl : l = [] := List.eq_nil_of_length_eq_zero hn.1.symm
    subst hl
    refine (Tryz.slices_Clone_int_nil 0 c w).mono ?_
    rintro e w' ⟨rfl, rfl⟩
    exact key _ _ (World.ownsRow_nil _ _ _ _) (Below.refl _ _)
  · rcases Nat.eq_zero_or_pos n with g | g
    · subst g
      have hl : l = [] := List.eq_nil_of_length_eq_zero hn.1.symm
      subst hl
      refine (Tryz.slices_Clone_int_zero ad c w).mono ?_
      rintro e w' ⟨v', rfl, ho, _, hb⟩
      exact key _ _ ho hb
    · obtain ⟨b, off, e, _, _⟩ := h.reads.plain g (by omega)
      injection e with e
      subst e
      refine (Tryz.slices_Clone_int b off n c l w (by omega) (by omega) h.getD).mono ?_
      rintro e w' ⟨v', rfl, ho, _, hb⟩
      rw [List.take_of_length_le (by omega)] at ho
      exact key _ _ ho hb
theorem int_info : (Tryz.prog.info? 3).map (fun i => (i.zero, i.size, i.bytes)) = some (some (.int .i64 0), 1, 8) := by kernel_rfl
theorem ints_one (L : List Int) : ∀ u ∈ L.map (Value.int .i64), u.oneCell' = true := by
  intro u hu
  obtain ⟨x, _, rfl⟩ := List.mem_map.1 hu
  rfl
/-- a row of ints of the call's own, at the end -/
theorem IntsR.of_own {w w' : World} {n : Nat} {v : Value} {L : List Int} (h : w'.ownsRow w.heap.size 3 1 v n (L.map (.int .i64))) (hn : n = L.length) (hs : n ≤ 100000) (hL : ∀ x ∈ L, I64 x) (hb : Below w.heap.size w w') : IntsR L w (.returned v) w' := by
  obtain ⟨A, c, rfl, h0, h1, h2⟩ := RInX.of_own h hn (by omega) hL
  refine ⟨⟨A, n, c, rfl, h0, h1.weak fun b hb => hb.2, h2.weak fun b hb => hb.2, ?_⟩, hb⟩
  obtain ⟨_, _, _, e, _, h3, _⟩ := h1
  injection e with _ e1 e2
  omega
theorem RInX.reads1 {w : World} {S : Nat → Prop} {A : Option Addr} {n c B : Nat} {L : List Int} (h : RInX w S (.slice A n c) L) (hS : ∀ b, S b → b < B) : Reads w B 1 A n (L.map (.int .i64)) ∧ n = L.length :=
  ⟨(h.reads hS).reads, (h.reads hS).len.1⟩
end Go.Proofs.YtmkicfjcgbfaaaaGreat
namespace Go.Proofs.YtmkicfjcgbfaaaaGreat
open Go.RowKit

set_option maxHeartbeats 1000000 in
theorem edited_any (s x : ByteArray) (f t : Int) (w : World) (hs : s.size ≤ 140737488351232) (hx : x.size ≤ 140737488351232) (h0 : 0 ≤ f) (h1 : f ≤ t) (h2 : t ≤ (s.size : Int)) :
    Calls Tryz.prog 161 #[.string s, .agg #[.int .i64 f, .int .i64 t, .string x]] w fun e w' => e = .returned (.string (edS s x f t)) ∧ Below w.heap.size w w' := by
  obtain ⟨a, rfl⟩ := Int.eq_ofNat_of_zero_le h0
  obtain ⟨b, rfl⟩ := Int.eq_ofNat_of_zero_le (Int.le_trans h0 h1)
  go_enter Tryz.func161, Tryz.ntmps161
  go_wp2
  go_quiet (fail)
  go_wp2
  go_ret
  exact ⟨rfl, bdrew ((Below.refl _ _).alloc (Nat.le_refl _) _) _⟩

set_option maxHeartbeats 2000000 in
theorem checkEdit_any (s x : ByteArray) (f t : Int) (w : World) (hs : s.size ≤ 140737488351232) (hx : x.size ≤ 140737488351232) :
    Calls Tryz.prog 123 #[.string s, .agg #[.int .i64 f, .int .i64 t, .string x]] w fun e w' => e = .returned (.int .i64 (edErr s x f t)) ∧ Below w.heap.size w w' := by
  rcases edErr_ways s x f t with ⟨g, h⟩ | ⟨⟨g, g1⟩, h⟩ | ⟨⟨g, g1, g2⟩, h⟩ | ⟨⟨g, g1, g2⟩, g3, h⟩ | ⟨⟨g, g1, g2⟩, g3, g4, h⟩ | ⟨⟨g, g1, g2⟩, g3, g4, h⟩
  all_goals
    rw [h]
    clear h
    go_enter Tryz.func123, Tryz.ntmps123
    go_wp2_with (go_at_call 153; refine (hasControl_any x _ hx).mono ?_; rintro e w' ⟨rfl, rfl⟩)
    go_ret
    exact ⟨rfl, (Below.refl _ _).alloc (Nat.le_refl _) _⟩

end Go.Proofs.YtmkicfjcgbfaaaaGreat
namespace Go.Proofs.YtmkicfjcgbfaaaaGreat
open Go.RowKit

set_option maxHeartbeats 1000000 in
theorem apply_ok (s x : ByteArray) (f t : Int) (w : World) (hs : s.size ≤ 140737488351232) (hx : x.size ≤ 140737488351232) (h : edErr s x f t = 0) :
    Calls Tryz.prog 132 #[.string s, .agg #[.int .i64 f, .int .i64 t, .string x]] w fun e w' => e = .returned (.tuple #[.string (edS s x f t), .int .i64 0]) ∧ Below w.heap.size w w' := by
  obtain ⟨h0, h1, h2, h3, h4⟩ := edErr_ok h
  have H := Lib.hid h
  clear h h3
  go_enter Tryz.func132, Tryz.ntmps132
  go_wp2_with fail
  refine (checkEdit_any s x f t _ hs hx).mono ?_
  rintro e w1 ⟨rfl, hb1⟩
  rw [H.out]
  have c0 := hb1.cell (p := ⟨w.heap.size, 0, none⟩) (by simp)
  have c1 := hb1.cell (p := ⟨w.heap.size, 1, none⟩) (by simp)
  have c2 := hb1.cell (p := ⟨w.heap.size, 2, none⟩) (by simp)
  go_wp2_with fail
  refine (edited_any s x f t _ hs hx h0 h1 h2).mono ?_
  rintro e w2 ⟨rfl, hb2⟩
  go_wp2
  go_ret2
  exact ⟨rfl, (((Below.refl _ _).alloc (Nat.le_refl _) _).trans (hb1.mono (by simp))).trans (hb2.mono (by have := hb1.size; simp at this; omega))⟩

end Go.Proofs.YtmkicfjcgbfaaaaGreat
namespace Go.Proofs.YtmkicfjcgbfaaaaGreat
open Go.RowKit

/-- a base that is turned in place; what its blocks lead to lies in blocks of the sort S -/
structure RowS (S : Nat → Prop) (w : World) (g cap : Nat) (M : List BK) : Prop extends RowB w g cap M where
  far : ∀ x ∈ M, NB w (fun b => (b < w.heap.size ∧ b ≠ g) ∧ S b) x
section
variable {S : Nat → Prop} {w w' : World} {g cap : Nat} {M : List BK}
theorem RowB.all (h : RowB w g cap M) : RowS (fun _ => True) w g cap M := ⟨h, fun x hx => NB_ok _ _ _ _ x (h.nest x hx) (fun _ _ => rfl) fun _ hb => ⟨hb, trivial⟩⟩
theorem RowS.weak {S' : Nat → Prop} (h : RowS S w g cap M) (hS : ∀ b, b < w.heap.size → S b → S' b) : RowS S' w g cap M := ⟨h.toRowB, fun x hx => NB_ok _ _ _ _ x (h.far x hx) (fun _ _ => rfl) fun b hb => ⟨hb.1, hS b hb.1.1 hb.2⟩⟩
theorem RowS.below (h : RowS S w g cap M) (hb : Below w.heap.size w w') : RowS S w' g cap M :=
  ⟨h.toRowB.below hb, fun x hx => NB_ok _ _ _ _ x (h.far x hx) (fun _ hp => hb.cell hp.1.1) fun _ hb' => ⟨⟨Nat.lt_of_lt_of_le hb'.1.1 hb.size, hb'.1.2⟩, hb'.2⟩⟩
theorem RowS.store (h : RowS S w g cap M) {k j : Nat} {x y : BK} {u : Value} (hx : M[k]? = some x) (hj : j < 5) (he : blV y = (blV x).set j u) (hn : NB w (fun b => (b < w.heap.size ∧ b ≠ g) ∧ S b) y) : RowS S (w.setCell ⟨g, k * 5 + j, none⟩ u) g cap (M.set k y) := by
  have hsz : (w.setCell ⟨g, k * 5 + j, none⟩ u).heap.size = w.heap.size := by simp [World.setCell]
  have hkeep : ∀ p : Addr, (p.block < w.heap.size ∧ p.block ≠ g) ∧ S p.block → (w.setCell ⟨g, k * 5 + j, none⟩ u).cell? p = w.cell? p := fun p hp => World.cell?_setCell_other _ _ p _ (by intro e; subst e; exact hp.1.2 rfl)
  refine ⟨h.toRowB.store hx hj he (NB_ok _ _ _ _ y hn (fun _ _ => rfl) fun b hb => hb.1), fun z hz => ?_⟩
  rw [hsz]
  rcases List.mem_or_eq_of_mem_set hz with hz | rfl
  · exact NB_ok _ _ _ _ z (h.far z hz) hkeep fun b hb => hb
  · exact NB_ok _ _ _ _ z hn hkeep fun b hb => hb
/-- a world in which no block that matters is another one -/
theorem RowS.keep (h : RowS S w g cap M) (hk : ∀ b, b = g ∨ (b < w.heap.size ∧ S b) → w'.heap[b]? = w.heap[b]?) (hz : w.heap.size ≤ w'.heap.size) : RowS S w' g cap M := by
  obtain ⟨sp, h1, h2⟩ := h.row
  have hkeep : ∀ p : Addr, (p.block < w.heap.size ∧ p.block ≠ g) ∧ S p.block → w'.cell? p = w.cell? p := fun p hp => World.cell?_of_block (hk _ (.inr ⟨hp.1.1, hp.2⟩))
  have hf : ∀ x ∈ M, NB w' (fun b => (b < w'.heap.size ∧ b ≠ g) ∧ S b) x := fun x hx => NB_ok _ _ _ _ x (h.far x hx) hkeep fun b hb => ⟨⟨Nat.lt_of_lt_of_le hb.1.1 hz, hb.1.2⟩, hb.2⟩
  exact ⟨⟨⟨sp, (hk g (.inl rfl)).trans h1, h2⟩, h.room, h.few, fun x hx => NB_ok _ _ _ _ x (hf x hx) (fun _ _ => rfl) fun b hb => hb.1⟩, hf⟩
theorem RowS.of_own {base : Nat} {v : Value} (h : w.ownsRow base 38 5 v M.length (M.flatMap blV)) (h0 : 0 < M.length) (hf : M.length ≤ 100000) (hn : ∀ x ∈ M, NB w (fun b => (b < w.heap.size ∧ v.ownBlock ≠ some b) ∧ S b) x) : ∃ g cap, v = .slice (some ⟨g, 0, none⟩) M.length cap ∧ base ≤ g ∧ RowS S w g cap M := by
  obtain ⟨g, cap, rfl, hb, hr⟩ := RowB.of_own h h0 hf fun x hx => NB_ok _ _ _ _ x (hn x hx) (fun _ _ => rfl) fun b hb => hb.1
  exact ⟨g, cap, rfl, hb, hr, fun x hx => NB_ok _ _ _ _ x (hn x hx) (fun _ _ => rfl) fun b hb => ⟨⟨hb.1.1, fun e => hb.1.2 (by rw [e]; rfl)⟩, hb.2⟩⟩
end
end Go.Proofs.YtmkicfjcgbfaaaaGreat
