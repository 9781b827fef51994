/-
  DERIVED. Values, properties and blocks of a base as they lie in memory. Conditions: none. By an AI agent.
-/
import Derived.Test.YteichcpbfdjjkaaBase
namespace Go.Proofs.Yteichcpbfdjjkaa
open Go.RowKit

/-- a value of a property -/
inductive Vl where
  | mk (kind int_ to_ : Int) (text : ByteArray) (items : List Vl)
def Vl.kind : Vl → Int | .mk k _ _ _ _ => k
def Vl.int_ : Vl → Int | .mk _ i _ _ _ => i
def Vl.to_ : Vl → Int | .mk _ _ t _ _ => t
def Vl.text : Vl → ByteArray | .mk _ _ _ s _ => s
def Vl.items : Vl → List Vl | .mk _ _ _ _ l => l
structure Pr where
  name : ByteArray
  val : Vl
structure Bl where
  id : Int
  parent : Int
  kids : List Int
  text : ByteArray
  props : List Pr
/-- five cells: a value, its items told apart -/
def vlV (x : Vl × Value) : List Value := [.int .i64 x.1.kind, .int .i64 x.1.int_, .int .i64 x.1.to_, .string x.1.text, x.2]
theorem vlV_len (x : Vl × Value) : (vlV x).length = 5 := rfl
/-- a list of values in memory, below B, at most d deep -/
def RVd (W : World) (B : Nat) : Nat → Value → List Vl → Prop
  | 0, v, l => l = [] ∧ ∃ A c, v = .slice A 0 c
  | d + 1, v, l => ∃ A n c, ∃ M : List (Vl × Value), M.map Prod.fst = l ∧ v = .slice A n c ∧ n = M.length ∧ (n ≤ c ∧ n * 64 ≤ 140737488351232) ∧ Reads W B 5 A n (M.flatMap vlV) ∧ ∀ x ∈ M, RVd W B d x.2 x.1.items
def RV (W : World) (B : Nat) (v : Value) (l : List Vl) : Prop := ∃ d, RVd W B d v l
/-- six cells: a property -/
def prV (x : Pr × Value) : List Value := .string x.1.name :: vlV (x.1.val, x.2)
theorem prV_len (x : Pr × Value) : (prV x).length = 6 := rfl
def RPr (W : World) (B : Nat) (v : Value) (l : List Pr) : Prop := ∃ A n c, ∃ M : List (Pr × Value), M.map Prod.fst = l ∧ v = .slice A n c ∧ n = M.length ∧ (n ≤ c ∧ n * 80 ≤ 140737488351232) ∧ Reads W B 6 A n (M.flatMap prV) ∧ ∀ x ∈ M, RV W B x.2 x.1.val.items
/-- a number that an int holds -/
def I64 (x : Int) : Prop := -9223372036854775808 ≤ x ∧ x ≤ 9223372036854775807
def RIn (W : World) (B : Nat) (v : Value) (l : List Int) : Prop := ∃ A n c, v = .slice A n c ∧ n = l.length ∧ (n ≤ c ∧ n * 8 ≤ 140737488351232) ∧ Reads W B 1 A n (l.map (.int .i64)) ∧ ∀ x ∈ l, I64 x
/-- five cells: a block, its kids and properties told apart -/
def blV (x : Bl × Value × Value) : List Value := [.int .i64 x.1.id, .int .i64 x.1.parent, x.2.1, .string x.1.text, x.2.2]
theorem blV_len (x : Bl × Value × Value) : (blV x).length = 5 := rfl
def RB (W : World) (B : Nat) (v : Value) (l : List Bl) : Prop := ∃ A n c, ∃ M : List (Bl × Value × Value), M.map Prod.fst = l ∧ v = .slice A n c ∧ n = M.length ∧ (n ≤ c ∧ n * 80 ≤ 140737488351232) ∧ Reads W B 5 A n (M.flatMap blV) ∧ ∀ x ∈ M, RIn W B x.2.1 x.1.kids ∧ RPr W B x.2.2 x.1.props
section
variable {W W' : World} {B B' : Nat} {v : Value}
theorem RVd.below (hb : Below B W W') : ∀ {d : Nat} {v : Value} {l : List Vl}, RVd W B d v l → RVd W' B d v l
  | 0, _, _, h => h
  | _ + 1, _, _, ⟨A, n, c, M, h1, h2, h3, h4, h5, h6⟩ => ⟨A, n, c, M, h1, h2, h3, h4, h5.below hb, fun x hx => RVd.below hb (h6 x hx)⟩
theorem RVd.more (hB : B ≤ B') : ∀ {d : Nat} {v : Value} {l : List Vl}, RVd W B d v l → RVd W B' d v l
  | 0, _, _, h => h
  | _ + 1, _, _, ⟨A, n, c, M, h1, h2, h3, h4, h5, h6⟩ => ⟨A, n, c, M, h1, h2, h3, h4, h5.more hB, fun x hx => RVd.more hB (h6 x hx)⟩
theorem RVd.deeper : ∀ {d : Nat} {v : Value} {l : List Vl}, RVd W B d v l → RVd W B (d + 1) v l
  | 0, _, _, ⟨h1, A, c, h2⟩ => ⟨A, 0, c, [], by rw [h1]; rfl, h2, rfl, ⟨Nat.zero_le _, by omega⟩, ⟨rfl, fun h => absurd h (by omega)⟩, fun x hx => by cases hx⟩
  | d + 1, _, _, ⟨A, n, c, M, h1, h2, h3, h4, h5, h6⟩ => ⟨A, n, c, M, h1, h2, h3, h4, h5, fun x hx => RVd.deeper (h6 x hx)⟩
theorem RV.below {l : List Vl} (h : RV W B v l) (hb : Below B W W') : RV W' B v l := h.imp fun _ h => h.below hb
theorem RV.more {l : List Vl} (h : RV W B v l) (hB : B ≤ B') : RV W B' v l := h.imp fun _ h => h.more hB
/-- a list of values opened one step -/
theorem RV.open_ {l : List Vl} (h : RV W B v l) : ∃ A n c, ∃ M : List (Vl × Value), M.map Prod.fst = l ∧ v = .slice A n c ∧ n = M.length ∧ (n ≤ c ∧ n * 64 ≤ 140737488351232) ∧ Reads W B 5 A n (M.flatMap vlV) ∧ ∀ x ∈ M, RV W B x.2 x.1.items := by
  obtain ⟨d, h⟩ := h
  obtain ⟨A, n, c, M, h1, h2, h3, h4, h5, h6⟩ := h.deeper
  exact ⟨A, n, c, M, h1, h2, h3, h4, h5, fun x hx => ⟨d, h6 x hx⟩⟩
theorem RPr.below {l : List Pr} (h : RPr W B v l) (hb : Below B W W') : RPr W' B v l := by
  obtain ⟨A, n, c, M, h1, h2, h3, h4, h5, h6⟩ := h
  exact ⟨A, n, c, M, h1, h2, h3, h4, h5.below hb, fun x hx => (h6 x hx).below hb⟩
theorem RPr.more {l : List Pr} (h : RPr W B v l) (hB : B ≤ B') : RPr W B' v l := by
  obtain ⟨A, n, c, M, h1, h2, h3, h4, h5, h6⟩ := h
  exact ⟨A, n, c, M, h1, h2, h3, h4, h5.more hB, fun x hx => (h6 x hx).more hB⟩
theorem RIn.below {l : List Int} (h : RIn W B v l) (hb : Below B W W') : RIn W' B v l := by
  obtain ⟨A, n, c, h1, h2, h3, h4, h5⟩ := h
  exact ⟨A, n, c, h1, h2, h3, h4.below hb, h5⟩
theorem RIn.more {l : List Int} (h : RIn W B v l) (hB : B ≤ B') : RIn W B' v l := by
  obtain ⟨A, n, c, h1, h2, h3, h4, h5⟩ := h
  exact ⟨A, n, c, h1, h2, h3, h4.more hB, h5⟩
theorem RB.below {l : List Bl} (h : RB W B v l) (hb : Below B W W') : RB W' B v l := by
  obtain ⟨A, n, c, M, h1, h2, h3, h4, h5, h6⟩ := h
  exact ⟨A, n, c, M, h1, h2, h3, h4, h5.below hb, fun x hx => ⟨(h6 x hx).1.below hb, (h6 x hx).2.below hb⟩⟩
theorem RB.more {l : List Bl} (h : RB W B v l) (hB : B ≤ B') : RB W B' v l := by
  obtain ⟨A, n, c, M, h1, h2, h3, h4, h5, h6⟩ := h
  exact ⟨A, n, c, M, h1, h2, h3, h4, h5.more hB, fun x hx => ⟨(h6 x hx).1.more hB, (h6 x hx).2.more hB⟩⟩
end

theorem RVd.up {W : World} {B d d' : Nat} {v : Value} {l : List Vl} (h : RVd W B d v l) (hd : d ≤ d') : RVd W B d' v l := by
  induction hd with
  | refl => exact h
  | step _ ih => exact ih.deeper

/-! ### a list row by row -/
theorem fm_get {α : Type} (enc : α → List Value) (c : Nat) (h : ∀ x, (enc x).length = c) : ∀ (M : List α) (k i : Nat) (x : α), M[k]? = some x → i < c → (M.flatMap enc)[k * c + i]? = (enc x)[i]?
  | [], k, i, x, hk, hi => by simp at hk
  | a :: M, 0, i, x, hk, hi => by
    obtain rfl : a = x := by simpa using hk
    rw [List.flatMap_cons, Nat.zero_mul, Nat.zero_add, List.getElem?_append_left (by rw [h]; exact hi)]
  | a :: M, k + 1, i, x, hk, hi => by
    have := fm_get enc c h M k i x (by simpa using hk) hi
    rw [List.flatMap_cons, List.getElem?_append_right (by rw [h, Nat.succ_mul]; omega), h, ← this]
    congr 1; rw [Nat.succ_mul]; omega
theorem Reads.plain_at {α : Type} {enc : α → List Value} {c : Nat} (hc0 : 0 < c) (henc : ∀ x, (enc x).length = c) {w : World} {B n : Nat} {A : Option Addr} {M : List α} (h : Reads w B c A n (M.flatMap enc)) (hn : n = M.length) {k : Nat} {x : α} (hk : M[k]? = some x) :
    ∃ b off, A = some ⟨b, off, none⟩ ∧ b < B ∧ ∀ i u, (enc x)[i]? = some u → w.cell? ⟨b, off + k * c + i, none⟩ = some u := by
  have hkl : k < M.length := (List.getElem?_eq_some_iff.1 hk).1
  obtain ⟨b, off, e, hb, hcell⟩ := h.plain (by omega) hc0
  refine ⟨b, off, e, hb, fun i u hu => ?_⟩
  rw [Nat.add_assoc]
  refine hcell _ _ ?_
  rw [fm_get enc c henc M k i x hk (by rw [← henc x]; exact (List.getElem?_eq_some_iff.1 hu).1)]
  exact hu
theorem RIn.slice {w : World} {B : Nat} {v : Value} {l : List Int} (h : RIn w B v l) : ∃ A n c, v = .slice A n c := by
  obtain ⟨A, n, c, h1, _⟩ := h
  exact ⟨A, n, c, h1⟩
theorem RPr.slice {w : World} {B : Nat} {v : Value} {l : List Pr} (h : RPr w B v l) : ∃ A n c, v = .slice A n c := by
  obtain ⟨A, n, c, M, _, h1, _⟩ := h
  exact ⟨A, n, c, h1⟩
section
variable {w : World} {B : Nat} {A : Option Addr} {n c : Nat}
theorem RIn.len {l : List Int} (h : RIn w B (.slice A n c) l) : n = l.length ∧ n ≤ c ∧ n * 8 ≤ 140737488351232 := by
  obtain ⟨A', n', c', e, h1, h2, _⟩ := h
  injection e with e1 e2 e3
  subst e2 e3
  exact ⟨h1, h2⟩
theorem RIn.reads {l : List Int} (h : RIn w B (.slice A n c) l) : Reads w B 1 A n (l.map (.int .i64)) := by
  obtain ⟨A', n', c', e, h1, h2, h3, _⟩ := h
  injection e with e1 e2 e3
  subst e1 e2 e3
  exact h3
theorem RIn.i64 {v : Value} {l : List Int} (h : RIn w B v l) {x : Int} (hx : x ∈ l) : I64 x := by
  obtain ⟨A', n', c', e, h1, h2, h3, h4⟩ := h
  exact h4 x hx
/-- a number in a row -/
theorem RIn.at_ {l : List Int} (h : RIn w B (.slice A n c) l) {k : Nat} {x : Int} (hk : l[k]? = some x) : ∃ b off, A = some ⟨b, off, none⟩ ∧ b < B ∧ w.cell? ⟨b, off + k, none⟩ = some (.int .i64 x) := by
  have hl := h.len.1
  have hkl := (List.getElem?_eq_some_iff.1 hk).1
  obtain ⟨b, off, e, hb, hc⟩ := h.reads.plain (by omega) (by omega)
  exact ⟨b, off, e, hb, hc k _ (by rw [List.getElem?_map, hk]; rfl)⟩
theorem RB.len {l : List Bl} (h : RB w B (.slice A n c) l) : n = l.length ∧ n ≤ c ∧ n * 80 ≤ 140737488351232 := by
  obtain ⟨A', n', c', M, h1, e, h2, h3, _⟩ := h
  injection e with e1 e2 e3
  subst e2 e3
  exact ⟨by rw [h2, ← h1, List.length_map], h3⟩
/-- a block in a row -/
theorem RB.at_ {l : List Bl} (h : RB w B (.slice A n c) l) {k : Nat} {x : Bl} (hk : l[k]? = some x) : ∃ b off Ak nk ck Ap np cp, A = some ⟨b, off, none⟩ ∧ b < B ∧ w.cell? ⟨b, off + k * 5, none⟩ = some (.int .i64 x.id) ∧ w.cell? ⟨b, off + k * 5 + 1, none⟩ = some (.int .i64 x.parent) ∧ w.cell? ⟨b, off + k * 5 + 2, none⟩ = some (.slice Ak nk ck) ∧ w.cell? ⟨b, off + k * 5 + 3, none⟩ = some (.string x.text) ∧ w.cell? ⟨b, off + k * 5 + 4, none⟩ = some (.slice Ap np cp) ∧ RIn w B (.slice Ak nk ck) x.kids ∧ RPr w B (.slice Ap np cp) x.props := by
  obtain ⟨A', n', c', M, h1, e, h2, h3, h4, h5⟩ := h
  injection e with e1 e2 e3
  subst e1 e2 e3
  obtain ⟨y, hy, rfl⟩ : ∃ y, M[k]? = some y ∧ y.1 = x := by
    rw [← h1, List.getElem?_map, Option.map_eq_some_iff] at hk
    exact hk
  obtain ⟨b, off, e, hb, hc⟩ := h4.plain_at (by omega) blV_len h2 hy
  obtain ⟨k1, k2⟩ := h5 y (List.mem_of_getElem? hy)
  obtain ⟨⟨id, par, kids, txt, props⟩, kv, pv⟩ := y
  obtain ⟨Ak, nk, ck, rfl⟩ := k1.slice
  obtain ⟨Ap, np, cp, rfl⟩ := k2.slice
  exact ⟨b, off, Ak, nk, ck, Ap, np, cp, e, hb, hc 0 _ rfl, hc 1 _ rfl, hc 2 _ rfl, hc 3 _ rfl, hc 4 _ rfl, k1, k2⟩
end
end Go.Proofs.Yteichcpbfdjjkaa
