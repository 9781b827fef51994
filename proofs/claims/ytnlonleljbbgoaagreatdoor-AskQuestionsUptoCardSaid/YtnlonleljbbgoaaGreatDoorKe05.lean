/-
  DERIVED. Values, properties and blocks of a base as they lie in memory. Conditions: none.
  The walk of prop.outside. Conditions: none.
  The walk of prop.CheckName. Conditions: sizes.
  By an AI agent.
-/
import Derived.Test.YtnlonleljbbgoaaGreatDoorKe01
import Derived.Test.YtnlonleljbbgoaaGreatDoorChecked
import Derived.Deep.LoopGhost
namespace Go.Proofs.YtnlonleljbbgoaaGreatDoor
open Go.RowKit

/-- a value of a property -/
inductive Vl where
  | mk (kind int_ to_ : Int) (text : ByteArray) (items : List Vl)
def Vl.kind : Vl → Int | .mk k _ _ _ _ => k
def Vl.int_ : Vl → Int | .mk _ i _ _ _ => i
def Vl.to_ : Vl → Int | .mk _ _ t _ _ => t
def Vl.text : Vl → ByteArray | .mk _ _ _ s _ => s
def Vl.items : Vl → List Vl | .mk _ _ _ _ l => l
structure Pr where
  name : ByteArray
  val : Vl
structure Bl where
  id : Int
  parent : Int
  kids : List Int
  text : ByteArray
  props : List Pr
/-- five cells: a value, its items told apart -/
def vlV (x : Vl × Value) : List Value := [.int .i64 x.1.kind, .int .i64 x.1.int_, .int .i64 x.1.to_, .string x.1.text, x.2]
theorem vlV_len (x : Vl × Value) : (vlV x).length = 5 := rfl
/-- a list of values in memory, below B, at most d deep -/
def RVd (W : World) (B : Nat) : Nat → Value → List Vl → Prop
  | 0, v, l => l = [] ∧ ∃ A c, v = .slice A 0 c
  | d + 1, v, l => ∃ A n c, ∃ M : List (Vl × Value), M.map Prod.fst = l ∧ v = .slice A n c ∧ n = M.length ∧ (n ≤ c ∧ n * 64 ≤ 140737488351232) ∧ Reads W B 5 A n (M.flatMap vlV) ∧ ∀ x ∈ M, RVd W B d x.2 x.1.items
def RV (W : World) (B : Nat) (v : Value) (l : List Vl) : Prop := ∃ d, RVd W B d v l
/-- six cells: a property -/
def prV (x : Pr × Value) : List Value := .string x.1.name :: vlV (x.1.val, x.2)
theorem prV_len (x : Pr × Value) : (prV x).length = 6 := rfl
def RPr (W : World) (B : Nat) (v : Value) (l : List Pr) : Prop := ∃ A n c, ∃ M : List (Pr × Value), M.map Prod.fst = l ∧ v = .slice A n c ∧ n = M.length ∧ (n ≤ c ∧ n * 80 ≤ 140737488351232) ∧ Reads W B 6 A n (M.flatMap prV) ∧ ∀ x ∈ M, RV W B x.2 x.1.val.items
/-- a number that an int holds -/
def I64 (x : Int) : Prop := -9223372036854775808 ≤ x ∧ x ≤ 9223372036854775807
def RIn (W : World) (B : Nat) (v : Value) (l : List Int) : Prop := ∃ A n c, v = .slice A n c ∧ n = l.length ∧ (n ≤ c ∧ n * 8 ≤ 140737488351232) ∧ Reads W B 1 A n (l.map (.int .i64)) ∧ ∀ x ∈ l, I64 x
/-- five cells: a block, its kids and properties told apart -/
def blV (x : Bl × Value × Value) : List Value := [.int .i64 x.1.id, .int .i64 x.1.parent, x.2.1, .string x.1.text, x.2.2]
theorem blV_len (x : Bl × Value × Value) : (blV x).length = 5 := rfl
def RB (W : World) (B : Nat) (v : Value) (l : List Bl) : Prop := ∃ A n c, ∃ M : List (Bl × Value × Value), M.map Prod.fst = l ∧ v = .slice A n c ∧ n = M.length ∧ (n ≤ c ∧ n * 80 ≤ 140737488351232) ∧ Reads W B 5 A n (M.flatMap blV) ∧ ∀ x ∈ M, RIn W B x.2.1 x.1.kids ∧ RPr W B x.2.2 x.1.props
section
variable {W W' : World} {B B' : Nat} {v : Value}
theorem RVd.below (hb : Below B W W') : ∀ {d : Nat} {v : Value} {l : List Vl}, RVd W B d v l → RVd W' B d v l
  | 0, _, _, h => h
  | _ + 1, _, _, ⟨A, n, c, M, h1, h2, h3, h4, h5, h6⟩ => ⟨A, n, c, M, h1, h2, h3, h4, h5.below hb, fun x hx => RVd.below hb (h6 x hx)⟩
theorem RVd.more (hB : B ≤ B') : ∀ {d : Nat} {v : Value} {l : List Vl}, RVd W B d v l → RVd W B' d v l
  | 0, _, _, h => h
  | _ + 1, _, _, ⟨A, n, c, M, h1, h2, h3, h4, h5, h6⟩ => ⟨A, n, c, M, h1, h2, h3, h4, h5.more hB, fun x hx => RVd.more hB (h6 x hx)⟩
theorem RVd.deeper : ∀ {d : Nat} {v : Value} {l : List Vl}, RVd W B d v l → RVd W B (d + 1) v l
  | 0, _, _, ⟨h1, A, c, h2⟩ => ⟨A, 0, c, [], by rw [h1]; rfl, h2, rfl, ⟨Nat.zero_le _, by omega⟩, ⟨rfl, fun h => absurd h (by omega)⟩, fun x hx => by cases hx⟩
  | d + 1, _, _, ⟨A, n, c, M, h1, h2, h3, h4, h5, h6⟩ => ⟨A, n, c, M, h1, h2, h3, h4, h5, fun x hx => RVd.deeper (h6 x hx)⟩
theorem RV.below {l : List Vl} (h : RV W B v l) (hb : Below B W W') : RV W' B v l := h.imp fun _ h => h.below hb
theorem RV.more {l : List Vl} (h : RV W B v l) (hB : B ≤ B') : RV W B' v l := h.imp fun _ h => h.more hB
/-- a list of values opened one step -/
theorem RV.open_ {l : List Vl} (h : RV W B v l) : ∃ A n c, ∃ M : List (Vl × Value), M.map Prod.fst = l ∧ v = .slice A n c ∧ n = M.length ∧ (n ≤ c ∧ n * 64 ≤ 140737488351232) ∧ Reads W B 5 A n (M.flatMap vlV) ∧ ∀ x ∈ M, RV W B x.2 x.1.items := by
  obtain ⟨d, h⟩ := h
  obtain ⟨A, n, c, M, h1, h2, h3, h4, h5, h6⟩ := h.deeper
  exact ⟨A, n, c, M, h1, h2, h3, h4, h5, fun x hx => ⟨d, h6 x hx⟩⟩
theorem RPr.below {l : List Pr} (h : RPr W B v l) (hb : Below B W W') : RPr W' B v l := by
  obtain ⟨A, n, c, M, h1, h2, h3, h4, h5, h6⟩ := h
  exact ⟨A, n, c, M, h1, h2, h3, h4, h5.below hb, fun x hx => (h6 x hx).below hb⟩
theorem RPr.more {l : List Pr} (h : RPr W B v l) (hB : B ≤ B') : RPr W B' v l := by
  obtain ⟨A, n, c, M, h1, h2, h3, h4, h5, h6⟩ := h
  exact ⟨A, n, c, M, h1, h2, h3, h4, h5.more hB, fun x hx => (h6 x hx).more hB⟩
theorem RIn.below {l : List Int} (h : RIn W B v l) (hb : Below B W W') : RIn W' B v l := by
  obtain ⟨A, n, c, h1, h2, h3, h4, h5⟩ := h
  exact ⟨A, n, c, h1, h2, h3, h4.below hb, h5⟩
theorem RIn.more {l : List Int} (h : RIn W B v l) (hB : B ≤ B') : RIn W B' v l := by
  obtain ⟨A, n, c, h1, h2, h3, h4, h5⟩ := h
  exact ⟨A, n, c, h1, h2, h3, h4.more hB, h5⟩
theorem RB.below {l : List Bl} (h : RB W B v l) (hb : Below B W W') : RB W' B v l := by
  obtain ⟨A, n, c, M, h1, h2, h3, h4, h5, h6⟩ := h
  exact ⟨A, n, c, M, h1, h2, h3, h4, h5.below hb, fun x hx => ⟨(h6 x hx).1.below hb, (h6 x hx).2.below hb⟩⟩
theorem RB.more {l : List Bl} (h : RB W B v l) (hB : B ≤ B') : RB W B' v l := by
  obtain ⟨A, n, c, M, h1, h2, h3, h4, h5, h6⟩ := h
  exact ⟨A, n, c, M, h1, h2, h3, h4, h5.more hB, fun x hx => ⟨(h6 x hx).1.more hB, (h6 x hx).2.more hB⟩⟩
end

theorem RVd.up {W : World} {B d d' : Nat} {v : Value} {l : List Vl} (h : RVd W B d v l) (hd : d ≤ d') : RVd W B d' v l := by
  induction hd with
  | refl => exact h
  | step _ ih => exact ih.deeper

/-! ### a list row by row -/
theorem fm_get {α : Type} (enc : α → List Value) (c : Nat) (h : ∀ x, (enc x).length = c) : ∀ (M : List α) (k i : Nat) (x : α), M[k]? = some x → i < c → (M.flatMap enc)[k * c + i]? = (enc x)[i]?
  | [], k, i, x, hk, hi => by simp at hk
  | a :: M, 0, i, x, hk, hi => by
    obtain rfl : a = x := by simpa using hk
    rw [List.flatMap_cons, Nat.zero_mul, Nat.zero_add, List.getElem?_append_left (by rw [h]; exact hi)]
  | a :: M, k + 1, i, x, hk, hi => by
    have := fm_get enc c h M k i x (by simpa using hk) hi
    rw [List.flatMap_cons, List.getElem?_append_right (by rw [h, Nat.succ_mul]; omega), h, ← this]
    congr 1; rw [Nat.succ_mul]; omega
theorem Reads.plain_at {α : Type} {enc : α → List Value} {c : Nat} (hc0 : 0 < c) (henc : ∀ x, (enc x).length = c) {w : World} {B n : Nat} {A : Option Addr} {M : List α} (h : Reads w B c A n (M.flatMap enc)) (hn : n = M.length) {k : Nat} {x : α} (hk : M[k]? = some x) :
    ∃ b off, A = some ⟨b, off, none⟩ ∧ b < B ∧ ∀ i u, (enc x)[i]? = some u → w.cell? ⟨b, off + k * c + i, none⟩ = some u := by
  have hkl : k < M.length := (List.getElem?_eq_some_iff.1 hk).1
  obtain ⟨b, off, e, hb, hcell⟩ := h.plain (by omega) hc0
  refine ⟨b, off, e, hb, fun i u hu => ?_⟩
  rw [Nat.add_assoc]
  refine hcell _ _ ?_
  rw [fm_get enc c henc M k i x hk (by rw [← henc x]; exact (List.getElem?_eq_some_iff.1 hu).1)]
  exact hu
theorem RIn.slice {w : World} {B : Nat} {v : Value} {l : List Int} (h : RIn w B v l) : ∃ A n c, v = .slice A n c := by
  obtain ⟨A, n, c, h1, _⟩ := h
  exact ⟨A, n, c, h1⟩
theorem RPr.slice {w : World} {B : Nat} {v : Value} {l : List Pr} (h : RPr w B v l) : ∃ A n c, v = .slice A n c := by
  obtain ⟨A, n, c, M, _, h1, _⟩ := h
  exact ⟨A, n, c, h1⟩
section
variable {w : World} {B : Nat} {A : Option Addr} {n c : Nat}
theorem RIn.len {l : List Int} (h : RIn w B (.slice A n c) l) : n = l.length ∧ n ≤ c ∧ n * 8 ≤ 140737488351232 := by
  obtain ⟨A', n', c', e, h1, h2, _⟩ := h
  injection e with e1 e2 e3
  subst e2 e3
  exact ⟨h1, h2⟩
theorem RIn.reads {l : List Int} (h : RIn w B (.slice A n c) l) : Reads w B 1 A n (l.map (.int .i64)) := by
  obtain ⟨A', n', c', e, h1, h2, h3, _⟩ := h
  injection e with e1 e2 e3
  subst e1 e2 e3
  exact h3
theorem RIn.i64 {v : Value} {l : List Int} (h : RIn w B v l) {x : Int} (hx : x ∈ l) : I64 x := by
  obtain ⟨A', n', c', e, h1, h2, h3, h4⟩ := h
  exact h4 x hx
/-- a number in a row -/
theorem RIn.at_ {l : List Int} (h : RIn w B (.slice A n c) l) {k : Nat} {x : Int} (hk : l[k]? = some x) : ∃ b off, A = some ⟨b, off, none⟩ ∧ b < B ∧ w.cell? ⟨b, off + k, none⟩ = some (.int .i64 x) := by
  have hl := h.len.1
  have hkl := (List.getElem?_eq_some_iff.1 hk).1
  obtain ⟨b, off, e, hb, hc⟩ := h.reads.plain (by omega) (by omega)
  exact ⟨b, off, e, hb, hc k _ (by rw [List.getElem?_map, hk]; rfl)⟩
theorem RB.len {l : List Bl} (h : RB w B (.slice A n c) l) : n = l.length ∧ n ≤ c ∧ n * 80 ≤ 140737488351232 := by
  obtain ⟨A', n', c', M, h1, e, h2, h3, _⟩ := h
  injection e with e1 e2 e3
  subst e2 e3
  exact ⟨by rw [h2, ← h1, List.length_map], h3⟩
/-- a block in a row -/
theorem RB.at_ {l : List Bl} (h : RB w B (.slice A n c) l) {k : Nat} {x : Bl} (hk : l[k]? = some x) : ∃ b off Ak nk ck Ap np cp, A = some ⟨b, off, none⟩ ∧ b < B ∧ w.cell? ⟨b, off + k * 5, none⟩ = some (.int .i64 x.id) ∧ w.cell? ⟨b, off + k * 5 + 1, none⟩ = some (.int .i64 x.parent) ∧ w.cell? ⟨b, off + k * 5 + 2, none⟩ = some (.slice Ak nk ck) ∧ w.cell? ⟨b, off + k * 5 + 3, none⟩ = some (.string x.text) ∧ w.cell? ⟨b, off + k * 5 + 4, none⟩ = some (.slice Ap np cp) ∧ RIn w B (.slice Ak nk ck) x.kids ∧ RPr w B (.slice Ap np cp) x.props := by
  obtain ⟨A', n', c', M, h1, e, h2, h3, h4, h5⟩ := h
  injection e with e1 e2 e3
  subst e1 e2 e3
  obtain ⟨y, hy, rfl⟩ : ∃ y, M[k]? = some y ∧ y.1 = x := by
    rw [← h1, List.getElem?_map, Option.map_eq_some_iff] at hk
    exact hk
  obtain ⟨b, off, e, hb, hc⟩ := h4.plain_at (by omega) blV_len h2 hy
  obtain ⟨k1, k2⟩ := h5 y (List.mem_of_getElem? hy)
  obtain ⟨⟨id, par, kids, txt, props⟩, kv, pv⟩ := y
  obtain ⟨Ak, nk, ck, rfl⟩ := k1.slice
  obtain ⟨Ap, np, cp, rfl⟩ := k2.slice
  exact ⟨b, off, Ak, nk, ck, Ap, np, cp, e, hb, hc 0 _ rfl, hc 1 _ rfl, hc 2 _ rfl, hc 3 _ rfl, hc 4 _ rfl, k1, k2⟩
end
end Go.Proofs.YtnlonleljbbgoaaGreatDoor
namespace Go.Proofs.YtnlonleljbbgoaaGreatDoor
open Go.RowKit

/-- the error of a text -/
def txErr (s : ByteArray) : Int := if 2000 < s.size then 4 else if ctl s = true then 9 else 0

set_option maxHeartbeats 400000 in
theorem outsideP_any (n a b : Int) (w : World) :
    Calls Tryz.prog 131 #[.int .i64 n, .int .i64 a, .int .i64 b] w fun e w' => e = .returned (.bool (decide (n < a ∨ b < n))) ∧ w' = w := by
  by_cases h1 : n < a
  · rw [decide_eq_true (.inl h1)]
    go_enter Tryz.func131, Tryz.ntmps131
    go_wp2
    go_ret
    exact ⟨rfl, rfl⟩
  · by_cases h2 : b < n
    · rw [decide_eq_true (.inr h2)]
      go_enter Tryz.func131, Tryz.ntmps131
      go_wp2
      go_ret
      exact ⟨rfl, rfl⟩
    · rw [decide_eq_false (by omega)]
      go_enter Tryz.func131, Tryz.ntmps131
      go_wp2
      go_ret
      exact ⟨rfl, rfl⟩
end Go.Proofs.YtnlonleljbbgoaaGreatDoor
namespace Go.Proofs.YtnlonleljbbgoaaGreatDoor
open Go.RowKit

/-- a byte of a name -/
def nmB (c : UInt8) : Bool := ((97 ≤ c.toNat && c.toNat ≤ 122) || (48 ≤ c.toNat && c.toNat ≤ 57)) || c.toNat == 45
/-- a name's first byte -/
def nmA (c : UInt8) : Bool := 97 ≤ c.toNat && c.toNat ≤ 122
/-- is it a name -/
def nmOk (s : ByteArray) : Bool := decide (0 < s.size) && decide (s.size ≤ 20) && (s.data.toList.take 1).all nmA && s.data.toList.all nmB
/-- the error of a name -/
def nmErr (s : ByteArray) : Int := if nmOk s = true then 0 else 3
theorem nmErr_no {s : ByteArray} (h : nmOk s = false) : nmErr s = 3 := if_neg (by rw [h]; decide)
theorem nmErr_yes {s : ByteArray} (h : nmOk s = true) : nmErr s = 0 := if_pos h
def nmTo (s : ByteArray) (k : Nat) : Prop := ∀ j (h : j < s.size), j < k → nmB s[j] = true
theorem nm_bad (s : ByteArray) (k : Nat) (h : k < s.size) (hc : nmB s[k] = false) : nmOk s = false := by
  unfold nmOk
  rw [Bool.and_eq_false_iff]
  refine .inr (List.all_eq_false.2 ⟨s[k], by show s.data[k] ∈ _; simp, by rw [hc]; decide⟩)
theorem nm_all (s : ByteArray) (h : nmTo s s.size) : s.data.toList.all nmB = true := by
  rw [List.all_eq_true]
  intro c hc
  obtain ⟨j, hj, rfl⟩ := List.mem_iff_getElem.1 hc
  have hj' : j < s.size := by simpa using hj
  have := h j hj' hj'
  have e : s.data.toList[j] = s[j] := by simp; rfl
  rw [e, this]
theorem nmTo_succ (s : ByteArray) (k : Nat) (hk : k < s.size) (h : nmTo s k) (hc : nmB s[k] = true) : nmTo s (k + 1) := fun j hj hjk => by
  rcases Nat.lt_succ_iff_lt_or_eq.1 hjk with h1 | rfl
  · exact h j hj h1
  · exact hc
theorem nmB_ways (c : UInt8) : (((97 : Int) ≤ c.toNat ∧ (c.toNat : Int) ≤ 122) ∧ nmB c = true)
    ∨ ((¬ (97 : Int) ≤ c.toNat ∧ (48 : Int) ≤ c.toNat ∧ (c.toNat : Int) ≤ 57) ∧ nmB c = true)
    ∨ ((¬ (97 : Int) ≤ c.toNat ∧ ¬ (48 : Int) ≤ c.toNat ∧ ((c.toNat : Int) == 45) = true) ∧ nmB c = true)
    ∨ ((¬ (97 : Int) ≤ c.toNat ∧ ¬ (48 : Int) ≤ c.toNat ∧ ((c.toNat : Int) == 45) = false) ∧ nmB c = false)
    ∨ ((¬ (97 : Int) ≤ c.toNat ∧ (48 : Int) ≤ c.toNat ∧ ¬ (c.toNat : Int) ≤ 57 ∧ ((c.toNat : Int) == 45) = false) ∧ nmB c = false)
    ∨ (((97 : Int) ≤ c.toNat ∧ ¬ (c.toNat : Int) ≤ 122 ∧ (48 : Int) ≤ c.toNat ∧ ¬ (c.toNat : Int) ≤ 57 ∧ ((c.toNat : Int) == 45) = false) ∧ nmB c = false) := by
  have h := fun n : Nat => fun (hn : n < 256) => show (((97 : Int) ≤ n ∧ (n : Int) ≤ 122) ∧ (((97 ≤ n && n ≤ 122) || (48 ≤ n && n ≤ 57)) || n == 45) = true)
    ∨ ((¬ (97 : Int) ≤ n ∧ (48 : Int) ≤ n ∧ (n : Int) ≤ 57) ∧ (((97 ≤ n && n ≤ 122) || (48 ≤ n && n ≤ 57)) || n == 45) = true)
    ∨ ((¬ (97 : Int) ≤ n ∧ ¬ (48 : Int) ≤ n ∧ ((n : Int) == 45) = true) ∧ (((97 ≤ n && n ≤ 122) || (48 ≤ n && n ≤ 57)) || n == 45) = true)
    ∨ ((¬ (97 : Int) ≤ n ∧ ¬ (48 : Int) ≤ n ∧ ((n : Int) == 45) = false) ∧ (((97 ≤ n && n ≤ 122) || (48 ≤ n && n ≤ 57)) || n == 45) = false)
    ∨ ((¬ (97 : Int) ≤ n ∧ (48 : Int) ≤ n ∧ ¬ (n : Int) ≤ 57 ∧ ((n : Int) == 45) = false) ∧ (((97 ≤ n && n ≤ 122) || (48 ≤ n && n ≤ 57)) || n == 45) = false)
    ∨ (((97 : Int) ≤ n ∧ ¬ (n : Int) ≤ 122 ∧ (48 : Int) ≤ n ∧ ¬ (n : Int) ≤ 57 ∧ ((n : Int) == 45) = false) ∧ (((97 ≤ n && n ≤ 122) || (48 ≤ n && n ≤ 57)) || n == 45) = false) from by
      simp only [beq_iff_eq, beq_eq_false_iff_ne, Bool.or_eq_true, Bool.and_eq_true, decide_eq_true_eq, Bool.or_eq_false_iff, Bool.and_eq_false_iff, decide_eq_false_iff_not]
      omega
  exact h c.toNat c.toNat_lt

set_option maxHeartbeats 1000000 in
theorem checkName_any (s : ByteArray) (w : World) :
    Calls Tryz.prog 23 #[.string s] w fun e w' => e = .returned (.int .i64 (nmErr s)) ∧ w' = w := by
  by_cases h0 : s.size = 0
  · obtain rfl : s = ⟨#[]⟩ := by cases s with | mk d => rw [show d = #[] from Array.eq_empty_of_size_eq_zero h0]
    clear h0
    go_enter Tryz.func23, Tryz.ntmps23
    go_wp2_with fail
    go_ret
    exact ⟨rfl, rfl⟩
  have hne : s.toList.isEmpty = false := by
    rw [ByteArray.toList_eq, List.isEmpty_eq_false_iff]
    intro e
    have := congrArg List.length e
    simp at this
    exact h0 (by show s.data.size = 0; rw [this]; rfl)
  by_cases h1 : 20 < s.size
  · have hv : nmErr s = 3 := by
      unfold nmErr nmOk
      rw [decide_eq_false (by omega : ¬ s.size ≤ 20)]
      simp
    rw [hv]
    have h1' : (20 : Int) < (s.size : Int) := by omega
    clear hv
    go_enter Tryz.func23, Tryz.ntmps23
    go_wp2_with fail
    go_ret
    exact ⟨rfl, rfl⟩
  have h1' : ¬ (20 : Int) < (s.size : Int) := by omega
  have hz : 0 < s.size := by omega
  have hz' : (0 : Int) < (s.size : Int) := by omega
  have ht : s.data.toList.take 1 = [s[0]] := by
    cases s with | mk d => cases d with | mk l => cases l with
      | nil => exact absurd rfl h0
      | cons a l => rfl
  by_cases ha : (s[0].toNat : Int) < 97
  · have hv : nmErr s = 3 := nmErr_no (by
      unfold nmOk nmA
      rw [ht]
      simp only [List.all_cons, List.all_nil]
      rw [decide_eq_false (by omega : ¬ 97 ≤ s[0].toNat)]
      simp)
    rw [hv]
    clear hv ht
    go_enter Tryz.func23, Tryz.ntmps23
    go_wp2_with fail
    go_ret
    exact ⟨rfl, rfl⟩
  by_cases hb : (122 : Int) < (s[0].toNat : Int)
  · have hv : nmErr s = 3 := nmErr_no (by
      unfold nmOk nmA
      rw [ht]
      simp only [List.all_cons, List.all_nil]
      rw [decide_eq_false (by omega : ¬ s[0].toNat ≤ 122)]
      simp)
    rw [hv]
    clear hv ht
    go_enter Tryz.func23, Tryz.ntmps23
    go_wp2_with fail
    go_ret
    exact ⟨rfl, rfl⟩
  have HA : Hid (nmTo s s.size → nmErr s = 0) := fun h => nmErr_yes (by
    unfold nmOk nmA
    rw [ht, nm_all s h, decide_eq_true hz, decide_eq_true (by omega : s.size ≤ 20)]
    simp only [List.all_cons, List.all_nil]
    rw [decide_eq_true (by omega : 97 ≤ s[0].toNat), decide_eq_true (by omega : s[0].toNat ≤ 122)]
    rfl)
  clear ht
  go_enter Tryz.func23, Tryz.ntmps23
  go_wp2_with fail
  go_loopg [24] s.size (fun gg s24 wr => ∃ k : Nat, k + gg = s.size ∧ s24 = .int .i64 (k : Int) ∧ Hid (nmTo s k) ∧ wr = w)
  case atStart => exact ⟨0, by omega, rfl, (fun j _ h => absurd h (by omega)), rfl⟩
  case round =>
    obtain ⟨k, hkg, rfl, hno, rfl⟩ := hrel
    by_cases hk : k < s.size
    · have HB : Hid (nmB s[k] = false → nmErr s = 3) := fun h => nmErr_no (nm_bad s k hk h)
      have HG : Hid (nmB s[k] = true → nmTo s (k + 1)) := fun h => nmTo_succ s k hk hno.out h
      have j0 : (0 : Int) ≤ (k : Int) := by omega
      have j1 : (k : Int) < (s.size : Int) := by omega
      rcases nmB_ways s[k] with ⟨⟨f1, f2⟩, g⟩ | ⟨⟨f1, f2, f3⟩, g⟩ | ⟨⟨f1, f2, f3⟩, g⟩ | ⟨⟨f1, f2, f3⟩, g⟩ | ⟨⟨f1, f2, f3, f4⟩, g⟩ | ⟨⟨f1, f2, f3, f4, f5⟩, g⟩
      · go_wp2_with fail
        go_roundg (s.size - (k + 1))
        case measure => omega
        case rel => exact ⟨k + 1, by omega, by go_num, HG.out g, rfl⟩
      · go_wp2_with fail
        go_roundg (s.size - (k + 1))
        case measure => omega
        case rel => exact ⟨k + 1, by omega, by go_num, HG.out g, rfl⟩
      · go_wp2_with fail
        go_roundg (s.size - (k + 1))
        case measure => omega
        case rel => exact ⟨k + 1, by omega, by go_num, HG.out g, rfl⟩
      · go_wp2_with fail
        go_ret
        exact ⟨by rw [HB.out g]; rfl, rfl⟩
      · go_wp2_with fail
        go_ret
        exact ⟨by rw [HB.out g]; rfl, rfl⟩
      · go_wp2_with fail
        go_ret
        exact ⟨by rw [HB.out g]; rfl, rfl⟩
    · obtain rfl : k = s.size := by omega
      have hv := HA.out hno.out
      go_wp2_with fail
      go_ret
      exact ⟨by rw [hv]; rfl, rfl⟩
end Go.Proofs.YtnlonleljbbgoaaGreatDoor
