/-
  DERIVED. Values, properties and blocks of a base as they lie in memory. Conditions: none.
  strings.IndexRune at the two brackets, of a rune beyond ASCII. Conditions: a valid rune.
  strings.IndexAny at the two brackets, of every text. Conditions: a length in reach.
  By an AI agent.
-/
import Derived.Test.YtemngidkfgcigaaGreatDoorKa01
import Derived.Test.YtemngidkfgcigaaGreatDoorKa04
import Derived.Test.YtemngidkfgcigaaGreatDoorKa02
import Derived.Test.YtemngidkfgcigaaGreatDoorChecked
import Derived.Deep.LoopGhost
import Derived.Deep.QuietTactic
import Derived.BigQuiet
import Derived.Laws.Runes
import Derived.Lib.OthersKept
import Derived.Lib.DecodeN
namespace Go.Proofs.YtemngidkfgcigaaGreatDoor
open Go.RowKit

/-- a value of a property -/
inductive Vl where
  | mk (kind int_ to_ : Int) (text : ByteArray) (items : List Vl)
def Vl.kind : Vl → Int | .mk k _ _ _ _ => k
def Vl.int_ : Vl → Int | .mk _ i _ _ _ => i
def Vl.to_ : Vl → Int | .mk _ _ t _ _ => t
def Vl.text : Vl → ByteArray | .mk _ _ _ s _ => s
def Vl.items : Vl → List Vl | .mk _ _ _ _ l => l
structure Pr where
  name : ByteArray
  val : Vl
structure Bl where
  id : Int
  parent : Int
  kids : List Int
  text : ByteArray
  props : List Pr
/-- five cells: a value, its items told apart -/
def vlV (x : Vl × Value) : List Value := [.int .i64 x.1.kind, .int .i64 x.1.int_, .int .i64 x.1.to_, .string x.1.text, x.2]
theorem vlV_len (x : Vl × Value) : (vlV x).length = 5 := rfl
/-- a list of values in memory, below B, at most d deep -/
def RVd (W : World) (B : Nat) : Nat → Value → List Vl → Prop
  | 0, v, l => l = [] ∧ ∃ A c, v = .slice A 0 c
  | d + 1, v, l => ∃ A n c, ∃ M : List (Vl × Value), M.map Prod.fst = l ∧ v = .slice A n c ∧ n = M.length ∧ (n ≤ c ∧ n * 64 ≤ 140737488351232) ∧ Reads W B 5 A n (M.flatMap vlV) ∧ ∀ x ∈ M, RVd W B d x.2 x.1.items
def RV (W : World) (B : Nat) (v : Value) (l : List Vl) : Prop := ∃ d, RVd W B d v l
/-- six cells: a property -/
def prV (x : Pr × Value) : List Value := .string x.1.name :: vlV (x.1.val, x.2)
theorem prV_len (x : Pr × Value) : (prV x).length = 6 := rfl
def RPr (W : World) (B : Nat) (v : Value) (l : List Pr) : Prop := ∃ A n c, ∃ M : List (Pr × Value), M.map Prod.fst = l ∧ v = .slice A n c ∧ n = M.length ∧ (n ≤ c ∧ n * 80 ≤ 140737488351232) ∧ Reads W B 6 A n (M.flatMap prV) ∧ ∀ x ∈ M, RV W B x.2 x.1.val.items
/-- a number that an int holds -/
def I64 (x : Int) : Prop := -9223372036854775808 ≤ x ∧ x ≤ 9223372036854775807
def RIn (W : World) (B : Nat) (v : Value) (l : List Int) : Prop := ∃ A n c, v = .slice A n c ∧ n = l.length ∧ (n ≤ c ∧ n * 8 ≤ 140737488351232) ∧ Reads W B 1 A n (l.map (.int .i64)) ∧ ∀ x ∈ l, I64 x
/-- five cells: a block, its kids and properties told apart -/
def blV (x : Bl × Value × Value) : List Value := [.int .i64 x.1.id, .int .i64 x.1.parent, x.2.1, .string x.1.text, x.2.2]
theorem blV_len (x : Bl × Value × Value) : (blV x).length = 5 := rfl
def RB (W : World) (B : Nat) (v : Value) (l : List Bl) : Prop := ∃ A n c, ∃ M : List (Bl × Value × Value), M.map Prod.fst = l ∧ v = .slice A n c ∧ n = M.length ∧ (n ≤ c ∧ n * 80 ≤ 140737488351232) ∧ Reads W B 5 A n (M.flatMap blV) ∧ ∀ x ∈ M, RIn W B x.2.1 x.1.kids ∧ RPr W B x.2.2 x.1.props
section
variable {W W' : World} {B B' : Nat} {v : Value}
theorem RVd.below (hb : Below B W W') : ∀ {d : Nat} {v : Value} {l : List Vl}, RVd W B d v l → RVd W' B d v l
  | 0, _, _, h => h
  | _ + 1, _, _, ⟨A, n, c, M, h1, h2, h3, h4, h5, h6⟩ => ⟨A, n, c, M, h1, h2, h3, h4, h5.below hb, fun x hx => RVd.below hb (h6 x hx)⟩
theorem RVd.more (hB : B ≤ B') : ∀ {d : Nat} {v : Value} {l : List Vl}, RVd W B d v l → RVd W B' d v l
  | 0, _, _, h => h
  | _ + 1, _, _, ⟨A, n, c, M, h1, h2, h3, h4, h5, h6⟩ => ⟨A, n, c, M, h1, h2, h3, h4, h5.more hB, fun x hx => RVd.more hB (h6 x hx)⟩
theorem RVd.deeper : ∀ {d : Nat} {v : Value} {l : List Vl}, RVd W B d v l → RVd W B (d + 1) v l
  | 0, _, _, ⟨h1, A, c, h2⟩ => ⟨A, 0, c, [], by rw [h1]; rfl, h2, rfl, ⟨Nat.zero_le _, by omega⟩, ⟨rfl, fun h => absurd h (by omega)⟩, fun x hx => by cases hx⟩
  | d + 1, _, _, ⟨A, n, c, M, h1, h2, h3, h4, h5, h6⟩ => ⟨A, n, c, M, h1, h2, h3, h4, h5, fun x hx => RVd.deeper (h6 x hx)⟩
theorem RV.below {l : List Vl} (h : RV W B v l) (hb : Below B W W') : RV W' B v l := h.imp fun _ h => h.below hb
theorem RV.more {l : List Vl} (h : RV W B v l) (hB : B ≤ B') : RV W B' v l := h.imp fun _ h => h.more hB
/-- a list of values opened one step -/
theorem RV.open_ {l : List Vl} (h : RV W B v l) : ∃ A n c, ∃ M : List (Vl × Value), M.map Prod.fst = l ∧ v = .slice A n c ∧ n = M.length ∧ (n ≤ c ∧ n * 64 ≤ 140737488351232) ∧ Reads W B 5 A n (M.flatMap vlV) ∧ ∀ x ∈ M, RV W B x.2 x.1.items := by
  obtain ⟨d, h⟩ := h
  obtain ⟨A, n, c, M, h1, h2, h3, h4, h5, h6⟩ := h.deeper
  exact ⟨A, n, c, M, h1, h2, h3, h4, h5, fun x hx => ⟨d, h6 x hx⟩⟩
theorem RPr.below {l : List Pr} (h : RPr W B v l) (hb : Below B W W') : RPr W' B v l := by
  obtain ⟨A, n, c, M, h1, h2, h3, h4, h5, h6⟩ := h
  exact ⟨A, n, c, M, h1, h2, h3, h4, h5.below hb, fun x hx => (h6 x hx).below hb⟩
theorem RPr.more {l : List Pr} (h : RPr W B v l) (hB : B ≤ B') : RPr W B' v l := by
  obtain ⟨A, n, c, M, h1, h2, h3, h4, h5, h6⟩ := h
  exact ⟨A, n, c, M, h1, h2, h3, h4, h5.more hB, fun x hx => (h6 x hx).more hB⟩
theorem RIn.below {l : List Int} (h : RIn W B v l) (hb : Below B W W') : RIn W' B v l := by
  obtain ⟨A, n, c, h1, h2, h3, h4, h5⟩ := h
  exact ⟨A, n, c, h1, h2, h3, h4.below hb, h5⟩
theorem RIn.more {l : List Int} (h : RIn W B v l) (hB : B ≤ B') : RIn W B' v l := by
  obtain ⟨A, n, c, h1, h2, h3, h4, h5⟩ := h
  exact ⟨A, n, c, h1, h2, h3, h4.more hB, h5⟩
theorem RB.below {l : List Bl} (h : RB W B v l) (hb : Below B W W') : RB W' B v l := by
  obtain ⟨A, n, c, M, h1, h2, h3, h4, h5, h6⟩ := h
  exact ⟨A, n, c, M, h1, h2, h3, h4, h5.below hb, fun x hx => ⟨(h6 x hx).1.below hb, (h6 x hx).2.below hb⟩⟩
theorem RB.more {l : List Bl} (h : RB W B v l) (hB : B ≤ B') : RB W B' v l := by
  obtain ⟨A, n, c, M, h1, h2, h3, h4, h5, h6⟩ := h
  exact ⟨A, n, c, M, h1, h2, h3, h4, h5.more hB, fun x hx => ⟨(h6 x hx).1.more hB, (h6 x hx).2.more hB⟩⟩
end

theorem RVd.up {W : World} {B d d' : Nat} {v : Value} {l : List Vl} (h : RVd W B d v l) (hd : d ≤ d') : RVd W B d' v l := by
  induction hd with
  | refl => exact h
  | step _ ih => exact ih.deeper

/-! ### a list row by row -/
theorem fm_get {α : Type} (enc : α → List Value) (c : Nat) (h : ∀ x, (enc x).length = c) : ∀ (M : List α) (k i : Nat) (x : α), M[k]? = some x → i < c → (M.flatMap enc)[k * c + i]? = (enc x)[i]?
  | [], k, i, x, hk, hi => by simp at hk
  | a :: M, 0, i, x, hk, hi => by
    obtain rfl : a = x := by simpa using hk
    rw [List.flatMap_cons, Nat.zero_mul, Nat.zero_add, List.getElem?_append_left (by rw [h]; exact hi)]
  | a :: M, k + 1, i, x, hk, hi => by
    have := fm_get enc c h M k i x (by simpa using hk) hi
    rw [List.flatMap_cons, List.getElem?_append_right (by rw [h, Nat.succ_mul]; omega), h, ← this]
    congr 1; rw [Nat.succ_mul]; omega
theorem Reads.plain_at {α : Type} {enc : α → List Value} {c : Nat} (hc0 : 0 < c) (henc : ∀ x, (enc x).length = c) {w : World} {B n : Nat} {A : Option Addr} {M : List α} (h : Reads w B c A n (M.flatMap enc)) (hn : n = M.length) {k : Nat} {x : α} (hk : M[k]? = some x) :
    ∃ b off, A = some ⟨b, off, none⟩ ∧ b < B ∧ ∀ i u, (enc x)[i]? = some u → w.cell? ⟨b, off + k * c + i, none⟩ = some u := by
  have hkl : k < M.length := (List.getElem?_eq_some_iff.1 hk).1
  obtain ⟨b, off, e, hb, hcell⟩ := h.plain (by omega) hc0
  refine ⟨b, off, e, hb, fun i u hu => ?_⟩
  rw [Nat.add_assoc]
  refine hcell _ _ ?_
  rw [fm_get enc c henc M k i x hk (by rw [← henc x]; exact (List.getElem?_eq_some_iff.1 hu).1)]
  exact hu
theorem RIn.slice {w : World} {B : Nat} {v : Value} {l : List Int} (h : RIn w B v l) : ∃ A n c, v = .slice A n c := by
  obtain ⟨A, n, c, h1, _⟩ := h
  exact ⟨A, n, c, h1⟩
theorem RPr.slice {w : World} {B : Nat} {v : Value} {l : List Pr} (h : RPr w B v l) : ∃ A n c, v = .slice A n c := by
  obtain ⟨A, n, c, M, _, h1, _⟩ := h
  exact ⟨A, n, c, h1⟩
section
variable {w : World} {B : Nat} {A : Option Addr} {n c : Nat}
theorem RIn.len {l : List Int} (h : RIn w B (.slice A n c) l) : n = l.length ∧ n ≤ c ∧ n * 8 ≤ 140737488351232 := by
  obtain ⟨A', n', c', e, h1, h2, _⟩ := h
  injection e with e1 e2 e3
  subst e2 e3
  exact ⟨h1, h2⟩
theorem RIn.reads {l : List Int} (h : RIn w B (.slice A n c) l) : Reads w B 1 A n (l.map (.int .i64)) := by
  obtain ⟨A', n', c', e, h1, h2, h3, _⟩ := h
  injection e with e1 e2 e3
  subst e1 e2 e3
  exact h3
theorem RIn.i64 {v : Value} {l : List Int} (h : RIn w B v l) {x : Int} (hx : x ∈ l) : I64 x := by
  obtain ⟨A', n', c', e, h1, h2, h3, h4⟩ := h
  exact h4 x hx
/-- a number in a row -/
theorem RIn.at_ {l : List Int} (h : RIn w B (.slice A n c) l) {k : Nat} {x : Int} (hk : l[k]? = some x) : ∃ b off, A = some ⟨b, off, none⟩ ∧ b < B ∧ w.cell? ⟨b, off + k, none⟩ = some (.int .i64 x) := by
  have hl := h.len.1
  have hkl := (List.getElem?_eq_some_iff.1 hk).1
  obtain ⟨b, off, e, hb, hc⟩ := h.reads.plain (by omega) (by omega)
  exact ⟨b, off, e, hb, hc k _ (by rw [List.getElem?_map, hk]; rfl)⟩
theorem RB.len {l : List Bl} (h : RB w B (.slice A n c) l) : n = l.length ∧ n ≤ c ∧ n * 80 ≤ 140737488351232 := by
  obtain ⟨A', n', c', M, h1, e, h2, h3, _⟩ := h
  injection e with e1 e2 e3
  subst e2 e3
  exact ⟨by rw [h2, ← h1, List.length_map], h3⟩
/-- a block in a row -/
theorem RB.at_ {l : List Bl} (h : RB w B (.slice A n c) l) {k : Nat} {x : Bl} (hk : l[k]? = some x) : ∃ b off Ak nk ck Ap np cp, A = some ⟨b, off, none⟩ ∧ b < B ∧ w.cell? ⟨b, off + k * 5, none⟩ = some (.int .i64 x.id) ∧ w.cell? ⟨b, off + k * 5 + 1, none⟩ = some (.int .i64 x.parent) ∧ w.cell? ⟨b, off + k * 5 + 2, none⟩ = some (.slice Ak nk ck) ∧ w.cell? ⟨b, off + k * 5 + 3, none⟩ = some (.string x.text) ∧ w.cell? ⟨b, off + k * 5 + 4, none⟩ = some (.slice Ap np cp) ∧ RIn w B (.slice Ak nk ck) x.kids ∧ RPr w B (.slice Ap np cp) x.props := by
  obtain ⟨A', n', c', M, h1, e, h2, h3, h4, h5⟩ := h
  injection e with e1 e2 e3
  subst e1 e2 e3
  obtain ⟨y, hy, rfl⟩ : ∃ y, M[k]? = some y ∧ y.1 = x := by
    rw [← h1, List.getElem?_map, Option.map_eq_some_iff] at hk
    exact hk
  obtain ⟨b, off, e, hb, hc⟩ := h4.plain_at (by omega) blV_len h2 hy
  obtain ⟨k1, k2⟩ := h5 y (List.mem_of_getElem? hy)
  obtain ⟨⟨id, par, kids, txt, props⟩, kv, pv⟩ := y
  obtain ⟨Ak, nk, ck, rfl⟩ := k1.slice
  obtain ⟨Ap, np, cp, rfl⟩ := k2.slice
  exact ⟨b, off, Ak, nk, ck, Ap, np, cp, e, hb, hc 0 _ rfl, hc 1 _ rfl, hc 2 _ rfl, hc 3 _ rfl, hc 4 _ rfl, k1, k2⟩
end
end Go.Proofs.YtemngidkfgcigaaGreatDoor
namespace Go.Proofs.YtemngidkfgcigaaGreatDoor
open Go.RowKit


set_option maxHeartbeats 2000000 in
set_option maxRecDepth 100000 in
theorem indexRune_br (r : Int) (w : World) (h1 : 128 ≤ r) (hv : (0 ≤ r ∧ r < 55296) ∨ (57343 < r ∧ r ≤ 1114111)) :
    Calls Tryz.prog 84 #[.string ⟨#[91, 93]⟩, .int .i32 r] w fun e w' => e = .returned (.int .i64 (-1)) ∧ Below w.heap.size w w' := by
  have h0 : (0 : Int) ≤ r := by omega
  have hr : r ≤ 1114111 := by omega
  have hn : ¬ r < 128 := by omega
  have HV := Lib.hid hv
  have hval : Utf8.valid r = true := by unfold Utf8.valid; simp; omega
  obtain ⟨e1, e2, e3⟩ := encode_facts r hval h1
  obtain ⟨T, hT⟩ : ∃ T, T = Utf8.encode r := ⟨_, rfl⟩
  rw [← hT] at e1 e2 e3
  have HT := Lib.hid hT
  clear hv hval hT
  by_cases hE : r = 65533
  · subst hE
    go_enter Tryz.func84, Tryz.ntmps84
    clear HT e1 e2 e3 HV
    go_wp2_with fail
    go_loopg [5, 6] 2 (fun g _ _ wx => ∃ i : Nat, i + g = 2 ∧ wx = w.iter ⟨#[91, 93]⟩ i)
    case atStart => exact ⟨0, by omega, rfl⟩
    case round =>
      obtain ⟨i, hig, rfl⟩ := hrel
      have ways : i = 0 ∨ i = 1 ∨ i = 2 := by omega
      rcases ways with rfl | rfl | rfl
      · have hnx := fun ty => run_next_ascii (P := Tryz.prog) w ⟨#[91, 93]⟩ 0 ty (by decide) (by decide)
        go_wp2
        go_roundg 1
        case measure => omega
        case rel => exact ⟨1, by omega, rfl⟩
      · have hnx := fun ty => run_next_ascii (P := Tryz.prog) w ⟨#[91, 93]⟩ 1 ty (by decide) (by decide)
        go_wp2
        go_roundg 0
        case measure => omega
        case rel => exact ⟨2, by omega, rfl⟩
      · have hnx := run_next_end (P := Tryz.prog) w ⟨#[91, 93]⟩ 2
        go_wp2
        go_ret
        exact ⟨rfl, (Below.refl _ _).alloc (Nat.le_refl _) _⟩
  · have hE' : (r == 65533) = false := by simpa using hE
    clear hE
    go_enter Tryz.func84, Tryz.ntmps84
    go_wp2_with fail
    refine (validRune_any r _ HV.out).mono ?_
    rintro e w1 ⟨rfl, hw⟩
    rw [← hw]
    clear hw
    have hT' := HT.out.symm
    have HB : Hid (∀ (x : Int) w, Calls Tryz.prog 69 #[.string ByteArray.empty, .int .u8 x] w fun e w' => e = .returned (.int .i64 (-1)) ∧ w' = w) := fun x w => Tryz.strings_IndexByte _ x w
    by_cases h2 : T.size = 2
    · have h3 := e3 (by omega)
      obtain ⟨hl, q⟩ : ∃ hl : 1 < T.size, ((((⟨#[91, 93]⟩ : ByteArray)[1]'(by decide)).toNat : Int) != (T[1].toNat : Int)) = true := by
        refine ⟨by omega, ?_⟩
        show ((93 : Int) != (T[1].toNat : Int)) = true
        have h4 : T[1] = T[T.size - 1] := by congr 1; omega
        rw [h4]; simp; omega
      clear e1 e2 e3 h3
      go_wp2_with fail
      go_step3
      go_wp2_with fail
      go_loopg [9, 10] 0 (fun g s9 s10 wr => s9 = .int .i64 1 ∧ s10 = .int .i64 0 ∧ wr = w)
      case atStart => exact ⟨by go_num, rfl, rfl⟩
      case round =>
        obtain ⟨rfl, rfl, rfl⟩ := hrel
        go_wp2_with fail
        go_step3
        go_wp2_with fail
        go_quiet (fail)
        go_wp2_with fail
        have hwr : IntKind.i64.wrap 2 = 2 := by decide
        go_quiet (refine (HB.out _ _).mono (fun _ _ h => ⟨h.1, _, h.2⟩))
        go_wp2_with fail
        rw [Exit.noGoto_ret]
        simp only [Exit.inBlock, Exit.then]
        rw [Exit.noGoto_ret]
        go_ret
        exact ⟨rfl, bdrew (Below.refl _ _) _⟩
    · have h2' : (2 : Int) ≤ (T.size : Int) - 1 := by omega
      have h2'' : ¬ ((T.size : Int) - 1 < 2) := by omega
      clear e3
      go_wp2_with fail
      go_step3
      go_wp2_with fail
      go_loopg [9, 10] 0 (fun g s9 s10 wr => s9 = .int .i64 (T.size - 1) ∧ s10 = .int .i64 0 ∧ wr = w)
      case atStart => exact ⟨by go_num, rfl, rfl⟩
      case round =>
        obtain ⟨rfl, rfl, rfl⟩ := hrel
        go_wp2_with fail
        try rw [Exit.noGoto_ret]
        go_ret
        exact ⟨rfl, Below.refl _ _⟩
end Go.Proofs.YtemngidkfgcigaaGreatDoor
namespace Go.Proofs.YtemngidkfgcigaaGreatDoor
open Go.RowKit



theorem noAny_more {s : ByteArray} {i k : Nat} (h : Lib.NoAny s.data.toList [91, 93] i) (hm : ∀ j (hj : j < s.size), i ≤ j → j < k → 128 ≤ (s[j]).toNat) : Lib.NoAny s.data.toList [91, 93] k := by
  intro j b hj hb
  rcases Nat.lt_or_ge j i with g | g
  · exact h j b g hb
  · obtain ⟨hjs, e⟩ := List.getElem?_eq_some_iff.1 hb
    have hjs' : j < s.size := by simpa using hjs
    have := hm j hjs' g hj
    have e2 : s[j] = b := by rw [← e]; rfl
    rw [e2] at this
    simp
    refine ⟨fun e => ?_, fun e => ?_⟩ <;> (subst e; simp at this)

set_option maxHeartbeats 2000000 in
set_option maxRecDepth 100000 in
theorem indexAny_short (s : ByteArray) (w : World) (hs : s.size ≤ 8) :
    Calls Tryz.prog 71 #[.string s, .string ⟨#[91, 93]⟩] w fun e w' => e = .returned (.int .i64 (Lib.indexAny s.data.toList [91, 93])) ∧ Below w.heap.size w w' := by
  have hemp : (⟨#[91, 93]⟩ : ByteArray).toList.isEmpty = false := by rw [Lib.toList_data]; rfl
  have h8z : ¬ ((8 : Int) < (s.size : Int)) := by omega
  go_enter Tryz.func71, Tryz.ntmps71
  go_wp2_with (first | (go_at_call 85; go_in))
  go_loopg [9, 10] s.size (fun g _ _ wx => ∃ i : Nat, i ≤ s.size ∧ s.size - i ≤ g ∧ wx.heap[w.heap.size]? = some (.stringIter s i) ∧ Below w.heap.size w wx ∧ Lib.NoAny s.data.toList [91, 93] i)
  case atStart => exact ⟨0, Nat.zero_le _, by omega, World.iter_heap w s 0, (Below.refl _ _).alloc (Nat.le_refl _) _, Lib.NoAny.zero _ _⟩
  case round =>
    obtain ⟨i, hi, hig, hit, hbel, hno⟩ := hrel
    have HN := Lib.hid hno
    have HB := Lib.hid hbel
    have hsz := hbel.size
    have hkz : w.heap.size < wr.heap.size := by
      rcases Nat.lt_or_ge w.heap.size wr.heap.size with h' | h'
      · exact h'
      · simp [Array.getElem?_eq_none h'] at hit
    clear hno hbel
    by_cases his : i < s.size
    · have hxl : s.data.toList[i]? = some s[i] := Lib.data_getElem? s i his
      have HX := Lib.hid hxl
      clear hxl
      by_cases hx128 : (s[i]).toNat < 128
      · have hnx := fun ty => Lib.run_next_ascii_at (P := Tryz.prog) wr w.heap.size s i ty hit his hx128
        have hit2 := Lib.iterAt_heap wr w.heap.size s i (i + 1) hit
        have hbel2 := Lib.below_iterAt HB.out (Nat.le_refl _) s (i + 1)
        obtain ⟨x, hx⟩ : ∃ x : UInt8, s[i] = x := ⟨_, rfl⟩
        rw [hx] at hnx hx128 HX
        obtain ⟨W, hW⟩ : ∃ W, W = wr.iterAt w.heap.size s (i + 1) := ⟨_, rfl⟩
        rw [← hW] at hnx hit2 hbel2
        have HW := Lib.hid (And.intro hit2 hbel2)
        have hxi : (x.toNat : Int) < 128 := by omega
        have hcon := Lib.contains_iff_indexByte [91, 93] x
        have hback : ((x.toNat : Int)).toNat.toUInt8 = x := by simp
        have HBK := Lib.hid hback
        clear hit hx hW hit2 hbel2 hback
        cases hin : ([91, 93] : List UInt8).contains x
        · rw [hin] at hcon
          have hlt : ¬ ((0 : Int) ≤ Lib.indexByte [91, 93] x) := of_decide_eq_false hcon.symm
          have HN2 := Lib.hid (HN.out.succ HX.out hin)
          clear hcon hin
          go_wp2_with fail
          refine (Tryz.strings_IndexRune_ascii _ _ _ (by omega) hxi).mono ?_
          rintro e w1 ⟨rfl, hw⟩
          rw [hw, HBK.out, show (⟨#[91, 93]⟩ : ByteArray).data.toList = [91, 93] from rfl]
          clear hw
          go_wp2
          go_roundg (s.size - (i + 1))
          case measure => omega
          case rel => exact ⟨i + 1, by omega, by omega, HW.out.1, HW.out.2, HN2.out⟩
        · rw [hin] at hcon
          have hge : (0 : Int) ≤ Lib.indexByte [91, 93] x := of_decide_eq_true hcon.symm
          have HR : Hid (Lib.indexAny s.data.toList [91, 93] = (i : Int)) := Lib.indexAny_hit HN.out HX.out hin
          clear hcon hin
          go_wp2_with fail
          refine (Tryz.strings_IndexRune_ascii _ _ _ (by omega) hxi).mono ?_
          rintro e w1 ⟨rfl, hw⟩
          rw [hw, HBK.out, show (⟨#[91, 93]⟩ : ByteArray).data.toList = [91, 93] from rfl]
          clear hw
          go_wp2
          go_ret
          exact ⟨by rw [HR.out]; rfl, HW.out.2⟩
      · obtain ⟨f1, f2, f3, f4, f5⟩ := decode_far his (by omega)
        have hnx := fun ty => Lib.run_next_any_at (P := Tryz.prog) wr w.heap.size s i ty hit his
        obtain ⟨r, hr⟩ : ∃ r, r = (Utf8.decode s i).1 := ⟨_, rfl⟩
        obtain ⟨d, hd⟩ : ∃ d, d = (Utf8.decode s i).2 := ⟨_, rfl⟩
        rw [← hr] at f1 f2 hnx
        rw [← hd] at f3 f4 f5 hnx
        have hit2 := Lib.iterAt_heap wr w.heap.size s i (i + d) hit
        have hbel2 := Lib.below_iterAt HB.out (Nat.le_refl _) s (i + d)
        have HN2 := Lib.hid (noAny_more HN.out f5)
        obtain ⟨W, hW⟩ : ∃ W, W = wr.iterAt w.heap.size s (i + d) := ⟨_, rfl⟩
        have hWz : W.heap.size = wr.heap.size := by rw [hW]; exact Lib.iterAt_size _ _ _ _
        rw [← hW] at hnx hit2 hbel2
        have HW := Lib.hid (And.intro hit2 hbel2)
        clear hit hW hit2 hbel2 hr hd f5 hx128
        go_wp2_with fail
        refine (indexRune_br (r : Int) _ (by omega) (by omega)).mono ?_
        rintro e w1 ⟨rfl, hb1⟩
        have HW1 := Lib.hid (And.intro ((hb1.block w.heap.size (by omega)).trans HW.out.1) (HW.out.2.trans (hb1.mono (by omega))))
        clear hb1
        go_wp2
        go_roundg (s.size - (i + d))
        case measure => omega
        case rel => exact ⟨i + d, by omega, by omega, HW1.out.1, HW1.out.2, HN2.out⟩
    · obtain rfl : i = s.size := by omega
      have hnx := fun ty => Lib.run_next_end_at (P := Tryz.prog) wr w.heap.size s s.size ty hit his
      go_wp2
      go_ret
      exact ⟨by rw [Lib.indexAny_none (by rw [← Lib.size_eq]; exact HN.out)]; rfl, HB.out⟩

theorem indexAny_br (s : ByteArray) (w : World) (hs : s.size ≤ 4294967280) :
    Calls Tryz.prog 71 #[.string s, .string ⟨#[91, 93]⟩] w fun e w' => e = .returned (.int .i64 (Lib.indexAny s.data.toList [91, 93])) ∧ Below w.heap.size w w' := by
  by_cases h8 : s.size ≤ 8
  · exact indexAny_short s w h8
  · refine (Tryz.strings_IndexAny_long (zero_of_info set_info).1 s ⟨#[91, 93]⟩ w (by decide) (by omega) (by omega) (by decide) (fun j b hb => ?_)).mono fun e w' ⟨h1, h2⟩ => ⟨h1, ?_⟩
    · match j, hb with
      | 0, hb => simp at hb; subst hb; decide
      | 1, hb => simp at hb; subst hb; decide
      | j + 2, hb => simp at hb
    · rw [h2]
      exact ((Below.refl _ _).alloc (Nat.le_refl _) _).alloc (by simp) _
end Go.Proofs.YtemngidkfgcigaaGreatDoor
