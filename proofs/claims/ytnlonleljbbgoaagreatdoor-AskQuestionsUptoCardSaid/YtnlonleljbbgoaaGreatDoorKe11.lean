/-
  DERIVED. Values, properties, numbers and blocks of a base in memory, in blocks that meet a condition. Conditions: none.
  Conditions: as trees, and in memory. Conditions: none.
  By an AI agent.
-/
import Derived.Test.YtnlonleljbbgoaaGreatDoorKe07
import Derived.WalkSpells
import Derived.Deep.QuietTactic
import Derived.BigQuiet
import Derived.Deep.LoopGhost
import Derived.Test.YtnlonleljbbgoaaGreatDoorChecked
namespace Go.Proofs.YtnlonleljbbgoaaGreatDoor
open Go.RowKit

/-- a slice that reads as a list, its block of a sort -/
def RdX (w : World) (S : Nat → Prop) (size : Nat) (A : Option Addr) (n : Nat) (xs : List Value) : Prop :=
  xs.length = n * size ∧ (0 < n → ∃ ad, A = some ad ∧ S ad.block ∧ ∀ j u, xs[j]? = some u → w.cell? (ad.add j) = some u)
def RVdX (W : World) (S : Nat → Prop) : Nat → Value → List Vl → Prop
  | 0, v, l => l = [] ∧ ∃ A c, v = .slice A 0 c
  | d + 1, v, l => ∃ A n c, ∃ M : List (Vl × Value), M.map Prod.fst = l ∧ v = .slice A n c ∧ n = M.length ∧ (n ≤ c ∧ n * 64 ≤ 140737488351232) ∧ RdX W S 5 A n (M.flatMap vlV) ∧ ∀ x ∈ M, RVdX W S d x.2 x.1.items
def RVX (W : World) (S : Nat → Prop) (v : Value) (l : List Vl) : Prop := ∃ d, RVdX W S d v l
def RPrX (W : World) (S : Nat → Prop) (v : Value) (l : List Pr) : Prop := ∃ A n c, ∃ M : List (Pr × Value), M.map Prod.fst = l ∧ v = .slice A n c ∧ n = M.length ∧ (n ≤ c ∧ n * 80 ≤ 140737488351232) ∧ RdX W S 6 A n (M.flatMap prV) ∧ ∀ x ∈ M, RVX W S x.2 x.1.val.items
def RInX (W : World) (S : Nat → Prop) (v : Value) (l : List Int) : Prop := ∃ A n c, v = .slice A n c ∧ n = l.length ∧ (n ≤ c ∧ n * 8 ≤ 140737488351232) ∧ RdX W S 1 A n (l.map (.int .i64)) ∧ ∀ x ∈ l, I64 x
def RBX (W : World) (S : Nat → Prop) (v : Value) (l : List Bl) : Prop := ∃ A n c, ∃ M : List (Bl × Value × Value), M.map Prod.fst = l ∧ v = .slice A n c ∧ n = M.length ∧ (n ≤ c ∧ n * 80 ≤ 140737488351232) ∧ RdX W S 5 A n (M.flatMap blV) ∧ ∀ x ∈ M, RInX W S x.2.1 x.1.kids ∧ RPrX W S x.2.2 x.1.props
section
variable {w w' : World} {S S' : Nat → Prop} {B size n d : Nat} {A : Option Addr} {xs : List Value} {v : Value}
theorem RdX.keep (h : RdX w S size A n xs) (hk : ∀ p : Addr, S p.block → w'.cell? p = w.cell? p) : RdX w' S size A n xs :=
  ⟨h.1, fun hn => by
    obtain ⟨ad, e, hb, hc⟩ := h.2 hn
    exact ⟨ad, e, hb, fun j u hu => (hk _ (by rw [block_of_add]; exact hb)).trans (hc j u hu)⟩⟩
theorem RdX.weak (h : RdX w S size A n xs) (hS : ∀ b, S b → S' b) : RdX w S' size A n xs :=
  ⟨h.1, fun hn => by
    obtain ⟨ad, e, hb, hc⟩ := h.2 hn
    exact ⟨ad, e, hS _ hb, hc⟩⟩
theorem RdX.reads (h : RdX w S size A n xs) (hS : ∀ b, S b → b < B) : Reads w B size A n xs :=
  ⟨h.1, fun hn => by
    obtain ⟨ad, e, hb, hc⟩ := h.2 hn
    exact ⟨ad, e, hS _ hb, hc⟩⟩
theorem RdX.of (h : Reads w B size A n xs) : RdX w (· < B) size A n xs := h
theorem RdX.of_own {base : Nat} {e : TypeId} (h : w.ownsRow base e size v n xs) : ∃ A c, v = .slice A n c ∧ n ≤ c ∧ RdX w (fun b => v.ownBlock = some b ∧ base ≤ b ∧ b < w.heap.size) size A n xs := by
  obtain ⟨h1, h2⟩ := h
  rcases h2 with ⟨rfl, rfl⟩ | ⟨g, cap, cur, rfl, hg, hh, hnc, r⟩
  · exact ⟨none, 0, rfl, Nat.le_refl _, h1, fun hn => absurd hn (by omega)⟩
  · have hlt : g < w.heap.size := by
      rcases Nat.lt_or_ge g w.heap.size with h | h
      · exact h
      · rw [Array.getElem?_eq_none h] at hh; cases hh
    exact ⟨_, _, rfl, hnc, h1, fun _ => ⟨_, rfl, ⟨rfl, hg, hlt⟩, World.ownsRow.cells (g := g) ⟨h1, .inr ⟨g, cap, cur, rfl, hg, hh, hnc, r⟩⟩ rfl⟩⟩
theorem RVdX.keep (hk : ∀ p : Addr, S p.block → w'.cell? p = w.cell? p) : ∀ {d : Nat} {v : Value} {l : List Vl}, RVdX w S d v l → RVdX w' S d v l
  | 0, _, _, h => h
  | _ + 1, _, _, ⟨A, n, c, M, h1, h2, h3, h4, h5, h6⟩ => ⟨A, n, c, M, h1, h2, h3, h4, h5.keep hk, fun x hx => RVdX.keep hk (h6 x hx)⟩
theorem RVdX.weak (hS : ∀ b, S b → S' b) : ∀ {d : Nat} {v : Value} {l : List Vl}, RVdX w S d v l → RVdX w S' d v l
  | 0, _, _, h => h
  | _ + 1, _, _, ⟨A, n, c, M, h1, h2, h3, h4, h5, h6⟩ => ⟨A, n, c, M, h1, h2, h3, h4, h5.weak hS, fun x hx => RVdX.weak hS (h6 x hx)⟩
theorem RVdX.reads (hS : ∀ b, S b → b < B) : ∀ {d : Nat} {v : Value} {l : List Vl}, RVdX w S d v l → RVd w B d v l
  | 0, _, _, h => h
  | _ + 1, _, _, ⟨A, n, c, M, h1, h2, h3, h4, h5, h6⟩ => ⟨A, n, c, M, h1, h2, h3, h4, h5.reads hS, fun x hx => RVdX.reads hS (h6 x hx)⟩
theorem RVdX.of : ∀ {d : Nat} {v : Value} {l : List Vl}, RVd w B d v l → RVdX w (· < B) d v l
  | 0, _, _, h => h
  | _ + 1, _, _, ⟨A, n, c, M, h1, h2, h3, h4, h5, h6⟩ => ⟨A, n, c, M, h1, h2, h3, h4, h5, fun x hx => RVdX.of (h6 x hx)⟩
theorem RVdX.deeper : ∀ {d : Nat} {v : Value} {l : List Vl}, RVdX w S d v l → RVdX w S (d + 1) v l
  | 0, _, _, ⟨h1, A, c, h2⟩ => ⟨A, 0, c, [], by rw [h1]; rfl, h2, rfl, ⟨Nat.zero_le _, by omega⟩, ⟨rfl, fun h => absurd h (by omega)⟩, fun x hx => by cases hx⟩
  | d + 1, _, _, ⟨A, n, c, M, h1, h2, h3, h4, h5, h6⟩ => ⟨A, n, c, M, h1, h2, h3, h4, h5, fun x hx => RVdX.deeper (h6 x hx)⟩
theorem RVdX.deep {l : List Vl} (h : RVdX w S d v l) : ∀ {k : Nat}, RVdX w S (d + k) v l := by
  intro k
  induction k with
  | zero => exact h
  | succ k ih => exact ih.deeper
theorem RVX.keep {l : List Vl} (h : RVX w S v l) (hk : ∀ p : Addr, S p.block → w'.cell? p = w.cell? p) : RVX w' S v l := h.imp fun _ h => RVdX.keep hk h
theorem RVX.weak {l : List Vl} (h : RVX w S v l) (hS : ∀ b, S b → S' b) : RVX w S' v l := h.imp fun _ h => RVdX.weak hS h
theorem RVX.reads {l : List Vl} (h : RVX w S v l) (hS : ∀ b, S b → b < B) : RV w B v l := h.imp fun _ h => RVdX.reads hS h
theorem RVX.of {l : List Vl} (h : RV w B v l) : RVX w (· < B) v l := h.imp fun _ h => RVdX.of h
theorem RVX.all : ∀ {M : List (Vl × Value)}, (∀ x ∈ M, RVX w S x.2 x.1.items) → ∃ d, ∀ x ∈ M, RVdX w S d x.2 x.1.items
  | [], _ => ⟨0, fun x hx => by cases hx⟩
  | a :: M, h => by
    obtain ⟨d1, h1⟩ := h a (by simp)
    obtain ⟨d2, h2⟩ := RVX.all (M := M) fun x hx => h x (by simp [hx])
    refine ⟨d1 + d2, fun x hx => ?_⟩
    rcases List.mem_cons.1 hx with rfl | hx
    · exact h1.deep
    · have := (h2 x hx).deep (k := d1)
      rwa [Nat.add_comm] at this
theorem RVX.close {A : Option Addr} {n c : Nat} {M : List (Vl × Value)} (hn : n = M.length) (hc : n ≤ c) (hb : n * 64 ≤ 140737488351232) (hr : RdX w S 5 A n (M.flatMap vlV)) (h : ∀ x ∈ M, RVX w S x.2 x.1.items) : RVX w S (.slice A n c) (M.map Prod.fst) := by
  obtain ⟨d, hd⟩ := RVX.all h
  exact ⟨d + 1, A, n, c, M, rfl, rfl, hn, ⟨hc, hb⟩, hr, hd⟩
theorem RPrX.keep {l : List Pr} (h : RPrX w S v l) (hk : ∀ p : Addr, S p.block → w'.cell? p = w.cell? p) : RPrX w' S v l := by
  obtain ⟨A, n, c, M, h1, h2, h3, h4, h5, h6⟩ := h
  exact ⟨A, n, c, M, h1, h2, h3, h4, h5.keep hk, fun x hx => (h6 x hx).keep hk⟩
theorem RPrX.weak {l : List Pr} (h : RPrX w S v l) (hS : ∀ b, S b → S' b) : RPrX w S' v l := by
  obtain ⟨A, n, c, M, h1, h2, h3, h4, h5, h6⟩ := h
  exact ⟨A, n, c, M, h1, h2, h3, h4, h5.weak hS, fun x hx => (h6 x hx).weak hS⟩
theorem RPrX.reads {l : List Pr} (h : RPrX w S v l) (hS : ∀ b, S b → b < B) : RPr w B v l := by
  obtain ⟨A, n, c, M, h1, h2, h3, h4, h5, h6⟩ := h
  exact ⟨A, n, c, M, h1, h2, h3, h4, h5.reads hS, fun x hx => (h6 x hx).reads hS⟩
theorem RPrX.of {l : List Pr} (h : RPr w B v l) : RPrX w (· < B) v l := by
  obtain ⟨A, n, c, M, h1, h2, h3, h4, h5, h6⟩ := h
  exact ⟨A, n, c, M, h1, h2, h3, h4, h5, fun x hx => .of (h6 x hx)⟩
theorem RInX.keep {l : List Int} (h : RInX w S v l) (hk : ∀ p : Addr, S p.block → w'.cell? p = w.cell? p) : RInX w' S v l := by
  obtain ⟨A, n, c, h1, h2, h3, h4, h5⟩ := h
  exact ⟨A, n, c, h1, h2, h3, h4.keep hk, h5⟩
theorem RInX.weak {l : List Int} (h : RInX w S v l) (hS : ∀ b, S b → S' b) : RInX w S' v l := by
  obtain ⟨A, n, c, h1, h2, h3, h4, h5⟩ := h
  exact ⟨A, n, c, h1, h2, h3, h4.weak hS, h5⟩
theorem RInX.reads {l : List Int} (h : RInX w S v l) (hS : ∀ b, S b → b < B) : RIn w B v l := by
  obtain ⟨A, n, c, h1, h2, h3, h4, h5⟩ := h
  exact ⟨A, n, c, h1, h2, h3, h4.reads hS, h5⟩
theorem RInX.of {l : List Int} (h : RIn w B v l) : RInX w (· < B) v l := h
theorem RBX.keep {l : List Bl} (h : RBX w S v l) (hk : ∀ p : Addr, S p.block → w'.cell? p = w.cell? p) : RBX w' S v l := by
  obtain ⟨A, n, c, M, h1, h2, h3, h4, h5, h6⟩ := h
  exact ⟨A, n, c, M, h1, h2, h3, h4, h5.keep hk, fun x hx => ⟨(h6 x hx).1.keep hk, (h6 x hx).2.keep hk⟩⟩
theorem RBX.weak {l : List Bl} (h : RBX w S v l) (hS : ∀ b, S b → S' b) : RBX w S' v l := by
  obtain ⟨A, n, c, M, h1, h2, h3, h4, h5, h6⟩ := h
  exact ⟨A, n, c, M, h1, h2, h3, h4, h5.weak hS, fun x hx => ⟨(h6 x hx).1.weak hS, (h6 x hx).2.weak hS⟩⟩
theorem RBX.reads {l : List Bl} (h : RBX w S v l) (hS : ∀ b, S b → b < B) : RB w B v l := by
  obtain ⟨A, n, c, M, h1, h2, h3, h4, h5, h6⟩ := h
  exact ⟨A, n, c, M, h1, h2, h3, h4, h5.reads hS, fun x hx => ⟨(h6 x hx).1.reads hS, (h6 x hx).2.reads hS⟩⟩
/-- cells of blocks that stand are as they were -/
theorem keep_below {B : Nat} (hb : Below B w w') (hS : ∀ b, S b → b < B) : ∀ p : Addr, S p.block → w'.cell? p = w.cell? p := fun _ hp => hb.cell (hS _ hp)
theorem keep_grown {row : Option Nat} (hg : w.grownBy w' row) (hS : ∀ b, S b → b < w.heap.size ∧ some b ≠ row) : ∀ p : Addr, S p.block → w'.cell? p = w.cell? p := fun _ hp => World.cell?_of_block (hg.block _ (hS _ hp).1 (hS _ hp).2)
end
/-! ### a row of the call's own, with what its elements lead to -/
def Nest (α : Type) := World → (Nat → Prop) → α → Prop
def NestOk {α : Type} (N : Nest α) : Prop := ∀ (w w' : World) (S S' : Nat → Prop) (x : α), N w S x → (∀ p : Addr, S p.block → w'.cell? p = w.cell? p) → (∀ b, S b → S' b) → N w' S' x
/-- a row of the call's own; what its elements lead to lies in other blocks of the call's own -/
structure OwnX {α : Type} (enc : α → List Value) (size : Nat) (e : TypeId) (N : Nest α) (w : World) (base : Nat) (v : Value) (M : List α) : Prop where
  own : w.ownsRow base e size v M.length (M.flatMap enc)
  nest : ∀ x ∈ M, N w (fun b => base ≤ b ∧ b < w.heap.size ∧ v.ownBlock ≠ some b) x
theorem own_block_lt {w : World} {base n size : Nat} {e : TypeId} {v : Value} {xs : List Value} (h : w.ownsRow base e size v n xs) : ∀ g, v.ownBlock = some g → base ≤ g ∧ g < w.heap.size := by
  intro g hg
  rcases h.2 with ⟨rfl, _⟩ | ⟨g', cap, cur, rfl, hb, hh, _⟩
  · cases hg
  · injection hg with hg
    subst hg
    refine ⟨hb, ?_⟩
    rcases Nat.lt_or_ge g' w.heap.size with h | h
    · exact h
    · rw [Array.getElem?_eq_none h] at hh; cases hh
section
variable {α : Type} {enc : α → List Value} {size base : Nat} {e : TypeId} {N : Nest α} {w w' : World} {v v' : Value} {M : List α} {x : α}
theorem OwnX.start (w : World) (base : Nat) : OwnX enc size e N w base (.slice none 0 0) [] := ⟨World.ownsRow_nil w base e size, fun x hx => by cases hx⟩
theorem OwnX.below (hN : NestOk N) (h : OwnX enc size e N w base v M) (hb : Below w.heap.size w w') : OwnX enc size e N w' base v M :=
  ⟨own_below h.own hb, fun x hx => hN _ _ _ _ x (h.nest x hx) (fun _ hp => hb.cell hp.2.1) fun _b hb' => ⟨hb'.1, Nat.lt_of_lt_of_le hb'.2.1 hb.size, hb'.2.2⟩⟩
theorem OwnX.app (hN : NestOk N) (h : OwnX enc size e N w base v M) {S : Nat → Prop} (hx : N w S x) (hS : ∀ b, S b → base ≤ b ∧ b < w.heap.size ∧ v.ownBlock ≠ some b)
    (hown : w'.ownsRow base e size v' (M.length + 1) (M.flatMap enc ++ enc x)) (hg : w.grownBy w' v.ownBlock) (hat : v'.ownBlock = v.ownBlock ∨ v'.ownBlock = some w.heap.size) : OwnX enc size e N w' base v' (M ++ [x]) := by
  have key : ∀ b, base ≤ b ∧ b < w.heap.size ∧ v.ownBlock ≠ some b → base ≤ b ∧ b < w'.heap.size ∧ v'.ownBlock ≠ some b := fun b ⟨h1, h2, h3⟩ => by
    refine ⟨h1, Nat.lt_of_lt_of_le h2 hg.size, ?_⟩
    rcases hat with g | g
    · rw [g]; exact h3
    · rw [g]; intro e; injection e with e; omega
  refine ⟨by rw [List.length_append, List.flatMap_append]; simpa using hown, fun y hy => ?_⟩
  rcases List.mem_append.1 hy with hy | hy
  · exact hN _ _ _ _ y (h.nest y hy) (fun _ hp => World.cell?_of_block (hg.block _ hp.2.1 (fun e => hp.2.2 e.symm))) key
  · obtain rfl : y = x := by simpa using hy
    exact hN _ _ _ _ y hx (fun _ hp => World.cell?_of_block (hg.block _ (hS _ hp).2.1 (fun e => (hS _ hp).2.2 e.symm))) fun b hb => key b (hS b hb)
theorem OwnX.blocks (h : OwnX enc size e N w base v M) : ∀ g, v.ownBlock = some g → base ≤ g ∧ g < w.heap.size := own_block_lt h.own
end
theorem Reads.blk {w : World} {g size n : Nat} {t : TypeId} {cs : Array Value} (h : Blk w g t cs) (hs : cs.size = n * size) : Reads w (g + 1) size (some ⟨g, 0, none⟩) n cs.toList :=
  ⟨by simpa using hs, fun _ => ⟨_, rfl, Nat.lt_succ_self _, fun j u hu => by
    rw [Addr.add_lit, Nat.zero_add]
    rw [h.cell]
    simpa using hu⟩⟩
abbrev NV : Nest (Vl × Value) := fun w S x => RVX w S x.2 x.1.items
abbrev NP : Nest (Pr × Value) := fun w S x => RVX w S x.2 x.1.val.items
abbrev NB : Nest (Bl × Value × Value) := fun w S x => RInX w S x.2.1 x.1.kids ∧ RPrX w S x.2.2 x.1.props
theorem NV_ok : NestOk NV := fun _ _ _ _ _ h hk hS => (h.keep hk).weak hS
theorem NP_ok : NestOk NP := fun _ _ _ _ _ h hk hS => (h.keep hk).weak hS
theorem NB_ok : NestOk NB := fun _ _ _ _ _ h hk hS => ⟨(h.1.keep hk).weak hS, (h.2.keep hk).weak hS⟩
theorem vlV_one (x : Vl × Value) (hx : ∃ A n c, x.2 = .slice A n c) : ∀ u ∈ vlV x, u.oneCell' = true := by
  obtain ⟨x, v⟩ := x
  obtain ⟨A, n, c, rfl⟩ := hx
  intro u hu
  simp only [vlV, List.mem_cons, List.not_mem_nil, or_false] at hu
  rcases hu with rfl | rfl | rfl | rfl | rfl <;> rfl
theorem RVX.slice {w : World} {S : Nat → Prop} {v : Value} {l : List Vl} (h : RVX w S v l) : ∃ A n c, v = .slice A n c := by
  obtain ⟨d, h⟩ := h
  obtain ⟨A, n, c, M, _, h2, _⟩ := h.deeper
  exact ⟨A, n, c, h2⟩
end Go.Proofs.YtnlonleljbbgoaaGreatDoor
namespace Go.Proofs.YtnlonleljbbgoaaGreatDoor
open Go.RowKit

/-- a condition -/
inductive Cd where
  | mk (op : Int) (name text : ByteArray) (val : Vl) (num : Int) (kids : List Cd)
def Cd.op : Cd → Int | .mk o _ _ _ _ _ => o
def Cd.name : Cd → ByteArray | .mk _ s _ _ _ _ => s
def Cd.text : Cd → ByteArray | .mk _ _ s _ _ _ => s
def Cd.val : Cd → Vl | .mk _ _ _ v _ _ => v
def Cd.num : Cd → Int | .mk _ _ _ _ n _ => n
def Cd.kids : Cd → List Cd | .mk _ _ _ _ _ l => l
/-- ten cells: a condition, its value's items and its kids told apart -/
def cdV (x : Cd × Value × Value) : List Value := [.int .i64 x.1.op, .string x.1.name, .string x.1.text, .int .i64 x.1.val.kind, .int .i64 x.1.val.int_, .int .i64 x.1.val.to_, .string x.1.val.text, x.2.1, .int .i64 x.1.num, x.2.2]
theorem cdV_len (x : Cd × Value × Value) : (cdV x).length = 10 := rfl
/-- a condition as an aggregate -/
def ACd (x : Cd × Value × Value) : Value := .agg #[.int .i64 x.1.op, .string x.1.name, .string x.1.text, .int .i64 x.1.val.kind, .int .i64 x.1.val.int_, .int .i64 x.1.val.to_, .string x.1.val.text, x.2.1, .int .i64 x.1.num, x.2.2]
/-- conditions in a row, at most d deep -/
def RCdd (W : World) (B : Nat) : Nat → Value → List Cd → Prop
  | 0, v, l => l = [] ∧ ∃ A c, v = .slice A 0 c
  | d + 1, v, l => ∃ A n c, ∃ M : List (Cd × Value × Value), M.map Prod.fst = l ∧ v = .slice A n c ∧ n = M.length ∧ (n ≤ c ∧ n * 136 ≤ 140737488351232) ∧ Reads W B 10 A n (M.flatMap cdV) ∧ ∀ x ∈ M, RV W B x.2.1 x.1.val.items ∧ RCdd W B d x.2.2 x.1.kids
/-- a condition in hand: what its value and its kids lead to -/
def RCd (W : World) (B d : Nat) (vi vk : Value) (c : Cd) : Prop := RV W B vi c.val.items ∧ RCdd W B d vk c.kids
section
variable {W W' : World} {B B' d : Nat} {v vi vk : Value} {A : Option Addr} {n c : Nat}
theorem RCdd.below (hb : Below B W W') : ∀ {d : Nat} {v : Value} {l : List Cd}, RCdd W B d v l → RCdd W' B d v l
  | 0, _, _, h => h
  | _ + 1, _, _, ⟨A, n, c, M, h1, h2, h3, h4, h5, h6⟩ => ⟨A, n, c, M, h1, h2, h3, h4, h5.below hb, fun x hx => ⟨(h6 x hx).1.below hb, RCdd.below hb (h6 x hx).2⟩⟩
theorem RCdd.more (hB : B ≤ B') : ∀ {d : Nat} {v : Value} {l : List Cd}, RCdd W B d v l → RCdd W B' d v l
  | 0, _, _, h => h
  | _ + 1, _, _, ⟨A, n, c, M, h1, h2, h3, h4, h5, h6⟩ => ⟨A, n, c, M, h1, h2, h3, h4, h5.more hB, fun x hx => ⟨(h6 x hx).1.more hB, RCdd.more hB (h6 x hx).2⟩⟩
theorem RCdd.slice : ∀ {d : Nat} {v : Value} {l : List Cd}, RCdd W B d v l → ∃ A n c, v = .slice A n c
  | 0, _, _, ⟨_, A, c, h⟩ => ⟨A, 0, c, h⟩
  | _ + 1, _, _, ⟨A, n, c, _, _, h, _⟩ => ⟨A, n, c, h⟩
theorem RCdd.len : ∀ {d : Nat} {l : List Cd}, RCdd W B d (.slice A n c) l → n = l.length ∧ n * 136 ≤ 140737488351232
  | 0, _, ⟨h, A', c', e⟩ => by
    injection e with _ e2 _
    subst h e2
    exact ⟨rfl, by omega⟩
  | _ + 1, _, ⟨A', n', c', M, h1, e, h3, h4, _⟩ => by
    injection e with _ e2 _
    subst e2
    exact ⟨by rw [h3, ← h1, List.length_map], h4.2⟩
/-- a condition in a row -/
theorem RCdd.at_ : ∀ {d : Nat} {l : List Cd}, RCdd W B d (.slice A n c) l → ∀ {k : Nat} {x : Cd}, l[k]? = some x → ∃ (d' b off : Nat) (Ai : Option Addr) (ni ci : Nat) (Ak : Option Addr) (nk ck : Nat), d = d' + 1 ∧ A = some ⟨b, off, none⟩ ∧ b < B ∧ (∀ i u, (cdV (x, .slice Ai ni ci, .slice Ak nk ck))[i]? = some u → W.cell? ⟨b, off + k * 10 + i, none⟩ = some u) ∧ RCd W B d' (.slice Ai ni ci) (.slice Ak nk ck) x
  | 0, _, ⟨h, _⟩, k, x, hk => by rw [h] at hk; cases hk
  | d + 1, _, ⟨A', n', c', M, h1, e, h3, h4, h5, h6⟩, k, x, hk => by
    injection e with e1 e2 e3
    subst e1 e2 e3
    obtain ⟨y, hy, rfl⟩ : ∃ y, M[k]? = some y ∧ y.1 = x := by
      rw [← h1, List.getElem?_map, Option.map_eq_some_iff] at hk
      exact hk
    obtain ⟨b, off, e, hb, hc⟩ := h5.plain_at (by omega) cdV_len h3 hy
    obtain ⟨k1, k2⟩ := h6 y (List.mem_of_getElem? hy)
    obtain ⟨y1, v1, v2⟩ := y
    obtain ⟨Ai, ni, ci, rfl⟩ := k1.slice
    obtain ⟨Ak, nk, ck, rfl⟩ := k2.slice
    exact ⟨d, b, off, Ai, ni, ci, Ak, nk, ck, rfl, e, hb, hc, k1, k2⟩
theorem RCd.below {x : Cd} (h : RCd W B d vi vk x) (hb : Below B W W') : RCd W' B d vi vk x := ⟨h.1.below hb, h.2.below hb⟩
theorem RCd.more {x : Cd} (h : RCd W B d vi vk x) (hB : B ≤ B') : RCd W B' d vi vk x := ⟨h.1.more hB, h.2.more hB⟩
end
end Go.Proofs.YtnlonleljbbgoaaGreatDoor
