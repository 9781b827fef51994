/-
  DERIVED. Values, properties, numbers and blocks of a base in memory, in blocks that meet a condition. Conditions: none.
  Values in memory: a value's five cells, its items one behind the other in a row below block B. Conditions: none.
  The walks of cmp.Compare and cmp.Or at int. Conditions: none.
  The walk of cmp.Compare at string. Conditions: none.
  By an AI agent.
-/
import Derived.Test.YtbdcimakdiegnaaGreatDoorVa01
import Derived.WalkSpells
import Derived.Deep.QuietTactic
import Derived.BigQuiet
import Derived.Deep.LoopGhost
import Derived.Test.YtbdcimakdiegnaaGreatDoorChecked
import Derived.Test.YtbdcimakdiegnaaGreatDoorVa03
import Derived.WalkLawsBesides
namespace Go.Proofs.YtbdcimakdiegnaaGreatDoor
open Go.RowKit

/-- a slice that reads as a list, its block of a sort -/
def RdX (w : World) (S : Nat → Prop) (size : Nat) (A : Option Addr) (n : Nat) (xs : List Value) : Prop :=
  xs.length = n * size ∧ (0 < n → ∃ ad, A = some ad ∧ S ad.block ∧ ∀ j u, xs[j]? = some u → w.cell? (ad.add j) = some u)
def RVdX (W : World) (S : Nat → Prop) : Nat → Value → List Vl → Prop
  | 0, v, l => l = [] ∧ ∃ A c, v = .slice A 0 c
  | d + 1, v, l => ∃ A n c, ∃ M : List (Vl × Value), M.map Prod.fst = l ∧ v = .slice A n c ∧ n = M.length ∧ (n ≤ c ∧ n * 64 ≤ 140737488351232) ∧ RdX W S 5 A n (M.flatMap vlV) ∧ ∀ x ∈ M, RVdX W S d x.2 x.1.items
def RVX (W : World) (S : Nat → Prop) (v : Value) (l : List Vl) : Prop := ∃ d, RVdX W S d v l
def RPrX (W : World) (S : Nat → Prop) (v : Value) (l : List Pr) : Prop := ∃ A n c, ∃ M : List (Pr × Value), M.map Prod.fst = l ∧ v = .slice A n c ∧ n = M.length ∧ (n ≤ c ∧ n * 80 ≤ 140737488351232) ∧ RdX W S 6 A n (M.flatMap prV) ∧ ∀ x ∈ M, RVX W S x.2 x.1.val.items
def RInX (W : World) (S : Nat → Prop) (v : Value) (l : List Int) : Prop := ∃ A n c, v = .slice A n c ∧ n = l.length ∧ (n ≤ c ∧ n * 8 ≤ 140737488351232) ∧ RdX W S 1 A n (l.map (.int .i64)) ∧ ∀ x ∈ l, I64 x
def RBX (W : World) (S : Nat → Prop) (v : Value) (l : List Bl) : Prop := ∃ A n c, ∃ M : List (Bl × Value × Value), M.map Prod.fst = l ∧ v = .slice A n c ∧ n = M.length ∧ (n ≤ c ∧ n * 80 ≤ 140737488351232) ∧ RdX W S 5 A n (M.flatMap blV) ∧ ∀ x ∈ M, RInX W S x.2.1 x.1.kids ∧ RPrX W S x.2.2 x.1.props
section
variable {w w' : World} {S S' : Nat → Prop} {B size n d : Nat} {A : Option Addr} {xs : List Value} {v : Value}
theorem RdX.keep (h : RdX w S size A n xs) (hk : ∀ p : Addr, S p.block → w'.cell? p = w.cell? p) : RdX w' S size A n xs :=
  ⟨h.1, fun hn => by
    obtain ⟨ad, e, hb, hc⟩ := h.2 hn
    exact ⟨ad, e, hb, fun j u hu => (hk _ (by rw [block_of_add]; exact hb)).trans (hc j u hu)⟩⟩
theorem RdX.weak (h : RdX w S size A n xs) (hS : ∀ b, S b → S' b) : RdX w S' size A n xs :=
  ⟨h.1, fun hn => by
    obtain ⟨ad, e, hb, hc⟩ := h.2 hn
    exact ⟨ad, e, hS _ hb, hc⟩⟩
theorem RdX.reads (h : RdX w S size A n xs) (hS : ∀ b, S b → b < B) : Reads w B size A n xs :=
  ⟨h.1, fun hn => by
    obtain ⟨ad, e, hb, hc⟩ := h.2 hn
    exact ⟨ad, e, hS _ hb, hc⟩⟩
theorem RdX.of (h : Reads w B size A n xs) : RdX w (· < B) size A n xs := h
theorem RdX.of_own {base : Nat} {e : TypeId} (h : w.ownsRow base e size v n xs) : ∃ A c, v = .slice A n c ∧ n ≤ c ∧ RdX w (fun b => v.ownBlock = some b ∧ base ≤ b ∧ b < w.heap.size) size A n xs := by
  obtain ⟨h1, h2⟩ := h
  rcases h2 with ⟨rfl, rfl⟩ | ⟨g, cap, cur, rfl, hg, hh, hnc, r⟩
  · exact ⟨none, 0, rfl, Nat.le_refl _, h1, fun hn => absurd hn (by omega)⟩
  · have hlt : g < w.heap.size := by
      rcases Nat.lt_or_ge g w.heap.size with h | h
      · exact h
      · rw [Array.getElem?_eq_none h] at hh; cases hh
    exact ⟨_, _, rfl, hnc, h1, fun _ => ⟨_, rfl, ⟨rfl, hg, hlt⟩, World.ownsRow.cells (g := g) ⟨h1, .inr ⟨g, cap, cur, rfl, hg, hh, hnc, r⟩⟩ rfl⟩⟩
theorem RVdX.keep (hk : ∀ p : Addr, S p.block → w'.cell? p = w.cell? p) : ∀ {d : Nat} {v : Value} {l : List Vl}, RVdX w S d v l → RVdX w' S d v l
  | 0, _, _, h => h
  | _ + 1, _, _, ⟨A, n, c, M, h1, h2, h3, h4, h5, h6⟩ => ⟨A, n, c, M, h1, h2, h3, h4, h5.keep hk, fun x hx => RVdX.keep hk (h6 x hx)⟩
theorem RVdX.weak (hS : ∀ b, S b → S' b) : ∀ {d : Nat} {v : Value} {l : List Vl}, RVdX w S d v l → RVdX w S' d v l
  | 0, _, _, h => h
  | _ + 1, _, _, ⟨A, n, c, M, h1, h2, h3, h4, h5, h6⟩ => ⟨A, n, c, M, h1, h2, h3, h4, h5.weak hS, fun x hx => RVdX.weak hS (h6 x hx)⟩
theorem RVdX.reads (hS : ∀ b, S b → b < B) : ∀ {d : Nat} {v : Value} {l : List Vl}, RVdX w S d v l → RVd w B d v l
  | 0, _, _, h => h
  | _ + 1, _, _, ⟨A, n, c, M, h1, h2, h3, h4, h5, h6⟩ => ⟨A, n, c, M, h1, h2, h3, h4, h5.reads hS, fun x hx => RVdX.reads hS (h6 x hx)⟩
theorem RVdX.of : ∀ {d : Nat} {v : Value} {l : List Vl}, RVd w B d v l → RVdX w (· < B) d v l
  | 0, _, _, h => h
  | _ + 1, _, _, ⟨A, n, c, M, h1, h2, h3, h4, h5, h6⟩ => ⟨A, n, c, M, h1, h2, h3, h4, h5, fun x hx => RVdX.of (h6 x hx)⟩
theorem RVdX.deeper : ∀ {d : Nat} {v : Value} {l : List Vl}, RVdX w S d v l → RVdX w S (d + 1) v l
  | 0, _, _, ⟨h1, A, c, h2⟩ => ⟨A, 0, c, [], by rw [h1]; rfl, h2, rfl, ⟨Nat.zero_le _, by omega⟩, ⟨rfl, fun h => absurd h (by omega)⟩, fun x hx => by cases hx⟩
  | d + 1, _, _, ⟨A, n, c, M, h1, h2, h3, h4, h5, h6⟩ => ⟨A, n, c, M, h1, h2, h3, h4, h5, fun x hx => RVdX.deeper (h6 x hx)⟩
theorem RVdX.deep {l : List Vl} (h : RVdX w S d v l) : ∀ {k : Nat}, RVdX w S (d + k) v l := by
  intro k
  induction k with
  | zero => exact h
  | succ k ih => exact ih.deeper
theorem RVX.keep {l : List Vl} (h : RVX w S v l) (hk : ∀ p : Addr, S p.block → w'.cell? p = w.cell? p) : RVX w' S v l := h.imp fun _ h => RVdX.keep hk h
theorem RVX.weak {l : List Vl} (h : RVX w S v l) (hS : ∀ b, S b → S' b) : RVX w S' v l := h.imp fun _ h => RVdX.weak hS h
theorem RVX.reads {l : List Vl} (h : RVX w S v l) (hS : ∀ b, S b → b < B) : RV w B v l := h.imp fun _ h => RVdX.reads hS h
theorem RVX.of {l : List Vl} (h : RV w B v l) : RVX w (· < B) v l := h.imp fun _ h => RVdX.of h
theorem RVX.all : ∀ {M : List (Vl × Value)}, (∀ x ∈ M, RVX w S x.2 x.1.items) → ∃ d, ∀ x ∈ M, RVdX w S d x.2 x.1.items
  | [], _ => ⟨0, fun x hx => by cases hx⟩
  | a :: M, h => by
    obtain ⟨d1, h1⟩ := h a (by simp)
    obtain ⟨d2, h2⟩ := RVX.all (M := M) fun x hx => h x (by simp [hx])
    refine ⟨d1 + d2, fun x hx => ?_⟩
    rcases List.mem_cons.1 hx with rfl | hx
    · exact h1.deep
    · have := (h2 x hx).deep (k := d1)
      rwa [Nat.add_comm] at this
theorem RVX.close {A : Option Addr} {n c : Nat} {M : List (Vl × Value)} (hn : n = M.length) (hc : n ≤ c) (hb : n * 64 ≤ 140737488351232) (hr : RdX w S 5 A n (M.flatMap vlV)) (h : ∀ x ∈ M, RVX w S x.2 x.1.items) : RVX w S (.slice A n c) (M.map Prod.fst) := by
  obtain ⟨d, hd⟩ := RVX.all h
  exact ⟨d + 1, A, n, c, M, rfl, rfl, hn, ⟨hc, hb⟩, hr, hd⟩
theorem RPrX.keep {l : List Pr} (h : RPrX w S v l) (hk : ∀ p : Addr, S p.block → w'.cell? p = w.cell? p) : RPrX w' S v l := by
  obtain ⟨A, n, c, M, h1, h2, h3, h4, h5, h6⟩ := h
  exact ⟨A, n, c, M, h1, h2, h3, h4, h5.keep hk, fun x hx => (h6 x hx).keep hk⟩
theorem RPrX.weak {l : List Pr} (h : RPrX w S v l) (hS : ∀ b, S b → S' b) : RPrX w S' v l := by
  obtain ⟨A, n, c, M, h1, h2, h3, h4, h5, h6⟩ := h
  exact ⟨A, n, c, M, h1, h2, h3, h4, h5.weak hS, fun x hx => (h6 x hx).weak hS⟩
theorem RPrX.reads {l : List Pr} (h : RPrX w S v l) (hS : ∀ b, S b → b < B) : RPr w B v l := by
  obtain ⟨A, n, c, M, h1, h2, h3, h4, h5, h6⟩ := h
  exact ⟨A, n, c, M, h1, h2, h3, h4, h5.reads hS, fun x hx => (h6 x hx).reads hS⟩
theorem RPrX.of {l : List Pr} (h : RPr w B v l) : RPrX w (· < B) v l := by
  obtain ⟨A, n, c, M, h1, h2, h3, h4, h5, h6⟩ := h
  exact ⟨A, n, c, M, h1, h2, h3, h4, h5, fun x hx => .of (h6 x hx)⟩
theorem RInX.keep {l : List Int} (h : RInX w S v l) (hk : ∀ p : Addr, S p.block → w'.cell? p = w.cell? p) : RInX w' S v l := by
  obtain ⟨A, n, c, h1, h2, h3, h4, h5⟩ := h
  exact ⟨A, n, c, h1, h2, h3, h4.keep hk, h5⟩
theorem RInX.weak {l : List Int} (h : RInX w S v l) (hS : ∀ b, S b → S' b) : RInX w S' v l := by
  obtain ⟨A, n, c, h1, h2, h3, h4, h5⟩ := h
  exact ⟨A, n, c, h1, h2, h3, h4.weak hS, h5⟩
theorem RInX.reads {l : List Int} (h : RInX w S v l) (hS : ∀ b, S b → b < B) : RIn w B v l := by
  obtain ⟨A, n, c, h1, h2, h3, h4, h5⟩ := h
  exact ⟨A, n, c, h1, h2, h3, h4.reads hS, h5⟩
theorem RInX.of {l : List Int} (h : RIn w B v l) : RInX w (· < B) v l := h
theorem RBX.keep {l : List Bl} (h : RBX w S v l) (hk : ∀ p : Addr, S p.block → w'.cell? p = w.cell? p) : RBX w' S v l := by
  obtain ⟨A, n, c, M, h1, h2, h3, h4, h5, h6⟩ := h
  exact ⟨A, n, c, M, h1, h2, h3, h4, h5.keep hk, fun x hx => ⟨(h6 x hx).1.keep hk, (h6 x hx).2.keep hk⟩⟩
theorem RBX.weak {l : List Bl} (h : RBX w S v l) (hS : ∀ b, S b → S' b) : RBX w S' v l := by
  obtain ⟨A, n, c, M, h1, h2, h3, h4, h5, h6⟩ := h
  exact ⟨A, n, c, M, h1, h2, h3, h4, h5.weak hS, fun x hx => ⟨(h6 x hx).1.weak hS, (h6 x hx).2.weak hS⟩⟩
theorem RBX.reads {l : List Bl} (h : RBX w S v l) (hS : ∀ b, S b → b < B) : RB w B v l := by
  obtain ⟨A, n, c, M, h1, h2, h3, h4, h5, h6⟩ := h
  exact ⟨A, n, c, M, h1, h2, h3, h4, h5.reads hS, fun x hx => ⟨(h6 x hx).1.reads hS, (h6 x hx).2.reads hS⟩⟩
/-- cells of blocks that stand are as they were -/
theorem keep_below {B : Nat} (hb : Below B w w') (hS : ∀ b, S b → b < B) : ∀ p : Addr, S p.block → w'.cell? p = w.cell? p := fun _ hp => hb.cell (hS _ hp)
theorem keep_grown {row : Option Nat} (hg : w.grownBy w' row) (hS : ∀ b, S b → b < w.heap.size ∧ some b ≠ row) : ∀ p : Addr, S p.block → w'.cell? p = w.cell? p := fun _ hp => World.cell?_of_block (hg.block _ (hS _ hp).1 (hS _ hp).2)
end
/-! ### a row of the call's own, with what its elements lead to -/
def Nest (α : Type) := World → (Nat → Prop) → α → Prop
def NestOk {α : Type} (N : Nest α) : Prop := ∀ (w w' : World) (S S' : Nat → Prop) (x : α), N w S x → (∀ p : Addr, S p.block → w'.cell? p = w.cell? p) → (∀ b, S b → S' b) → N w' S' x
/-- a row of the call's own; what its elements lead to lies in other blocks of the call's own -/
structure OwnX {α : Type} (enc : α → List Value) (size : Nat) (e : TypeId) (N : Nest α) (w : World) (base : Nat) (v : Value) (M : List α) : Prop where
  own : w.ownsRow base e size v M.length (M.flatMap enc)
  nest : ∀ x ∈ M, N w (fun b => base ≤ b ∧ b < w.heap.size ∧ v.ownBlock ≠ some b) x
theorem own_block_lt {w : World} {base n size : Nat} {e : TypeId} {v : Value} {xs : List Value} (h : w.ownsRow base e size v n xs) : ∀ g, v.ownBlock = some g → base ≤ g ∧ g < w.heap.size := by
  intro g hg
  rcases h.2 with ⟨rfl, _⟩ | ⟨g', cap, cur, rfl, hb, hh, _⟩
  · cases hg
  · injection hg with hg
    subst hg
    refine ⟨hb, ?_⟩
    rcases Nat.lt_or_ge g' w.heap.size with h | h
    · exact h
    · rw [Array.getElem?_eq_none h] at hh; cases hh
section
variable {α : Type} {enc : α → List Value} {size base : Nat} {e : TypeId} {N : Nest α} {w w' : World} {v v' : Value} {M : List α} {x : α}
theorem OwnX.start (w : World) (base : Nat) : OwnX enc size e N w base (.slice none 0 0) [] := ⟨World.ownsRow_nil w base e size, fun x hx => by cases hx⟩
theorem OwnX.below (hN : NestOk N) (h : OwnX enc size e N w base v M) (hb : Below w.heap.size w w') : OwnX enc size e N w' base v M :=
  ⟨own_below h.own hb, fun x hx => hN _ _ _ _ x (h.nest x hx) (fun _ hp => hb.cell hp.2.1) fun _b hb' => ⟨hb'.1, Nat.lt_of_lt_of_le hb'.2.1 hb.size, hb'.2.2⟩⟩
theorem OwnX.app (hN : NestOk N) (h : OwnX enc size e N w base v M) {S : Nat → Prop} (hx : N w S x) (hS : ∀ b, S b → base ≤ b ∧ b < w.heap.size ∧ v.ownBlock ≠ some b)
    (hown : w'.ownsRow base e size v' (M.length + 1) (M.flatMap enc ++ enc x)) (hg : w.grownBy w' v.ownBlock) (hat : v'.ownBlock = v.ownBlock ∨ v'.ownBlock = some w.heap.size) : OwnX enc size e N w' base v' (M ++ [x]) := by
  have key : ∀ b, base ≤ b ∧ b < w.heap.size ∧ v.ownBlock ≠ some b → base ≤ b ∧ b < w'.heap.size ∧ v'.ownBlock ≠ some b := fun b ⟨h1, h2, h3⟩ => by
    refine ⟨h1, Nat.lt_of_lt_of_le h2 hg.size, ?_⟩
    rcases hat with g | g
    · rw [g]; exact h3
    · rw [g]; intro e; injection e with e; omega
  refine ⟨by rw [List.length_append, List.flatMap_append]; simpa using hown, fun y hy => ?_⟩
  rcases List.mem_append.1 hy with hy | hy
  · exact hN _ _ _ _ y (h.nest y hy) (fun _ hp => World.cell?_of_block (hg.block _ hp.2.1 (fun e => hp.2.2 e.symm))) key
  · obtain rfl : y = x := by simpa using hy
    exact hN _ _ _ _ y hx (fun _ hp => World.cell?_of_block (hg.block _ (hS _ hp).2.1 (fun e => (hS _ hp).2.2 e.symm))) fun b hb => key b (hS b hb)
theorem OwnX.blocks (h : OwnX enc size e N w base v M) : ∀ g, v.ownBlock = some g → base ≤ g ∧ g < w.heap.size := own_block_lt h.own
end
theorem Reads.blk {w : World} {g size n : Nat} {t : TypeId} {cs : Array Value} (h : Blk w g t cs) (hs : cs.size = n * size) : Reads w (g + 1) size (some ⟨g, 0, none⟩) n cs.toList :=
  ⟨by simpa using hs, fun _ => ⟨_, rfl, Nat.lt_succ_self _, fun j u hu => by
    rw [Addr.add_lit, Nat.zero_add]
    rw [h.cell]
    simpa using hu⟩⟩
abbrev NV : Nest (Vl × Value) := fun w S x => RVX w S x.2 x.1.items
abbrev NP : Nest (Pr × Value) := fun w S x => RVX w S x.2 x.1.val.items
abbrev NB : Nest (Bl × Value × Value) := fun w S x => RInX w S x.2.1 x.1.kids ∧ RPrX w S x.2.2 x.1.props
theorem NV_ok : NestOk NV := fun _ _ _ _ _ h hk hS => (h.keep hk).weak hS
theorem NP_ok : NestOk NP := fun _ _ _ _ _ h hk hS => (h.keep hk).weak hS
theorem NB_ok : NestOk NB := fun _ _ _ _ _ h hk hS => ⟨(h.1.keep hk).weak hS, (h.2.keep hk).weak hS⟩
theorem vlV_one (x : Vl × Value) (hx : ∃ A n c, x.2 = .slice A n c) : ∀ u ∈ vlV x, u.oneCell' = true := by
  obtain ⟨x, v⟩ := x
  obtain ⟨A, n, c, rfl⟩ := hx
  intro u hu
  simp only [vlV, List.mem_cons, List.not_mem_nil, or_false] at hu
  rcases hu with rfl | rfl | rfl | rfl | rfl <;> rfl
theorem RVX.slice {w : World} {S : Nat → Prop} {v : Value} {l : List Vl} (h : RVX w S v l) : ∃ A n c, v = .slice A n c := by
  obtain ⟨d, h⟩ := h
  obtain ⟨A, n, c, M, _, h2, _⟩ := h.deeper
  exact ⟨A, n, c, h2⟩
end Go.Proofs.YtbdcimakdiegnaaGreatDoor
namespace Go.Proofs.YtbdcimakdiegnaaGreatDoor
open Go.RowKit

def IsVal (w : World) (B : Nat) : Nat → V → List Value → Prop
  | 0, _, _ => False
  | d + 1, .mk k n t s l, cs => ∃ A len cap, cs = [.int .i64 k, .int .i64 n, .int .i64 t, .string s, .slice A len cap] ∧ l.length = len ∧ len ≤ 9223372036854775807 ∧
      (0 < len → ∃ b off, A = some ⟨b, off, none⟩ ∧ b < B ∧ ∀ i it, l[i]? = some it → ∃ row, row.length = 5 ∧ (∀ j u, row[j]? = some u → w.cell? ⟨b, off + i * 5 + j, none⟩ = some u) ∧ IsVal w B d it row)

/-- items in a row -/
def IsItems (w : World) (B d : Nat) (l : List V) (A : Option Addr) (len : Nat) : Prop :=
  l.length = len ∧ len ≤ 9223372036854775807 ∧ (0 < len → ∃ b off, A = some ⟨b, off, none⟩ ∧ b < B ∧ ∀ i it, l[i]? = some it → ∃ row, row.length = 5 ∧ (∀ j u, row[j]? = some u → w.cell? ⟨b, off + i * 5 + j, none⟩ = some u) ∧ IsVal w B d it row)

theorem IsVal.form {w : World} {B d : Nat} {k n t : Int} {s : ByteArray} {l : List V} {cs : List Value} (h : IsVal w B (d + 1) (.mk k n t s l) cs) :
    ∃ A len cap, cs = [.int .i64 k, .int .i64 n, .int .i64 t, .string s, .slice A len cap] ∧ IsItems w B d l A len := by
  obtain ⟨A, len, cap, e, h1, h2, h4⟩ := h
  exact ⟨A, len, cap, e, h1, h2, h4⟩

theorem IsVal.keep {w w' : World} {B B' : Nat} (hk : ∀ p : Addr, p.block < B → w'.cell? p = w.cell? p) (hB : B ≤ B') : ∀ (d : Nat) (v : V) (cs : List Value), IsVal w B d v cs → IsVal w' B' d v cs
  | 0, _, _, h => h
  | d + 1, .mk k n t s l, cs, h => by
    obtain ⟨A, len, cap, e, h1, h2, h4⟩ := h
    refine ⟨A, len, cap, e, h1, h2, fun hn => ?_⟩
    obtain ⟨b, off, hA, hb, hi⟩ := h4 hn
    refine ⟨b, off, hA, by omega, fun i it hit => ?_⟩
    obtain ⟨row, hr, hc, hv⟩ := hi i it hit
    exact ⟨row, hr, fun j u hu => (hk ⟨b, off + i * 5 + j, none⟩ hb).trans (hc j u hu), IsVal.keep hk hB d it row hv⟩

theorem IsVal.below {w w' : World} {B : Nat} {d : Nat} {v : V} {cs : List Value} (h : IsVal w B d v cs) (hb : Below B w w') : IsVal w' B d v cs := IsVal.keep (fun _ hp => hb.cell hp) (Nat.le_refl _) d v cs h
theorem IsVal.alloc {w : World} {B : Nat} {d : Nat} {v : V} {cs : List Value} (h : IsVal w B d v cs) (hB : B ≤ w.heap.size) (o : Obj) : IsVal (w.alloc o) B d v cs := IsVal.keep (fun p hp => World.cell?_alloc_lt w o p (by omega)) (Nat.le_refl _) d v cs h
theorem IsVal.drewN {w : World} {B : Nat} {d : Nat} {v : V} {cs : List Value} (h : IsVal w B d v cs) (n : Nat) : IsVal (w.drewN n) B d v cs := IsVal.keep (w := w) (w' := w.drewN n) (fun _ _ => rfl) (Nat.le_refl _) d v cs h
theorem IsItems.keep {w w' : World} {B B' d : Nat} {l : List V} {A : Option Addr} {len : Nat} (h : IsItems w B d l A len) (hk : ∀ p : Addr, p.block < B → w'.cell? p = w.cell? p) (hB : B ≤ B') : IsItems w' B' d l A len := by
  obtain ⟨h1, h2, h4⟩ := h
  refine ⟨h1, h2, fun hn => ?_⟩
  obtain ⟨b, off, hA, hb, hi⟩ := h4 hn
  refine ⟨b, off, hA, by omega, fun i it hit => ?_⟩
  obtain ⟨row, hr, hc, hv⟩ := hi i it hit
  exact ⟨row, hr, fun j u hu => (hk ⟨b, off + i * 5 + j, none⟩ hb).trans (hc j u hu), IsVal.keep hk hB d it row hv⟩

/-- more fuel does not hurt -/
theorem IsVal.fuel {w : World} {B : Nat} : ∀ (d : Nat) (v : V) (cs : List Value), IsVal w B d v cs → IsVal w B (d + 1) v cs
  | 0, _, _, h => h.elim
  | d + 1, .mk k n t s l, cs, h => by
    obtain ⟨A, len, cap, e, h1, h2, h4⟩ := h
    refine ⟨A, len, cap, e, h1, h2, fun hn => ?_⟩
    obtain ⟨b, off, hA, hb, hi⟩ := h4 hn
    refine ⟨b, off, hA, hb, fun i it hit => ?_⟩
    obtain ⟨row, hr, hc, hv⟩ := hi i it hit
    exact ⟨row, hr, hc, IsVal.fuel d it row hv⟩
theorem IsVal.more {w : World} {B : Nat} {v : V} {cs : List Value} {d d' : Nat} (h : IsVal w B d v cs) (hd : d ≤ d') : IsVal w B d' v cs := by
  obtain ⟨n, rfl⟩ : ∃ n, d' = d + n := ⟨d' - d, by omega⟩
  induction n with
  | zero => exact h
  | succ n ih => exact IsVal.fuel _ _ _ (ih (by omega))

theorem IsVal.cells {w : World} {B : Nat} : ∀ {d : Nat} {v : V} {cs : List Value}, IsVal w B d v cs → ∃ k n t s A len cap, cs = [.int .i64 k, .int .i64 n, .int .i64 t, .string s, .slice A len cap]
  | 0, _, _, h => h.elim
  | _ + 1, .mk k n t s _, _, h => by
    obtain ⟨A, len, cap, e, _⟩ := h
    exact ⟨k, n, t, s, A, len, cap, e⟩

/-- an item's five cells -/
theorem IsItems.at_ {w : World} {B d : Nat} {l : List V} {A : Option Addr} {len k : Nat} (h : IsItems w B d l A len) (hk : k < len) :
    ∃ b off it x0 x1 x2 x3 x4 x5 x6, A = some ⟨b, off, none⟩ ∧ b < B ∧ l[k]? = some it ∧ IsVal w B d it [.int .i64 x0, .int .i64 x1, .int .i64 x2, .string x3, .slice x4 x5 x6] ∧
      w.cell? ⟨b, off + k * 5, none⟩ = some (.int .i64 x0) ∧ w.cell? ⟨b, off + k * 5 + 1, none⟩ = some (.int .i64 x1) ∧ w.cell? ⟨b, off + k * 5 + 2, none⟩ = some (.int .i64 x2) ∧ w.cell? ⟨b, off + k * 5 + 3, none⟩ = some (.string x3) ∧ w.cell? ⟨b, off + k * 5 + 4, none⟩ = some (.slice x4 x5 x6) := by
  obtain ⟨h1, h2, h4⟩ := h
  obtain ⟨b, off, hA, hb, hi⟩ := h4 (by omega)
  have hkl : k < l.length := by omega
  obtain ⟨row, hr, hc, hv⟩ := hi k l[k] (List.getElem?_eq_getElem hkl)
  obtain ⟨x0, x1, x2, x3, x4, x5, x6, rfl⟩ := hv.cells
  exact ⟨b, off, l[k], x0, x1, x2, x3, x4, x5, x6, hA, hb, List.getElem?_eq_getElem hkl, hv, hc 0 _ rfl, hc 1 _ rfl, hc 2 _ rfl, hc 3 _ rfl, hc 4 _ rfl⟩
end Go.Proofs.YtbdcimakdiegnaaGreatDoor
namespace Go.Proofs.YtbdcimakdiegnaaGreatDoor
open Go.RowKit

theorem ret_int' {k : IntKind} {a b : Int} (h : a = b) : Ending.returned (.int k a) = .returned (.int k b) := by rw [h]

set_option maxHeartbeats 1000000 in
theorem cmpInt_any (a b : Int) (w : World) : Calls Tryz.prog 20 #[.int .i64 a, .int .i64 b] w fun e w' => e = .returned (.int .i64 (c3 a b)) ∧ w = w' := by
  have hc : a < b ∧ c3 a b = -1 ∨ b < a ∧ c3 a b = 1 ∨ a = b ∧ c3 a b = 0 := by
    unfold c3
    repeat' split
    all_goals omega
  rcases hc with ⟨h, hv⟩ | ⟨h, hv⟩ | ⟨rfl, hv⟩
  all_goals
    rw [hv]
    clear hv
    go_enter Tryz.func20, Tryz.ntmps20
    go_wp2
    go_ret
    exact ⟨rfl, rfl⟩

def orI (a b : Int) : Int := if a = 0 then b else a
set_option maxHeartbeats 1000000 in
theorem or_two (a b : Int) (g : Nat) (cap : Nat) (w : World) (c0 : w.cell? ⟨g, 0, none⟩ = some (.int .i64 a)) (c1 : w.cell? ⟨g, 1, none⟩ = some (.int .i64 b)) :
    Calls Tryz.prog 21 #[.slice (some ⟨g, 0, none⟩) 2 cap] w fun e w' => e = .returned (.int .i64 (orI a b)) ∧ w = w' := by
  go_enter Tryz.func21, Tryz.ntmps21
  go_wp2
  go_loop [8] (fun i => i = .int .i64 0 ∨ (i = .int .i64 1 ∧ Hid (a = 0)) ∨ (i = .int .i64 2 ∧ Hid (a = 0) ∧ Hid (b = 0))) (fun i => (2 - intOf i).toNat)
  case atStart => exact .inl rfl
  case round =>
    rcases hrel with rfl | ⟨rfl, ha⟩ | ⟨rfl, ha, hb⟩
    · by_cases ha : a = 0
      · have hn : (a != 0) = false := by simpa using ha
        have HA : Hid (a = 0) := ha
        clear ha
        go_wp2
        go_round
        case rel => exact .inr (.inl ⟨rfl, HA⟩)
        case measure => simp [intOf]
      · have hn : (a != 0) = true := by simpa using ha
        have HA := Lib.hid ha
        clear ha
        go_wp2
        go_ret
        exact ⟨ret_int' (by unfold orI; rw [if_neg HA.out]), rfl⟩
    · by_cases hb : b = 0
      · have hn : (b != 0) = false := by simpa using hb
        have HB : Hid (b = 0) := hb
        clear hb
        go_wp2
        go_round
        case rel => exact .inr (.inr ⟨rfl, ha, HB⟩)
        case measure => simp [intOf]
      · have hn : (b != 0) = true := by simpa using hb
        have HB := Lib.hid hb
        clear hb
        go_wp2
        go_ret
        exact ⟨ret_int' (by unfold orI; rw [if_pos ha.out]), rfl⟩
    · go_wp2
      go_ret
      exact ⟨ret_int' (by unfold orI; rw [if_pos ha.out, hb.out]), rfl⟩
end Go.Proofs.YtbdcimakdiegnaaGreatDoor
namespace Go.Proofs.YtbdcimakdiegnaaGreatDoor
open Go.RowKit

set_option maxHeartbeats 1000000 in
theorem cmpStr_any (a b : ByteArray) (w : World) : Calls Tryz.prog 22 #[.string a, .string b] w fun e w' => e = .returned (.int .i64 (cL a.data.toList b.data.toList)) ∧ w = w' := by
  have hc : Op.bytesLess a.toList b.toList = true ∧ cL a.data.toList b.data.toList = -1 ∨ Op.bytesLess a.toList b.toList = false ∧ (a.toList == b.toList) = true ∧ cL a.data.toList b.data.toList = 0 ∨ Op.bytesLess a.toList b.toList = false ∧ (a.toList == b.toList) = false ∧ cL a.data.toList b.data.toList = 1 := by
    rw [ByteArray.toList_eq, ByteArray.toList_eq]
    unfold cL
    cases h : Op.bytesLess a.data.toList b.data.toList
    · by_cases e : a.data.toList = b.data.toList
      · simp [e]
      · rw [if_neg (by simp), if_neg e]
        simp only [beq_eq_false_iff_ne, ne_eq, e, not_false_eq_true, true_and, Int.reduceNeg, and_true]
        simp
    · simp
  rcases hc with ⟨h, hv⟩ | ⟨h, h', hv⟩ | ⟨h, h', hv⟩
  all_goals
    rw [hv]
    clear hv
    go_enter Tryz.func22, Tryz.ntmps22
    go_wp2
    go_ret
    exact ⟨rfl, rfl⟩

end Go.Proofs.YtbdcimakdiegnaaGreatDoor
