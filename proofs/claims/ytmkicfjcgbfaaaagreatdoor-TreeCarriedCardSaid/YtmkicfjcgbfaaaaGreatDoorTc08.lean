/-
  DERIVED. Values, properties, numbers and blocks of a base in memory, in blocks that meet a condition. Conditions: none.
  A base in a row of the call's own that is turned in place: what its blocks lead to lies elsewhere. Conditions: none.
  By an AI agent.
-/
import Derived.Test.YtmkicfjcgbfaaaaGreatDoorTc03
import Derived.WalkSpells
import Derived.Deep.QuietTactic
import Derived.BigQuiet
import Derived.Deep.LoopGhost
import Derived.Test.YtmkicfjcgbfaaaaGreatDoorChecked
import Derived.Laws.IdiomCopy
import Derived.Laws.CopyRow
import Derived.Laws.Tables
namespace Go.Proofs.YtmkicfjcgbfaaaaGreatDoor
open Go.RowKit

/-- a slice that reads as a list, its block of a sort -/
def RdX (w : World) (S : Nat → Prop) (size : Nat) (A : Option Addr) (n : Nat) (xs : List Value) : Prop :=
  xs.length = n * size ∧ (0 < n → ∃ ad, A = some ad ∧ S ad.block ∧ ∀ j u, xs[j]? = some u → w.cell? (ad.add j) = some u)
def RVdX (W : World) (S : Nat → Prop) : Nat → Value → List Vl → Prop
  | 0, v, l => l = [] ∧ ∃ A c, v = .slice A 0 c
  | d + 1, v, l => ∃ A n c, ∃ M : List (Vl × Value), M.map Prod.fst = l ∧ v = .slice A n c ∧ n = M.length ∧ (n ≤ c ∧ n * 64 ≤ 140737488351232) ∧ RdX W S 5 A n (M.flatMap vlV) ∧ ∀ x ∈ M, RVdX W S d x.2 x.1.items
def RVX (W : World) (S : Nat → Prop) (v : Value) (l : List Vl) : Prop := ∃ d, RVdX W S d v l
def RPrX (W : World) (S : Nat → Prop) (v : Value) (l : List Pr) : Prop := ∃ A n c, ∃ M : List (Pr × Value), M.map Prod.fst = l ∧ v = .slice A n c ∧ n = M.length ∧ (n ≤ c ∧ n * 80 ≤ 140737488351232) ∧ RdX W S 6 A n (M.flatMap prV) ∧ ∀ x ∈ M, RVX W S x.2 x.1.val.items
def RInX (W : World) (S : Nat → Prop) (v : Value) (l : List Int) : Prop := ∃ A n c, v = .slice A n c ∧ n = l.length ∧ (n ≤ c ∧ n * 8 ≤ 140737488351232) ∧ RdX W S 1 A n (l.map (.int .i64)) ∧ ∀ x ∈ l, I64 x
def RBX (W : World) (S : Nat → Prop) (v : Value) (l : List Bl) : Prop := ∃ A n c, ∃ M : List (Bl × Value × Value), M.map Prod.fst = l ∧ v = .slice A n c ∧ n = M.length ∧ (n ≤ c ∧ n * 80 ≤ 140737488351232) ∧ RdX W S 5 A n (M.flatMap blV) ∧ ∀ x ∈ M, RInX W S x.2.1 x.1.kids ∧ RPrX W S x.2.2 x.1.props
section
variable {w w' : World} {S S' : Nat → Prop} {B size n d : Nat} {A : Option Addr} {xs : List Value} {v : Value}
theorem RdX.keep (h : RdX w S size A n xs) (hk : ∀ p : Addr, S p.block → w'.cell? p = w.cell? p) : RdX w' S size A n xs :=
  ⟨h.1, fun hn => by
    obtain ⟨ad, e, hb, hc⟩ := h.2 hn
    exact ⟨ad, e, hb, fun j u hu => (hk _ (by rw [block_of_add]; exact hb)).trans (hc j u hu)⟩⟩
theorem RdX.weak (h : RdX w S size A n xs) (hS : ∀ b, S b → S' b) : RdX w S' size A n xs :=
  ⟨h.1, fun hn => by
    obtain ⟨ad, e, hb, hc⟩ := h.2 hn
    exact ⟨ad, e, hS _ hb, hc⟩⟩
theorem RdX.reads (h : RdX w S size A n xs) (hS : ∀ b, S b → b < B) : Reads w B size A n xs :=
  ⟨h.1, fun hn => by
    obtain ⟨ad, e, hb, hc⟩ := h.2 hn
    exact ⟨ad, e, hS _ hb, hc⟩⟩
theorem RdX.of (h : Reads w B size A n xs) : RdX w (· < B) size A n xs := h
theorem RdX.of_own {base : Nat} {e : TypeId} (h : w.ownsRow base e size v n xs) : ∃ A c, v = .slice A n c ∧ n ≤ c ∧ RdX w (fun b => v.ownBlock = some b ∧ base ≤ b ∧ b < w.heap.size) size A n xs := by
  obtain ⟨h1, h2⟩ := h
  rcases h2 with ⟨rfl, rfl⟩ | ⟨g, cap, cur, rfl, hg, hh, hnc, r⟩
  · exact ⟨none, 0, rfl, Nat.le_refl _, h1, fun hn => absurd hn (by omega)⟩
  · have hlt : g < w.heap.size := by
      rcases Nat.lt_or_ge g w.heap.size with h | h
      · exact h
      · rw [Array.getElem?_eq_none h] at hh; cases hh
    exact ⟨_, _, rfl, hnc, h1, fun _ => ⟨_, rfl, ⟨rfl, hg, hlt⟩, World.ownsRow.cells (g := g) ⟨h1, .inr ⟨g, cap, cur, rfl, hg, hh, hnc, r⟩⟩ rfl⟩⟩
theorem RVdX.keep (hk : ∀ p : Addr, S p.block → w'.cell? p = w.cell? p) : ∀ {d : Nat} {v : Value} {l : List Vl}, RVdX w S d v l → RVdX w' S d v l
  | 0, _, _, h => h
  | _ + 1, _, _, ⟨A, n, c, M, h1, h2, h3, h4, h5, h6⟩ => ⟨A, n, c, M, h1, h2, h3, h4, h5.keep hk, fun x hx => RVdX.keep hk (h6 x hx)⟩
theorem RVdX.weak (hS : ∀ b, S b → S' b) : ∀ {d : Nat} {v : Value} {l : List Vl}, RVdX w S d v l → RVdX w S' d v l
  | 0, _, _, h => h
  | _ + 1, _, _, ⟨A, n, c, M, h1, h2, h3, h4, h5, h6⟩ => ⟨A, n, c, M, h1, h2, h3, h4, h5.weak hS, fun x hx => RVdX.weak hS (h6 x hx)⟩
theorem RVdX.reads (hS : ∀ b, S b → b < B) : ∀ {d : Nat} {v : Value} {l : List Vl}, RVdX w S d v l → RVd w B d v l
  | 0, _, _, h => h
  | _ + 1, _, _, ⟨A, n, c, M, h1, h2, h3, h4, h5, h6⟩ => ⟨A, n, c, M, h1, h2, h3, h4, h5.reads hS, fun x hx => RVdX.reads hS (h6 x hx)⟩
theorem RVdX.of : ∀ {d : Nat} {v : Value} {l : List Vl}, RVd w B d v l → RVdX w (· < B) d v l
  | 0, _, _, h => h
  | _ + 1, _, _, ⟨A, n, c, M, h1, h2, h3, h4, h5, h6⟩ => ⟨A, n, c, M, h1, h2, h3, h4, h5, fun x hx => RVdX.of (h6 x hx)⟩
theorem RVdX.deeper : ∀ {d : Nat} {v : Value} {l : List Vl}, RVdX w S d v l → RVdX w S (d + 1) v l
  | 0, _, _, ⟨h1, A, c, h2⟩ => ⟨A, 0, c, [], by rw [h1]; rfl, h2, rfl, ⟨Nat.zero_le _, by omega⟩, ⟨rfl, fun h => absurd h (by omega)⟩, fun x hx => by cases hx⟩
  | d + 1, _, _, ⟨A, n, c, M, h1, h2, h3, h4, h5, h6⟩ => ⟨A, n, c, M, h1, h2, h3, h4, h5, fun x hx => RVdX.deeper (h6 x hx)⟩
theorem RVdX.deep {l : List Vl} (h : RVdX w S d v l) : ∀ {k : Nat}, RVdX w S (d + k) v l := by
  intro k
  induction k with
  | zero => exact h
  | succ k ih => exact ih.deeper
theorem RVX.keep {l : List Vl} (h : RVX w S v l) (hk : ∀ p : Addr, S p.block → w'.cell? p = w.cell? p) : RVX w' S v l := h.imp fun _ h => RVdX.keep hk h
theorem RVX.weak {l : List Vl} (h : RVX w S v l) (hS : ∀ b, S b → S' b) : RVX w S' v l := h.imp fun _ h => RVdX.weak hS h
theorem RVX.reads {l : List Vl} (h : RVX w S v l) (hS : ∀ b, S b → b < B) : RV w B v l := h.imp fun _ h => RVdX.reads hS h
theorem RVX.of {l : List Vl} (h : RV w B v l) : RVX w (· < B) v l := h.imp fun _ h => RVdX.of h
theorem RVX.all : ∀ {M : List (Vl × Value)}, (∀ x ∈ M, RVX w S x.2 x.1.items) → ∃ d, ∀ x ∈ M, RVdX w S d x.2 x.1.items
  | [], _ => ⟨0, fun x hx => by cases hx⟩
  | a :: M, h => by
    obtain ⟨d1, h1⟩ := h a (by simp)
    obtain ⟨d2, h2⟩ := RVX.all (M := M) fun x hx => h x (by simp [hx])
    refine ⟨d1 + d2, fun x hx => ?_⟩
    rcases List.mem_cons.1 hx with rfl | hx
    · exact h1.deep
    · have := (h2 x hx).deep (k := d1)
      rwa [Nat.add_comm] at this
theorem RVX.close {A : Option Addr} {n c : Nat} {M : List (Vl × Value)} (hn : n = M.length) (hc : n ≤ c) (hb : n * 64 ≤ 140737488351232) (hr : RdX w S 5 A n (M.flatMap vlV)) (h : ∀ x ∈ M, RVX w S x.2 x.1.items) : RVX w S (.slice A n c) (M.map Prod.fst) := by
  obtain ⟨d, hd⟩ := RVX.all h
  exact ⟨d + 1, A, n, c, M, rfl, rfl, hn, ⟨hc, hb⟩, hr, hd⟩
theorem RPrX.keep {l : List Pr} (h : RPrX w S v l) (hk : ∀ p : Addr, S p.block → w'.cell? p = w.cell? p) : RPrX w' S v l := by
  obtain ⟨A, n, c, M, h1, h2, h3, h4, h5, h6⟩ := h
  exact ⟨A, n, c, M, h1, h2, h3, h4, h5.keep hk, fun x hx => (h6 x hx).keep hk⟩
theorem RPrX.weak {l : List Pr} (h : RPrX w S v l) (hS : ∀ b, S b → S' b) : RPrX w S' v l := by
  obtain ⟨A, n, c, M, h1, h2, h3, h4, h5, h6⟩ := h
  exact ⟨A, n, c, M, h1, h2, h3, h4, h5.weak hS, fun x hx => (h6 x hx).weak hS⟩
theorem RPrX.reads {l : List Pr} (h : RPrX w S v l) (hS : ∀ b, S b → b < B) : RPr w B v l := by
  obtain ⟨A, n, c, M, h1, h2, h3, h4, h5, h6⟩ := h
  exact ⟨A, n, c, M, h1, h2, h3, h4, h5.reads hS, fun x hx => (h6 x hx).reads hS⟩
theorem RPrX.of {l : List Pr} (h : RPr w B v l) : RPrX w (· < B) v l := by
  obtain ⟨A, n, c, M, h1, h2, h3, h4, h5, h6⟩ := h
  exact ⟨A, n, c, M, h1, h2, h3, h4, h5, fun x hx => .of (h6 x hx)⟩
theorem RInX.keep {l : List Int} (h : RInX w S v l) (hk : ∀ p : Addr, S p.block → w'.cell? p = w.cell? p) : RInX w' S v l := by
  obtain ⟨A, n, c, h1, h2, h3, h4, h5⟩ := h
  exact ⟨A, n, c, h1, h2, h3, h4.keep hk, h5⟩
theorem RInX.weak {l : List Int} (h : RInX w S v l) (hS : ∀ b, S b → S' b) : RInX w S' v l := by
  obtain ⟨A, n, c, h1, h2, h3, h4, h5⟩ := h
  exact ⟨A, n, c, h1, h2, h3, h4.weak hS, h5⟩
theorem RInX.reads {l : List Int} (h : RInX w S v l) (hS : ∀ b, S b → b < B) : RIn w B v l := by
  obtain ⟨A, n, c, h1, h2, h3, h4, h5⟩ := h
  exact ⟨A, n, c, h1, h2, h3, h4.reads hS, h5⟩
theorem RInX.of {l : List Int} (h : RIn w B v l) : RInX w (· < B) v l := h
theorem RBX.keep {l : List Bl} (h : RBX w S v l) (hk : ∀ p : Addr, S p.block → w'.cell? p = w.cell? p) : RBX w' S v l := by
  obtain ⟨A, n, c, M, h1, h2, h3, h4, h5, h6⟩ := h
  exact ⟨A, n, c, M, h1, h2, h3, h4, h5.keep hk, fun x hx => ⟨(h6 x hx).1.keep hk, (h6 x hx).2.keep hk⟩⟩
theorem RBX.weak {l : List Bl} (h : RBX w S v l) (hS : ∀ b, S b → S' b) : RBX w S' v l := by
  obtain ⟨A, n, c, M, h1, h2, h3, h4, h5, h6⟩ := h
  exact ⟨A, n, c, M, h1, h2, h3, h4, h5.weak hS, fun x hx => ⟨(h6 x hx).1.weak hS, (h6 x hx).2.weak hS⟩⟩
theorem RBX.reads {l : List Bl} (h : RBX w S v l) (hS : ∀ b, S b → b < B) : RB w B v l := by
  obtain ⟨A, n, c, M, h1, h2, h3, h4, h5, h6⟩ := h
  exact ⟨A, n, c, M, h1, h2, h3, h4, h5.reads hS, fun x hx => ⟨(h6 x hx).1.reads hS, (h6 x hx).2.reads hS⟩⟩
end
/-! ### a row of the call's own, with what its elements lead to -/
def Nest (α : Type) := World → (Nat → Prop) → α → Prop
def NestOk {α : Type} (N : Nest α) : Prop := ∀ (w w' : World) (S S' : Nat → Prop) (x : α), N w S x → (∀ p : Addr, S p.block → w'.cell? p = w.cell? p) → (∀ b, S b → S' b) → N w' S' x
/-- a row of the call's own; what its elements lead to lies in other blocks of the call's own -/
structure OwnX {α : Type} (enc : α → List Value) (size : Nat) (e : TypeId) (N : Nest α) (w : World) (base : Nat) (v : Value) (M : List α) : Prop where
  own : w.ownsRow base e size v M.length (M.flatMap enc)
  nest : ∀ x ∈ M, N w (fun b => base ≤ b ∧ b < w.heap.size ∧ v.ownBlock ≠ some b) x
theorem own_block_lt {w : World} {base n size : Nat} {e : TypeId} {v : Value} {xs : List Value} (h : w.ownsRow base e size v n xs) : ∀ g, v.ownBlock = some g → base ≤ g ∧ g < w.heap.size := by
  intro g hg
  rcases h.2 with ⟨rfl, _⟩ | ⟨g', cap, cur, rfl, hb, hh, _⟩
  · cases hg
  · injection hg with hg
    subst hg
    refine ⟨hb, ?_⟩
    rcases Nat.lt_or_ge g' w.heap.size with h | h
    · exact h
    · rw [Array.getElem?_eq_none h] at hh; cases hh
section
variable {α : Type} {enc : α → List Value} {size base : Nat} {e : TypeId} {N : Nest α} {w w' : World} {v v' : Value} {M : List α} {x : α}
theorem OwnX.start (w : World) (base : Nat) : OwnX enc size e N w base (.slice none 0 0) [] := ⟨World.ownsRow_nil w base e size, fun x hx => by cases hx⟩
theorem OwnX.below (hN : NestOk N) (h : OwnX enc size e N w base v M) (hb : Below w.heap.size w w') : OwnX enc size e N w' base v M :=
  ⟨own_below h.own hb, fun x hx => hN _ _ _ _ x (h.nest x hx) (fun _ hp => hb.cell hp.2.1) fun _b hb' => ⟨hb'.1, Nat.lt_of_lt_of_le hb'.2.1 hb.size, hb'.2.2⟩⟩
theorem OwnX.app (hN : NestOk N) (h : OwnX enc size e N w base v M) {S : Nat → Prop} (hx : N w S x) (hS : ∀ b, S b → base ≤ b ∧ b < w.heap.size ∧ v.ownBlock ≠ some b)
    (hown : w'.ownsRow base e size v' (M.length + 1) (M.flatMap enc ++ enc x)) (hg : w.grownBy w' v.ownBlock) (hat : v'.ownBlock = v.ownBlock ∨ v'.ownBlock = some w.heap.size) : OwnX enc size e N w' base v' (M ++ [x]) := by
  have key : ∀ b, base ≤ b ∧ b < w.heap.size ∧ v.ownBlock ≠ some b → base ≤ b ∧ b < w'.heap.size ∧ v'.ownBlock ≠ some b := fun b ⟨h1, h2, h3⟩ => by
    refine ⟨h1, Nat.lt_of_lt_of_le h2 hg.size, ?_⟩
    rcases hat with g | g
    · rw [g]; exact h3
    · rw [g]; intro e; injection e with e; omega
  refine ⟨by rw [List.length_append, List.flatMap_append]; simpa using hown, fun y hy => ?_⟩
  rcases List.mem_append.1 hy with hy | hy
  · exact hN _ _ _ _ y (h.nest y hy) (fun _ hp => World.cell?_of_block (hg.block _ hp.2.1 (fun e => hp.2.2 e.symm))) key
  · obtain rfl : y = x := by simpa using hy
    exact hN _ _ _ _ y hx (fun _ hp => World.cell?_of_block (hg.block _ (hS _ hp).2.1 (fun e => (hS _ hp).2.2 e.symm))) fun b hb => key b (hS b hb)
theorem OwnX.blocks (h : OwnX enc size e N w base v M) : ∀ g, v.ownBlock = some g → base ≤ g ∧ g < w.heap.size := own_block_lt h.own
end
theorem Reads.blk {w : World} {g size n : Nat} {t : TypeId} {cs : Array Value} (h : Blk w g t cs) (hs : cs.size = n * size) : Reads w (g + 1) size (some ⟨g, 0, none⟩) n cs.toList :=
  ⟨by simpa using hs, fun _ => ⟨_, rfl, Nat.lt_succ_self _, fun j u hu => by
    rw [Addr.add_lit, Nat.zero_add]
    rw [h.cell]
    simpa using hu⟩⟩
abbrev NV : Nest (Vl × Value) := fun w S x => RVX w S x.2 x.1.items
abbrev NP : Nest (Pr × Value) := fun w S x => RVX w S x.2 x.1.val.items
abbrev NB : Nest (Bl × Value × Value) := fun w S x => RInX w S x.2.1 x.1.kids ∧ RPrX w S x.2.2 x.1.props
theorem NV_ok : NestOk NV := fun _ _ _ _ _ h hk hS => (h.keep hk).weak hS
theorem NP_ok : NestOk NP := fun _ _ _ _ _ h hk hS => (h.keep hk).weak hS
theorem NB_ok : NestOk NB := fun _ _ _ _ _ h hk hS => ⟨(h.1.keep hk).weak hS, (h.2.keep hk).weak hS⟩
theorem vlV_one (x : Vl × Value) (hx : ∃ A n c, x.2 = .slice A n c) : ∀ u ∈ vlV x, u.oneCell' = true := by
  obtain ⟨x, v⟩ := x
  obtain ⟨A, n, c, rfl⟩ := hx
  intro u hu
  simp only [vlV, List.mem_cons, List.not_mem_nil, or_false] at hu
  rcases hu with rfl | rfl | rfl | rfl | rfl <;> rfl
theorem RVX.slice {w : World} {S : Nat → Prop} {v : Value} {l : List Vl} (h : RVX w S v l) : ∃ A n c, v = .slice A n c := by
  obtain ⟨d, h⟩ := h
  obtain ⟨A, n, c, M, _, h2, _⟩ := h.deeper
  exact ⟨A, n, c, h2⟩
end Go.Proofs.YtmkicfjcgbfaaaaGreatDoor
namespace Go.Proofs.YtmkicfjcgbfaaaaGreatDoor
open Go.RowKit

def bZ : Value := .agg #[.int .i64 0, .int .i64 0, .slice none 0 0, .string ⟨#[]⟩, .slice none 0 0]
theorem block_info : (Tryz.prog.info? 52).map (fun i => (i.zero, i.size, i.bytes)) = some (some bZ, 5, 80) := by kernel_rfl
abbrev BK := Bl × Value × Value
/-- blocks in block g, with room for cap -/
structure RowB (w : World) (g cap : Nat) (M : List BK) : Prop where
  row : ∃ sp : List Value, Blk w g 52 (M.flatMap blV ++ sp).toArray ∧ M.length * 5 + sp.length = cap * 5
  room : cap ≤ maxLen
  few : M.length ≤ 100000
  nest : ∀ x ∈ M, NB w (fun b => b < w.heap.size ∧ b ≠ g) x
theorem fmB_len (M : List BK) : (M.flatMap blV).length = M.length * 5 := by
  induction M with
  | nil => rfl
  | cons a M ih => rw [List.flatMap_cons, List.length_append, ih, List.length_cons, blV_len]; omega
theorem szB (M : List BK) (sp : List Value) : (M.flatMap blV ++ sp).toArray.size = M.length * 5 + sp.length := by rw [List.size_toArray, List.length_append, fmB_len]
theorem fmB_set : ∀ (M : List BK) (k j : Nat) (x y : BK) (u : Value), M[k]? = some x → j < 5 → blV y = (blV x).set j u → (M.flatMap blV).set (k * 5 + j) u = (M.set k y).flatMap blV
  | [], k, j, x, y, u, h, _, _ => by simp at h
  | a :: M, 0, j, x, y, u, h, hj, e => by
    obtain rfl : a = x := by simpa using h
    rw [List.set_cons_zero, List.flatMap_cons, List.flatMap_cons, Nat.zero_mul, Nat.zero_add, List.set_append_left _ _ (by rw [blV_len]; exact hj), e]
  | a :: M, k + 1, j, x, y, u, h, hj, e => by
    rw [List.set_cons_succ, List.flatMap_cons, List.flatMap_cons, List.set_append_right _ _ (by rw [blV_len]; omega), blV_len, show (k + 1) * 5 + j - 5 = k * 5 + j by omega, fmB_set M k j x y u (by simpa using h) hj e]
section
variable {w w' : World} {g cap : Nat} {M : List BK}
theorem RowB.lt (h : RowB w g cap M) : g < w.heap.size := by
  obtain ⟨sp, h1, _⟩ := h.row
  exact h1.lt
theorem RowB.len (h : RowB w g cap M) : M.length ≤ cap := by
  obtain ⟨sp, _, h2⟩ := h.row
  omega
theorem RowB.below (h : RowB w g cap M) (hb : Below w.heap.size w w') : RowB w' g cap M := by
  obtain ⟨sp, h1, h2⟩ := h.row
  exact ⟨⟨sp, h1.below hb h1.lt, h2⟩, h.room, h.few, fun x hx => NB_ok _ _ _ _ x (h.nest x hx) (fun p hp => hb.cell hp.1) fun b hb' => ⟨Nat.lt_of_lt_of_le hb'.1 hb.size, hb'.2⟩⟩
theorem RowB.frozen (h : RowB w g cap M) (i : Nat) : w.frozen? ⟨g, i, none⟩ = false := by
  obtain ⟨sp, h1, _⟩ := h.row
  exact h1.frozen i
theorem RowB.cells (h : RowB w g cap M) {j : Nat} {u : Value} (hu : (M.flatMap blV)[j]? = some u) : w.cell? ⟨g, j, none⟩ = some u := by
  obtain ⟨sp, h1, h2⟩ := h.row
  have hj := (List.getElem?_eq_some_iff.1 hu).1
  rw [h1.cell, List.getElem?_toArray, List.getElem?_append_left hj, hu]
theorem RowB.cell (h : RowB w g cap M) {k : Nat} {x : BK} (hx : M[k]? = some x) {i : Nat} {u : Value} (hu : (blV x)[i]? = some u) : w.cell? ⟨g, k * 5 + i, none⟩ = some u := by
  refine h.cells ?_
  have hi := (List.getElem?_eq_some_iff.1 hu).1
  rw [blV_len] at hi
  rw [fm_get blV 5 blV_len M k i x hx hi, hu]
theorem RowB.reads (h : RowB w g cap M) : Reads w w.heap.size 5 (some ⟨g, 0, none⟩) M.length (M.flatMap blV) :=
  ⟨fmB_len M, fun _ => ⟨_, rfl, h.lt, fun j u hu => by rw [Addr.add_lit, Nat.zero_add]; exact h.cells hu⟩⟩
/-- read as a base -/
theorem RowB.rb (h : RowB w g cap M) : RB w w.heap.size (.slice (some ⟨g, 0, none⟩) M.length cap) (M.map Prod.fst) :=
  ⟨_, _, _, M, rfl, rfl, rfl, ⟨h.len, by have := h.few; omega⟩, h.reads, fun x hx => ⟨(h.nest x hx).1.reads fun b hb => hb.1, (h.nest x hx).2.reads fun b hb => hb.1⟩⟩
/-- a field is stored -/
theorem RowB.store (h : RowB w g cap M) {k j : Nat} {x y : BK} {u : Value} (hx : M[k]? = some x) (hj : j < 5) (he : blV y = (blV x).set j u) (hn : NB w (fun b => b < w.heap.size ∧ b ≠ g) y) : RowB (w.setCell ⟨g, k * 5 + j, none⟩ u) g cap (M.set k y) := by
  obtain ⟨sp, h1, h2⟩ := h.row
  have hk := (List.getElem?_eq_some_iff.1 hx).1
  have hsz : (w.setCell ⟨g, k * 5 + j, none⟩ u).heap.size = w.heap.size := by simp [World.setCell]
  have hkeep : ∀ p : Addr, p.block < w.heap.size ∧ p.block ≠ g → (w.setCell ⟨g, k * 5 + j, none⟩ u).cell? p = w.cell? p := fun p hp => World.cell?_setCell_other _ _ p _ (by intro e; subst e; exact hp.2 rfl)
  refine ⟨⟨sp, ?_, by rw [List.length_set]; exact h2⟩, h.room, by rw [List.length_set]; exact h.few, fun z hz => ?_⟩
  · have := h1.set_ (k * 5 + j) u
    rw [List.setIfInBounds_toArray, List.set_append_left _ _ (by rw [fmB_len]; omega), fmB_set M k j x y u hx hj he] at this
    exact this
  · rw [hsz]
    rcases List.mem_or_eq_of_mem_set hz with hz | rfl
    · exact NB_ok _ _ _ _ z (h.nest z hz) hkeep fun b hb => hb
    · exact NB_ok _ _ _ _ z hn hkeep fun b hb => hb
/-- a whole row anew -/
theorem RowB.setRow (h : RowB w g cap M) {M' : List BK} {sp : List Value} (hl : M'.length * 5 + sp.length = cap * 5) (hf : M'.length ≤ 100000) (hn : ∀ x ∈ M', NB w (fun b => b < w.heap.size ∧ b ≠ g) x) : RowB (w.setRow g (M'.flatMap blV ++ sp).toArray) g cap M' := by
  obtain ⟨sp0, h1, h2⟩ := h.row
  have hkeep : ∀ p : Addr, p.block < w.heap.size ∧ p.block ≠ g → (w.setRow g (M'.flatMap blV ++ sp).toArray).cell? p = w.cell? p := fun p hp => cell_setRow_other _ _ _ _ hp.2
  exact ⟨⟨sp, setRow_heap w g _ _ _ _ h1, hl⟩, h.room, hf, fun x hx => by rw [setRow_size]; exact NB_ok _ _ _ _ x (hn x hx) hkeep fun b hb => hb⟩
/-- a row of the call's own, as the append's law has it -/
theorem RowB.own (h : RowB w g cap M) {base : Nat} (hb : base ≤ g) : w.ownsRow base 52 5 (.slice (some ⟨g, 0, none⟩) M.length cap) M.length (M.flatMap blV) := by
  obtain ⟨sp, h1, h2⟩ := h.row
  refine ⟨fmB_len M, .inr ⟨g, cap, _, rfl, hb, h1, h.len, h.room, by rw [szB, h2], ?_⟩⟩
  rw [List.toList_toArray, List.take_append_of_le_length (by rw [fmB_len]; exact Nat.le_refl _), List.take_of_length_le (by rw [fmB_len]; exact Nat.le_refl _)]
theorem RowB.of_own {base : Nat} {v : Value} (h : w.ownsRow base 52 5 v M.length (M.flatMap blV)) (h0 : 0 < M.length) (hf : M.length ≤ 100000) (hn : ∀ x ∈ M, NB w (fun b => b < w.heap.size ∧ v.ownBlock ≠ some b) x) : ∃ g cap, v = .slice (some ⟨g, 0, none⟩) M.length cap ∧ base ≤ g ∧ RowB w g cap M := by
  rcases h.2 with ⟨_, h1⟩ | ⟨g, cap, cur, rfl, hb, hh, hl, hm, hs, ht⟩
  · omega
  · refine ⟨g, cap, rfl, hb, ⟨⟨cur.toList.drop (M.length * 5), ?_, by
      have e : cur.toList.length = cap * 5 := by rw [Array.length_toList]; exact hs
      rw [List.length_drop, e]; omega⟩, hm, hf, fun x hx => NB_ok _ _ _ _ x (hn x hx) (fun _ _ => rfl) fun b hb => ⟨hb.1, fun e => hb.2 (by rw [e]; rfl)⟩⟩⟩
    show w.heap[g]? = _
    rw [hh, ← ht, List.take_append_drop]
end

/-- copy between rows whose elements take more than one cell -/
theorem run_copy_rowN {P : Program} (w : World) (dT sT ty elem : TypeId) (g o dLen dCap : Nat) (a : Addr) (sLen sCap size : Nat) (cur : Array Value) (t : TypeId) (cs : List Value)
    (hu : P.underlying dT = some (.slice elem)) (hs : (P.info? elem).map (·.size) = some size)
    (hg : w.heap[g]? = some (.cells cur t (0, 0))) (hn : cs.length = Nat.min sLen dLen * size)
    (hsrc : ∀ j v, cs[j]? = some v → w.cell? (a.add j) = some v) (hfit : o + cs.length ≤ cur.size) (h1 : ∀ v ∈ cs, v.oneCell' = true) :
    (Builtin.copy_ #[dT, sT] ty #[.slice (some ⟨g, o, none⟩) dLen dCap, .slice (some a) sLen sCap]).run P w =
      .ok (goInt (Nat.min sLen dLen)) (w.setRow g (cur.toList.take o ++ cs ++ cur.toList.drop (o + cs.length)).toArray) := by
  have hl := run_loadCells_list (P := P) w a cs hsrc
  have hst := run_storeCells_at P g o t cs 0 cur w hg (by simpa using hfit) h1
  cases hq : P.info? elem with
  | none => simp [hq] at hs
  | some i =>
    have hi : i.size = size := by simpa [hq] using hs
    simp [Builtin.copy_, run_underlying hu, Builtin.lenOf, Builtin.firstCells, sizeOf, typeInfo, hq, hi, ← hn, hl, hst]
end Go.Proofs.YtmkicfjcgbfaaaaGreatDoor
