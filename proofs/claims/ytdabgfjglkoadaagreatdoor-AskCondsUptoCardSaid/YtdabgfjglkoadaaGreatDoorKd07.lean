/-
  DERIVED. Values, properties, numbers and blocks of a base in memory, in blocks that meet a condition. Conditions: none.
  Conditions: as trees, and in memory. Conditions: none.
  Conditions: how many nodes, how deep, of what bulk. Plain law. Conditions: none.
  The walks of prop.usesForm and prop.checkNumbers. Conditions: sizes.
  By an AI agent.
-/
import Derived.Test.YtdabgfjglkoadaaGreatDoorKd05
import Derived.WalkSpells
import Derived.Deep.QuietTactic
import Derived.BigQuiet
import Derived.Deep.LoopGhost
import Derived.Test.YtdabgfjglkoadaaGreatDoorChecked
import Derived.Deep.DeepCutAuto
namespace Go.Proofs.YtdabgfjglkoadaaGreatDoor
open Go.RowKit

/-- a slice that reads as a list, its block of a sort -/
def RdX (w : World) (S : Nat → Prop) (size : Nat) (A : Option Addr) (n : Nat) (xs : List Value) : Prop :=
  xs.length = n * size ∧ (0 < n → ∃ ad, A = some ad ∧ S ad.block ∧ ∀ j u, xs[j]? = some u → w.cell? (ad.add j) = some u)
def RVdX (W : World) (S : Nat → Prop) : Nat → Value → List Vl → Prop
  | 0, v, l => l = [] ∧ ∃ A c, v = .slice A 0 c
  | d + 1, v, l => ∃ A n c, ∃ M : List (Vl × Value), M.map Prod.fst = l ∧ v = .slice A n c ∧ n = M.length ∧ (n ≤ c ∧ n * 64 ≤ 140737488351232) ∧ RdX W S 5 A n (M.flatMap vlV) ∧ ∀ x ∈ M, RVdX W S d x.2 x.1.items
def RVX (W : World) (S : Nat → Prop) (v : Value) (l : List Vl) : Prop := ∃ d, RVdX W S d v l
def RPrX (W : World) (S : Nat → Prop) (v : Value) (l : List Pr) : Prop := ∃ A n c, ∃ M : List (Pr × Value), M.map Prod.fst = l ∧ v = .slice A n c ∧ n = M.length ∧ (n ≤ c ∧ n * 80 ≤ 140737488351232) ∧ RdX W S 6 A n (M.flatMap prV) ∧ ∀ x ∈ M, RVX W S x.2 x.1.val.items
def RInX (W : World) (S : Nat → Prop) (v : Value) (l : List Int) : Prop := ∃ A n c, v = .slice A n c ∧ n = l.length ∧ (n ≤ c ∧ n * 8 ≤ 140737488351232) ∧ RdX W S 1 A n (l.map (.int .i64)) ∧ ∀ x ∈ l, I64 x
def RBX (W : World) (S : Nat → Prop) (v : Value) (l : List Bl) : Prop := ∃ A n c, ∃ M : List (Bl × Value × Value), M.map Prod.fst = l ∧ v = .slice A n c ∧ n = M.length ∧ (n ≤ c ∧ n * 80 ≤ 140737488351232) ∧ RdX W S 5 A n (M.flatMap blV) ∧ ∀ x ∈ M, RInX W S x.2.1 x.1.kids ∧ RPrX W S x.2.2 x.1.props
section
variable {w w' : World} {S S' : Nat → Prop} {B size n d : Nat} {A : Option Addr} {xs : List Value} {v : Value}
theorem RdX.keep (h : RdX w S size A n xs) (hk : ∀ p : Addr, S p.block → w'.cell? p = w.cell? p) : RdX w' S size A n xs :=
  ⟨h.1, fun hn => by
    obtain ⟨ad, e, hb, hc⟩ := h.2 hn
    exact ⟨ad, e, hb, fun j u hu => (hk _ (by rw [block_of_add]; exact hb)).trans (hc j u hu)⟩⟩
theorem RdX.reads (h : RdX w S size A n xs) (hS : ∀ b, S b → b < B) : Reads w B size A n xs :=
  ⟨h.1, fun hn => by
    obtain ⟨ad, e, hb, hc⟩ := h.2 hn
    exact ⟨ad, e, hS _ hb, hc⟩⟩
theorem RdX.of (h : Reads w B size A n xs) : RdX w (· < B) size A n xs := h
theorem RdX.of_own {base : Nat} {e : TypeId} (h : w.ownsRow base e size v n xs) : ∃ A c, v = .slice A n c ∧ n ≤ c ∧ RdX w (fun b => v.ownBlock = some b ∧ base ≤ b ∧ b < w.heap.size) size A n xs := by
  obtain ⟨h1, h2⟩ := h
  rcases h2 with ⟨rfl, rfl⟩ | ⟨g, cap, cur, rfl, hg, hh, hnc, r⟩
  · exact ⟨none, 0, rfl, Nat.le_refl _, h1, fun hn => absurd hn (by omega)⟩
  · have hlt : g < w.heap.size := by
      rcases Nat.lt_or_ge g w.heap.size with h | h
      · exact h
      · rw [Array.getElem?_eq_none h] at hh; cases hh
    exact ⟨_, _, rfl, hnc, h1, fun _ => ⟨_, rfl, ⟨rfl, hg, hlt⟩, World.ownsRow.cells (g := g) ⟨h1, .inr ⟨g, cap, cur, rfl, hg, hh, hnc, r⟩⟩ rfl⟩⟩
theorem RVdX.keep (hk : ∀ p : Addr, S p.block → w'.cell? p = w.cell? p) : ∀ {d : Nat} {v : Value} {l : List Vl}, RVdX w S d v l → RVdX w' S d v l
  | 0, _, _, h => h
  | _ + 1, _, _, ⟨A, n, c, M, h1, h2, h3, h4, h5, h6⟩ => ⟨A, n, c, M, h1, h2, h3, h4, h5.keep hk, fun x hx => RVdX.keep hk (h6 x hx)⟩
theorem RVdX.reads (hS : ∀ b, S b → b < B) : ∀ {d : Nat} {v : Value} {l : List Vl}, RVdX w S d v l → RVd w B d v l
  | 0, _, _, h => h
  | _ + 1, _, _, ⟨A, n, c, M, h1, h2, h3, h4, h5, h6⟩ => ⟨A, n, c, M, h1, h2, h3, h4, h5.reads hS, fun x hx => RVdX.reads hS (h6 x hx)⟩
theorem RVdX.of : ∀ {d : Nat} {v : Value} {l : List Vl}, RVd w B d v l → RVdX w (· < B) d v l
  | 0, _, _, h => h
  | _ + 1, _, _, ⟨A, n, c, M, h1, h2, h3, h4, h5, h6⟩ => ⟨A, n, c, M, h1, h2, h3, h4, h5, fun x hx => RVdX.of (h6 x hx)⟩
theorem RVdX.deeper : ∀ {d : Nat} {v : Value} {l : List Vl}, RVdX w S d v l → RVdX w S (d + 1) v l
  | 0, _, _, ⟨h1, A, c, h2⟩ => ⟨A, 0, c, [], by rw [h1]; rfl, h2, rfl, ⟨Nat.zero_le _, by omega⟩, ⟨rfl, fun h => absurd h (by omega)⟩, fun x hx => by cases hx⟩
  | d + 1, _, _, ⟨A, n, c, M, h1, h2, h3, h4, h5, h6⟩ => ⟨A, n, c, M, h1, h2, h3, h4, h5, fun x hx => RVdX.deeper (h6 x hx)⟩
theorem RVdX.deep {l : List Vl} (h : RVdX w S d v l) : ∀ {k : Nat}, RVdX w S (d + k) v l := by
  intro k
  induction k with
  | zero => exact h
  | succ k ih => exact ih.deeper
theorem RVX.keep {l : List Vl} (h : RVX w S v l) (hk : ∀ p : Addr, S p.block → w'.cell? p = w.cell? p) : RVX w' S v l := h.imp fun _ h => RVdX.keep hk h
theorem RVX.reads {l : List Vl} (h : RVX w S v l) (hS : ∀ b, S b → b < B) : RV w B v l := h.imp fun _ h => RVdX.reads hS h
theorem RVX.of {l : List Vl} (h : RV w B v l) : RVX w (· < B) v l := h.imp fun _ h => RVdX.of h
theorem RVX.all : ∀ {M : List (Vl × Value)}, (∀ x ∈ M, RVX w S x.2 x.1.items) → ∃ d, ∀ x ∈ M, RVdX w S d x.2 x.1.items
  | [], _ => ⟨0, fun x hx => by cases hx⟩
  | a :: M, h => by
    obtain ⟨d1, h1⟩ := h a (by simp)
    obtain ⟨d2, h2⟩ := RVX.all (M := M) fun x hx => h x (by simp [hx])
    refine ⟨d1 + d2, fun x hx => ?_⟩
    rcases List.mem_cons.1 hx with rfl | hx
    · exact h1.deep
    · have := (h2 x hx).deep (k := d1)
      rwa [Nat.add_comm] at this
theorem RPrX.keep {l : List Pr} (h : RPrX w S v l) (hk : ∀ p : Addr, S p.block → w'.cell? p = w.cell? p) : RPrX w' S v l := by
  obtain ⟨A, n, c, M, h1, h2, h3, h4, h5, h6⟩ := h
  exact ⟨A, n, c, M, h1, h2, h3, h4, h5.keep hk, fun x hx => (h6 x hx).keep hk⟩
theorem RPrX.reads {l : List Pr} (h : RPrX w S v l) (hS : ∀ b, S b → b < B) : RPr w B v l := by
  obtain ⟨A, n, c, M, h1, h2, h3, h4, h5, h6⟩ := h
  exact ⟨A, n, c, M, h1, h2, h3, h4, h5.reads hS, fun x hx => (h6 x hx).reads hS⟩
theorem RPrX.of {l : List Pr} (h : RPr w B v l) : RPrX w (· < B) v l := by
  obtain ⟨A, n, c, M, h1, h2, h3, h4, h5, h6⟩ := h
  exact ⟨A, n, c, M, h1, h2, h3, h4, h5, fun x hx => .of (h6 x hx)⟩
theorem RInX.keep {l : List Int} (h : RInX w S v l) (hk : ∀ p : Addr, S p.block → w'.cell? p = w.cell? p) : RInX w' S v l := by
  obtain ⟨A, n, c, h1, h2, h3, h4, h5⟩ := h
  exact ⟨A, n, c, h1, h2, h3, h4.keep hk, h5⟩
theorem RInX.reads {l : List Int} (h : RInX w S v l) (hS : ∀ b, S b → b < B) : RIn w B v l := by
  obtain ⟨A, n, c, h1, h2, h3, h4, h5⟩ := h
  exact ⟨A, n, c, h1, h2, h3, h4.reads hS, h5⟩
theorem RInX.of {l : List Int} (h : RIn w B v l) : RInX w (· < B) v l := h
theorem RBX.keep {l : List Bl} (h : RBX w S v l) (hk : ∀ p : Addr, S p.block → w'.cell? p = w.cell? p) : RBX w' S v l := by
  obtain ⟨A, n, c, M, h1, h2, h3, h4, h5, h6⟩ := h
  exact ⟨A, n, c, M, h1, h2, h3, h4, h5.keep hk, fun x hx => ⟨(h6 x hx).1.keep hk, (h6 x hx).2.keep hk⟩⟩
theorem RBX.reads {l : List Bl} (h : RBX w S v l) (hS : ∀ b, S b → b < B) : RB w B v l := by
  obtain ⟨A, n, c, M, h1, h2, h3, h4, h5, h6⟩ := h
  exact ⟨A, n, c, M, h1, h2, h3, h4, h5.reads hS, fun x hx => ⟨(h6 x hx).1.reads hS, (h6 x hx).2.reads hS⟩⟩
end
/-! ### a row of the call's own, with what its elements lead to -/
def Nest (α : Type) := World → (Nat → Prop) → α → Prop
def NestOk {α : Type} (N : Nest α) : Prop := ∀ (w w' : World) (S S' : Nat → Prop) (x : α), N w S x → (∀ p : Addr, S p.block → w'.cell? p = w.cell? p) → (∀ b, S b → S' b) → N w' S' x
/-- a row of the call's own; what its elements lead to lies in other blocks of the call's own -/
structure OwnX {α : Type} (enc : α → List Value) (size : Nat) (e : TypeId) (N : Nest α) (w : World) (base : Nat) (v : Value) (M : List α) : Prop where
  own : w.ownsRow base e size v M.length (M.flatMap enc)
  nest : ∀ x ∈ M, N w (fun b => base ≤ b ∧ b < w.heap.size ∧ v.ownBlock ≠ some b) x
theorem own_block_lt {w : World} {base n size : Nat} {e : TypeId} {v : Value} {xs : List Value} (h : w.ownsRow base e size v n xs) : ∀ g, v.ownBlock = some g → base ≤ g ∧ g < w.heap.size := by
  intro g hg
  rcases h.2 with ⟨rfl, _⟩ | ⟨g', cap, cur, rfl, hb, hh, _⟩
  · cases hg
  · injection hg with hg
    subst hg
    refine ⟨hb, ?_⟩
    rcases Nat.lt_or_ge g' w.heap.size with h | h
    · exact h
    · rw [Array.getElem?_eq_none h] at hh; cases hh
section
variable {α : Type} {enc : α → List Value} {size base : Nat} {e : TypeId} {N : Nest α} {w w' : World} {v v' : Value} {M : List α} {x : α}
theorem OwnX.start (w : World) (base : Nat) : OwnX enc size e N w base (.slice none 0 0) [] := ⟨World.ownsRow_nil w base e size, fun x hx => by cases hx⟩
theorem OwnX.below (hN : NestOk N) (h : OwnX enc size e N w base v M) (hb : Below w.heap.size w w') : OwnX enc size e N w' base v M :=
  ⟨own_below h.own hb, fun x hx => hN _ _ _ _ x (h.nest x hx) (fun _ hp => hb.cell hp.2.1) fun _b hb' => ⟨hb'.1, Nat.lt_of_lt_of_le hb'.2.1 hb.size, hb'.2.2⟩⟩
end
theorem RVX.slice {w : World} {S : Nat → Prop} {v : Value} {l : List Vl} (h : RVX w S v l) : ∃ A n c, v = .slice A n c := by
  obtain ⟨d, h⟩ := h
  obtain ⟨A, n, c, M, _, h2, _⟩ := h.deeper
  exact ⟨A, n, c, h2⟩
end Go.Proofs.YtdabgfjglkoadaaGreatDoor
namespace Go.Proofs.YtdabgfjglkoadaaGreatDoor
open Go.RowKit

/-- a condition -/
inductive Cd where
  | mk (op : Int) (name text : ByteArray) (val : Vl) (num : Int) (kids : List Cd)
def Cd.op : Cd → Int | .mk o _ _ _ _ _ => o
def Cd.name : Cd → ByteArray | .mk _ s _ _ _ _ => s
def Cd.text : Cd → ByteArray | .mk _ _ s _ _ _ => s
def Cd.val : Cd → Vl | .mk _ _ _ v _ _ => v
def Cd.num : Cd → Int | .mk _ _ _ _ n _ => n
def Cd.kids : Cd → List Cd | .mk _ _ _ _ _ l => l
/-- ten cells: a condition, its value's items and its kids told apart -/
def cdV (x : Cd × Value × Value) : List Value := [.int .i64 x.1.op, .string x.1.name, .string x.1.text, .int .i64 x.1.val.kind, .int .i64 x.1.val.int_, .int .i64 x.1.val.to_, .string x.1.val.text, x.2.1, .int .i64 x.1.num, x.2.2]
theorem cdV_len (x : Cd × Value × Value) : (cdV x).length = 10 := rfl
/-- a condition as an aggregate -/
def ACd (x : Cd × Value × Value) : Value := .agg #[.int .i64 x.1.op, .string x.1.name, .string x.1.text, .int .i64 x.1.val.kind, .int .i64 x.1.val.int_, .int .i64 x.1.val.to_, .string x.1.val.text, x.2.1, .int .i64 x.1.num, x.2.2]
/-- conditions in a row, at most d deep -/
def RCdd (W : World) (B : Nat) : Nat → Value → List Cd → Prop
  | 0, v, l => l = [] ∧ ∃ A c, v = .slice A 0 c
  | d + 1, v, l => ∃ A n c, ∃ M : List (Cd × Value × Value), M.map Prod.fst = l ∧ v = .slice A n c ∧ n = M.length ∧ (n ≤ c ∧ n * 136 ≤ 140737488351232) ∧ Reads W B 10 A n (M.flatMap cdV) ∧ ∀ x ∈ M, RV W B x.2.1 x.1.val.items ∧ RCdd W B d x.2.2 x.1.kids
/-- a condition in hand: what its value and its kids lead to -/
def RCd (W : World) (B d : Nat) (vi vk : Value) (c : Cd) : Prop := RV W B vi c.val.items ∧ RCdd W B d vk c.kids
section
variable {W W' : World} {B B' d : Nat} {v vi vk : Value} {A : Option Addr} {n c : Nat}
theorem RCdd.below (hb : Below B W W') : ∀ {d : Nat} {v : Value} {l : List Cd}, RCdd W B d v l → RCdd W' B d v l
  | 0, _, _, h => h
  | _ + 1, _, _, ⟨A, n, c, M, h1, h2, h3, h4, h5, h6⟩ => ⟨A, n, c, M, h1, h2, h3, h4, h5.below hb, fun x hx => ⟨(h6 x hx).1.below hb, RCdd.below hb (h6 x hx).2⟩⟩
theorem RCdd.slice : ∀ {d : Nat} {v : Value} {l : List Cd}, RCdd W B d v l → ∃ A n c, v = .slice A n c
  | 0, _, _, ⟨_, A, c, h⟩ => ⟨A, 0, c, h⟩
  | _ + 1, _, _, ⟨A, n, c, _, _, h, _⟩ => ⟨A, n, c, h⟩
theorem RCdd.len : ∀ {d : Nat} {l : List Cd}, RCdd W B d (.slice A n c) l → n = l.length ∧ n * 136 ≤ 140737488351232
  | 0, _, ⟨h, A', c', e⟩ => by
    injection e with _ e2 _
    subst h e2
    exact ⟨rfl, by omega⟩
  | _ + 1, _, ⟨A', n', c', M, h1, e, h3, h4, _⟩ => by
    injection e with _ e2 _
    subst e2
    exact ⟨by rw [h3, ← h1, List.length_map], h4.2⟩
/-- a condition in a row -/
theorem RCdd.at_ : ∀ {d : Nat} {l : List Cd}, RCdd W B d (.slice A n c) l → ∀ {k : Nat} {x : Cd}, l[k]? = some x → ∃ (d' b off : Nat) (Ai : Option Addr) (ni ci : Nat) (Ak : Option Addr) (nk ck : Nat), d = d' + 1 ∧ A = some ⟨b, off, none⟩ ∧ b < B ∧ (∀ i u, (cdV (x, .slice Ai ni ci, .slice Ak nk ck))[i]? = some u → W.cell? ⟨b, off + k * 10 + i, none⟩ = some u) ∧ RCd W B d' (.slice Ai ni ci) (.slice Ak nk ck) x
  | 0, _, ⟨h, _⟩, k, x, hk => by rw [h] at hk; cases hk
  | d + 1, _, ⟨A', n', c', M, h1, e, h3, h4, h5, h6⟩, k, x, hk => by
    injection e with e1 e2 e3
    subst e1 e2 e3
    obtain ⟨y, hy, rfl⟩ : ∃ y, M[k]? = some y ∧ y.1 = x := by
      rw [← h1, List.getElem?_map, Option.map_eq_some_iff] at hk
      exact hk
    obtain ⟨b, off, e, hb, hc⟩ := h5.plain_at (by omega) cdV_len h3 hy
    obtain ⟨k1, k2⟩ := h6 y (List.mem_of_getElem? hy)
    obtain ⟨y1, v1, v2⟩ := y
    obtain ⟨Ai, ni, ci, rfl⟩ := k1.slice
    obtain ⟨Ak, nk, ck, rfl⟩ := k2.slice
    exact ⟨d, b, off, Ai, ni, ci, Ak, nk, ck, rfl, e, hb, hc, k1, k2⟩
theorem RCd.below {x : Cd} (h : RCd W B d vi vk x) (hb : Below B W W') : RCd W' B d vi vk x := ⟨h.1.below hb, h.2.below hb⟩
end
end Go.Proofs.YtdabgfjglkoadaaGreatDoor
namespace Go.Proofs.YtdabgfjglkoadaaGreatDoor

mutual
/-- the nodes of a condition -/
def cdN : Cd → Nat
  | .mk _ _ _ _ _ ks => 1 + cdNs ks
def cdNs : List Cd → Nat
  | [] => 0
  | c :: l => cdN c + cdNs l
end
mutual
/-- how deep a condition is -/
def cdD : Cd → Nat
  | .mk _ _ _ _ _ ks => 1 + cdDs ks
def cdDs : List Cd → Nat
  | [] => 0
  | c :: l => max (cdD c) (cdDs l)
end
theorem cdN_eq (c : Cd) : cdN c = 1 + cdNs c.kids := by cases c; rw [cdN]; rfl
theorem cdD_eq (c : Cd) : cdD c = 1 + cdDs c.kids := by cases c; rw [cdD]; rfl
theorem cdNs_app : ∀ (l m : List Cd), cdNs (l ++ m) = cdNs l + cdNs m
  | [], m => by rw [List.nil_append, cdNs, Nat.zero_add]
  | c :: l, m => by rw [List.cons_append, cdNs, cdNs, cdNs_app l m, Nat.add_assoc]
theorem cdDs_app : ∀ (l m : List Cd), cdDs (l ++ m) = max (cdDs l) (cdDs m)
  | [], m => by rw [List.nil_append, cdDs, Nat.zero_max]
  | c :: l, m => by rw [List.cons_append, cdDs, cdDs, cdDs_app l m, Nat.max_assoc]
theorem take_one {l : List Cd} {k : Nat} {x : Cd} (h : l[k]? = some x) : l.take (k + 1) = l.take k ++ [x] := by rw [List.take_add_one, h]; rfl
theorem cdNs_take {l : List Cd} {k : Nat} {x : Cd} (h : l[k]? = some x) : cdNs (l.take (k + 1)) = cdNs (l.take k) + cdN x := by
  rw [take_one h, cdNs_app, cdNs, cdNs, Nat.add_zero]
theorem cdDs_take {l : List Cd} {k : Nat} {x : Cd} (h : l[k]? = some x) : cdDs (l.take (k + 1)) = max (cdDs (l.take k)) (cdD x) := by
  rw [take_one h, cdDs_app, cdDs, cdDs, Nat.max_zero]
theorem cdN_pos (c : Cd) : 0 < cdN c := by rw [cdN_eq]; omega
theorem cdNs_le (l : List Cd) (k : Nat) : cdNs (l.take k) ≤ cdNs l := by
  have := cdNs_app (l.take k) (l.drop k)
  rw [List.take_append_drop] at this
  omega
theorem cdNs_len : ∀ l : List Cd, l.length ≤ cdNs l
  | [] => Nat.le_refl _
  | c :: l => by
    have := cdNs_len l
    have := cdN_pos c
    rw [List.length_cons, cdNs]
    omega
mutual
theorem cdD_le : ∀ c : Cd, cdD c ≤ cdN c
  | .mk _ _ _ _ _ ks => by
    have := cdDs_le ks
    rw [cdD, cdN]; omega
theorem cdDs_le : ∀ l : List Cd, cdDs l ≤ cdNs l
  | [] => by rw [cdDs, cdNs]; exact Nat.le_refl _
  | c :: l => by
    have := cdD_le c
    have := cdDs_le l
    rw [cdDs, cdNs]; omega
end
mutual
/-- the bulk of a condition: its nodes and the bytes of their texts -/
def cdB : Cd → Nat
  | .mk _ _ t _ _ ks => 1 + t.size + cdBs ks
def cdBs : List Cd → Nat
  | [] => 0
  | c :: l => cdB c + cdBs l
end
theorem cdB_eq (c : Cd) : cdB c = 1 + c.text.size + cdBs c.kids := by cases c; rw [cdB]; rfl
theorem cdB_kid : ∀ {l : List Cd} {k : Nat} {x : Cd}, l[k]? = some x → cdB x ≤ cdBs l
  | y :: l, 0, x, h => by
    obtain rfl : y = x := by simpa using h
    rw [cdBs]; omega
  | y :: l, k + 1, x, h => by
    have := cdB_kid (l := l) (k := k) (x := x) (by simpa using h)
    rw [cdBs]; omega
mutual
theorem cdN_le : ∀ c : Cd, cdN c ≤ cdB c
  | .mk _ _ _ _ _ ks => by
    have := cdNs_leB ks
    rw [cdN, cdB]; omega
theorem cdNs_leB : ∀ l : List Cd, cdNs l ≤ cdBs l
  | [] => by rw [cdNs, cdBs]; exact Nat.le_refl _
  | c :: l => by
    have := cdN_le c
    have := cdNs_leB l
    rw [cdNs, cdBs]; omega
end
end Go.Proofs.YtdabgfjglkoadaaGreatDoor
namespace Go.Proofs.YtdabgfjglkoadaaGreatDoor
open Go.RowKit

def hasI (k : Int) : Bool := (k == 1) || (k == 2) || (k == 4) || (k == 5)
def hasT (k : Int) : Bool := (k == 3) || (k == 6)
/-- a value has no field that its kind does not use -/
def ufB (x : Vl) : Bool := (hasI x.kind || x.int_ == 0) && ((x.kind == 5) || x.to_ == 0) && (hasT x.kind || x.text.toList.isEmpty) && ((x.kind == 7) || ((x.items.length : Int) == 0))

set_option maxHeartbeats 4000000 in
theorem usesForm_any (x : Vl) (A : Option Addr) (n c : Nat) (w : World) (hn : n = x.items.length) :
    Calls Tryz.prog 57 #[AV (x, .slice A n c)] w fun e w' => e = .returned (.bool (ufB x)) ∧ Below w.heap.size w w' := by
  obtain ⟨k, i, t, s, l⟩ := x
  dsimp only [AV, Vl.kind, Vl.int_, Vl.to_, Vl.text, Vl.items] at hn ⊢
  unfold ufB hasI hasT
  dsimp only [Vl.kind, Vl.int_, Vl.to_, Vl.text, Vl.items]
  rw [← hn]
  clear hn
  obtain ⟨k1, h1⟩ : ∃ q, (k == 1) = q := ⟨_, rfl⟩
  obtain ⟨k2, h2⟩ : ∃ q, (k == 2) = q := ⟨_, rfl⟩
  obtain ⟨k3, h3⟩ : ∃ q, (k == 3) = q := ⟨_, rfl⟩
  obtain ⟨k4, h4⟩ : ∃ q, (k == 4) = q := ⟨_, rfl⟩
  obtain ⟨k5, h5⟩ : ∃ q, (k == 5) = q := ⟨_, rfl⟩
  obtain ⟨k6, h6⟩ : ∃ q, (k == 6) = q := ⟨_, rfl⟩
  obtain ⟨k7, h7⟩ : ∃ q, (k == 7) = q := ⟨_, rfl⟩
  obtain ⟨z1, g1⟩ : ∃ q, (i == 0) = q := ⟨_, rfl⟩
  obtain ⟨z2, g2⟩ : ∃ q, (t == 0) = q := ⟨_, rfl⟩
  obtain ⟨z3, g3⟩ : ∃ q, s.toList.isEmpty = q := ⟨_, rfl⟩
  obtain ⟨z4, g4⟩ : ∃ q, ((n : Int) == 0) = q := ⟨_, rfl⟩
  rw [h1, h2, h3, h4, h5, h6, h7, g1, g2, g3, g4]
  have W : True := trivial
  go_enter Tryz.func57, Tryz.ntmps57
  go_upto_region 1 with fail
  go_cut [3] (fun s3 wc => s3 = .bool (k1 || k2 || k4 || k5) ∧ wc = w.alloc (.cells #[.int .i64 k, .int .i64 i, .int .i64 t, .string s, .slice A n c] 24))
  case first =>
    go_wp2_with fail
    all_goals
      go_meet
      exact ⟨by simp_all, rfl⟩
  case rest =>
  obtain ⟨rfl, rfl⟩ := hcut
  go_upto_region 2 with fail
  go_cut [4] (fun s4 wc => s4 = .bool (k3 || k6) ∧ wc = w.alloc (.cells #[.int .i64 k, .int .i64 i, .int .i64 t, .string s, .slice A n c] 24))
  case first =>
    go_wp2_with fail
    all_goals
      go_meet
      exact ⟨by simp_all, rfl⟩
  case rest =>
  obtain ⟨rfl, rfl⟩ := hcut
  obtain ⟨a1, e1⟩ : ∃ q, (k1 || k2 || k4 || k5) = q := ⟨_, rfl⟩
  obtain ⟨a2, e2⟩ : ∃ q, (k3 || k6) = q := ⟨_, rfl⟩
  rw [e1, e2]
  clear h1 h2 h3 h4 h6
  go_wp2_with fail
  all_goals
    go_ret
    exact ⟨by simp_all, (Below.refl _ _).alloc (Nat.le_refl _) _⟩

def outI (n a b : Int) : Bool := decide (n < a ∨ b < n)
/-- the error of the numbers of a value -/
def nuErr (k i t : Int) : Int :=
  if (k == 1) = true then (if outI i 0 1 = true then 2 else 0)
  else if (k == 2) = true then (if outI i (-1000000000) 1000000000 = true then 2 else 0)
  else if (k == 4) = true then (if outI i 0 100000 = true then 2 else 0)
  else if (k == 5) = true then (if (outI i 0 100000 || outI t 0 100000) = true then 2 else if t < i then 5 else 0)
  else 0

set_option maxHeartbeats 4000000 in
theorem checkNumbers_any (x : Vl × Value) (w : World) :
    Calls Tryz.prog 58 #[AV x] w fun e w' => e = .returned (.int .i64 (nuErr x.1.kind x.1.int_ x.1.to_)) ∧ Below w.heap.size w w' := by
  obtain ⟨⟨k, i, t, s, l⟩, v⟩ := x
  dsimp only [AV, Vl.kind, Vl.int_, Vl.to_, Vl.text, Vl.items]
  have HO : Hid (∀ n a b W, Calls Tryz.prog 56 #[.int .i64 n, .int .i64 a, .int .i64 b] W fun e w' => e = .returned (.bool (outI n a b)) ∧ w' = W) := fun n a b W => outsideP_any n a b W
  obtain ⟨k1, h1⟩ : ∃ q, (k == 1) = q := ⟨_, rfl⟩
  obtain ⟨k2, h2⟩ : ∃ q, (k == 2) = q := ⟨_, rfl⟩
  obtain ⟨k4, h4⟩ : ∃ q, (k == 4) = q := ⟨_, rfl⟩
  obtain ⟨k5, h5⟩ : ∃ q, (k == 5) = q := ⟨_, rfl⟩
  unfold nuErr
  rw [h1, h2, h4, h5]
  go_enter Tryz.func58, Tryz.ntmps58
  go_wp2_with (refine (HO.out _ _ _ _).mono ?_; rintro e w1 ⟨rfl, rfl⟩)
  all_goals
    first
      | (go_ret; exact ⟨rfl, (Below.refl _ _).alloc (Nat.le_refl _) _⟩)
      | (go_ret; exact ⟨by simp_all, (Below.refl _ _).alloc (Nat.le_refl _) _⟩)
      | skip
  all_goals fail
end Go.Proofs.YtdabgfjglkoadaaGreatDoor
