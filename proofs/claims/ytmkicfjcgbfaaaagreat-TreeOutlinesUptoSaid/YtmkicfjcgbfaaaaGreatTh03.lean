/-
  DERIVED. The walk of tree.prune. Conditions: sizes.
  The walk of the reference's PruneOf. Conditions: sizes; a base without error.
  Lines of an outline in memory; the operations that graft them: plain facts.
  The walk of tree.Split. Conditions: sizes.
  DERIVED: THE SHELF's CONTRACTS AT THIS DUMP, IN PLAIN WORDS (tools/lay-plain.mjs out of 'TryShelf.lean', which tools/lay-shelf.mjs wrote): THE SAME DECLARATIONS UNDER THE SAME NAMES: 'import', 'namespace', 'open', 'def', 'theorem' AND NOTHING ELSE: no command of the shelf's: FOR A HAND-IN. Each laying: the table of numbers ('.._ren') and one theorem, a field a fact of the dump's own or the kernel's comparison; each contract: ONE APPLICATION.
  By an AI agent.
-/
import Derived.Test.YtmkicfjcgbfaaaaGreatTh01
import Derived.Test.YtmkicfjcgbfaaaaGreatTg38
import Derived.Test.YtmkicfjcgbfaaaaGreatTg31
import Derived.Test.YtmkicfjcgbfaaaaGreatTg04
import Derived.Test.YtmkicfjcgbfaaaaGreatTg41
import Derived.Stop.RegionWithIn
import Derived.Sort.CutIn
import Derived.Test.YtmkicfjcgbfaaaaGreatTg45
import Derived.Shelf.Strings.Builder1
import Derived.Shelf.Strings.Builder2
import Derived.Shelf.Strings.OnBuilder
import Derived.Shelf.Small.Strs
import Derived.Shelf.Strings.BuilderF
import Derived.Test.YtmkicfjcgbfaaaaGreatProg
namespace Go.Proofs.YtmkicfjcgbfaaaaGreat
open Go.RowKit Go.Shelf

attribute [local go_sem] Oper.semAt_some

/-- operations of which none has items -/
def rowsO (os : List Opn) : List Value := os.flatMap fun o => opV (o, .slice none 0 0)
theorem rowsO_snoc (os : List Opn) (o : Opn) : rowsO (os ++ [o]) = rowsO os ++ opV (o, .slice none 0 0) := by simp [rowsO]
/-- the operations so far: in a box, in a row of the loop's own -/
structure PrS (W0 W : World) (bl : Nat) (os : List Opn) : Prop where
  box : ∃ v, Boxed W bl 23 v ∧ W.ownsRow W0.heap.size 31 13 v os.length (rowsO os) ∧ True
  bel : Below bl W0 W
section
variable {W0 W W' w1 : World} {bl a b : Nat} {os : List Opn}
theorem PrS.below (h : PrS W0 W bl os) (hb : Below W.heap.size W W') (hbl : bl < W0.heap.size) : PrS W0 W' bl os := by
  obtain ⟨v, h1, h2, _⟩ := h.box
  have hz := h.bel.size
  exact ⟨⟨v, Blk.below (B := W.heap.size) h1 hb (by omega), own_below h2 hb, trivial⟩, h.bel.trans (hb.mono (by omega))⟩
theorem PrS.app (h : PrS W0 W bl os) (hbl : bl < W0.heap.size) (ha : a < W0.heap.size) (hb2 : b < W0.heap.size) (hna : a ≠ bl) (hnb : b ≠ bl) {v v' : Value} (hv : Boxed W bl 23 v) (hrow : W.ownsRow W0.heap.size 31 13 v os.length (rowsO os)) {o : Opn}
    (hown : w1.ownsRow W0.heap.size 31 13 v' (os.length + 1) (rowsO os ++ opV (o, .slice none 0 0))) (hg : W.grownBy w1 v.ownBlock) :
    Boxed w1 bl 23 v ∧ PrS W0 (w1.setCell ⟨bl, 0, none⟩ v') bl (os ++ [o]) ∧ KeepsOthers W (w1.setCell ⟨bl, 0, none⟩ v') ∧ K2 a b W (w1.setCell ⟨bl, 0, none⟩ v') ∧ Below bl W (w1.setCell ⟨bl, 0, none⟩ v') := by
  have hz := h.bel.size
  have hob := own_block_lt hrow
  have hvb : ∀ i, i < W0.heap.size → some i ≠ v.ownBlock := fun i hi e => by have := (hob i e.symm).1; omega
  have hv1 : Boxed w1 bl 23 v := Blk.grown hv hg (hvb bl hbl)
  have hzs : (w1.setCell ⟨bl, 0, none⟩ v').heap.size = w1.heap.size := by simp [World.setCell]
  have hbA : Below bl W (w1.setCell ⟨bl, 0, none⟩ v') := ((Below.refl bl W).grown hg (by omega) (fun g hg' => by have := (hob g hg').1; omega)).setCell (p := ⟨bl, 0, none⟩) (Nat.le_refl _) v'
  refine ⟨hv1, ⟨⟨v', ?_, ?_, trivial⟩, h.bel.trans hbA⟩, ?_, ?_, hbA⟩
  · exact Blk.set_ (cs := #[v]) hv1 0 v'
  · rw [rowsO_snoc, List.length_append]
    exact ownsRow_setCell_below hown (a := ⟨bl, 0, none⟩) hbl v'
  · refine (KeepsOthers.of_grownBy hg fun j o hj ho => ?_).trans (KeepsOthers.setCell _ _ _)
    rcases hrow.2 with ⟨rfl, _⟩ | ⟨g, cap, cur, rfl, _, hh, _⟩
    · cases hj
    · have e : g = j := Option.some.inj hj
      subst e
      rw [hh] at ho
      cases ho; rfl
  · refine ⟨by rw [hzs]; exact hg.size, ?_, ?_⟩
    · rw [Below.heap_setCell w1 _ _ a hna]; exact hg.block a (by omega) (hvb a ha)
    · rw [Below.heap_setCell w1 _ _ b hnb]; exact hg.block b (by omega) (hvb b hb2)
end
theorem ros_own {W : World} {base : Nat} {v : Value} {os : List Opn} (h : W.ownsRow base 31 13 v os.length (rowsO os)) (hb : os.length * 144 ≤ 140737488351232) (hO : ∀ o ∈ os, OI o ∧ o.val.items = []) :
    ∃ A c, v = .slice A os.length c ∧ ROs W W.heap.size (.slice A os.length os.length) os ∧ os.length ≤ c ∧ (A = none → os.length = 0 ∧ c = 0) := by
  have hr : ∀ A c, v = .slice A os.length c → ROs W W.heap.size (.slice A os.length os.length) os := fun A c e => by
    obtain ⟨A', c', e', hR⟩ := own_reads h
    rw [e] at e'
    injection e' with e1 e2 e3
    subst e1
    refine ⟨A, _, _, os.map fun o => (o, .slice none 0 0), by rw [List.map_map]; exact List.map_id os, rfl, by simp, ⟨Nat.le_refl _, hb⟩, ?_, fun x hx => ?_⟩
    · rw [List.flatMap_map]; exact hR
    · obtain ⟨o, ho, rfl⟩ := List.mem_map.1 hx
      refine ⟨?_, (hO o ho).1⟩
      show RV _ _ _ o.val.items
      rw [(hO o ho).2]
      exact RV.nil _ _
  rcases h.2 with ⟨e, h0⟩ | ⟨g, cap, cur, e, hg, hh, hle, _⟩
  · refine ⟨none, 0, ?_, ?_, ?_, fun _ => ⟨?_, rfl⟩⟩
    · rw [e, h0]
    · exact hr none 0 (by rw [e, h0])
    · omega
    · omega
  · exact ⟨_, cap, e, hr _ _ e, hle, fun e => by cases e⟩
end Go.Proofs.YtmkicfjcgbfaaaaGreat
namespace Go.Proofs.YtmkicfjcgbfaaaaGreat
open Go.RowKit

theorem ROs.recap {w : World} {B n c c' : Nat} {A : Option Addr} {l : List Opn} (h : ROs w B (.slice A n c) l) (hc : n ≤ c') : ROs w B (.slice A n c') l := by
  obtain ⟨A', n', c2, M, h1, e, h2, h3, h4⟩ := h
  injection e with e1 e2 e3
  subst e1 e2
  exact ⟨A, n, c', M, h1, rfl, h2, ⟨hc, h3.2⟩, h4⟩
end Go.Proofs.YtmkicfjcgbfaaaaGreat
namespace Go.Proofs.YtmkicfjcgbfaaaaGreat
open Go.RowKit

def lnV (x : Int × ByteArray) : List Value := [.int .i64 x.1, .string x.2]
/-- lines of an outline in memory -/
def RLn (W : World) (B : Nat) (v : Value) (ls : List (Int × ByteArray)) : Prop := ∃ A n c, v = .slice A n c ∧ n = ls.length ∧ n ≤ c ∧ n ≤ 1048576 ∧ Reads W B 2 A n (ls.flatMap lnV) ∧ ∀ x ∈ ls, I64 x.1 ∧ x.2.size ≤ 1048576
section
variable {W W' : World} {B n c : Nat} {A : Option Addr} {v : Value} {ls : List (Int × ByteArray)}
theorem RLn.below (h : RLn W B v ls) (hb : Below B W W') : RLn W' B v ls := by
  obtain ⟨A, n, c, h1, h2, h3, h4, h5, h6⟩ := h
  exact ⟨A, n, c, h1, h2, h3, h4, h5.below hb, h6⟩
theorem RLn.len (h : RLn W B (.slice A n c) ls) : n = ls.length ∧ n ≤ c ∧ n ≤ 1048576 := by
  obtain ⟨A', n', c', h1, h2, h3, h4, _⟩ := h
  injection h1 with e1 e2 e3
  subst e1 e2 e3
  exact ⟨h2, h3, h4⟩
theorem RLn.at_ (h : RLn W B (.slice A n c) ls) {k : Nat} {x : Int × ByteArray} (hk : ls[k]? = some x) : ∃ b off, A = some ⟨b, off, none⟩ ∧ b < B ∧ W.cell? ⟨b, off + k * 2, none⟩ = some (.int .i64 x.1) ∧ W.cell? ⟨b, off + k * 2 + 1, none⟩ = some (.string x.2) ∧ I64 x.1 ∧ x.2.size ≤ 1048576 := by
  obtain ⟨A', n', c', h1, h2, h3, h4, h5, h6⟩ := h
  injection h1 with e1 e2 e3
  subst e1 e2
  obtain ⟨b, off, e, hb, hc⟩ := h5.plain_at (enc := lnV) (c := 2) (by decide) (fun _ => rfl) h2 hk
  exact ⟨b, off, e, hb, hc 0 _ rfl, hc 1 _ rfl, h6 x (List.mem_of_getElem? hk)⟩
end
/-- the depth of the line before a place -/
def lastD (ls : List (Int × ByteArray)) (k : Nat) : Int := if k = 0 then -1 else (ls.getD (k - 1) (0, ⟨#[]⟩)).1
/-- no line is more than one level below the one before it -/
def LnTo (ls : List (Int × ByteArray)) (n : Nat) : Prop := ∀ k x, k < n → ls[k]? = some x → 0 ≤ x.1 ∧ x.1 ≤ lastD ls k + 1
theorem lastD_succ {ls : List (Int × ByteArray)} {k : Nat} {x : Int × ByteArray} (h : ls[k]? = some x) : lastD ls (k + 1) = x.1 := by
  unfold lastD
  rw [if_neg (by omega), Nat.add_sub_cancel, List.getD_eq_getElem?_getD, h]; rfl
theorem lastD_le {ls : List (Int × ByteArray)} : ∀ {k : Nat}, k ≤ ls.length → LnTo ls k → -1 ≤ lastD ls k ∧ lastD ls k + 1 ≤ (k : Int)
  | 0, _, _ => by unfold lastD; rw [if_pos rfl]; omega
  | k + 1, hk, h => by
    obtain ⟨x, hx⟩ : ∃ x, ls[k]? = some x := ⟨_, List.getElem?_eq_getElem (by omega)⟩
    have h1 := h k x (by omega) hx
    have h2 := lastD_le (k := k) (by omega) fun j y hj hy => h j y (by omega) hy
    rw [lastD_succ hx]
    omega
/-- an operation that inserts -/
def inO (id par a : Int) (tx : ByteArray) : Opn := ⟨1, id, par, a, 0, 0, tx, ⟨#[]⟩, zV⟩
/-- what has been reckoned behind some lines: the way, how many blocks each of it has, the operations -/
def grS (ls : List (Int × ByteArray)) (i0 pr pl : Int) : Nat → List Int × List Int × List Opn
  | 0 => ([pr], [pl], [])
  | k + 1 =>
    let s := grS ls i0 pr pl k
    let x := ls.getD k (0, ⟨#[]⟩)
    let D := x.1.toNat
    (s.1.take (D + 1) ++ [i0 + 1 + (k : Int)], ((s.2.1.take (D + 1)).set D (s.2.1.getD D 0 + 1)) ++ [0], s.2.2 ++ [inO (i0 + 1 + (k : Int)) (s.1.getD D 0) (s.2.1.getD D 0) x.2])
structure GrOk (ls : List (Int × ByteArray)) (i0 pr pl : Int) (k : Nat) : Prop where
  l1 : ((grS ls i0 pr pl k).1.length : Int) = lastD ls k + 2
  l2 : ((grS ls i0 pr pl k).2.1.length : Int) = lastD ls k + 2
  l3 : (grS ls i0 pr pl k).2.2.length = k
  b1 : ∀ x ∈ (grS ls i0 pr pl k).1, 0 ≤ x ∧ x ≤ 1000000 + 1 + (k : Int)
  b2 : ∀ x ∈ (grS ls i0 pr pl k).2.1, 0 ≤ x ∧ x ≤ pl + (k : Int)
  ok : ∀ o ∈ (grS ls i0 pr pl k).2.2, OI o ∧ o.val.items = []
theorem mem_set_lt {L : List Int} {i : Nat} {y x : Int} (h : x ∈ L.set i y) : x ∈ L ∨ x = y := List.mem_or_eq_of_mem_set h
theorem grOk {ls : List (Int × ByteArray)} {i0 pr pl : Int} (hi : 0 ≤ i0 ∧ i0 ≤ 1000000) (hp : 0 ≤ pr ∧ pr ≤ 1000000) (hl : 0 ≤ pl ∧ pl ≤ 1000) (hs : ls.length ≤ 1048576) (ht : ∀ x ∈ ls, x.2.size ≤ 1048576) : ∀ k, k ≤ ls.length → LnTo ls k → GrOk ls i0 pr pl k
  | 0, _, _ => ⟨rfl, rfl, rfl, fun x hx => by cases List.mem_singleton.1 hx; omega, fun x hx => by cases List.mem_singleton.1 hx; omega, fun o ho => by cases ho⟩
  | k + 1, hk, h => by
    have G := grOk hi hp hl hs ht k (by omega) fun j y hj hy => h j y (by omega) hy
    obtain ⟨x, hx⟩ : ∃ x, ls[k]? = some x := ⟨_, List.getElem?_eq_getElem (by omega)⟩
    have h1 := h k x (by omega) hx
    have hgx : ls.getD k (0, ⟨#[]⟩) = x := by rw [List.getD_eq_getElem?_getD, hx]; rfl
    have h2 := lastD_succ hx
    obtain ⟨D, hD⟩ : ∃ D : Nat, x.1 = (D : Int) := ⟨x.1.toNat, by omega⟩
    have hDn : x.1.toNat = D := by omega
    have g1 := G.l1
    have g2 := G.l2
    have w1 : D < (grS ls i0 pr pl k).1.length := by omega
    have w2 : D < (grS ls i0 pr pl k).2.1.length := by omega
    have e1 : (grS ls i0 pr pl k).1.getD D 0 ∈ (grS ls i0 pr pl k).1 := by rw [List.getD_eq_getElem?_getD, List.getElem?_eq_getElem w1]; exact List.getElem_mem _
    have e2 : (grS ls i0 pr pl k).2.1.getD D 0 ∈ (grS ls i0 pr pl k).2.1 := by rw [List.getD_eq_getElem?_getD, List.getElem?_eq_getElem w2]; exact List.getElem_mem _
    have b1 := G.b1 _ e1
    have b2 := G.b2 _ e2
    have htx := ht x (List.mem_of_getElem? hx)
    refine ⟨?_, ?_, ?_, ?_, ?_, ?_⟩ <;> (unfold grS; dsimp only; rw [hgx, hDn])
    · rw [List.length_append, List.length_take, h2, hD]; show ((_ + 1 : Nat) : Int) = _; omega
    · rw [List.length_append, List.length_set, List.length_take, h2, hD]; show ((_ + 1 : Nat) : Int) = _; omega
    · rw [List.length_append, G.l3]; rfl
    · intro y hy
      rcases List.mem_append.1 hy with hy | hy
      · have := G.b1 y (List.mem_of_mem_take hy); omega
      · cases List.mem_singleton.1 hy; omega
    · intro y hy
      rcases List.mem_append.1 hy with hy | hy
      · rcases mem_set_lt hy with hy | rfl
        · have := G.b2 y (List.mem_of_mem_take hy); omega
        · omega
      · cases List.mem_singleton.1 hy; omega
    · intro o ho
      rcases List.mem_append.1 ho with ho | ho
      · exact G.ok o ho
      · cases List.mem_singleton.1 ho
        exact ⟨⟨by unfold I64 inO; dsimp only; omega, by unfold I64 inO; dsimp only; omega, by unfold I64 inO; dsimp only; omega, by unfold I64 inO; dsimp only; omega, by unfold I64 inO; dsimp only; omega, by show x.2.size ≤ _; omega⟩, rfl⟩
theorem grS_step {ls : List (Int × ByteArray)} {i0 pr pl : Int} {k D : Nat} {x : Int × ByteArray} (hx : ls[k]? = some x) (hD : x.1 = (D : Int)) :
    grS ls i0 pr pl (k + 1) = ((grS ls i0 pr pl k).1.take (D + 1) ++ [i0 + 1 + (k : Int)], (((grS ls i0 pr pl k).2.1.take (D + 1)).set D ((grS ls i0 pr pl k).2.1.getD D 0 + 1)) ++ [0], (grS ls i0 pr pl k).2.2 ++ [inO (i0 + 1 + (k : Int)) ((grS ls i0 pr pl k).1.getD D 0) ((grS ls i0 pr pl k).2.1.getD D 0) x.2]) := by
  have hgx : ls.getD k (0, ⟨#[]⟩) = x := by rw [List.getD_eq_getElem?_getD, hx]; rfl
  have hDn : x.1.toNat = D := by omega
  show (_, _, _) = _
  rw [hgx, hDn]
/-! rows of the call's own, cut short and turned -/
theorem own_take {w : World} {base size g n cap m : Nat} {e : TypeId} {xs : List Value} (h : w.ownsRow base e size (.slice (some ⟨g, 0, none⟩) n cap) n xs) (hm : m ≤ n) : w.ownsRow base e size (.slice (some ⟨g, 0, none⟩) m cap) m (xs.take (m * size)) := by
  obtain ⟨h1, h2⟩ := h
  have hms : m * size ≤ n * size := Nat.mul_le_mul_right _ hm
  refine ⟨by rw [List.length_take, h1]; omega, ?_⟩
  rcases h2 with ⟨e1, _⟩ | ⟨g', cap', cur, e1, h3, h4, h5, h6, h7, h8⟩
  · cases e1
  · injection e1 with e2 e3 e4
    have e2 : g = g' := by injection e2 with e2; injection e2
    subst e2 e4
    exact .inr ⟨g, cap, cur, rfl, h3, h4, by omega, h6, h7, by rw [← h8, List.take_take, Nat.min_eq_left hms]⟩
theorem own_set1 {w : World} {base g n cap i : Nat} {e : TypeId} {xs : List Value} (h : w.ownsRow base e 1 (.slice (some ⟨g, 0, none⟩) n cap) n xs) (_hi : i < n) (u : Value) : (w.setCell ⟨g, i, none⟩ u).ownsRow base e 1 (.slice (some ⟨g, 0, none⟩) n cap) n (xs.set i u) := by
  obtain ⟨h1, h2⟩ := h
  refine ⟨by rw [List.length_set]; exact h1, ?_⟩
  rcases h2 with ⟨e1, _⟩ | ⟨g', cap', cur, e1, h3, h4, h5, h6, h7, h8⟩
  · cases e1
  · injection e1 with e2 e3 e4
    have e2 : g = g' := by injection e2 with e2; injection e2
    subst e2 e4
    have hb : Blk w g e cur := h4
    refine .inr ⟨g, cap, cur.setIfInBounds i u, rfl, h3, hb.set_ i u, h5, h6, by rw [Array.size_setIfInBounds]; exact h7, ?_⟩
    rw [Array.toList_setIfInBounds, List.take_set, h8]
theorem own_cell1 {w : World} {base g n cap i : Nat} {e : TypeId} {xs : List Int} (h : w.ownsRow base e 1 (.slice (some ⟨g, 0, none⟩) n cap) n (xs.map (.int .i64))) (hi : i < xs.length) : w.cell? ⟨g, i, none⟩ = some (.int .i64 (xs.getD i 0)) ∧ w.frozen? ⟨g, i, none⟩ = false := by
  have hc := h.cells (g := g) rfl i (.int .i64 (xs.getD i 0)) (by rw [List.getElem?_map, List.getD_eq_getElem?_getD, List.getElem?_eq_getElem hi]; rfl)
  rw [Addr.add_lit, Nat.zero_add] at hc
  refine ⟨hc, ?_⟩
  rcases h.2 with ⟨e1, _⟩ | ⟨g', cap', cur, e1, _, h4, _⟩
  · cases e1
  · injection e1 with e2
    have e2 : g = g' := by injection e2 with e2; injection e2
    subst e2
    exact Blk.frozen h4 i
theorem own_grown {w w' : World} {base size n : Nat} {e : TypeId} {v : Value} {xs : List Value} {row : Option Nat} (h : w.ownsRow base e size v n xs) (hg : w.grownBy w' row) (hne : ∀ g, v.ownBlock = some g → row ≠ some g) : w'.ownsRow base e size v n xs := by
  have hlt := own_block_lt h
  obtain ⟨h1, h2⟩ := h
  refine ⟨h1, ?_⟩
  rcases h2 with h2 | ⟨g, cap, cur, e1, h3, h4, h5⟩
  · exact .inl h2
  · exact .inr ⟨g, cap, cur, e1, h3, (hg.block g (hlt g (by rw [e1]; rfl)).2 (fun e => hne g (by rw [e1]; rfl) e.symm)).trans h4, h5⟩
theorem own_set_far {w : World} {base size n g i : Nat} {e : TypeId} {v u : Value} {xs : List Value} (h : w.ownsRow base e size v n xs) (hne : v.ownBlock ≠ some g) : (w.setCell ⟨g, i, none⟩ u).ownsRow base e size v n xs := by
  obtain ⟨h1, h2⟩ := h
  refine ⟨h1, ?_⟩
  rcases h2 with h2 | ⟨g', cap, cur, e1, h3, h4, h5⟩
  · exact .inl h2
  · exact .inr ⟨g', cap, cur, e1, h3, (Below.heap_setCell w ⟨g, i, none⟩ u g' (fun e => hne (by rw [e1, e]; rfl))).trans h4, h5⟩
theorem Blk.newS (w : World) (t : TypeId) (o : Obj) (cs : Array Value) : Blk ((w.alloc o).alloc (.cells cs t)) (w.heap.size + 1) t cs := by
  have h := Blk.new (w.alloc o) t cs
  simpa using h
end Go.Proofs.YtmkicfjcgbfaaaaGreat
namespace Go.Proofs.YtmkicfjcgbfaaaaGreat
open Go.RowKit

/-- operations and an error handed back -/
def ManyR (os : List Opn) (er : Int) (w : World) (e : Ending) (w' : World) : Prop := (∃ A n c, e = .returned (.tuple #[.slice A n c, .int .i64 er]) ∧ ((er = 0 ∧ ROs w' w'.heap.size (.slice A n c) os) ∨ (er ≠ 0 ∧ A = none ∧ n = 0 ∧ c = 0))) ∧ Below w.heap.size w w'
end Go.Proofs.YtmkicfjcgbfaaaaGreat
namespace Go.Proofs
open Go.Shelf

def Tryz.lays156_ren : Go.Shelf.Ren := ⟨fun | 156 => 118 | 165 => 151 | 166 => 115 | 169 => 117 | 240 => 148 | 241 => 173 | 276 => 169 | 277 => 186 | n => n, fun | 31 => 139 | 9 => 9 | 3 => 3 | 4 => 4 | 0 => 0 | 20 => 20 | 72 => 130 | 76 => 133 | 70 => 127 | 37 => 128 | 75 => 132 | 127 => 169 | 164 => 178 | 5 => 5 | 80 => 136 | n => n, fun | n => n⟩
theorem Tryz.lays156 : Go.Proofs.Lays.n156 Tryz.prog Tryz.lays156_ren := {
  mixed := by kernel_rfl
  f156 := Tryz.func118.trans (congrArg some (by kernel_rfl))
  f165 := Tryz.func151.trans (congrArg some (by kernel_rfl))
  f166 := Tryz.func115.trans (congrArg some (by kernel_rfl))
  f169 := Tryz.func117.trans (congrArg some (by kernel_rfl))
  f240 := Tryz.func148.trans (congrArg some (by kernel_rfl))
  f241 := Tryz.func173.trans (congrArg some (by kernel_rfl))
  f276 := Tryz.func169.trans (congrArg some (by kernel_rfl))
  f277 := Tryz.func186.trans (congrArg some (by kernel_rfl))
  t0 := Tryz.underlying0
  a0 := Tryz.isAgg0
  z0 := Tryz.sizeOf0
  v0 := Tryz.zeroValue0
  t3 := Tryz.underlying3
  a3 := Tryz.isAgg3
  z3 := Tryz.sizeOf3
  v3 := Tryz.zeroValue3
  t4 := Tryz.underlying4
  a4 := Tryz.isAgg4
  z4 := Tryz.sizeOf4
  v4 := Tryz.zeroValue4
  t9 := Tryz.underlying9
  a9 := Tryz.isAgg9
  z9 := Tryz.sizeOf9
  v9 := Tryz.zeroValue9
  t20 := Tryz.underlying20
  a20 := Tryz.isAgg20
  z20 := Tryz.sizeOf20
  v20 := Tryz.zeroValue20
  t31 := Tryz.underlying139
  a31 := Tryz.isAgg139
  z31 := Tryz.sizeOf139
  v31 := Tryz.zeroValue139
  t37 := Tryz.underlying128
  a37 := Tryz.isAgg128
  z37 := Tryz.sizeOf128
  v37 := Tryz.zeroValue128
  t70 := Tryz.underlying127
  a70 := Tryz.isAgg127
  z70 := Tryz.sizeOf127
  v70 := Tryz.zeroValue127
  t72 := Tryz.underlying130
  a72 := Tryz.isAgg130
  z72 := Tryz.sizeOf130
  v72 := Tryz.zeroValue130
  t75 := Tryz.underlying132
  a75 := Tryz.isAgg132
  z75 := Tryz.sizeOf132
  v75 := Tryz.zeroValue132
  t76 := Tryz.underlying133
  a76 := Tryz.isAgg133
  z76 := Tryz.sizeOf133
  v76 := Tryz.zeroValue133
  t127 := Tryz.underlying169
  a127 := Tryz.isAgg169
  z127 := Tryz.sizeOf169
  v127 := Tryz.zeroValue169
  t164 := Tryz.underlying178
  a164 := Tryz.isAgg178
  z164 := Tryz.sizeOf178
  v164 := Tryz.zeroValue178 }
theorem Tryz.Builder_Extra_156 : Builder.Extra Tryz.prog Tryz.lays156_ren := {
  sizeBuilder := by kernel_rfl
  liesBuilder := by kernel_rfl
  t5 := Tryz.underlying5
  a5 := Tryz.isAgg5
  z5 := Tryz.sizeOf5
  v5 := Tryz.zeroValue5
  infoByte := by kernel_rfl
  cellsByte := by kernel_rfl
  sizeByte := by kernel_rfl
  neB5 := by decide }
open Go.RowKit in
theorem Tryz.strings_Join_none (a : Option Addr) (c : Nat) (sep : ByteArray) (w : World) :
    Calls Tryz.prog 118 #[.slice a 0 c, .string sep] w fun e w' => e = .returned (.string ⟨#[]⟩) ∧ w' = w := Any.strings_Join_none Tryz.lays156 Tryz.Builder_Extra_156 a c sep w
open Go.RowKit in
theorem Tryz.strings_Join (bk o c : Nat) (xs : List ByteArray) (sep : ByteArray) (w : World) (hcells : ∀ (j : Nat) x, xs[j]? = some x → w.cell? ⟨bk, o + j, none⟩ = some (.string x)) (hbk : bk < w.heap.size) (hN : xs.length ≤ 140737488355328) (hcap : xs.length ≤ c) (hlen : (Lib.join (xs.map (·.data.toList)) sep.data.toList).length ≤ 140737488355328) :
    Calls Tryz.prog 118 #[.slice (some ⟨bk, o, none⟩) xs.length c, .string sep] w fun e w' => e = .returned (.string ⟨(Lib.join (xs.map (·.data.toList)) sep.data.toList).toArray⟩) ∧ Below w.heap.size w w' := Any.strings_Join Tryz.lays156 Tryz.Builder_Extra_156 bk o c xs sep w hcells hbk hN hcap hlen
end Go.Proofs
