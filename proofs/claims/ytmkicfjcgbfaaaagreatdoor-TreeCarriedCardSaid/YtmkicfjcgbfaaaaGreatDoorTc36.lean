/-
  DERIVED. The walk of tree.prune. Conditions: sizes.
  The walk of the reference's PruneOf. Conditions: sizes; a base without error.
  Lines of an outline in memory; the operations that graft them: plain facts.
  Operations tried, on both sides: the walks of tree.tried, the reference's AllOf and tried. Conditions: sizes.
  The walk of tree.Split. Conditions: sizes.
  By an AI agent.
-/
import Derived.Test.YtmkicfjcgbfaaaaGreatDoorTc27
import Derived.Test.YtmkicfjcgbfaaaaGreatDoorTc30
import Derived.Test.YtmkicfjcgbfaaaaGreatDoorTc24
import Derived.Test.YtmkicfjcgbfaaaaGreatDoorTc31
import Derived.Test.YtmkicfjcgbfaaaaGreatDoorTc03
import Derived.Test.YtmkicfjcgbfaaaaGreatDoorTc34
import Derived.Stop.RegionWithIn
import Derived.Sort.CutIn
import Derived.Test.YtmkicfjcgbfaaaaGreatDoorTc33
import Derived.Test.YtmkicfjcgbfaaaaGreatDoorTc26
namespace Go.Proofs.YtmkicfjcgbfaaaaGreatDoor
open Go.RowKit Go.Shelf

attribute [local go_sem] Oper.semAt_some

/-- operations of which none has items -/
def rowsO (os : List Opn) : List Value := os.flatMap fun o => opV (o, .slice none 0 0)
theorem rowsO_snoc (os : List Opn) (o : Opn) : rowsO (os ++ [o]) = rowsO os ++ opV (o, .slice none 0 0) := by simp [rowsO]
/-- the operations so far: in a box, in a row of the loop's own -/
structure PrS (W0 W : World) (bl : Nat) (os : List Opn) : Prop where
  box : ∃ v, Boxed W bl 30 v ∧ W.ownsRow W0.heap.size 67 13 v os.length (rowsO os) ∧ True
  bel : Below bl W0 W
section
variable {W0 W W' w1 : World} {bl a b : Nat} {os : List Opn}
theorem PrS.below (h : PrS W0 W bl os) (hb : Below W.heap.size W W') (hbl : bl < W0.heap.size) : PrS W0 W' bl os := by
  obtain ⟨v, h1, h2, _⟩ := h.box
  have hz := h.bel.size
  exact ⟨⟨v, Blk.below (B := W.heap.size) h1 hb (by omega), own_below h2 hb, trivial⟩, h.bel.trans (hb.mono (by omega))⟩
theorem PrS.app (h : PrS W0 W bl os) (hbl : bl < W0.heap.size) (ha : a < W0.heap.size) (hb2 : b < W0.heap.size) (hna : a ≠ bl) (hnb : b ≠ bl) {v v' : Value} (hv : Boxed W bl 30 v) (hrow : W.ownsRow W0.heap.size 67 13 v os.length (rowsO os)) {o : Opn}
    (hown : w1.ownsRow W0.heap.size 67 13 v' (os.length + 1) (rowsO os ++ opV (o, .slice none 0 0))) (hg : W.grownBy w1 v.ownBlock) :
    Boxed w1 bl 30 v ∧ PrS W0 (w1.setCell ⟨bl, 0, none⟩ v') bl (os ++ [o]) ∧ KeepsOthers W (w1.setCell ⟨bl, 0, none⟩ v') ∧ K2 a b W (w1.setCell ⟨bl, 0, none⟩ v') ∧ Below bl W (w1.setCell ⟨bl, 0, none⟩ v') := by
  have hz := h.bel.size
  have hob := own_block_lt hrow
  have hvb : ∀ i, i < W0.heap.size → some i ≠ v.ownBlock := fun i hi e => by have := (hob i e.symm).1; omega
  have hv1 : Boxed w1 bl 30 v := Blk.grown hv hg (hvb bl hbl)
  have hzs : (w1.setCell ⟨bl, 0, none⟩ v').heap.size = w1.heap.size := by simp [World.setCell]
  have hbA : Below bl W (w1.setCell ⟨bl, 0, none⟩ v') := ((Below.refl bl W).grown hg (by omega) (fun g hg' => by have := (hob g hg').1; omega)).setCell (p := ⟨bl, 0, none⟩) (Nat.le_refl _) v'
  refine ⟨hv1, ⟨⟨v', ?_, ?_, trivial⟩, h.bel.trans hbA⟩, ?_, ?_, hbA⟩
  · exact Blk.set_ (cs := #[v]) hv1 0 v'
  · rw [rowsO_snoc, List.length_append]
    exact ownsRow_setCell_below hown (a := ⟨bl, 0, none⟩) hbl v'
  · refine (KeepsOthers.of_grownBy hg fun j o hj ho => ?_).trans (KeepsOthers.setCell _ _ _)
    rcases hrow.2 with ⟨rfl, _⟩ | ⟨g, cap, cur, rfl, _, hh, _⟩
    · cases hj
    · have e : g = j := Option.some.inj hj
      subst e
      rw [hh] at ho
      cases ho; rfl
  · refine ⟨by rw [hzs]; exact hg.size, ?_, ?_⟩
    · rw [Below.heap_setCell w1 _ _ a hna]; exact hg.block a (by omega) (hvb a ha)
    · rw [Below.heap_setCell w1 _ _ b hnb]; exact hg.block b (by omega) (hvb b hb2)
end
theorem ros_own {W : World} {base : Nat} {v : Value} {os : List Opn} (h : W.ownsRow base 67 13 v os.length (rowsO os)) (hb : os.length * 144 ≤ 140737488351232) (hO : ∀ o ∈ os, OI o ∧ o.val.items = []) :
    ∃ A c, v = .slice A os.length c ∧ ROs W W.heap.size (.slice A os.length os.length) os ∧ os.length ≤ c ∧ (A = none → os.length = 0 ∧ c = 0) := by
  have hr : ∀ A c, v = .slice A os.length c → ROs W W.heap.size (.slice A os.length os.length) os := fun A c e => by
    obtain ⟨A', c', e', hR⟩ := own_reads h
    rw [e] at e'
    injection e' with e1 e2 e3
    subst e1
    refine ⟨A, _, _, os.map fun o => (o, .slice none 0 0), by rw [List.map_map]; exact List.map_id os, rfl, by simp, ⟨Nat.le_refl _, hb⟩, ?_, fun x hx => ?_⟩
    · rw [List.flatMap_map]; exact hR
    · obtain ⟨o, ho, rfl⟩ := List.mem_map.1 hx
      refine ⟨?_, (hO o ho).1⟩
      show RV _ _ _ o.val.items
      rw [(hO o ho).2]
      exact RV.nil _ _
  rcases h.2 with ⟨e, h0⟩ | ⟨g, cap, cur, e, hg, hh, hle, _⟩
  · refine ⟨none, 0, ?_, ?_, ?_, fun _ => ⟨?_, rfl⟩⟩
    · rw [e, h0]
    · exact hr none 0 (by rw [e, h0])
    · omega
    · omega
  · exact ⟨_, cap, e, hr _ _ e, hle, fun e => by cases e⟩
end Go.Proofs.YtmkicfjcgbfaaaaGreatDoor
namespace Go.Proofs.YtmkicfjcgbfaaaaGreatDoor
open Go.RowKit

theorem ROs.recap {w : World} {B n c c' : Nat} {A : Option Addr} {l : List Opn} (h : ROs w B (.slice A n c) l) (hc : n ≤ c') : ROs w B (.slice A n c') l := by
  obtain ⟨A', n', c2, M, h1, e, h2, h3, h4⟩ := h
  injection e with e1 e2 e3
  subst e1 e2
  exact ⟨A, n, c', M, h1, rfl, h2, ⟨hc, h3.2⟩, h4⟩
end Go.Proofs.YtmkicfjcgbfaaaaGreatDoor
namespace Go.Proofs.YtmkicfjcgbfaaaaGreatDoor
open Go.RowKit

def lnV (x : Int × ByteArray) : List Value := [.int .i64 x.1, .string x.2]
/-- lines of an outline in memory -/
def RLn (W : World) (B : Nat) (v : Value) (ls : List (Int × ByteArray)) : Prop := ∃ A n c, v = .slice A n c ∧ n = ls.length ∧ n ≤ c ∧ n ≤ 1048576 ∧ Reads W B 2 A n (ls.flatMap lnV) ∧ ∀ x ∈ ls, I64 x.1 ∧ x.2.size ≤ 1048576
section
variable {W W' : World} {B n c : Nat} {A : Option Addr} {v : Value} {ls : List (Int × ByteArray)}
theorem RLn.below (h : RLn W B v ls) (hb : Below B W W') : RLn W' B v ls := by
  obtain ⟨A, n, c, h1, h2, h3, h4, h5, h6⟩ := h
  exact ⟨A, n, c, h1, h2, h3, h4, h5.below hb, h6⟩
theorem RLn.len (h : RLn W B (.slice A n c) ls) : n = ls.length ∧ n ≤ c ∧ n ≤ 1048576 := by
  obtain ⟨A', n', c', h1, h2, h3, h4, _⟩ := h
  injection h1 with e1 e2 e3
  subst e1 e2 e3
  exact ⟨h2, h3, h4⟩
theorem RLn.at_ (h : RLn W B (.slice A n c) ls) {k : Nat} {x : Int × ByteArray} (hk : ls[k]? = some x) : ∃ b off, A = some ⟨b, off, none⟩ ∧ b < B ∧ W.cell? ⟨b, off + k * 2, none⟩ = some (.int .i64 x.1) ∧ W.cell? ⟨b, off + k * 2 + 1, none⟩ = some (.string x.2) ∧ I64 x.1 ∧ x.2.size ≤ 1048576 := by
  obtain ⟨A', n', c', h1, h2, h3, h4, h5, h6⟩ := h
  injection h1 with e1 e2 e3
  subst e1 e2
  obtain ⟨b, off, e, hb, hc⟩ := h5.plain_at (enc := lnV) (c := 2) (by decide) (fun _ => rfl) h2 hk
  exact ⟨b, off, e, hb, hc 0 _ rfl, hc 1 _ rfl, h6 x (List.mem_of_getElem? hk)⟩
end
/-- the depth of the line before a place -/
def lastD (ls : List (Int × ByteArray)) (k : Nat) : Int := if k = 0 then -1 else (ls.getD (k - 1) (0, ⟨#[]⟩)).1
/-- no line is more than one level below the one before it -/
def LnTo (ls : List (Int × ByteArray)) (n : Nat) : Prop := ∀ k x, k < n → ls[k]? = some x → 0 ≤ x.1 ∧ x.1 ≤ lastD ls k + 1
theorem lastD_succ {ls : List (Int × ByteArray)} {k : Nat} {x : Int × ByteArray} (h : ls[k]? = some x) : lastD ls (k + 1) = x.1 := by
  unfold lastD
  rw [if_neg (by omega), Nat.add_sub_cancel, List.getD_eq_getElem?_getD, h]; rfl
theorem lastD_le {ls : List (Int × ByteArray)} : ∀ {k : Nat}, k ≤ ls.length → LnTo ls k → -1 ≤ lastD ls k ∧ lastD ls k + 1 ≤ (k : Int)
  | 0, _, _ => by unfold lastD; rw [if_pos rfl]; omega
  | k + 1, hk, h => by
    obtain ⟨x, hx⟩ : ∃ x, ls[k]? = some x := ⟨_, List.getElem?_eq_getElem (by omega)⟩
    have h1 := h k x (by omega) hx
    have h2 := lastD_le (k := k) (by omega) fun j y hj hy => h j y (by omega) hy
    rw [lastD_succ hx]
    omega
/-- an operation that inserts -/
def inO (id par a : Int) (tx : ByteArray) : Opn := ⟨1, id, par, a, 0, 0, tx, ⟨#[]⟩, zV⟩
/-- what has been reckoned behind some lines: the way, how many blocks each of it has, the operations -/
def grS (ls : List (Int × ByteArray)) (i0 pr pl : Int) : Nat → List Int × List Int × List Opn
  | 0 => ([pr], [pl], [])
  | k + 1 =>
    let s := grS ls i0 pr pl k
    let x := ls.getD k (0, ⟨#[]⟩)
    let D := x.1.toNat
    (s.1.take (D + 1) ++ [i0 + 1 + (k : Int)], ((s.2.1.take (D + 1)).set D (s.2.1.getD D 0 + 1)) ++ [0], s.2.2 ++ [inO (i0 + 1 + (k : Int)) (s.1.getD D 0) (s.2.1.getD D 0) x.2])
structure GrOk (ls : List (Int × ByteArray)) (i0 pr pl : Int) (k : Nat) : Prop where
  l1 : ((grS ls i0 pr pl k).1.length : Int) = lastD ls k + 2
  l2 : ((grS ls i0 pr pl k).2.1.length : Int) = lastD ls k + 2
  l3 : (grS ls i0 pr pl k).2.2.length = k
  b1 : ∀ x ∈ (grS ls i0 pr pl k).1, 0 ≤ x ∧ x ≤ 1000000 + 1 + (k : Int)
  b2 : ∀ x ∈ (grS ls i0 pr pl k).2.1, 0 ≤ x ∧ x ≤ pl + (k : Int)
  ok : ∀ o ∈ (grS ls i0 pr pl k).2.2, OI o ∧ o.val.items = []
theorem mem_set_lt {L : List Int} {i : Nat} {y x : Int} (h : x ∈ L.set i y) : x ∈ L ∨ x = y := List.mem_or_eq_of_mem_set h
theorem grOk {ls : List (Int × ByteArray)} {i0 pr pl : Int} (hi : 0 ≤ i0 ∧ i0 ≤ 1000000) (hp : 0 ≤ pr ∧ pr ≤ 1000000) (hl : 0 ≤ pl ∧ pl ≤ 1000) (hs : ls.length ≤ 1048576) (ht : ∀ x ∈ ls, x.2.size ≤ 1048576) : ∀ k, k ≤ ls.length → LnTo ls k → GrOk ls i0 pr pl k
  | 0, _, _ => ⟨rfl, rfl, rfl, fun x hx => by cases List.mem_singleton.1 hx; omega, fun x hx => by cases List.mem_singleton.1 hx; omega, fun o ho => by cases ho⟩
  | k + 1, hk, h => by
    have G := grOk hi hp hl hs ht k (by omega) fun j y hj hy => h j y (by omega) hy
    obtain ⟨x, hx⟩ : ∃ x, ls[k]? = some x := ⟨_, List.getElem?_eq_getElem (by omega)⟩
    have h1 := h k x (by omega) hx
    have hgx : ls.getD k (0, ⟨#[]⟩) = x := by rw [List.getD_eq_getElem?_getD, hx]; rfl
    have h2 := lastD_succ hx
    obtain ⟨D, hD⟩ : ∃ D : Nat, x.1 = (D : Int) := ⟨x.1.toNat, by omega⟩
    have hDn : x.1.toNat = D := by omega
    have g1 := G.l1
    have g2 := G.l2
    have w1 : D < (grS ls i0 pr pl k).1.length := by omega
    have w2 : D < (grS ls i0 pr pl k).2.1.length := by omega
    have e1 : (grS ls i0 pr pl k).1.getD D 0 ∈ (grS ls i0 pr pl k).1 := by rw [List.getD_eq_getElem?_getD, List.getElem?_eq_getElem w1]; exact List.getElem_mem _
    have e2 : (grS ls i0 pr pl k).2.1.getD D 0 ∈ (grS ls i0 pr pl k).2.1 := by rw [List.getD_eq_getElem?_getD, List.getElem?_eq_getElem w2]; exact List.getElem_mem _
    have b1 := G.b1 _ e1
    have b2 := G.b2 _ e2
    have htx := ht x (List.mem_of_getElem? hx)
    refine ⟨?_, ?_, ?_, ?_, ?_, ?_⟩ <;> (unfold grS; dsimp only; rw [hgx, hDn])
    · rw [List.length_append, List.length_take, h2, hD]; show ((_ + 1 : Nat) : Int) = _; omega
    · rw [List.length_append, List.length_set, List.length_take, h2, hD]; show ((_ + 1 : Nat) : Int) = _; omega
    · rw [List.length_append, G.l3]; rfl
    · intro y hy
      rcases List.mem_append.1 hy with hy | hy
      · have := G.b1 y (List.mem_of_mem_take hy); omega
      · cases List.mem_singleton.1 hy; omega
    · intro y hy
      rcases List.mem_append.1 hy with hy | hy
      · rcases mem_set_lt hy with hy | rfl
        · have := G.b2 y (List.mem_of_mem_take hy); omega
        · omega
      · cases List.mem_singleton.1 hy; omega
    · intro o ho
      rcases List.mem_append.1 ho with ho | ho
      · exact G.ok o ho
      · cases List.mem_singleton.1 ho
        exact ⟨⟨by unfold I64 inO; dsimp only; omega, by unfold I64 inO; dsimp only; omega, by unfold I64 inO; dsimp only; omega, by unfold I64 inO; dsimp only; omega, by unfold I64 inO; dsimp only; omega, by show x.2.size ≤ _; omega⟩, rfl⟩
theorem grS_step {ls : List (Int × ByteArray)} {i0 pr pl : Int} {k D : Nat} {x : Int × ByteArray} (hx : ls[k]? = some x) (hD : x.1 = (D : Int)) :
    grS ls i0 pr pl (k + 1) = ((grS ls i0 pr pl k).1.take (D + 1) ++ [i0 + 1 + (k : Int)], (((grS ls i0 pr pl k).2.1.take (D + 1)).set D ((grS ls i0 pr pl k).2.1.getD D 0 + 1)) ++ [0], (grS ls i0 pr pl k).2.2 ++ [inO (i0 + 1 + (k : Int)) ((grS ls i0 pr pl k).1.getD D 0) ((grS ls i0 pr pl k).2.1.getD D 0) x.2]) := by
  have hgx : ls.getD k (0, ⟨#[]⟩) = x := by rw [List.getD_eq_getElem?_getD, hx]; rfl
  have hDn : x.1.toNat = D := by omega
  show (_, _, _) = _
  rw [hgx, hDn]
/-! rows of the call's own, cut short and turned -/
theorem own_take {w : World} {base size g n cap m : Nat} {e : TypeId} {xs : List Value} (h : w.ownsRow base e size (.slice (some ⟨g, 0, none⟩) n cap) n xs) (hm : m ≤ n) : w.ownsRow base e size (.slice (some ⟨g, 0, none⟩) m cap) m (xs.take (m * size)) := by
  obtain ⟨h1, h2⟩ := h
  have hms : m * size ≤ n * size := Nat.mul_le_mul_right _ hm
  refine ⟨by rw [List.length_take, h1]; omega, ?_⟩
  rcases h2 with ⟨e1, _⟩ | ⟨g', cap', cur, e1, h3, h4, h5, h6, h7, h8⟩
  · cases e1
  · injection e1 with e2 e3 e4
    have e2 : g = g' := by injection e2 with e2; injection e2
    subst e2 e4
    exact .inr ⟨g, cap, cur, rfl, h3, h4, by omega, h6, h7, by rw [← h8, List.take_take, Nat.min_eq_left hms]⟩
theorem own_set1 {w : World} {base g n cap i : Nat} {e : TypeId} {xs : List Value} (h : w.ownsRow base e 1 (.slice (some ⟨g, 0, none⟩) n cap) n xs) (_hi : i < n) (u : Value) : (w.setCell ⟨g, i, none⟩ u).ownsRow base e 1 (.slice (some ⟨g, 0, none⟩) n cap) n (xs.set i u) := by
  obtain ⟨h1, h2⟩ := h
  refine ⟨by rw [List.length_set]; exact h1, ?_⟩
  rcases h2 with ⟨e1, _⟩ | ⟨g', cap', cur, e1, h3, h4, h5, h6, h7, h8⟩
  · cases e1
  · injection e1 with e2 e3 e4
    have e2 : g = g' := by injection e2 with e2; injection e2
    subst e2 e4
    have hb : Blk w g e cur := h4
    refine .inr ⟨g, cap, cur.setIfInBounds i u, rfl, h3, hb.set_ i u, h5, h6, by rw [Array.size_setIfInBounds]; exact h7, ?_⟩
    rw [Array.toList_setIfInBounds, List.take_set, h8]
theorem own_cell1 {w : World} {base g n cap i : Nat} {e : TypeId} {xs : List Int} (h : w.ownsRow base e 1 (.slice (some ⟨g, 0, none⟩) n cap) n (xs.map (.int .i64))) (hi : i < xs.length) : w.cell? ⟨g, i, none⟩ = some (.int .i64 (xs.getD i 0)) ∧ w.frozen? ⟨g, i, none⟩ = false := by
  have hc := h.cells (g := g) rfl i (.int .i64 (xs.getD i 0)) (by rw [List.getElem?_map, List.getD_eq_getElem?_getD, List.getElem?_eq_getElem hi]; rfl)
  rw [Addr.add_lit, Nat.zero_add] at hc
  refine ⟨hc, ?_⟩
  rcases h.2 with ⟨e1, _⟩ | ⟨g', cap', cur, e1, _, h4, _⟩
  · cases e1
  · injection e1 with e2
    have e2 : g = g' := by injection e2 with e2; injection e2
    subst e2
    exact Blk.frozen h4 i
theorem own_grown {w w' : World} {base size n : Nat} {e : TypeId} {v : Value} {xs : List Value} {row : Option Nat} (h : w.ownsRow base e size v n xs) (hg : w.grownBy w' row) (hne : ∀ g, v.ownBlock = some g → row ≠ some g) : w'.ownsRow base e size v n xs := by
  have hlt := own_block_lt h
  obtain ⟨h1, h2⟩ := h
  refine ⟨h1, ?_⟩
  rcases h2 with h2 | ⟨g, cap, cur, e1, h3, h4, h5⟩
  · exact .inl h2
  · exact .inr ⟨g, cap, cur, e1, h3, (hg.block g (hlt g (by rw [e1]; rfl)).2 (fun e => hne g (by rw [e1]; rfl) e.symm)).trans h4, h5⟩
theorem own_set_far {w : World} {base size n g i : Nat} {e : TypeId} {v u : Value} {xs : List Value} (h : w.ownsRow base e size v n xs) (hne : v.ownBlock ≠ some g) : (w.setCell ⟨g, i, none⟩ u).ownsRow base e size v n xs := by
  obtain ⟨h1, h2⟩ := h
  refine ⟨h1, ?_⟩
  rcases h2 with h2 | ⟨g', cap, cur, e1, h3, h4, h5⟩
  · exact .inl h2
  · exact .inr ⟨g', cap, cur, e1, h3, (Below.heap_setCell w ⟨g, i, none⟩ u g' (fun e => hne (by rw [e1, e]; rfl))).trans h4, h5⟩
theorem Blk.newS (w : World) (t : TypeId) (o : Obj) (cs : Array Value) : Blk ((w.alloc o).alloc (.cells cs t)) (w.heap.size + 1) t cs := by
  have h := Blk.new (w.alloc o) t cs
  simpa using h
end Go.Proofs.YtmkicfjcgbfaaaaGreatDoor
namespace Go.Proofs.YtmkicfjcgbfaaaaGreatDoor
open Go.RowKit

/-- operations tried one after another: no error, or the first one -/
def TryP (l : List Bl) (os : List Opn) (er : Int) : Prop := (OkAll l os ∧ er = 0) ∨ (er ≠ 0 ∧ ∃ k, OkAll l (os.take k) ∧ BadAt l os k er)
theorem bad_lt {l : List Bl} {os : List Opn} {k k' : Nat} {er : Int} (h : BadAt l os k er) (h' : OkAll l (os.take k')) : k' ≤ k := by
  obtain ⟨o, f, h1, h2, h3, h4⟩ := h
  refine Nat.le_of_not_lt fun hlt => ?_
  obtain ⟨f', G', he⟩ := h' k o (by rw [List.getElem?_take, if_pos hlt]; exact h1)
  rw [take_take os (Nat.le_of_lt hlt)] at G' he
  rw [h2.uniq G', he] at h3
  exact h4 h3.symm
theorem TryP.uniq {l : List Bl} {os : List Opn} {e e' : Int} (h : TryP l os e) (h' : TryP l os e') : e = e' := by
  rcases h with ⟨h, rfl⟩ | ⟨hne, k, hk, hb⟩
  · rcases h' with ⟨_, rfl⟩ | ⟨_, k', _, hb'⟩
    · rfl
    · obtain ⟨o, f, h1, _⟩ := hb'
      have hl := (List.getElem?_eq_some_iff.1 h1).1
      have := bad_lt ⟨o, f, h1, ‹_›⟩ (k' := k' + 1) (h.pre _)
      omega
  · rcases h' with ⟨h', rfl⟩ | ⟨_, k', hk', hb'⟩
    · have := bad_lt hb (k' := k + 1) (h'.pre _)
      omega
    · have h1 := bad_lt hb hk'
      have h2 := bad_lt hb' hk
      obtain rfl : k = k' := by omega
      obtain ⟨o, f, a1, a2, a3, _⟩ := hb
      obtain ⟨o', f', b1, b2, b3, _⟩ := hb'
      obtain rfl : o = o' := by rw [a1] at b1; exact Option.some.inj b1
      rw [← a3, ← b3, a2.uniq b2]
/-- what tried leaves: the list, or why not -/
def TriedR (l : List Bl) (os : List Opn) (Ao : Option Addr) (no co : Nat) (w : World) (e : Ending) (w' : World) : Prop := (∃ er, TryP l os er ∧ e = .returned (.tuple #[if er = 0 then .slice Ao no co else .slice none 0 0, .int .i64 er])) ∧ Below w.heap.size w w'
set_option maxRecDepth 100000 in
set_option maxHeartbeats 4000000 in
/-- tree.tried -/
theorem tried_any (l : List Bl) (f : Int → Option Int) (G : Good l f) (A : Option Addr) (n c : Nat) (os : List Opn) (Ao : Option Addr) (no co : Nat) (w : World) (h : RB w w.heap.size (.slice A n c) l) (ho : ROs w w.heap.size (.slice Ao no co) os) (hcl : Ao = none → no = 0 ∧ co = 0) :
    Calls Tryz.prog 23 #[.slice A n c, .slice Ao no co] w (TriedR l os Ao no no w) := by
  have hn0 : 0 < n := by
    obtain ⟨r, hr, _⟩ := G.kids.root
    have := (List.getElem?_eq_some_iff.1 hr).1
    have := h.len.1
    omega
  have hn1 : n ≤ 100000 := by have := G.kids.short; have := h.len.1; omega
  have HCB := Lib.hid (copyBase_any l A n c w w.heap.size (Nat.le_refl _) h hn0 hn1)
  have HCL := Lib.hid fun W => clipO_any Ao no co W ho.len.2.1 hcl
  have HO := Lib.hid ho
  have HG := Lib.hid G
  clear h ho G hn0 hn1 hcl
  go_enter Tryz.func23, Tryz.ntmps23
  go_wp2_with fail
  refine HCB.out.mono ?_
  rintro e w2 ⟨g, n2, M, rfl, hl2, hm2, hg2, hr2, hb2⟩
  have HB2 := Lib.hid hb2
  have hz2 := HB2.out.size
  have HA := Lib.hid (allIn_any w2 g n2 n2 M l f os hr2 hl2 hm2 HG.out Ao no co (((ROsX.of HO.out).keep fun p hp => HB2.out.cell (by have hp : p.block < w.heap.size := hp; omega)).weak fun b hb => ⟨by have hb : b < w.heap.size := hb; omega, by have hb : b < w.heap.size := hb; omega⟩))
  have HGL : Hid (w.heap.size ≤ g) := hg2
  clear hb2 hl2 hm2 hr2 hg2
  go_wp2_with fail
  refine HA.out.mono ?_
  rintro e w3 ⟨hcase, hg3⟩
  have HB3 : Hid (Below w.heap.size w w3) := below_own HB2.out hg3 HGL.out
  rcases hcase with ⟨k, er, h1, h2, rfl⟩ | ⟨h1, g', cap', n3, M3, rfl, h3, h4, h5, h6⟩
  · have hne : er ≠ 0 := by obtain ⟨_, _, _, _, _, h⟩ := h2; exact h
    have HT : Hid (TryP l os er) := .inr ⟨hne, k, h1, h2⟩
    have HN := Lib.hid hne
    have h0' : (er != 0) = true := by simpa using hne
    clear h1 h2 hg3 hne
    go_wp2_with fail
    go_ret2
    exact ⟨⟨er, HT.out, by rw [if_neg HN.out]; rfl⟩, HB3.out⟩
  · have HT : Hid (TryP l os 0) := .inl ⟨h1, rfl⟩
    clear h1 h3 h4 h5 h6 hg3
    go_wp2_with fail
    refine (HCL.out w3).mono ?_
    rintro e w4 ⟨rfl, hw⟩
    rw [hw]
    clear hw
    go_wp2_with fail
    go_ret2
    exact ⟨⟨0, HT.out, by rw [if_pos rfl]; rfl⟩, HB3.out⟩
end Go.Proofs.YtmkicfjcgbfaaaaGreatDoor
namespace Go.Proofs.YtmkicfjcgbfaaaaGreatDoor
open Go.RowKit

/-- operations and an error handed back -/
def ManyR (os : List Opn) (er : Int) (w : World) (e : Ending) (w' : World) : Prop := (∃ A n c, e = .returned (.tuple #[.slice A n c, .int .i64 er]) ∧ ((er = 0 ∧ ROs w' w'.heap.size (.slice A n c) os) ∨ (er ≠ 0 ∧ A = none ∧ n = 0 ∧ c = 0))) ∧ Below w.heap.size w w'
end Go.Proofs.YtmkicfjcgbfaaaaGreatDoor
