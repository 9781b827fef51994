/-
  DERIVED. Reading a list: what is left gets shorter; the state of a list that is being read. Conditions: none. By an AI agent.
-/
import Derived.Test.YtbdcimakdiegnaaGreatDoorRvItem2
import Derived.Test.YtbdcimakdiegnaaGreatDoorVa09
import Derived.RangeFuncBox
namespace Go.Proofs.YtbdcimakdiegnaaGreatDoor
open Go.RowKit

/-- what is left is no longer than what was there -/
def Sh (t : List UInt8) (o : RdR) : Prop := ∀ x, o = some x → x.2.1.length ≤ t.length
theorem Sh.none (t : List UInt8) : Sh t none := fun x h => by cases h
theorem Sh.drop (t : List UInt8) (v : Vl) (n : Nat) (f : Bool) : Sh t (some (v, t.drop n, f)) := fun x h => by
  injection h with h
  subst h
  show (t.drop n).length ≤ _
  rw [List.length_drop]
  omega
theorem rdQuo_len : ∀ (n : Nat) (t : List UInt8), t.length ≤ n → ∀ x, rdQuo t = some x → x.2.length ≤ t.length
  | _, [], _, x, h => by rw [rdQuo_nil] at h; cases h
  | n + 1, c :: t, hn, x, h => by
    simp only [List.length_cons] at hn
    by_cases h34 : c = 34
    · subst h34
      rw [rdQuo_end] at h
      injection h with h
      subst h
      show t.length ≤ t.length + 1
      omega
    · by_cases h92 : c = 92
      · subst h92
        match t, hn, h with
        | [], _, h => rw [rdQuo_one] at h; cases h
        | d :: t, hn, h =>
          by_cases hd : d = 34 ∨ d = 92
          · rw [rdQuo_esc2 hd] at h
            obtain ⟨y, hy, rfl⟩ := Option.map_eq_some_iff.1 h
            simp only [List.length_cons] at hn
            have := rdQuo_len n t (by omega) y hy
            simp only [List.length_cons]
            omega
          · rw [rdQuo_bad hd] at h; cases h
      · rw [rdQuo_chr h34 h92] at h
        obtain ⟨y, hy, rfl⟩ := Option.map_eq_some_iff.1 h
        have := rdQuo_len n t (by omega) y hy
        simp only [List.length_cons]
        omega
theorem rdLink_sh (t : List UInt8) : Sh t (rdLink t) := by
  unfold rdLink
  split
  · exact Sh.none t
  · exact Sh.drop t _ _ _
theorem rdOne_sh (t : List UInt8) : Sh t (rdOne t) := by
  unfold rdOne
  split
  · exact Sh.drop t _ _ _
  split
  · exact Sh.drop t _ _ _
  split
  · intro x h
    obtain ⟨y, hy, rfl⟩ := Option.map_eq_some_iff.1 h
    have := rdQuo_len _ _ (Nat.le_refl _) y hy
    rw [List.length_drop] at this
    show y.2.length ≤ _
    omega
  split
  · unfold rdDays
    split
    · split
      · exact Sh.drop t _ _ _
      · exact Sh.none t
    · exact Sh.drop t _ _ _
  split
  · exact Sh.drop t _ _ _
  · unfold rdNum
    intro x h
    obtain ⟨y, hy, rfl⟩ := Option.map_eq_some_iff.1 h
    show (t.drop _).length ≤ _
    rw [List.length_drop]
    omega
theorem rdItem_sh (t : List UInt8) : Sh t (rdItem t) := by
  unfold rdItem
  split
  · exact rdLink_sh t
  split
  · exact Sh.none t
  · exact rdOne_sh t

def vnV (x : Vl) : List Value := vlV (x, .slice none 0 0)
theorem vnV_len (x : Vl) : (vnV x).length = 5 := rfl
theorem vnV_one (x : Vl) : ∀ u ∈ vnV x, u.oneCell' = true := vlV_one (x, .slice none 0 0) ⟨none, 0, 0, rfl⟩
theorem newCells (w : World) (cs : List Value) (t : TypeId) : ∀ j u, cs[j]? = some u → (w.alloc (.cells cs.toArray t)).cell? ((⟨w.heap.size, 0, none⟩ : Addr).add j) = some u := by
  intro j u hu
  rw [Addr.add_lit, Nat.zero_add, (Blk.new w t cs.toArray).cell j]
  simpa using hu
/-- what a reading method of a value leaves behind, its items' memory new -/
structure RdOut2 (o : RdR) (rb : Nat) (s : ByteArray) (far : Bool) (w : World) (v : Vl × Value) (w' : World) : Prop where
  gr : w.grownBy w' (some rb)
  mem : RVX w' (fun b => w.heap.size ≤ b ∧ b < w'.heap.size) v.2 v.1.items
  st : ∃ a' bad' far', RdM w' rb s a' bad' far' ∧ a' ≤ s.size ∧ (match o with | none => bad' = true | some x => bad' = false ∧ far' = (far || x.2.2) ∧ rs s a' = x.2.1 ∧ v.1 = x.1)
theorem RdOut1.two {o : RdR} {rb : Nat} {s : ByteArray} {far : Bool} {w w' : World} {x : Vl} (h : RdOut1 o rb s far w x w') : RdOut2 o rb s far w (x, .slice none 0 0) w' := by
  obtain ⟨h1, h2, h3⟩ := h
  exact ⟨h1, by rw [h2]; exact ⟨0, rfl, none, 0, rfl⟩, h3⟩
theorem RdOut2.via {o : RdR} {rb : Nat} {s : ByteArray} {far : Bool} {w w1 w2 : World} {v : Vl × Value} (h : RdOut2 o rb s far w1 v w2) (hg : w.grownBy w1 (some rb)) (hrb : rb < w.heap.size) (hz1 : w.heap.size < w1.heap.size) {z0 z1 z2 z3 z4 : Value} {t : TypeId} (hP : Blk w1 w.heap.size t #[z0, z1, z2, z3, z4]) (WF : World)
    (hWF : WF = ((((w2.setCell ⟨w.heap.size, 0, none⟩ (.int .i64 v.1.kind)).setCell ⟨w.heap.size, 1, none⟩ (.int .i64 v.1.int_)).setCell ⟨w.heap.size, 2, none⟩ (.int .i64 v.1.to_)).setCell ⟨w.heap.size, 3, none⟩ (.string v.1.text)).setCell ⟨w.heap.size, 4, none⟩ v.2) :
    (WF.cell? ⟨w.heap.size, 0, none⟩ = some (.int .i64 v.1.kind) ∧ WF.cell? ⟨w.heap.size, 1, none⟩ = some (.int .i64 v.1.int_) ∧ WF.cell? ⟨w.heap.size, 2, none⟩ = some (.int .i64 v.1.to_) ∧ WF.cell? ⟨w.heap.size, 3, none⟩ = some (.string v.1.text) ∧ WF.cell? ⟨w.heap.size, 4, none⟩ = some v.2) ∧ RdOut2 o rb s far w v WF := by
  obtain ⟨h1, h2, a', bad', far', h3, h4, h5⟩ := h
  obtain ⟨hc, gF, kF, hz, hj⟩ := fin5 (gr_trans hg h1) hrb (blk_gr hP h1 (by omega)) _ _ _ _ _ WF hWF
  refine ⟨hc, gF, ?_, a', bad', far', kF _ _ h3, h4, h5⟩
  refine (h2.keep (fun p hp => World.cell?_of_block (hj _ (by omega)))).weak (fun b hb => ⟨by omega, by omega⟩)
/-- what reading an item says -/
def StI (ri : RdR) (far bd far2 : Bool) (s : ByteArray) (p : Nat) (x : Vl) : Prop := match ri with | none => bd = true | some y => bd = false ∧ far2 = (far || y.2.2) ∧ rs s p = y.2.1 ∧ x = y.1
theorem RdOut1.parts {o : RdR} {rb : Nat} {s : ByteArray} {far : Bool} {w w' : World} {x : Vl} (h : RdOut1 o rb s far w x w') : ∃ a' bad' far', w.grownBy w' (some rb) ∧ x.items = [] ∧ RdM w' rb s a' bad' far' ∧ a' ≤ s.size ∧ StI o far bad' far' s a' x := by
  obtain ⟨h1, h2, a', bad', far', h3, h4, h5⟩ := h
  exact ⟨a', bad', far', h1, h2, h3, h4, by cases o <;> exact h5⟩
/-- a list that is being read -/
structure LR (w : World) (rb : Nat) (s : ByteArray) (p : Nat) (bd far : Bool) (gv : Nat) (vs : Value) (M : List Vl) (wr : World) : Prop where
  rd : RdM wr rb s p bd far
  bk : Blk wr w.heap.size 24 zV5
  bv : Blk wr gv 24 #[.int .i64 7, .int .i64 0, .int .i64 0, .string ⟨#[]⟩, vs]
  own : wr.ownsRow (gv + 1) 24 5 vs M.length (M.flatMap vnV)
  gr : w.grownBy wr (some rb)
  it : ∀ x ∈ M, x.items = []
section
variable {w wr w2 : World} {rb p q gv : Nat} {s : ByteArray} {bd bd2 far far2 : Bool} {vs vs' : Value} {M : List Vl} {x : Vl}
theorem own_gr {base : Nat} {e : TypeId} {size n : Nat} {v : Value} {xs : List Value} (h : wr.ownsRow base e size v n xs) (hg : wr.grownBy w2 (some rb)) (hrb : rb < base) : w2.ownsRow base e size v n xs := by
  obtain ⟨h1, h2⟩ := h
  refine ⟨h1, ?_⟩
  rcases h2 with h2 | ⟨b, cap, cur, hv, hb, hh, r⟩
  · exact .inl h2
  · refine .inr ⟨b, cap, cur, hv, hb, ?_, r⟩
    rw [hg.block b (by rcases Nat.lt_or_ge b wr.heap.size with h | h; exact h; rw [Array.getElem?_eq_none h] at hh; cases hh) (fun e => by injection e with e; omega)]
    exact hh
theorem LR.step (h : LR w rb s p bd far gv vs M wr) (hrb : rb < w.heap.size) (hgv : w.heap.size < gv) (hg : wr.grownBy w2 (some rb)) (hr : RdM w2 rb s q bd2 far2) : LR w rb s q bd2 far2 gv vs M w2 :=
  ⟨hr, blk_gr h.bk hg (by omega), blk_gr h.bv hg (by omega), own_gr h.own hg (by omega), gr_trans h.gr hg, h.it⟩
theorem LR.app (h : LR w rb s p bd far gv vs M wr) (hrb : rb < w.heap.size) (hgv : w.heap.size < gv) (hx : x.items = []) {tmp : Obj}
    (hown : w2.ownsRow (gv + 1) 24 5 vs' (M.length + 1) (M.flatMap vnV ++ vnV x)) (hgr : (wr.alloc tmp).grownBy w2 vs.ownBlock) :
    Blk w2 gv 24 #[.int .i64 7, .int .i64 0, .int .i64 0, .string ⟨#[]⟩, vs] ∧ LR w rb s p bd far gv vs' (M ++ [x]) (w2.setCell ⟨gv, 4, none⟩ vs') := by
  have hvl : ∀ b, vs.ownBlock = some b → gv + 1 ≤ b ∧ b < wr.heap.size := h.own.lt
  have hgvl := h.bv.lt
  have hb2 : Blk w2 gv 24 #[.int .i64 7, .int .i64 0, .int .i64 0, .string ⟨#[]⟩, vs] := (h.bv.alloc tmp).grown hgr (fun e => by have := (hvl _ e.symm).1; omega)
  have hB : Below gv wr w2 := ((Below.refl gv wr).alloc (by omega) tmp).grown hgr (by simp; omega) (fun j ej => by have := (hvl j ej).1; omega)
  have hB2 : Below gv wr (w2.setCell ⟨gv, 4, none⟩ vs') := hB.setCell (p := ⟨gv, 4, none⟩) (Nat.le_refl _) vs'
  refine ⟨hb2, Blk.below h.rd hB2 (by omega), h.bk.below hB2 hgv, hb2.set_ 4 vs', ?_, gr_keep h.gr hB2 (by omega), ?_⟩
  · have := ownsRow_setCell_below hown (a := ⟨gv, 4, none⟩) (Nat.lt_succ_self gv) vs'
    simpa [List.flatMap_append, List.length_append] using this
  · intro y hy
    rcases List.mem_append.1 hy with hy | hy
    · exact h.it y hy
    · rw [List.mem_singleton] at hy
      subst hy
      exact hx
theorem LR.draw (h : LR w rb s p bd far gv vs M wr) (n : Nat) : LR w rb s p bd far gv vs M (wr.drewN n) :=
  ⟨h.rd, h.bk, h.bv, own_below h.own (bl_drewN wr n _), gr_trans h.gr (gr_drewN wr n _), h.it⟩
theorem LR.bads (h : LR w rb s p bd far gv vs M wr) (hrb : rb < w.heap.size) (hgv : w.heap.size < gv) (q : Bool) : LR w rb s p q far gv vs M (wr.setCell ⟨rb, 2, none⟩ (.bool q)) :=
  h.step hrb hgv (gr_set (World.grownBy.refl wr (some rb)) 2 _) (h.rd.bads q)
/-- the value of a list that was read -/
def lsV (M : List Vl) : Vl := .mk 7 0 0 ⟨#[]⟩ M
/-- the result is written -/
theorem LR.fin (h : LR w rb s p bd far gv vs M wr) (hrb : rb < w.heap.size) (hgv : w.heap.size < gv) (hM : M.length * 64 ≤ 140737488351232) (WF : World)
    (hWF : WF = ((((wr.setCell ⟨w.heap.size, 0, none⟩ (.int .i64 7)).setCell ⟨w.heap.size, 1, none⟩ (.int .i64 0)).setCell ⟨w.heap.size, 2, none⟩ (.int .i64 0)).setCell ⟨w.heap.size, 3, none⟩ (.string ⟨#[]⟩)).setCell ⟨w.heap.size, 4, none⟩ vs) :
    (WF.cell? ⟨w.heap.size, 0, none⟩ = some (.int .i64 7) ∧ WF.cell? ⟨w.heap.size, 1, none⟩ = some (.int .i64 0) ∧ WF.cell? ⟨w.heap.size, 2, none⟩ = some (.int .i64 0) ∧ WF.cell? ⟨w.heap.size, 3, none⟩ = some (.string ⟨#[]⟩) ∧ WF.cell? ⟨w.heap.size, 4, none⟩ = some vs)
      ∧ w.grownBy WF (some rb) ∧ RdM WF rb s p bd far ∧ RVX WF (fun b => w.heap.size ≤ b ∧ b < WF.heap.size) vs M := by
  obtain ⟨hc, gF, kF, hz, hj⟩ := fin5 h.gr hrb h.bk (.int .i64 7) (.int .i64 0) (.int .i64 0) (.string ⟨#[]⟩) vs WF hWF
  refine ⟨hc, gF, kF _ _ h.rd, ?_⟩
  obtain ⟨A, c, rfl, hr⟩ := own_reads h.own
  have hlt := h.own.lt
  have hnc : M.length ≤ c := by
    rcases h.own.2 with ⟨hv, hz⟩ | ⟨g, cap, cur, hv, hbg, hg, hnc, _⟩
    · omega
    · injection hv with _ _ hv; omega
  refine ⟨1, A, M.length, c, M.map (fun x => (x, .slice none 0 0)), by rw [List.map_map]; exact List.map_id _, rfl, by rw [List.length_map], ⟨hnc, hM⟩, ?_, ?_⟩
  · rw [List.flatMap_map]
    refine ⟨hr.1, fun hn => ?_⟩
    obtain ⟨ad, e, hb, hcc⟩ := hr.2 hn
    subst e
    have hlb := hlt ad.block rfl
    refine ⟨ad, rfl, ⟨by omega, by omega⟩, fun j u hu => ?_⟩
    have hne : ad.block ≠ w.heap.size := by
      have := (hlt ad.block rfl).1
      omega
    exact (World.cell?_of_block (by rw [block_of_add]; exact hj _ hne)).trans (hcc j u hu)
  · intro x hx
    obtain ⟨y, hy, rfl⟩ := List.mem_map.1 hx
    exact ⟨h.it y hy, none, 0, rfl⟩
end
end Go.Proofs.YtbdcimakdiegnaaGreatDoor
