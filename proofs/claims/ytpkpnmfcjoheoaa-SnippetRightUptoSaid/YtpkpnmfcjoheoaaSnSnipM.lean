/-
  DERIVED. The state of a snippet that is being made. Conditions: none. By an AI agent.
-/
import Derived.Test.YtpkpnmfcjoheoaaSnSnip0
namespace Go.Proofs.Ytpkpnmfcjoheoaa
open Go.RowKit Go.Maps

theorem grownBy_setCell1 (W : World) (b i : Nat) (v : Value) : W.grownBy (W.setCell ⟨b, i, none⟩ v) (some b) :=
  ⟨rfl, rfl, rfl, (KeepsWalks.setCell W _ v).size, fun k _ hk => Below.heap_setCell _ _ _ k (fun e => hk (by rw [e]))⟩
/-- the best snippet so far, in its block -/
def MoR (s : ByteArray) (width : Int) (W : World) (mb F T : Nat) (A : Option Addr) (m c : Nat) (MK : List Wd) : Prop :=
  Blk W mb 28 #[.int .i64 F, .int .i64 T, .slice A m c] ∧ m = MK.length ∧ m ≤ c ∧ Reads W W.heap.size 2 A m (MK.flatMap mkV) ∧ (∀ ad, A = some ad → mb < ad.block) ∧ GoodP s width F T MK
theorem MoR.below {s : ByteArray} {width : Int} {W W' : World} {mb F T m c : Nat} {A : Option Addr} {MK : List Wd} (h : MoR s width W mb F T A m c MK) (hb : Below W.heap.size W W') : MoR s width W' mb F T A m c MK :=
  ⟨h.1.below hb h.1.lt, h.2.1, h.2.2.1, (h.2.2.2.1.below hb).more hb.size, h.2.2.2.2.1, h.2.2.2.2.2⟩
theorem MoR.new {s : ByteArray} {width : Int} (w : World) (hw : 1 ≤ width) : MoR s width (w.alloc (.cells #[.int .i64 0, .int .i64 0, .slice none 0 0] 28)) w.heap.size 0 0 none 0 0 [] :=
  ⟨Blk.new _ _ _, rfl, Nat.le_refl _, Reads.none_, (fun ad e => by cases e), GoodP.zero s hw⟩
/-- the snippet of the round -/
def InR (WB wx : World) (xF xT : Nat) (v : Value) (MK : List Wd) (j : Nat) (D : DataW Unit) : Prop :=
  Blk wx WB.heap.size 28 #[.int .i64 xF, .int .i64 xT, v] ∧ wx.ownsRow (WB.heap.size + 2) 35 2 v MK.length (MK.flatMap mkV) ∧ wx.ownsMap Try.prog 9 (plainElem Try.prog 4) (WB.heap.size + 1) j D ∧ Below WB.heap.size WB wx ∧ ∀ y ∈ MK, xF ≤ y.frm ∧ y.to_ ≤ xT
section
variable {WB wx w7 w8 : World} {xF xT j : Nat} {v v' : Value} {MK : List Wd} {D : DataW Unit}
theorem InR.below (h : InR WB wx xF xT v MK j D) (hb : Below wx.heap.size wx w7) : InR WB w7 xF xT v MK j D := by
  obtain ⟨h1, h2, h3, h4, h5⟩ := h
  have hl := h1.lt
  exact ⟨h1.below hb hl, own_below h2 hb, h3.kept (grown_of hb) (by simp), h4.trans (hb.mono (by omega)), h5⟩
theorem InR.app (h : InR WB wx xF xT v MK j D) {y : Wd} (hy : xF ≤ y.frm ∧ y.to_ ≤ xT) {o1 tmp : Obj}
    (hown : w7.ownsRow (WB.heap.size + 2) 35 2 v' (MK.length + 1) (MK.flatMap mkV ++ mkV y)) (hgr : ((wx.alloc o1).alloc tmp).grownBy w7 v.ownBlock) :
    Blk w7 WB.heap.size 28 #[.int .i64 xF, .int .i64 xT, v] ∧ InR WB (w7.setCell ⟨WB.heap.size, 2, none⟩ v') xF xT v' (MK ++ [y]) j D := by
  obtain ⟨h1, h2, h3, h4, h5⟩ := h
  have hl := h1.lt
  have hml := h3.lt
  have hvl : ∀ b, v.ownBlock = some b → WB.heap.size + 2 ≤ b ∧ b < wx.heap.size := h2.lt
  have hb7 : Blk w7 WB.heap.size 28 #[.int .i64 xF, .int .i64 xT, v] := ((h1.alloc o1).alloc tmp).grown hgr (fun e => by have := (hvl _ e.symm).1; omega)
  have hm7 := ((h3.alloc o1).alloc tmp).kept hgr (fun e => by have := (hvl _ e.symm).1; omega)
  refine ⟨hb7, hb7.set_ 2 v', ?_, hm7.kept (grownBy_setCell1 w7 WB.heap.size 2 v') (by simp), ?_, fun z hz => ?_⟩
  · have := hown.kept (grownBy_setCell1 w7 WB.heap.size 2 v') (.inr (own_blk_ne hown hb7 (by decide)))
    simpa [List.flatMap_append] using this
  · exact (((h4.alloc (by omega) o1).alloc (by simp; omega) tmp).grown hgr (by simp; omega) (fun b e => by have := (hvl b e).1; omega)).setCell (p := ⟨WB.heap.size, 2, none⟩) (Nat.le_refl _) v'
  · rcases List.mem_append.1 hz with hz | hz
    · exact h5 z hz
    · rw [List.mem_singleton.1 hz]; exact hy
theorem InR.upd (h : InR WB w7 xF xT v MK j D) {D' : DataW Unit} (hm : w8.ownsMap Try.prog 9 (plainElem Try.prog 4) (WB.heap.size + 1) (j + 1) D') (hg : w7.grownBy w8 (some (WB.heap.size + 1))) : InR WB w8 xF xT v MK (j + 1) D' := by
  obtain ⟨h1, h2, h3, h4, h5⟩ := h
  have hl := h1.lt
  refine ⟨h1.grown hg (by simp), h2.kept hg ?_, hm, h4.grown hg (by omega) (fun b e => by injection e with e; omega), h5⟩
  rcases hv : v.ownBlock with _ | b
  · exact .inl rfl
  · refine .inr (fun e => ?_)
    injection e with e
    have := (h2.lt b hv).1
    omega
/-- the round's snippet becomes the best one -/
theorem InR.best {s : ByteArray} {width : Int} {mb : Nat} {i0 i1 i2 : Value} (h : InR WB wx xF xT v MK j D) (hmb : Blk wx mb 28 #[i0, i1, i2]) (hlt : mb < WB.heap.size) {A : Option Addr} {m c : Nat} (hv : v = .slice A m c) (hm : m = MK.length) (hg : GoodP s width xF xT MK) :
    MoR s width (((wx.setCell ⟨mb, 0, none⟩ (.int .i64 xF)).setCell ⟨mb, 1, none⟩ (.int .i64 xT)).setCell ⟨mb, 2, none⟩ (.slice A m c)) mb xF xT A m c MK := by
  obtain ⟨h1, h2, h3, h4, h5⟩ := h
  subst hv
  obtain ⟨A', c', e, hr⟩ := own_reads h2
  injection e with e1 e2 e3
  subst e1 e3
  have hob : ∀ ad, A = some ad → mb < ad.block := fun ad e => by
    have := (h2.lt ad.block (by rw [e]; rfl)).1
    omega
  refine ⟨((hmb.set_ 0 _).set_ 1 _).set_ 2 _, hm, ?_, ⟨by rw [hm]; exact hr.1, fun hn => ?_⟩, hob, hg⟩
  · rcases h2.2 with ⟨e, h0⟩ | ⟨g, cap, cur, e, _, _, hc, _⟩
    · injection e with _ e2 e3; omega
    · injection e with _ e2 e3; omega
  · obtain ⟨ad, e, hb, hc⟩ := hr.2 (by omega)
    have hne := hob ad e
    have hh : ∀ i k, (⟨mb, i, none⟩ : Addr) ≠ ad.add k := fun i k e' => by
      have := congrArg Addr.block e'
      rw [block_of_add] at this
      have h0 : mb = ad.block := this
      omega
    refine ⟨ad, e, by simpa [World.setCell] using hb, fun k u hu => ?_⟩
    rw [World.cell?_setCell_other _ _ _ _ (hh 2 k), World.cell?_setCell_other _ _ _ _ (hh 1 k), World.cell?_setCell_other _ _ _ _ (hh 0 k)]
    exact hc k u hu
end
end Go.Proofs.Ytpkpnmfcjoheoaa
