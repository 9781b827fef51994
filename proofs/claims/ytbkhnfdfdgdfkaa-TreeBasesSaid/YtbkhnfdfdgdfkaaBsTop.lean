/-
  DERIVED. The walks of tree.Get, Depth, Path, Below, PageOf, Pages, Order, NextId and the reference's NextOf. Conditions: sizes. By an AI agent.
-/
import Derived.Test.YtbkhnfdfdgdfkaaBsGet
import Derived.Test.YtbkhnfdfdgdfkaaBsCheck
import Derived.Test.YtbkhnfdfdgdfkaaBsPath
namespace Go.Proofs.Ytbkhnfdfdgdfkaa
open Go.RowKit

def zB : Bl := ⟨0, 0, [], ⟨#[]⟩, []⟩
/-- the first block with an id, or an empty one -/
def getB (l : List Bl) (id : Int) : Bl := if posOf l id < 0 then zB else (l[(posOf l id).toNat]?).getD zB
/-- what tree.Get leaves -/
def GetR (l : List Bl) (id : Int) (w : World) (e : Ending) (w' : World) : Prop := (∃ Kx nx cx Px mx ex, e = .returned (.tuple #[AB (getB l id, .slice Kx nx cx, .slice Px mx ex), .bool (decide (0 ≤ posOf l id))]) ∧ RInX w' (fun b => w.heap.size ≤ b ∧ b < w'.heap.size) (.slice Kx nx cx) (getB l id).kids ∧ RPrX w' (fun b => w.heap.size ≤ b ∧ b < w'.heap.size) (.slice Px mx ex) (getB l id).props) ∧ Below w.heap.size w w'
theorem RInX.nil (w : World) (S : Nat → Prop) : RInX w S (.slice none 0 0) [] := ⟨none, 0, 0, rfl, rfl, ⟨Nat.le_refl _, by omega⟩, ⟨rfl, fun h => absurd h (by omega)⟩, fun x hx => by cases hx⟩
theorem RPrX.nil (w : World) (S : Nat → Prop) : RPrX w S (.slice none 0 0) [] := ⟨none, 0, 0, [], rfl, rfl, rfl, ⟨Nat.le_refl _, by omega⟩, ⟨rfl, fun h => absurd h (by omega)⟩, fun x hx => by cases hx⟩

set_option maxRecDepth 100000 in
set_option maxHeartbeats 4000000 in
/-- tree.Get -/
theorem get_any (l : List Bl) (A : Option Addr) (n c : Nat) (id : Int) (w : World) (B : Nat) (hB : B ≤ w.heap.size) (h : RB w B (.slice A n c) l) :
    Calls Try.prog 9 #[.slice A n c, .int .i64 id] w (GetR l id w) := by
  obtain ⟨wb, hwb⟩ : ∃ wb, wb = (w.alloc (.cells #[.int .i64 id] 3)).alloc (.cells #[.int .i64 0, .int .i64 0, .slice none 0 0, .string ⟨#[]⟩, .slice none 0 0] 30) := ⟨_, rfl⟩
  have hbb : Below w.heap.size w wb := by rw [hwb]; exact ((Below.refl _ _).alloc (Nat.le_refl _) _).alloc (by simp) _
  have p0 : Blk wb w.heap.size 3 #[.int .i64 id] := by rw [hwb]; exact (Blk.new w _ _).alloc _
  have p1 : Blk wb (w.heap.size + 1) 30 #[.int .i64 0, .int .i64 0, .slice none 0 0, .string ⟨#[]⟩, .slice none 0 0] := by
    rw [hwb]
    have h := Blk.new (w.alloc (.cells #[.int .i64 id] 3)) 30 #[.int .i64 0, .int .i64 0, .slice none 0 0, .string ⟨#[]⟩, .slice none 0 0]
    simpa only [World.size_alloc] using h
  have hzb : wb.heap.size = w.heap.size + 2 := by rw [hwb]; simp
  have HIX := indexF_any 37 get1_any (enters_of Try.func37 (by kernel_rfl) rfl) l A n c w.heap.size id wb B (Nat.le_trans hB hbb.size) (by omega) (p0.cell 0) (h.below (hbb.mono hB))
  have HBB := Lib.hid hbb
  have HWB := Lib.hid hwb
  have HZB := Lib.hid hzb
  have P1 := Lib.hid p1
  rcases posOf_spec l id with ⟨hp, hq1⟩ | ⟨p, x, hp, hlp, hq1, hq2⟩
  · clear hq1
    have hg : getB l id = zB := if_pos (by omega)
    rw [hp] at HIX
    have HX := Lib.hid HIX
    have hfin : ∀ w', Below w.heap.size w w' → GetR l id w (.returned (.tuple #[.agg #[.int .i64 0, .int .i64 0, .slice none 0 0, .string ⟨#[]⟩, .slice none 0 0], .bool false])) w' := fun w' hb => by
      unfold GetR
      rw [hg, hp]
      exact ⟨⟨none, 0, 0, none, 0, 0, rfl, RInX.nil _ _, RPrX.nil _ _⟩, hb⟩
    have HF := Lib.hid hfin
    clear h hbb hwb hzb p0 p1 HIX hp hg hfin
    go_enter Try.func9, Try.ntmps9
    go_upto_region 1 with fail
    rw [← HWB.out]
    go_wp2_with fail
    refine HX.out.mono ?_
    rintro e w1 ⟨rfl, hb1⟩
    have HB1 : Hid (Below w.heap.size w w1) := HBB.out.trans (hb1.mono HBB.out.size)
    have hp1 := P1.out.below hb1 (by have := HZB.out; omega)
    have e1 := fun i => hp1.cell i
    have f1 := fun i => hp1.frozen i
    have HP1 := Lib.hid hp1
    clear hb1 hp1
    go_wp2_with fail
    have PF := ((((HP1.out.set_ 0 (.int .i64 0)).set_ 1 (.int .i64 0)).set_ 2 (.slice none 0 0)).set_ 3 (.string ⟨#[]⟩)).set_ 4 (.slice none 0 0)
    have HBF : Below w.heap.size w _ := ((((HB1.out.setCell (p := ⟨w.heap.size + 1, 0, none⟩) (Nat.le_succ _) (.int .i64 0)).setCell (p := ⟨w.heap.size + 1, 1, none⟩) (Nat.le_succ _) (.int .i64 0)).setCell (p := ⟨w.heap.size + 1, 2, none⟩) (Nat.le_succ _) (.slice none 0 0)).setCell (p := ⟨w.heap.size + 1, 3, none⟩) (Nat.le_succ _) (.string ⟨#[]⟩)).setCell (p := ⟨w.heap.size + 1, 4, none⟩) (Nat.le_succ _) (.slice none 0 0)
    have r0 := PF.cell 0
    have r1 := PF.cell 1
    have r2 := PF.cell 2
    have r3 := PF.cell 3
    have r4 := PF.cell 4
    exact bodyPost_ret (v := .tuple #[.agg #[.int .i64 0, .int .i64 0, .slice none 0 0, .string ⟨#[]⟩, .slice none 0 0], .bool false]) (by simp [results, Try.results9, go_sem, r0, r1, r2, r3, r4]) rfl (HF.out _ HBF)
  · clear hq1 hq2
    have hg : getB l id = x := by unfold getB; rw [if_neg (by omega), hp, Int.toNat_natCast, hlp]; rfl
    have hpn : p < n := by have := (List.getElem?_eq_some_iff.1 hlp).1; have := h.len.1; omega
    obtain ⟨b, off, Ak, nk, ck, Ap, np, cp, rfl, hbb2, g0, g1, g2, g3, g4, hK, hP⟩ := h.at_ hlp
    rw [hp] at HIX
    have HX := Lib.hid HIX
    have HCB := Lib.hid fun W (hW : Below w.heap.size w W) => copyBlock_any x Ak Ap nk ck np cp W B (Nat.le_trans hB hW.size) (hK.below (hW.mono hB)) (hP.below (hW.mono hB))
    dsimp only [AB] at HCB
    have hfin : ∀ Kx nx cx Px mx ex w', RInX w' (fun b => w.heap.size ≤ b ∧ b < w'.heap.size) (.slice Kx nx cx) x.kids → RPrX w' (fun b => w.heap.size ≤ b ∧ b < w'.heap.size) (.slice Px mx ex) x.props → Below w.heap.size w w' → GetR l id w (.returned (.tuple #[AB (x, .slice Kx nx cx, .slice Px mx ex), .bool true])) w' := fun Kx nx cx Px mx ex w' h1 h2 hb => by
      unfold GetR
      rw [hg, hp, decide_eq_true (by omega : (0 : Int) ≤ (p : Int))]
      exact ⟨⟨Kx, nx, cx, Px, mx, ex, rfl, h1, h2⟩, hb⟩
    have HF := Lib.hid hfin
    have y0 : (0 : Int) ≤ (p : Int) := by omega
    have y1 : (p : Int) < (n : Int) := by omega
    clear h hbb hwb hzb p0 p1 HIX hp hg hlp hK hP hfin
    go_enter Try.func9, Try.ntmps9
    go_upto_region 1 with fail
    rw [← HWB.out]
    go_wp2_with fail
    refine HX.out.mono ?_
    rintro e w1 ⟨rfl, hb1⟩
    have HB1 : Hid (Below w.heap.size w w1) := HBB.out.trans (hb1.mono HBB.out.size)
    have hz1 : w.heap.size + 2 ≤ w1.heap.size := by have := HZB.out; have := hb1.size; omega
    have HP1 := Lib.hid (P1.out.below hb1 (by have := HZB.out; omega))
    have c0 := (HB1.out.cell (p := ⟨b, off + p * 5, none⟩) (by show b < _; omega)).trans g0
    have c1 := (HB1.out.cell (p := ⟨b, off + p * 5 + 1, none⟩) (by show b < _; omega)).trans g1
    have c2 := (HB1.out.cell (p := ⟨b, off + p * 5 + 2, none⟩) (by show b < _; omega)).trans g2
    have c3 := (HB1.out.cell (p := ⟨b, off + p * 5 + 3, none⟩) (by show b < _; omega)).trans g3
    have c4 := (HB1.out.cell (p := ⟨b, off + p * 5 + 4, none⟩) (by show b < _; omega)).trans g4
    have HCX := Lib.hid (HCB.out w1 HB1.out)
    clear hb1 g0 g1 g2 g3 g4
    go_wp2_with fail
    with_reducible refine HCX.out.mono ?_
    rintro e w2 ⟨⟨Kx, nx, cx, Px, mx, ex, rfl, hr1, hr2⟩, hb2⟩
    dsimp only [AB]
    have HB2 : Hid (Below w.heap.size w w2) := HB1.out.trans (hb2.mono HB1.out.size)
    have hp2 := HP1.out.below hb2 (by omega)
    have e1 := fun i => hp2.cell i
    have f1 := fun i => hp2.frozen i
    have HP2 := Lib.hid hp2
    have HR1 := Lib.hid hr1
    have HR2 := Lib.hid hr2
    clear hb2 hp2 hr1 hr2 c0 c1 c2 c3 c4
    go_wp2_with fail
    have PF := ((((HP2.out.set_ 0 (.int .i64 x.id)).set_ 1 (.int .i64 x.parent)).set_ 2 (.slice Kx nx cx)).set_ 3 (.string x.text)).set_ 4 (.slice Px mx ex)
    have HBF : Below w.heap.size w _ := ((((HB2.out.setCell (p := ⟨w.heap.size + 1, 0, none⟩) (Nat.le_succ _) (.int .i64 x.id)).setCell (p := ⟨w.heap.size + 1, 1, none⟩) (Nat.le_succ _) (.int .i64 x.parent)).setCell (p := ⟨w.heap.size + 1, 2, none⟩) (Nat.le_succ _) (.slice Kx nx cx)).setCell (p := ⟨w.heap.size + 1, 3, none⟩) (Nat.le_succ _) (.string x.text)).setCell (p := ⟨w.heap.size + 1, 4, none⟩) (Nat.le_succ _) (.slice Px mx ex)
    obtain ⟨F, hF⟩ : ∃ F, F = (((((w2.setCell ⟨w.heap.size + 1, 0, none⟩ (.int .i64 x.id)).setCell ⟨w.heap.size + 1, 1, none⟩ (.int .i64 x.parent)).setCell ⟨w.heap.size + 1, 2, none⟩ (.slice Kx nx cx)).setCell ⟨w.heap.size + 1, 3, none⟩ (.string x.text)).setCell ⟨w.heap.size + 1, 4, none⟩ (.slice Px mx ex)) := ⟨_, rfl⟩
    rw [← hF] at PF HBF ⊢
    have hFk : ∀ p : Addr, w.heap.size + 2 ≤ p.block → F.cell? p = w2.cell? p := fun p h1 => by
      rw [hF]
      repeat rw [World.cell?_setCell_other _ _ p _ (by intro e; subst e; dsimp only at h1; omega)]
    have hFs : F.heap.size = w2.heap.size := by rw [hF]; simp [World.setCell]
    have r0 := PF.cell 0
    have r1 := PF.cell 1
    have r2 := PF.cell 2
    have r3 := PF.cell 3
    have r4 := PF.cell 4
    refine bodyPost_ret (v := .tuple #[AB (x, .slice Kx nx cx, .slice Px mx ex), .bool true]) (by simp [results, Try.results9, go_sem, r0, r1, r2, r3, r4, AB]) rfl (HF.out _ _ _ _ _ _ _ ?_ ?_ HBF)
    · exact (HR1.out.keep (fun p hp => hFk p (by omega))).weak fun b hb => ⟨by omega, by rw [hFs]; exact hb.2⟩
    · exact (HR2.out.keep (fun p hp => hFk p (by omega))).weak fun b hb => ⟨by omega, by rw [hFs]; exact hb.2⟩
end Go.Proofs.Ytbkhnfdfdgdfkaa
