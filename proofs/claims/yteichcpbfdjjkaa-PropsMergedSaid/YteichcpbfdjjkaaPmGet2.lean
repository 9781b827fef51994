/-
  DERIVED. The walk of prop.Get. Conditions: sizes. By an AI agent.
-/
import Derived.Test.YteichcpbfdjjkaaPmGet
namespace Go.Proofs.Yteichcpbfdjjkaa
open Go.RowKit

/-- the value of no property -/
def zV : Vl := .mk 0 0 0 ⟨#[]⟩ []
/-- the value of the first property with a name, or an empty one -/
def getP (l : List Pr) (s : ByteArray) : Vl := if nmOf l s < 0 then zV else ((l[(nmOf l s).toNat]?).map Pr.val).getD zV
/-- what prop.Get leaves -/
def GetPR (l : List Pr) (s : ByteArray) (w : World) (e : Ending) (w' : World) : Prop := (∃ A n c, e = .returned (.tuple #[AV (getP l s, .slice A n c), .bool (decide (0 ≤ nmOf l s))]) ∧ RVX w' (fun b => w.heap.size ≤ b ∧ b < w'.heap.size) (.slice A n c) (getP l s).items) ∧ Below w.heap.size w w'
theorem RVX.nil (w : World) (S : Nat → Prop) : RVX w S (.slice none 0 0) [] := ⟨0, rfl, none, 0, rfl⟩

set_option maxRecDepth 100000 in
set_option maxHeartbeats 4000000 in
/-- prop.Get -/
theorem getP_any (l : List Pr) (A : Option Addr) (n c : Nat) (s : ByteArray) (w : World) (B : Nat) (hB : B ≤ w.heap.size) (h : RPr w B (.slice A n c) l) :
    Calls Try.prog 11 #[.slice A n c, .string s] w (GetPR l s w) := by
  obtain ⟨wb, hwb⟩ : ∃ wb, wb = w.alloc (.cells #[.int .i64 0, .int .i64 0, .int .i64 0, .string ⟨#[]⟩, .slice none 0 0] 38) := ⟨_, rfl⟩
  have hbb : Below w.heap.size w wb := by rw [hwb]; exact (Below.refl _ _).alloc (Nat.le_refl _) _
  have p1 : Blk wb w.heap.size 38 #[.int .i64 0, .int .i64 0, .int .i64 0, .string ⟨#[]⟩, .slice none 0 0] := by rw [hwb]; exact Blk.new w _ _
  have hzb : wb.heap.size = w.heap.size + 1 := by rw [hwb]; simp
  have HIX := find_any l A n c s wb B (Nat.le_trans hB hbb.size) (h.below (hbb.mono hB))
  have HBB := Lib.hid hbb
  have HWB := Lib.hid hwb
  have HZB := Lib.hid hzb
  have P1 := Lib.hid p1
  rcases nmOf_spec l s with ⟨hp, hq1⟩ | ⟨p, x, hp, hlp, hq1⟩
  · clear hq1
    have hg : getP l s = zV := if_pos (by omega)
    rw [hp] at HIX
    have HX := Lib.hid HIX
    have hfin : ∀ w', Below w.heap.size w w' → GetPR l s w (.returned (.tuple #[.agg #[.int .i64 0, .int .i64 0, .int .i64 0, .string ⟨#[]⟩, .slice none 0 0], .bool false])) w' := fun w' hb => by
      unfold GetPR
      rw [hg, hp]
      exact ⟨⟨none, 0, 0, rfl, RVX.nil _ _⟩, hb⟩
    have HF := Lib.hid hfin
    clear h hbb hwb hzb p1 HIX hp hg hfin
    go_enter Try.func11, Try.ntmps11
    go_upto_region 1 with fail
    rw [← HWB.out]
    go_wp2_with fail
    refine HX.out.mono ?_
    rintro e w1 ⟨rfl, hb1⟩
    have HB1 : Hid (Below w.heap.size w w1) := HBB.out.trans (hb1.mono HBB.out.size)
    have hp1 := P1.out.below hb1 (by have := HZB.out; omega)
    have e1 := fun i => hp1.cell i
    have f1 := fun i => hp1.frozen i
    have HP1 := Lib.hid hp1
    clear hb1 hp1
    go_wp2_with fail
    have PF := ((((HP1.out.set_ 0 (.int .i64 0)).set_ 1 (.int .i64 0)).set_ 2 (.int .i64 0)).set_ 3 (.string ⟨#[]⟩)).set_ 4 (.slice none 0 0)
    have HBF : Below w.heap.size w _ := (((((HB1.out.setCell (p := ⟨w.heap.size, 0, none⟩) (Nat.le_refl _) (.int .i64 0)).setCell (p := ⟨w.heap.size, 1, none⟩) (Nat.le_refl _) (.int .i64 0)).setCell (p := ⟨w.heap.size, 2, none⟩) (Nat.le_refl _) (.int .i64 0)).setCell (p := ⟨w.heap.size, 3, none⟩) (Nat.le_refl _) (.string ⟨#[]⟩)).setCell (p := ⟨w.heap.size, 4, none⟩) (Nat.le_refl _) (.slice none 0 0))
    have r0 := PF.cell 0
    have r1 := PF.cell 1
    have r2 := PF.cell 2
    have r3 := PF.cell 3
    have r4 := PF.cell 4
    exact bodyPost_ret (v := .tuple #[.agg #[.int .i64 0, .int .i64 0, .int .i64 0, .string ⟨#[]⟩, .slice none 0 0], .bool false]) (by simp [results, Try.results11, go_sem, r0, r1, r2, r3, r4]) rfl (HF.out _ HBF)
  · clear hq1
    have hg : getP l s = x.val := by unfold getP; rw [if_neg (by omega), hp, Int.toNat_natCast, hlp]; rfl
    have hpn : p < n := by have := (List.getElem?_eq_some_iff.1 hlp).1; have := h.len.1; omega
    obtain ⟨b, off, Av, nv, cv, rfl, hbb2, g0, g1, g2, g3, g4, g5, d, hV⟩ := h.at_ hlp
    rw [hp] at HIX
    have HX := Lib.hid HIX
    have HCB := Lib.hid fun W (hW : Below w.heap.size w W) => copyValue_any d (x.val, .slice Av nv cv) W B (Nat.le_trans hB hW.size) (hV.below (hW.mono hB))
    dsimp only [AV] at HCB
    have hfin : ∀ A' n' c' w', RVX w' (fun b => w.heap.size ≤ b ∧ b < w'.heap.size) (.slice A' n' c') x.val.items → Below w.heap.size w w' → GetPR l s w (.returned (.tuple #[AV (x.val, .slice A' n' c'), .bool true])) w' := fun A' n' c' w' h1 hb => by
      unfold GetPR
      rw [hg, hp, decide_eq_true (by omega : (0 : Int) ≤ (p : Int))]
      exact ⟨⟨A', n', c', rfl, h1⟩, hb⟩
    have HF := Lib.hid hfin
    have y0 : (0 : Int) ≤ (p : Int) := by omega
    have y1 : (p : Int) < (n : Int) := by omega
    clear h hbb hwb hzb p1 HIX hp hg hlp hV hfin
    go_enter Try.func11, Try.ntmps11
    go_upto_region 1 with fail
    rw [← HWB.out]
    go_wp2_with fail
    refine HX.out.mono ?_
    rintro e w1 ⟨rfl, hb1⟩
    have HB1 : Hid (Below w.heap.size w w1) := HBB.out.trans (hb1.mono HBB.out.size)
    have hz1 : w.heap.size + 1 ≤ w1.heap.size := by have := HZB.out; have := hb1.size; omega
    have HP1 := Lib.hid (P1.out.below hb1 (by have := HZB.out; omega))
    have c1 := (HB1.out.cell (p := ⟨b, off + p * 6 + 1, none⟩) (by show b < _; omega)).trans g1
    have c2 := (HB1.out.cell (p := ⟨b, off + p * 6 + 2, none⟩) (by show b < _; omega)).trans g2
    have c3 := (HB1.out.cell (p := ⟨b, off + p * 6 + 3, none⟩) (by show b < _; omega)).trans g3
    have c4 := (HB1.out.cell (p := ⟨b, off + p * 6 + 4, none⟩) (by show b < _; omega)).trans g4
    have c5 := (HB1.out.cell (p := ⟨b, off + p * 6 + 5, none⟩) (by show b < _; omega)).trans g5
    have HCX := Lib.hid (HCB.out w1 HB1.out)
    clear hb1 g0 g1 g2 g3 g4 g5
    go_wp2_with fail
    with_reducible refine HCX.out.mono ?_
    rintro e w2 ⟨⟨A', n', c', rfl, hr1⟩, hb2⟩
    dsimp only [AV]
    have HB2 : Hid (Below w.heap.size w w2) := HB1.out.trans (hb2.mono HB1.out.size)
    have hp2 := HP1.out.below hb2 (by omega)
    have e1 := fun i => hp2.cell i
    have f1 := fun i => hp2.frozen i
    have HP2 := Lib.hid hp2
    have HR1 := Lib.hid hr1
    clear hb2 hp2 hr1 c1 c2 c3 c4 c5
    go_wp2_with fail
    have PF := ((((HP2.out.set_ 0 (.int .i64 x.val.kind)).set_ 1 (.int .i64 x.val.int_)).set_ 2 (.int .i64 x.val.to_)).set_ 3 (.string x.val.text)).set_ 4 (.slice A' n' c')
    have HBF : Below w.heap.size w _ := (((((HB2.out.setCell (p := ⟨w.heap.size, 0, none⟩) (Nat.le_refl _) (.int .i64 x.val.kind)).setCell (p := ⟨w.heap.size, 1, none⟩) (Nat.le_refl _) (.int .i64 x.val.int_)).setCell (p := ⟨w.heap.size, 2, none⟩) (Nat.le_refl _) (.int .i64 x.val.to_)).setCell (p := ⟨w.heap.size, 3, none⟩) (Nat.le_refl _) (.string x.val.text)).setCell (p := ⟨w.heap.size, 4, none⟩) (Nat.le_refl _) (.slice A' n' c'))
    obtain ⟨F, hF⟩ : ∃ F, F = ((((w2.setCell ⟨w.heap.size, 0, none⟩ (.int .i64 x.val.kind)).setCell ⟨w.heap.size, 1, none⟩ (.int .i64 x.val.int_)).setCell ⟨w.heap.size, 2, none⟩ (.int .i64 x.val.to_)).setCell ⟨w.heap.size, 3, none⟩ (.string x.val.text)).setCell ⟨w.heap.size, 4, none⟩ (.slice A' n' c') := ⟨_, rfl⟩
    rw [← hF] at PF HBF ⊢
    have hFk : ∀ p : Addr, w.heap.size + 1 ≤ p.block → F.cell? p = w2.cell? p := fun p h1 => by
      rw [hF]
      repeat rw [World.cell?_setCell_other _ _ p _ (by intro e; subst e; dsimp only at h1; omega)]
    have hFs : F.heap.size = w2.heap.size := by rw [hF]; simp [World.setCell]
    have r0 := PF.cell 0
    have r1 := PF.cell 1
    have r2 := PF.cell 2
    have r3 := PF.cell 3
    have r4 := PF.cell 4
    refine bodyPost_ret (v := .tuple #[AV (x.val, .slice A' n' c'), .bool true]) (by simp [results, Try.results11, go_sem, r0, r1, r2, r3, r4, AV]) rfl (HF.out _ _ _ _ ?_ HBF)
    exact (HR1.out.keep (fun p hp => hFk p (by omega))).weak fun b hb => ⟨by omega, by rw [hFs]; exact hb.2⟩
end Go.Proofs.Yteichcpbfdjjkaa
