/-
  DERIVED. The walk of day.ReadRule at what RuleText writes. Conditions: tables are laid. By an AI agent.
-/
import Derived.Test.YtbdcimakdiegnaaGreatDoorRuRule
import Derived.Test.YtbdcimakdiegnaaGreatDoorRuChk3
import Derived.Test.YtbdcimakdiegnaaGreatDoorRvItem
import Derived.Lib.SplitLaws
namespace Go.Proofs.YtbdcimakdiegnaaGreatDoor
open Go.RowKit
open cal

theorem map_injR {α β : Type} {f : α → β} (hf : ∀ a b, f a = f b → a = b) : ∀ {l m : List α}, l.map f = m.map f → l = m
  | [], [], _ => rfl
  | [], _ :: _, h => by cases h
  | _ :: _, [], h => by cases h
  | a :: l, b :: m, h => by
    injection h with h1 h2
    rw [hf a b h1, map_injR hf h2]
theorem ruW_split {r : Rl} (h : RuOk r) : Lib.splitB ⟨#[32]⟩ 0 (Lib.countB (ruT r) ⟨#[32]⟩) (ruT r) = ruW r := by
  refine map_injR (f := fun b : ByteArray => b.data.toList) (fun a b e => ByteArray.ext (Array.ext' e)) ?_
  rw [Lib.splitB_data, ruT_join]
  refine split_join 32 ((ruW r).map (·.data.toList)) (by rw [ruW_eq]; simp) ?_
  intro x hx
  obtain ⟨y, hy, rfl⟩ := List.mem_map.1 hx
  exact ruW_nosp h y hy
theorem lWs_len (ws : List ByteArray) (f : Int → ByteArray) (l : List Int) : (lWs ws f l).length ≤ ws.length + l.length := by
  unfold lWs
  split
  · show 0 ≤ _; omega
  · rw [List.length_append, List.length_map]; exact Nat.le_refl _
theorem ruW_len {r : Rl} (h : RuOk r) : (ruW r).length ≤ 1000 := by
  unfold ruW
  simp only [List.length_cons, List.length_append]
  have h1 := lWs_len (wOn :: nWs r.nth) wdW r.wk
  have h2 := lWs_len [wDates] wd r.ds
  have h3 := lWs_len [wSkip] dtS r.skip
  have h4 : (uWs r.until_).length ≤ 2 := by unfold uWs; split <;> simp
  have h5 : (cWs r.count).length ≤ 2 := by unfold cWs; split <;> simp
  have h6 : (nWs r.nth).length ≤ 1 := by unfold nWs; split <;> simp
  have := h.wl
  have := h.dl
  have := h.sl
  simp only [List.length_cons, List.length_nil] at h1 h2 h3
  omega

/-- what ReadRule leaves -/
def RdrP (r : Rl) (w : World) (e : Ending) (w' : World) : Prop := ∃ A1 n1 c1 A2 n2 c2 A3 n3 c3, e = .returned (.tuple #[RuV r (.slice A1 n1 c1) (.slice A2 n2 c2) (.slice A3 n3 c3), .int .i64 0]) ∧ RIn w' w'.heap.size (.slice A1 n1 c1) r.wk ∧ RIn w' w'.heap.size (.slice A2 n2 c2) r.ds ∧ RIn w' w'.heap.size (.slice A3 n3 c3) r.skip ∧ Below w.heap.size w w'

set_option maxHeartbeats 4000000 in
set_option maxRecDepth 100000 in
theorem readRule_any (r : Rl) (m : Int) (w : World) (hr : ruErr r = 0) (hz : (ruT r).size ≤ 2000) (hE : En m w) :
    Calls Tryz.prog 14 #[.string (ruT r)] w (RdrP r w) := by
  have hok := ruErr_ok hr
  obtain ⟨X, hX⟩ : ∃ X, X = w.alloc (.cells zR9 40) := ⟨_, rfl⟩
  have hBX : Below w.heap.size w X := by rw [hX]; exact (Below.refl _ _).alloc (Nat.le_refl _) _
  have HKX : Hid (Blk X w.heap.size 40 zR9) := by rw [hX]; exact Blk.new _ _ _
  have hsX : X.heap.size = w.heap.size + 1 := by rw [hX]; simp
  have hsp := ruW_split hok
  have hcnt : Lib.countB (ruT r) ⟨#[32]⟩ + 1 = (ruW r).length := by
    have := Lib.splitB_all ⟨#[32]⟩ (by decide) 0 _ (ruT r) rfl
    rw [hsp] at this
    exact this.symm
  have SP := Tryz.strings_Split (ruT r) ⟨#[32]⟩ m X (by omega) (hE.ml.below hBX) (by decide)
  rw [hsp, hcnt] at SP
  obtain ⟨gw, hgw⟩ : ∃ gw, gw = X.heap.size := ⟨_, rfl⟩
  rw [← hgw] at SP
  obtain ⟨w1, hw1⟩ : ∃ w1, w1 = X.alloc (.cells ((ruW r).map Value.string).toArray 9) := ⟨_, rfl⟩
  rw [← hw1] at SP
  have hs1 : w1.heap.size = gw + 1 := by rw [hw1, hgw]; simp
  have hb1 : Below X.heap.size X w1 := by rw [hw1]; exact (Below.refl _ _).alloc (Nat.le_refl _) _
  have hk1 : Blk w1 gw 9 ((ruW r).map Value.string).toArray := by rw [hw1, hgw]; exact Blk.new _ _ _
  obtain ⟨rb, hrb⟩ : ∃ rb, rb = w1.heap.size := ⟨_, rfl⟩
  obtain ⟨w2, hw2⟩ : ∃ w2, w2 = w1.alloc (.cells #[.slice (some ⟨gw, 0, none⟩) (ruW r).length (ruW r).length, .bool false] 80) := ⟨_, rfl⟩
  have hs2 : w2.heap.size = rb + 1 := by rw [hw2, hrb]; simp
  have hb2 : Below w1.heap.size w1 w2 := by rw [hw2]; exact (Below.refl _ _).alloc (Nat.le_refl _) _
  have hrw : RW w2 rb gw (ruW r) := by
    refine ⟨⟨0, (ruW r).length, ?_, Nat.le_refl _, fun j x hx => ?_⟩, by omega, by omega, ruW_len hok⟩
    · rw [hw2, hrb]
      exact Blk.new _ _ _
    · rw [Nat.zero_add, (hk1.below hb2 (by omega)).cell j, List.getElem?_toArray, List.getElem?_map, hx]
      rfl
  have hB2 : Below w.heap.size w w2 := hBX.trans ((hb1.mono (by omega)).trans (hb2.mono (by omega)))
  have HRU := Lib.hid (ruleR_any r rb gw w2 hok hrw fun W hW => hE.pow.below (hB2.trans (gr_base hW (by omega) (by omega))))
  have HK2 : Hid (Blk w2 w.heap.size 40 zR9) := (HKX.out.below hb1 (by omega)).below hb2 (by omega)
  have HB2 := Lib.hid hB2
  have HX := Lib.hid hX
  have HSP := Lib.hid SP
  have HW2 := Lib.hid hw2
  have HRR := Lib.hid hr
  have HRB := Lib.hid hrb
  have hrbw : w.heap.size < rb := by omega
  have hwz : w.heap.size < w2.heap.size := by omega
  have j1 : ¬ (2000 : Int) < ((ruT r).size : Int) := by omega
  generalize ruT r = S at HSP j1 ⊢
  unfold zR9 at HX
  clear hr hz hE hok hX hBX hsX hsp hcnt SP hgw hw1 hs1 hb1 hk1 hrb hw2 hs2 hb2 hrw hB2
  go_enter Tryz.func14, Tryz.ntmps14
  go_upto_region 1 with fail
  rw [← HX.out]
  go_wp2_with fail
  refine HSP.out.mono ?_
  rintro e w1' ⟨rfl, rfl⟩
  go_upto_region 4 with fail
  rw [← HW2.out, ← HRB.out]
  go_wp2_with fail
  refine HRU.out.mono ?_
  rintro e w3 ⟨a, b, c, rfl, ma, mb, mc, hr3, hg3⟩
  obtain ⟨A1, n1, c1, rfl⟩ : ∃ A n k, a = .slice A n k := by obtain ⟨A, n, k, e, _⟩ := ma; exact ⟨A, n, k, e⟩
  obtain ⟨A2, n2, c2, rfl⟩ : ∃ A n k, b = .slice A n k := by obtain ⟨A, n, k, e, _⟩ := mb; exact ⟨A, n, k, e⟩
  obtain ⟨A3, n3, c3, rfl⟩ : ∃ A n k, c = .slice A n k := by obtain ⟨A, n, k, e, _⟩ := mc; exact ⟨A, n, k, e⟩
  obtain ⟨gv, hgv⟩ : ∃ gv, gv = w3.heap.size := ⟨_, rfl⟩
  obtain ⟨W4, hW4⟩ : ∃ W4, W4 = w3.alloc (.cells (RuC r (.slice A1 n1 c1) (.slice A2 n2 c2) (.slice A3 n3 c3)) 40) := ⟨_, rfl⟩
  have hb4 : Below w3.heap.size w3 W4 := by rw [hW4]; exact (Below.refl _ _).alloc (Nat.le_refl _) _
  have HV4 : Hid (Blk W4 gv 40 (RuC r (.slice A1 n1 c1) (.slice A2 n2 c2) (.slice A3 n3 c3))) := by rw [hW4, hgv]; exact Blk.new _ _ _
  have hs4 : W4.heap.size = gv + 1 := by rw [hW4, hgv]; simp
  have hz3 : w2.heap.size ≤ w3.heap.size := hg3.size
  have hm : ∀ (v : Value) (l : List Int), RInX w3 (fun k => w2.heap.size + 2 ≤ k ∧ k < w3.heap.size) v l → RInX W4 (fun k => w2.heap.size + 2 ≤ k ∧ k < gv) v l := fun v l h => (h.keep fun p hp => hb4.cell hp.2).weak fun k hk => ⟨hk.1, by rw [hgv]; exact hk.2⟩
  have HMA := Lib.hid (hm _ _ ma)
  have HMB := Lib.hid (hm _ _ mb)
  have HMC := Lib.hid (hm _ _ mc)
  have HB4 : Hid (Below w.heap.size w W4) := (HB2.out.trans (gr_base hg3 (by omega) (by omega))).trans (hb4.mono (by omega))
  have HK4 : Hid (Blk W4 w.heap.size 40 zR9) := (blk_gr HK2.out hg3 (by omega)).below hb4 (by omega)
  have hr4 : RW W4 rb gw [] := hr3.below hb4
  obtain ⟨off, cc, k1, _, _⟩ := hr4.rd
  have x1 : W4.cell? ⟨rb, 1, none⟩ = some (.bool false) := k1.cell 1
  have CK := checkRule_any r A1 A2 A3 n1 c1 n2 c2 n3 c3 W4 gv (by omega) (HMA.out.reads fun k hk => hk.2) (HMB.out.reads fun k hk => hk.2) (HMC.out.reads fun k hk => hk.2)
  rw [HRR.out] at CK
  have HCK := Lib.hid CK
  have HW4 := Lib.hid hW4
  have HGV := Lib.hid hgv
  have hwg : w.heap.size < gv := by omega
  obtain ⟨u, ev, fr, un, ct, wk, ds, nth, sk⟩ := r
  unfold RuC at HV4 HW4
  unfold RuV at HCK ⊢
  dsimp only at HV4 HW4 HCK HMA HMB HMC ⊢
  have f0 : W4.cell? ⟨gv, 0, none⟩ = some (.int .i64 u) := HV4.out.cell 0
  have f1 : W4.cell? ⟨gv, 1, none⟩ = some (.int .i64 ev) := HV4.out.cell 1
  have f2 : W4.cell? ⟨gv, 2, none⟩ = some (.int .i64 fr) := HV4.out.cell 2
  have f3 : W4.cell? ⟨gv, 3, none⟩ = some (.int .i64 un) := HV4.out.cell 3
  have f4 : W4.cell? ⟨gv, 4, none⟩ = some (.int .i64 ct) := HV4.out.cell 4
  have f5 : W4.cell? ⟨gv, 5, none⟩ = some (.slice A1 n1 c1) := HV4.out.cell 5
  have f6 : W4.cell? ⟨gv, 6, none⟩ = some (.slice A2 n2 c2) := HV4.out.cell 6
  have f7 : W4.cell? ⟨gv, 7, none⟩ = some (.int .i64 nth) := HV4.out.cell 7
  have f8 : W4.cell? ⟨gv, 8, none⟩ = some (.slice A3 n3 c3) := HV4.out.cell 8
  clear ma mb mc hr3 hg3 hb4 hm k1 hr4 CK hW4 hgv HRU HSP HK2 HB2 HX HW2 HRB
  go_upto_region 5 with fail
  rw [← HW4.out, ← HGV.out]
  go_wp2_with fail
  refine HCK.out.mono ?_
  rintro e w5 ⟨rfl, hb5⟩
  have HK5 := Lib.hid (HK4.out.below hb5 (by omega))
  have HV5 := Lib.hid (HV4.out.below hb5 (by omega))
  have HB5 := Lib.hid (HB4.out.trans (hb5.mono (by omega)))
  have HM5 : Hid (∀ (v : Value) (l : List Int), RInX W4 (fun k => w2.heap.size + 2 ≤ k ∧ k < gv) v l → RInX w5 (fun k => w2.heap.size + 2 ≤ k ∧ k < w5.heap.size) v l) := fun v l h => (h.keep fun p hp => hb5.cell (by have := hp.2; omega)).weak fun k hk => ⟨hk.1, by have := hb5.size; have := hk.2; omega⟩
  have z0 : w5.cell? ⟨w.heap.size, 0, none⟩ = some (.int .i64 0) := HK5.out.cell 0
  have y0 : w5.frozen? ⟨w.heap.size, 0, none⟩ = false := HK5.out.frozen 0
  have z1 : w5.cell? ⟨w.heap.size, 1, none⟩ = some (.int .i64 0) := HK5.out.cell 1
  have y1 : w5.frozen? ⟨w.heap.size, 1, none⟩ = false := HK5.out.frozen 1
  have z2 : w5.cell? ⟨w.heap.size, 2, none⟩ = some (.int .i64 0) := HK5.out.cell 2
  have y2 : w5.frozen? ⟨w.heap.size, 2, none⟩ = false := HK5.out.frozen 2
  have z3 : w5.cell? ⟨w.heap.size, 3, none⟩ = some (.int .i64 0) := HK5.out.cell 3
  have y3 : w5.frozen? ⟨w.heap.size, 3, none⟩ = false := HK5.out.frozen 3
  have z4 : w5.cell? ⟨w.heap.size, 4, none⟩ = some (.int .i64 0) := HK5.out.cell 4
  have y4 : w5.frozen? ⟨w.heap.size, 4, none⟩ = false := HK5.out.frozen 4
  have z5 : w5.cell? ⟨w.heap.size, 5, none⟩ = some (.slice none 0 0) := HK5.out.cell 5
  have y5 : w5.frozen? ⟨w.heap.size, 5, none⟩ = false := HK5.out.frozen 5
  have z6 : w5.cell? ⟨w.heap.size, 6, none⟩ = some (.slice none 0 0) := HK5.out.cell 6
  have y6 : w5.frozen? ⟨w.heap.size, 6, none⟩ = false := HK5.out.frozen 6
  have z7 : w5.cell? ⟨w.heap.size, 7, none⟩ = some (.int .i64 0) := HK5.out.cell 7
  have y7 : w5.frozen? ⟨w.heap.size, 7, none⟩ = false := HK5.out.frozen 7
  have z8 : w5.cell? ⟨w.heap.size, 8, none⟩ = some (.slice none 0 0) := HK5.out.cell 8
  have y8 : w5.frozen? ⟨w.heap.size, 8, none⟩ = false := HK5.out.frozen 8
  have e0 : w5.cell? ⟨gv, 0, none⟩ = some (.int .i64 u) := HV5.out.cell 0
  have e1 : w5.cell? ⟨gv, 1, none⟩ = some (.int .i64 ev) := HV5.out.cell 1
  have e2 : w5.cell? ⟨gv, 2, none⟩ = some (.int .i64 fr) := HV5.out.cell 2
  have e3 : w5.cell? ⟨gv, 3, none⟩ = some (.int .i64 un) := HV5.out.cell 3
  have e4 : w5.cell? ⟨gv, 4, none⟩ = some (.int .i64 ct) := HV5.out.cell 4
  have e5 : w5.cell? ⟨gv, 5, none⟩ = some (.slice A1 n1 c1) := HV5.out.cell 5
  have e6 : w5.cell? ⟨gv, 6, none⟩ = some (.slice A2 n2 c2) := HV5.out.cell 6
  have e7 : w5.cell? ⟨gv, 7, none⟩ = some (.int .i64 nth) := HV5.out.cell 7
  have e8 : w5.cell? ⟨gv, 8, none⟩ = some (.slice A3 n3 c3) := HV5.out.cell 8
  clear x1 f0 f1 f2 f3 f4 f5 f6 f7 f8 hb5 HCK HK4 HV4 HB4
  go_wp2_with fail
  obtain ⟨WF, hWF⟩ : ∃ WF, WF = (((((((((w5.setCell ⟨w.heap.size, 0, none⟩ (.int .i64 u)).setCell ⟨w.heap.size, 1, none⟩ (.int .i64 ev)).setCell ⟨w.heap.size, 2, none⟩ (.int .i64 fr)).setCell ⟨w.heap.size, 3, none⟩ (.int .i64 un)).setCell ⟨w.heap.size, 4, none⟩ (.int .i64 ct)).setCell ⟨w.heap.size, 5, none⟩ (.slice A1 n1 c1)).setCell ⟨w.heap.size, 6, none⟩ (.slice A2 n2 c2)).setCell ⟨w.heap.size, 7, none⟩ (.int .i64 nth)).setCell ⟨w.heap.size, 8, none⟩ (.slice A3 n3 c3)) := ⟨_, rfl⟩
  rw [← hWF]
  obtain ⟨⟨r0, r1, r2, r3, r4, r5, r6, r7, r8⟩, zF, bF, jF⟩ := fin9 HK5.out (.int .i64 u) (.int .i64 ev) (.int .i64 fr) (.int .i64 un) (.int .i64 ct) (.slice A1 n1 c1) (.slice A2 n2 c2) (.int .i64 nth) (.slice A3 n3 c3) WF hWF
  clear hWF
  refine bodyPost_ret (v := .tuple #[RuV ⟨u, ev, fr, un, ct, wk, ds, nth, sk⟩ (.slice A1 n1 c1) (.slice A2 n2 c2) (.slice A3 n3 c3), .int .i64 0]) (by simp [results, Tryz.results14, go_sem, r0, r1, r2, r3, r4, r5, r6, r7, r8, RuV]) rfl ?_
  have hk : ∀ (v : Value) (l : List Int), RInX W4 (fun k => w2.heap.size + 2 ≤ k ∧ k < gv) v l → RIn WF WF.heap.size v l := fun v l hx =>
    ((HM5.out v l hx).keep fun q hq => World.cell?_of_block (jF _ (by have := hq.1; omega))).reads fun k hk => by rw [zF]; exact hk.2
  exact ⟨_, _, _, _, _, _, _, _, _, rfl, hk _ _ HMA.out, hk _ _ HMB.out, hk _ _ HMC.out, HB5.out.trans bF⟩
end Go.Proofs.YtbdcimakdiegnaaGreatDoor
