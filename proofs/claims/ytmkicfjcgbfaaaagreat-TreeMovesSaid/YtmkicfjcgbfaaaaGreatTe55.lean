/-
  DERIVED. The walk of the law TreeMoves. Conditions: sizes.
  By an AI agent.
-/
import Derived.Test.YtmkicfjcgbfaaaaGreatTe54
import Derived.Test.YtmkicfjcgbfaaaaGreatTe24
import Derived.Test.YtmkicfjcgbfaaaaGreatTe45
import Derived.Test.YtmkicfjcgbfaaaaGreatTe35
namespace Go.Proofs.YtmkicfjcgbfaaaaGreat
open Go.RowKit

/-- what tree.Prune hands back: operations, or that there is none -/
def PruR (l : List Bl) (id : Int) (os : List Opn) (w : World) (e : Ending) (w' : World) : Prop := (∃ A n c, ∃ er : Int, e = .returned (.tuple #[.slice A n c, .int .i64 er]) ∧ ((0 < posOf l id ∧ er = 0 ∧ ROs w' w'.heap.size (.slice A n c) os) ∨ (posOf l id ≤ 0 ∧ er = 7 ∧ n = 0))) ∧ Below w.heap.size w w'
def ManyV (os : List Opn) (A : Option Addr) (n c : Nat) (er : Int) (w : World) : Prop := (er = 0 ∧ ROs w w.heap.size (.slice A n c) os) ∨ (er ≠ 0 ∧ A = none ∧ n = 0 ∧ c = 0)
theorem ManyV.up {os : List Opn} {A : Option Addr} {n c : Nat} {er : Int} {w w' : World} (h : ManyV os A n c er w) (hb : Below w.heap.size w w') : ManyV os A n c er w' := h.imp (fun h => ⟨h.1, (h.2.below hb).more hb.size⟩) id
def PruV (l : List Bl) (id : Int) (os : List Opn) (A : Option Addr) (n c : Nat) (er : Int) (w : World) : Prop := (0 < posOf l id ∧ er = 0 ∧ ROs w w.heap.size (.slice A n c) os) ∨ (posOf l id ≤ 0 ∧ er = 7 ∧ n = 0)
theorem PruV.up {l : List Bl} {i : Int} {os : List Opn} {A : Option Addr} {n c : Nat} {er : Int} {w w' : World} (h : PruV l i os A n c er w) (hb : Below w.heap.size w w') : PruV l i os A n c er w' := h.imp (fun h => ⟨h.1, h.2.1, (h.2.2.below hb).more hb.size⟩) id
structure MvAll (l : List Bl) (id pl : Int) (A : Option Addr) (n c : Nat) (w : World) : Prop where
  pru : ∃ os, (∀ W, Below w.heap.size w W → Calls Tryz.prog 36 #[.slice A n c, .int .i64 id] W (PruR l id os W)) ∧ (0 < posOf l id → ∀ W, Below w.heap.size w W → Calls Tryz.prog 49 #[.slice A n c, .int .i64 id] W fun e w' => (∃ A' n' c', e = .returned (.slice A' n' c') ∧ ROs w' w'.heap.size (.slice A' n' c') os) ∧ Below W.heap.size W w')
  ind : Both w 37 42 #[.slice A n c, .int .i64 id]
  out : Both w 38 43 #[.slice A n c, .int .i64 id]
  spl : BothM w 39 44 #[.slice A n c, .int .i64 id, .int .i64 pl]
  joi : BothM w 40 45 #[.slice A n c, .int .i64 id]
theorem mvAll (l : List Bl) (f : Int → Option Int) (G : Good l f) (A : Option Addr) (n c : Nat) (id pl : Int) (hid : I64 id) (w : World) (h : RB w w.heap.size (.slice A n c) l) : MvAll l id pl A n c w := by
  have hW : ∀ W, Below w.heap.size w W → RB W W.heap.size (.slice A n c) l := fun W hW => (h.below hW).more hW.size
  have hdp : DepOk l f := fun _ => G.dep
  by_cases h0 : 0 < posOf l id
  · obtain ⟨p, q, i, x, y, hat⟩ := G.mv h0
    obtain ⟨d, _, hDp, hd40⟩ := G.dp (List.mem_of_getElem? hat.hx)
    rw [hat.hxi] at hDp
    refine ⟨⟨(id :: ord l (41 - d) id).reverse.flatMap (prO l), fun W hw => (treePrune_ok l f G A n c id p q i x y hat d hDp hd40 W (hW W hw)).mono fun e w' hh => ⟨?_, hh.2⟩, fun _ W hw => (pruneOf_any l f G A n c id ⟨x, List.mem_of_getElem? hat.hx, hat.hxi⟩ d hDp hd40 W (hW W hw)).mono fun e w' hh => ⟨?_, hh.2⟩⟩, indent_both l f G A n c id w h p q i x y hat, outdent_both l f G A n c id w h p q i x y hat, split_both l f G A n c id w h pl p q i x y hat, join_both l f G A n c id w h p q i x y hat⟩
    · obtain ⟨⟨A', n', c', e1, e2⟩, _⟩ := hh
      exact ⟨A', n', c', 0, e1, .inl ⟨h0, rfl, e2⟩⟩
    · obtain ⟨⟨A', n', c', e1, e2, _⟩, _⟩ := hh
      exact ⟨A', n', c', e1, e2⟩
  · have hle : posOf l id ≤ 0 := by omega
    have hc : cinE l f id = 7 := by rw [cin_good G, if_pos hle]
    have hne : cinE l f id ≠ 0 := by omega
    refine ⟨⟨[], fun W hw => ?_, fun hp => absurd hp h0⟩, ⟨(zO, 7), rfl, fun W hw => ?_, fun W hw => indentOf_bad l A n c id W (hW W hw) hle⟩, ⟨(zO, 7), rfl, fun W hw => ?_, fun W hw => outdentOf_bad l A n c id W (hW W hw) hle⟩, .one 7 (fun W hw => ?_) (fun W hw => splitOf_bad l A n c id pl W (hW W hw) hle), .one 7 (fun W hw => ?_) (fun W hw => joinOf_bad l A n c id W (hW W hw) hle)⟩
    · refine (treePrune_bad l f hdp A n c id hid W (hW W hw) hne).mono fun e w' hh => ⟨⟨none, 0, 0, 7, ?_, .inr ⟨hle, rfl, rfl⟩⟩, hh.2⟩
      rw [hh.1, hc]
    · have := indent_bad l f hdp A n c id hid W (hW W hw) hne
      rw [hc] at this
      exact this
    · have := outdent_bad l f hdp A n c id hid W (hW W hw) hne
      rw [hc] at this
      exact this
    · have := split_bad l f hdp A n c id pl hid W (hW W hw) hne
      rw [hc] at this
      exact this
    · have := join_bad l f hdp A n c id hid W (hW W hw) hne
      rw [hc] at this
      exact this
set_option maxRecDepth 100000 in
set_option maxHeartbeats 16000000 in
theorem mvLaw_good (l : List Bl) (f : Int → Option Int) (hf : DepOk l f) (A : Option Addr) (n c : Nat) (id pl : Int) (hid : I64 id) (w : World) (h : RB w w.heap.size (.slice A n c) l) (h0 : baseE l f = 0) :
    Calls Tryz.prog 7 #[.slice A n c, .int .i64 id, .int .i64 pl] w fun e w' => e = .returned (.bool true) ∧ Below w.heap.size w w' := by
  have G := good_of h0 hf
  obtain ⟨⟨osp, hpr, hpo⟩, ⟨r1, hr1, hi1, hi2⟩, ⟨r2, hr2, ho1, ho2⟩, ⟨os4, P4, hu4, hs1, hs2⟩, ⟨os5, P5, hu5, hj1, hj2⟩⟩ := mvAll l f G A n c id pl hid w h
  have HBE := Lib.hid fun W (hW : Below w.heap.size w W) => baseError_any l f A n c W w.heap.size hW.size (h.below hW) hf
  rw [h0] at HBE
  obtain ⟨wb, hwb⟩ : ∃ wb, wb = w.alloc (.cells #[.int .i64 id] 3) := ⟨_, rfl⟩
  have HBB : Hid (Below w.heap.size w wb) := by rw [hwb]; exact (Below.refl _ _).alloc (Nat.le_refl _) _
  have P0 : Hid (Blk wb w.heap.size 3 #[.int .i64 id]) := by rw [hwb]; exact Blk.new _ _ _
  have HWB := Lib.hid hwb
  have hzb : w.heap.size < wb.heap.size := P0.out.lt
  have HCF := Lib.hid fun W (hW : Below wb.heap.size wb W) => containsF_any 48 moves1_any (enters_of Tryz.func48 (by kernel_rfl) rfl) l A n c w.heap.size id W w.heap.size (Nat.le_trans (Nat.le_of_lt hzb) hW.size) (Nat.lt_of_lt_of_le hzb hW.size) ((P0.out.below hW hzb).cell 0) ((h.below HBB.out).below (hW.mono (Nat.le_of_lt hzb)))
  have HZ : Hid (0 ≤ posOf l id → posOf l id ≤ 0 → id = 0) := fun a b => (G.pos_root a).1 b
  have HZ2 : Hid (0 < posOf l id → id ≠ 0) := fun a => G.pos_zero a
  obtain ⟨⟨uk, ui, up, ua, uf, ut, ux, un, ⟨uvk, uvi, uvt, uvs, ul⟩⟩, ue⟩ := r1
  obtain rfl : ul = [] := hr1
  obtain ⟨⟨vk, vi, vp, va, vf, vt, vx, vn, ⟨vvk, vvi, vvt, vvs, vl⟩⟩, ve⟩ := r2
  obtain rfl : vl = [] := hr2
  have HSOu := Lib.hid fun W => sameOp_any ⟨uk, ui, up, ua, uf, ut, ux, un, ⟨uvk, uvi, uvt, uvs, []⟩⟩ none none 0 0 0 0 W W.heap.size (Nat.le_refl _) (RV.nil _ _) (RV.nil _ _)
  have HSOv := Lib.hid fun W => sameOp_any ⟨vk, vi, vp, va, vf, vt, vx, vn, ⟨vvk, vvi, vvt, vvs, []⟩⟩ none none 0 0 0 0 W W.heap.size (Nat.le_refl _) (RV.nil _ _) (RV.nil _ _)
  have HI1 := Lib.hid hi1
  have HI2 := Lib.hid hi2
  have HO1 := Lib.hid ho1
  have HO2 := Lib.hid ho2
  unfold MvR at HI1 HI2 HO1 HO2
  dsimp only [AO, Vl.kind, Vl.int_, Vl.to_, Vl.text] at HI1 HI2 HO1 HO2 HSOu HSOv
  have HS1 := Lib.hid hs1
  have HS2 := Lib.hid hs2
  have HJ1 := Lib.hid hj1
  have HJ2 := Lib.hid hj2
  have HPR := Lib.hid hpr
  have HPO := Lib.hid hpo
  have HU4 := Lib.hid hu4
  have HU5 := Lib.hid hu5
  have hqu : (ue != ue) = false := by simp
  have hqv : (ve != ve) = false := by simp
  clear hi1 hi2 ho1 ho2 hs1 hs2 hj1 hj2 hpr hpo hu4 hu5 G h h0 hf hwb hid
  go_enter Tryz.func7, Tryz.ntmps7
  go_upto_region 1 with fail
  rw [← HWB.out]
  have e0 := fun i => P0.out.cell i
  go_wp2_with fail
  refine (HPR.out wb HBB.out).mono ?_
  rintro e w1 ⟨⟨A1, n1, c1, e1, rfl, hres⟩, hb⟩
  have HB1 : Hid (Below wb.heap.size wb w1) := hb
  have P1 := Lib.hid (P0.out.below hb P0.out.lt)
  have V1x1 : Hid (PruV l id osp A1 n1 c1 e1 w1) := hres
  clear hres
  clear hb e0
  have e0 := fun i => P1.out.cell i
  go_wp2_with fail
  refine (HI1.out w1 (HBB.out.trans (HB1.out.mono HBB.out.size))).mono ?_
  rintro e w2 ⟨rfl, hb⟩
  have HB2 : Hid (Below wb.heap.size wb w2) := HB1.out.trans (hb.mono HB1.out.size)
  have P2 := Lib.hid (P1.out.below hb P1.out.lt)
  have V1x2 := Lib.hid (V1x1.out.up hb)
  clear hb e0
  obtain ⟨w3, hw⟩ : ∃ w3, w3 = w2.alloc (.cells #[.int .i64 uk, .int .i64 ui, .int .i64 up, .int .i64 ua, .int .i64 uf, .int .i64 ut, .string ux, .string un, .int .i64 uvk, .int .i64 uvi, .int .i64 uvt, .string uvs, .slice none 0 0] 31) := ⟨_, rfl⟩
  have hal : Below w2.heap.size w2 w3 := by rw [hw]; exact (Below.refl _ _).alloc (Nat.le_refl _) _
  have HB3 : Hid (Below wb.heap.size wb w3) := HB2.out.trans (hal.mono HB2.out.size)
  have P3 := Lib.hid (P2.out.below hal P2.out.lt)
  have V1x3 := Lib.hid (V1x2.out.up hal)
  have Q3 : Hid (Blk w3 w2.heap.size 31 #[.int .i64 uk, .int .i64 ui, .int .i64 up, .int .i64 ua, .int .i64 uf, .int .i64 ut, .string ux, .string un, .int .i64 uvk, .int .i64 uvi, .int .i64 uvt, .string uvs, .slice none 0 0]) := by rw [hw]; exact Blk.new _ _ _
  have HW3 := Lib.hid hw
  clear hal hw
  go_upto_region 3 with fail
  rw [← HW3.out]
  have e0 := fun i => P3.out.cell i
  go_wp2_with fail
  refine (HO1.out w3 (HBB.out.trans (HB3.out.mono HBB.out.size))).mono ?_
  rintro e w4 ⟨rfl, hb⟩
  have HB4 : Hid (Below wb.heap.size wb w4) := HB3.out.trans (hb.mono HB3.out.size)
  have P4 := Lib.hid (P3.out.below hb P3.out.lt)
  have Q4 := Lib.hid (Q3.out.below hb Q3.out.lt)
  have V1x4 := Lib.hid (V1x3.out.up hb)
  clear hb e0
  obtain ⟨w5, hw⟩ : ∃ w5, w5 = w4.alloc (.cells #[.int .i64 vk, .int .i64 vi, .int .i64 vp, .int .i64 va, .int .i64 vf, .int .i64 vt, .string vx, .string vn, .int .i64 vvk, .int .i64 vvi, .int .i64 vvt, .string vvs, .slice none 0 0] 31) := ⟨_, rfl⟩
  have hal : Below w4.heap.size w4 w5 := by rw [hw]; exact (Below.refl _ _).alloc (Nat.le_refl _) _
  have HB5 : Hid (Below wb.heap.size wb w5) := HB4.out.trans (hal.mono HB4.out.size)
  have P5 := Lib.hid (P4.out.below hal P4.out.lt)
  have Q5 := Lib.hid (Q4.out.below hal Q4.out.lt)
  have V1x5 := Lib.hid (V1x4.out.up hal)
  have R5 : Hid (Blk w5 w4.heap.size 31 #[.int .i64 vk, .int .i64 vi, .int .i64 vp, .int .i64 va, .int .i64 vf, .int .i64 vt, .string vx, .string vn, .int .i64 vvk, .int .i64 vvi, .int .i64 vvt, .string vvs, .slice none 0 0]) := by rw [hw]; exact Blk.new _ _ _
  have HW5 := Lib.hid hw
  clear hal hw
  go_upto_region 4 with fail
  rw [← HW5.out]
  have e0 := fun i => P5.out.cell i
  go_wp2_with fail
  refine (HS1.out w5 (HBB.out.trans (HB5.out.mono HBB.out.size))).mono ?_
  rintro e w6 ⟨er4, hp4, ⟨A6, n6, c6, rfl, hres⟩, hb⟩
  have HB6 : Hid (Below wb.heap.size wb w6) := HB5.out.trans (hb.mono HB5.out.size)
  have P6 := Lib.hid (P5.out.below hb P5.out.lt)
  have Q6 := Lib.hid (Q5.out.below hb Q5.out.lt)
  have R6 := Lib.hid (R5.out.below hb R5.out.lt)
  have V1x6 := Lib.hid (V1x5.out.up hb)
  have HP4 := Lib.hid hp4
  have V6x6 : Hid (ManyV os4 A6 n6 c6 er4 w6) := hres
  clear hres hp4
  clear hb e0
  have e0 := fun i => P6.out.cell i
  go_wp2_with fail
  refine (HJ1.out w6 (HBB.out.trans (HB6.out.mono HBB.out.size))).mono ?_
  rintro e w7 ⟨er5, hp5, ⟨A7, n7, c7, rfl, hres⟩, hb⟩
  have HB7 : Hid (Below wb.heap.size wb w7) := HB6.out.trans (hb.mono HB6.out.size)
  have P7 := Lib.hid (P6.out.below hb P6.out.lt)
  have Q7 := Lib.hid (Q6.out.below hb Q6.out.lt)
  have R7 := Lib.hid (R6.out.below hb R6.out.lt)
  have V1x7 := Lib.hid (V1x6.out.up hb)
  have V6x7 := Lib.hid (V6x6.out.up hb)
  have HP5 := Lib.hid hp5
  have V7x7 : Hid (ManyV os5 A7 n7 c7 er5 w7) := hres
  clear hres hp5
  clear hb e0
  have e0 := fun i => P7.out.cell i
  go_wp2_with fail
  refine (HBE.out w7 (HBB.out.trans (HB7.out.mono HBB.out.size))).mono ?_
  rintro e w8 ⟨rfl, hb⟩
  have HB8 : Hid (Below wb.heap.size wb w8) := HB7.out.trans (hb.mono HB7.out.size)
  have P8 := Lib.hid (P7.out.below hb P7.out.lt)
  have Q8 := Lib.hid (Q7.out.below hb Q7.out.lt)
  have R8 := Lib.hid (R7.out.below hb R7.out.lt)
  have V1x8 := Lib.hid (V1x7.out.up hb)
  have V6x8 := Lib.hid (V6x7.out.up hb)
  have V7x8 := Lib.hid (V7x7.out.up hb)
  clear hb e0
  have e0 := fun i => P8.out.cell i
  go_wp2_with fail
  refine (HI2.out w8 (HBB.out.trans (HB8.out.mono HBB.out.size))).mono ?_
  rintro e w9 ⟨rfl, hb⟩
  have HB9 : Hid (Below wb.heap.size wb w9) := HB8.out.trans (hb.mono HB8.out.size)
  have P9 := Lib.hid (P8.out.below hb P8.out.lt)
  have Q9 := Lib.hid (Q8.out.below hb Q8.out.lt)
  have R9 := Lib.hid (R8.out.below hb R8.out.lt)
  have V1x9 := Lib.hid (V1x8.out.up hb)
  have V6x9 := Lib.hid (V6x8.out.up hb)
  have V7x9 := Lib.hid (V7x8.out.up hb)
  clear hb e0
  obtain ⟨w10, hw⟩ : ∃ w10, w10 = w9.alloc (.cells #[.int .i64 uk, .int .i64 ui, .int .i64 up, .int .i64 ua, .int .i64 uf, .int .i64 ut, .string ux, .string un, .int .i64 uvk, .int .i64 uvi, .int .i64 uvt, .string uvs, .slice none 0 0] 31) := ⟨_, rfl⟩
  have hal : Below w9.heap.size w9 w10 := by rw [hw]; exact (Below.refl _ _).alloc (Nat.le_refl _) _
  have HB10 : Hid (Below wb.heap.size wb w10) := HB9.out.trans (hal.mono HB9.out.size)
  have P10 := Lib.hid (P9.out.below hal P9.out.lt)
  have Q10 := Lib.hid (Q9.out.below hal Q9.out.lt)
  have R10 := Lib.hid (R9.out.below hal R9.out.lt)
  have V1x10 := Lib.hid (V1x9.out.up hal)
  have V6x10 := Lib.hid (V6x9.out.up hal)
  have V7x10 := Lib.hid (V7x9.out.up hal)
  have S10 : Hid (Blk w10 w9.heap.size 31 #[.int .i64 uk, .int .i64 ui, .int .i64 up, .int .i64 ua, .int .i64 uf, .int .i64 ut, .string ux, .string un, .int .i64 uvk, .int .i64 uvi, .int .i64 uvt, .string uvs, .slice none 0 0]) := by rw [hw]; exact Blk.new _ _ _
  have HW10 := Lib.hid hw
  clear hal hw
  go_upto_region 10 with fail
  rw [← HW10.out]
  have e0 := fun i => P10.out.cell i
  go_wp2_with fail
  refine (HO2.out w10 (HBB.out.trans (HB10.out.mono HBB.out.size))).mono ?_
  rintro e w11 ⟨rfl, hb⟩
  have HB11 : Hid (Below wb.heap.size wb w11) := HB10.out.trans (hb.mono HB10.out.size)
  have P11 := Lib.hid (P10.out.below hb P10.out.lt)
  have Q11 := Lib.hid (Q10.out.below hb Q10.out.lt)
  have R11 := Lib.hid (R10.out.below hb R10.out.lt)
  have S11 := Lib.hid (S10.out.below hb S10.out.lt)
  have V1x11 := Lib.hid (V1x10.out.up hb)
  have V6x11 := Lib.hid (V6x10.out.up hb)
  have V7x11 := Lib.hid (V7x10.out.up hb)
  clear hb e0
  obtain ⟨w12, hw⟩ : ∃ w12, w12 = w11.alloc (.cells #[.int .i64 vk, .int .i64 vi, .int .i64 vp, .int .i64 va, .int .i64 vf, .int .i64 vt, .string vx, .string vn, .int .i64 vvk, .int .i64 vvi, .int .i64 vvt, .string vvs, .slice none 0 0] 31) := ⟨_, rfl⟩
  have hal : Below w11.heap.size w11 w12 := by rw [hw]; exact (Below.refl _ _).alloc (Nat.le_refl _) _
  have HB12 : Hid (Below wb.heap.size wb w12) := HB11.out.trans (hal.mono HB11.out.size)
  have P12 := Lib.hid (P11.out.below hal P11.out.lt)
  have Q12 := Lib.hid (Q11.out.below hal Q11.out.lt)
  have R12 := Lib.hid (R11.out.below hal R11.out.lt)
  have S12 := Lib.hid (S11.out.below hal S11.out.lt)
  have V1x12 := Lib.hid (V1x11.out.up hal)
  have V6x12 := Lib.hid (V6x11.out.up hal)
  have V7x12 := Lib.hid (V7x11.out.up hal)
  have U12 : Hid (Blk w12 w11.heap.size 31 #[.int .i64 vk, .int .i64 vi, .int .i64 vp, .int .i64 va, .int .i64 vf, .int .i64 vt, .string vx, .string vn, .int .i64 vvk, .int .i64 vvi, .int .i64 vvt, .string vvs, .slice none 0 0]) := by rw [hw]; exact Blk.new _ _ _
  have HW12 := Lib.hid hw
  clear hal hw
  go_upto_region 11 with fail
  rw [← HW12.out]
  have e0 := fun i => P12.out.cell i
  go_wp2_with fail
  refine (HS2.out w12 (HBB.out.trans (HB12.out.mono HBB.out.size))).mono ?_
  rintro e w13 ⟨er4', hp4, ⟨A13, n13, c13, rfl, hres⟩, hb⟩
  have HB13 : Hid (Below wb.heap.size wb w13) := HB12.out.trans (hb.mono HB12.out.size)
  have P13 := Lib.hid (P12.out.below hb P12.out.lt)
  have Q13 := Lib.hid (Q12.out.below hb Q12.out.lt)
  have R13 := Lib.hid (R12.out.below hb R12.out.lt)
  have S13 := Lib.hid (S12.out.below hb S12.out.lt)
  have U13 := Lib.hid (U12.out.below hb U12.out.lt)
  have V1x13 := Lib.hid (V1x12.out.up hb)
  have V6x13 := Lib.hid (V6x12.out.up hb)
  have V7x13 := Lib.hid (V7x12.out.up hb)
  obtain rfl : er4' = er4 := HU4.out _ _ hp4 HP4.out
  have V13x13 : Hid (ManyV os4 A13 n13 c13 er4' w13) := hres
  clear hres hp4
  clear hb e0
  have e0 := fun i => P13.out.cell i
  go_wp2_with fail
  refine (HJ2.out w13 (HBB.out.trans (HB13.out.mono HBB.out.size))).mono ?_
  rintro e w14 ⟨er5', hp5, ⟨A14, n14, c14, rfl, hres⟩, hb⟩
  have HB14 : Hid (Below wb.heap.size wb w14) := HB13.out.trans (hb.mono HB13.out.size)
  have P14 := Lib.hid (P13.out.below hb P13.out.lt)
  have Q14 := Lib.hid (Q13.out.below hb Q13.out.lt)
  have R14 := Lib.hid (R13.out.below hb R13.out.lt)
  have S14 := Lib.hid (S13.out.below hb S13.out.lt)
  have U14 := Lib.hid (U13.out.below hb U13.out.lt)
  have V1x14 := Lib.hid (V1x13.out.up hb)
  have V6x14 := Lib.hid (V6x13.out.up hb)
  have V7x14 := Lib.hid (V7x13.out.up hb)
  have V13x14 := Lib.hid (V13x13.out.up hb)
  obtain rfl : er5' = er5 := HU5.out _ _ hp5 HP5.out
  have V14x14 : Hid (ManyV os5 A14 n14 c14 er5' w14) := hres
  clear hres hp5
  clear hb e0
  have e0 := fun i => P14.out.cell i
  have eQ := fun i => Q14.out.cell i
  have eS := fun i => S14.out.cell i
  go_wp2_with fail
  refine (HSOu.out w14  ).mono ?_
  rintro e w15 ⟨rfl, hb⟩
  have HB15 : Hid (Below wb.heap.size wb w15) := HB14.out.trans (hb.mono HB14.out.size)
  have P15 := Lib.hid (P14.out.below hb P14.out.lt)
  have Q15 := Lib.hid (Q14.out.below hb Q14.out.lt)
  have R15 := Lib.hid (R14.out.below hb R14.out.lt)
  have S15 := Lib.hid (S14.out.below hb S14.out.lt)
  have U15 := Lib.hid (U14.out.below hb U14.out.lt)
  have V1x15 := Lib.hid (V1x14.out.up hb)
  have V6x15 := Lib.hid (V6x14.out.up hb)
  have V7x15 := Lib.hid (V7x14.out.up hb)
  have V13x15 := Lib.hid (V13x14.out.up hb)
  have V14x15 := Lib.hid (V14x14.out.up hb)
  clear hb e0 eQ eS
  have e0 := fun i => P15.out.cell i
  have eR := fun i => R15.out.cell i
  have eU := fun i => U15.out.cell i
  go_wp2_with fail
  refine (HSOv.out w15  ).mono ?_
  rintro e w16 ⟨rfl, hb⟩
  have HB16 : Hid (Below wb.heap.size wb w16) := HB15.out.trans (hb.mono HB15.out.size)
  have P16 := Lib.hid (P15.out.below hb P15.out.lt)
  have Q16 := Lib.hid (Q15.out.below hb Q15.out.lt)
  have R16 := Lib.hid (R15.out.below hb R15.out.lt)
  have S16 := Lib.hid (S15.out.below hb S15.out.lt)
  have U16 := Lib.hid (U15.out.below hb U15.out.lt)
  have V1x16 := Lib.hid (V1x15.out.up hb)
  have V6x16 := Lib.hid (V6x15.out.up hb)
  have V7x16 := Lib.hid (V7x15.out.up hb)
  have V13x16 := Lib.hid (V13x15.out.up hb)
  have V14x16 := Lib.hid (V14x15.out.up hb)
  clear hb e0 eR eU
  have e0 := fun i => P16.out.cell i
  have HM1 := Lib.hid (sameMany_two os4 er4' A6 A13 n6 c6 n13 c13 w16 V6x16.out V13x16.out)
  go_wp2_with fail
  refine HM1.out.mono ?_
  rintro e w17 ⟨rfl, hb⟩
  have HB17 : Hid (Below wb.heap.size wb w17) := HB16.out.trans (hb.mono HB16.out.size)
  have P17 := Lib.hid (P16.out.below hb P16.out.lt)
  have Q17 := Lib.hid (Q16.out.below hb Q16.out.lt)
  have R17 := Lib.hid (R16.out.below hb R16.out.lt)
  have S17 := Lib.hid (S16.out.below hb S16.out.lt)
  have U17 := Lib.hid (U16.out.below hb U16.out.lt)
  have V1x17 := Lib.hid (V1x16.out.up hb)
  have V6x17 := Lib.hid (V6x16.out.up hb)
  have V7x17 := Lib.hid (V7x16.out.up hb)
  have V13x17 := Lib.hid (V13x16.out.up hb)
  have V14x17 := Lib.hid (V14x16.out.up hb)
  clear hb e0
  have e0 := fun i => P17.out.cell i
  have HM2 := Lib.hid (sameMany_two os5 er5' A7 A14 n7 c7 n14 c14 w17 V7x17.out V14x17.out)
  go_wp2_with fail
  refine HM2.out.mono ?_
  rintro e w18 ⟨rfl, hb⟩
  have HB18 : Hid (Below wb.heap.size wb w18) := HB17.out.trans (hb.mono HB17.out.size)
  have P18 := Lib.hid (P17.out.below hb P17.out.lt)
  have Q18 := Lib.hid (Q17.out.below hb Q17.out.lt)
  have R18 := Lib.hid (R17.out.below hb R17.out.lt)
  have S18 := Lib.hid (S17.out.below hb S17.out.lt)
  have U18 := Lib.hid (U17.out.below hb U17.out.lt)
  have V1x18 := Lib.hid (V1x17.out.up hb)
  have V6x18 := Lib.hid (V6x17.out.up hb)
  have V7x18 := Lib.hid (V7x17.out.up hb)
  have V13x18 := Lib.hid (V13x17.out.up hb)
  have V14x18 := Lib.hid (V14x17.out.up hb)
  clear hb e0
  have e0 := fun i => P18.out.cell i
  have HCC := Lib.hid (HCF.out w18 HB18.out)
  have HF : Hid (∀ W, Below wb.heap.size wb W → Below w.heap.size w W) := fun W hW => HBB.out.trans (hW.mono HBB.out.size)
  rcases V1x18.out with ⟨hpos, rfl, hro⟩ | ⟨hpos, rfl, rfl⟩
  · have hid0 : (id == 0) = false := by simpa using HZ2.out hpos
    rw [decide_eq_true (Int.le_of_lt hpos)] at HCC
    have HRO := Lib.hid hro
    have HPP := Lib.hid (HPO.out hpos)
    clear hpos hro
    go_wp2_with fail
    refine HCC.out.mono ?_
    rintro e w19 ⟨rfl, hb⟩
    have HB19 : Hid (Below wb.heap.size wb w19) := HB18.out.trans (hb.mono HB18.out.size)
    have P19 := Lib.hid (P18.out.below hb P18.out.lt)
    have HR19 := Lib.hid ((HRO.out.below hb).more hb.size)
    clear hb e0
    have e0 := fun i => P19.out.cell i
    go_wp2_with fail
    refine (HPP.out w19 (HF.out _ HB19.out)).mono ?_
    rintro e w20 ⟨⟨A20, n20, c20, rfl, hr⟩, hb⟩
    have HB20 : Hid (Below wb.heap.size wb w20) := HB19.out.trans (hb.mono HB19.out.size)
    have HSM := Lib.hid (sameMany_any osp A1 A20 n1 c1 n20 c20 w20 ((HR19.out.below hb).more hb.size) hr)
    clear hb e0 hr
    go_wp2_with fail
    refine HSM.out.mono ?_
    rintro e w21 ⟨rfl, hb⟩
    have HB21 := Lib.hid (HF.out _ (HB20.out.trans (hb.mono HB20.out.size)))
    clear hb
    go_wp2_with fail
    go_ret
    exact ⟨rfl, HB21.out⟩
  · by_cases h0 : id = 0
    · have hid0 : (id == 0) = true := by simpa using h0
      have HB19 := Lib.hid (HF.out _ HB18.out)
      clear h0 hpos
      go_wp2_with fail
      go_ret
      exact ⟨rfl, HB19.out⟩
    · have hid0 : (id == 0) = false := by simpa using h0
      have hneg : ¬ 0 ≤ posOf l id := fun h => h0 (HZ.out h hpos)
      rw [decide_eq_false hneg] at HCC
      clear h0 hpos hneg
      go_wp2_with fail
      refine HCC.out.mono ?_
      rintro e w19 ⟨rfl, hb⟩
      have HB19 := Lib.hid (HF.out _ (HB18.out.trans (hb.mono HB18.out.size)))
      clear hb e0
      go_wp2_with fail
      go_ret
      exact ⟨rfl, HB19.out⟩
set_option maxRecDepth 100000 in
set_option maxHeartbeats 16000000 in
theorem mvLaw_bad (l : List Bl) (f : Int → Option Int) (hf : DepOk l f) (A : Option Addr) (n c : Nat) (id pl : Int) (hid : I64 id) (w : World) (h : RB w w.heap.size (.slice A n c) l) (hne : baseE l f ≠ 0) :
    Calls Tryz.prog 7 #[.slice A n c, .int .i64 id, .int .i64 pl] w fun e w' => e = .returned (.bool true) ∧ Below w.heap.size w w' := by
  have hc : cinE l f id = baseE l f := by
    unfold cinE ciE
    simp only [ne_eq, hne, not_false_eq_true, if_true]
  have hnc : cinE l f id ≠ 0 := by rw [hc]; exact hne
  have hW : ∀ W, Below w.heap.size w W → RB W W.heap.size (.slice A n c) l := fun W hW => (h.below hW).more hW.size
  have HPR := Lib.hid fun W hw => treePrune_bad l f hf A n c id hid W (hW W hw) hnc
  have HI1 := Lib.hid fun W hw => indent_bad l f hf A n c id hid W (hW W hw) hnc
  have HO1 := Lib.hid fun W hw => outdent_bad l f hf A n c id hid W (hW W hw) hnc
  have HS1 := Lib.hid fun W hw => split_bad l f hf A n c id pl hid W (hW W hw) hnc
  have HJ1 := Lib.hid fun W hw => join_bad l f hf A n c id hid W (hW W hw) hnc
  have HBE := Lib.hid fun W (hW : Below w.heap.size w W) => baseError_any l f A n c W w.heap.size hW.size (h.below hW) hf
  have HSO := Lib.hid fun W => sameOp_any zO none none 0 0 0 0 W W.heap.size (Nat.le_refl _) (RV.nil _ _) (RV.nil _ _)
  rw [hc] at HPR HI1 HO1 HS1 HJ1
  obtain ⟨er, her⟩ : ∃ er, er = baseE l f := ⟨_, rfl⟩
  rw [← her] at HPR HI1 HO1 HS1 HJ1 HBE hne
  unfold MvR at HI1 HO1
  dsimp only [AO, zO, zV, Vl.kind, Vl.int_, Vl.to_, Vl.text] at HI1 HO1 HSO
  have h0' : (er != 0) = true := by simpa using hne
  have h1' : (er == er) = true := beq_self_eq_true er
  have HNE := Lib.hid hne
  obtain ⟨wb, hwb⟩ : ∃ wb, wb = w.alloc (.cells #[.int .i64 id] 3) := ⟨_, rfl⟩
  have HBB : Hid (Below w.heap.size w wb) := by rw [hwb]; exact (Below.refl _ _).alloc (Nat.le_refl _) _
  have P0 : Hid (Blk wb w.heap.size 3 #[.int .i64 id]) := by rw [hwb]; exact Blk.new _ _ _
  have HWB := Lib.hid hwb
  clear hc hnc hW her hne h hwb hid hf
  go_enter Tryz.func7, Tryz.ntmps7
  go_upto_region 1 with fail
  rw [← HWB.out]
  have e0 := fun i => P0.out.cell i
  go_wp2_with fail
  refine (HPR.out wb HBB.out).mono ?_
  rintro e w1 ⟨rfl, hb⟩
  have HB1 : Hid (Below wb.heap.size wb w1) := hb
  have P1 := Lib.hid (P0.out.below hb P0.out.lt)
  clear hb e0
  have e0 := fun i => P1.out.cell i
  go_wp2_with fail
  refine (HI1.out w1 (HBB.out.trans (HB1.out.mono HBB.out.size))).mono ?_
  rintro e w2 ⟨rfl, hb⟩
  have HB2 : Hid (Below wb.heap.size wb w2) := HB1.out.trans (hb.mono HB1.out.size)
  have P2 := Lib.hid (P1.out.below hb P1.out.lt)
  clear hb e0
  obtain ⟨w3, hw⟩ : ∃ w3, w3 = w2.alloc (.cells #[.int .i64 0, .int .i64 0, .int .i64 0, .int .i64 0, .int .i64 0, .int .i64 0, .string ⟨#[]⟩, .string ⟨#[]⟩, .int .i64 0, .int .i64 0, .int .i64 0, .string ⟨#[]⟩, .slice none 0 0] 31) := ⟨_, rfl⟩
  have hal : Below w2.heap.size w2 w3 := by rw [hw]; exact (Below.refl _ _).alloc (Nat.le_refl _) _
  have HB3 : Hid (Below wb.heap.size wb w3) := HB2.out.trans (hal.mono HB2.out.size)
  have P3 := Lib.hid (P2.out.below hal P2.out.lt)
  have Q3 : Hid (Blk w3 w2.heap.size 31 #[.int .i64 0, .int .i64 0, .int .i64 0, .int .i64 0, .int .i64 0, .int .i64 0, .string ⟨#[]⟩, .string ⟨#[]⟩, .int .i64 0, .int .i64 0, .int .i64 0, .string ⟨#[]⟩, .slice none 0 0]) := by rw [hw]; exact Blk.new _ _ _
  have HW3 := Lib.hid hw
  clear hal hw
  go_upto_region 3 with fail
  rw [← HW3.out]
  have e0 := fun i => P3.out.cell i
  go_wp2_with fail
  refine (HO1.out w3 (HBB.out.trans (HB3.out.mono HBB.out.size))).mono ?_
  rintro e w4 ⟨rfl, hb⟩
  have HB4 : Hid (Below wb.heap.size wb w4) := HB3.out.trans (hb.mono HB3.out.size)
  have P4 := Lib.hid (P3.out.below hb P3.out.lt)
  have Q4 := Lib.hid (Q3.out.below hb Q3.out.lt)
  clear hb e0
  obtain ⟨w5, hw⟩ : ∃ w5, w5 = w4.alloc (.cells #[.int .i64 0, .int .i64 0, .int .i64 0, .int .i64 0, .int .i64 0, .int .i64 0, .string ⟨#[]⟩, .string ⟨#[]⟩, .int .i64 0, .int .i64 0, .int .i64 0, .string ⟨#[]⟩, .slice none 0 0] 31) := ⟨_, rfl⟩
  have hal : Below w4.heap.size w4 w5 := by rw [hw]; exact (Below.refl _ _).alloc (Nat.le_refl _) _
  have HB5 : Hid (Below wb.heap.size wb w5) := HB4.out.trans (hal.mono HB4.out.size)
  have P5 := Lib.hid (P4.out.below hal P4.out.lt)
  have Q5 := Lib.hid (Q4.out.below hal Q4.out.lt)
  have R5 : Hid (Blk w5 w4.heap.size 31 #[.int .i64 0, .int .i64 0, .int .i64 0, .int .i64 0, .int .i64 0, .int .i64 0, .string ⟨#[]⟩, .string ⟨#[]⟩, .int .i64 0, .int .i64 0, .int .i64 0, .string ⟨#[]⟩, .slice none 0 0]) := by rw [hw]; exact Blk.new _ _ _
  have HW5 := Lib.hid hw
  clear hal hw
  go_upto_region 4 with fail
  rw [← HW5.out]
  have e0 := fun i => P5.out.cell i
  go_wp2_with fail
  refine (HS1.out w5 (HBB.out.trans (HB5.out.mono HBB.out.size))).mono ?_
  rintro e w6 ⟨⟨A6, n6, c6, rfl, hres⟩, hb⟩
  have HB6 : Hid (Below wb.heap.size wb w6) := HB5.out.trans (hb.mono HB5.out.size)
  have P6 := Lib.hid (P5.out.below hb P5.out.lt)
  have Q6 := Lib.hid (Q5.out.below hb Q5.out.lt)
  have R6 := Lib.hid (R5.out.below hb R5.out.lt)
  obtain ⟨rfl, rfl, rfl⟩ : A6 = none ∧ n6 = 0 ∧ c6 = 0 := by
    rcases hres with ⟨h, _⟩ | ⟨_, h⟩
    · exact absurd h HNE.out
    · exact h
  clear hres
  clear hb e0
  have e0 := fun i => P6.out.cell i
  go_wp2_with fail
  refine (HJ1.out w6 (HBB.out.trans (HB6.out.mono HBB.out.size))).mono ?_
  rintro e w7 ⟨⟨A7, n7, c7, rfl, hres⟩, hb⟩
  have HB7 : Hid (Below wb.heap.size wb w7) := HB6.out.trans (hb.mono HB6.out.size)
  have P7 := Lib.hid (P6.out.below hb P6.out.lt)
  have Q7 := Lib.hid (Q6.out.below hb Q6.out.lt)
  have R7 := Lib.hid (R6.out.below hb R6.out.lt)
  obtain ⟨rfl, rfl, rfl⟩ : A7 = none ∧ n7 = 0 ∧ c7 = 0 := by
    rcases hres with ⟨h, _⟩ | ⟨_, h⟩
    · exact absurd h HNE.out
    · exact h
  clear hres
  clear hb e0
  have e0 := fun i => P7.out.cell i
  go_wp2_with fail
  refine (HBE.out w7 (HBB.out.trans (HB7.out.mono HBB.out.size))).mono ?_
  rintro e w8 ⟨rfl, hb⟩
  have HB8 : Hid (Below wb.heap.size wb w8) := HB7.out.trans (hb.mono HB7.out.size)
  have P8 := Lib.hid (P7.out.below hb P7.out.lt)
  have Q8 := Lib.hid (Q7.out.below hb Q7.out.lt)
  have R8 := Lib.hid (R7.out.below hb R7.out.lt)
  clear hb e0
  have e0 := fun i => P8.out.cell i
  have eQ := fun i => Q8.out.cell i
  have eR := fun i => R8.out.cell i
  go_wp2_with fail
  refine (HSO.out w8  ).mono ?_
  rintro e w9 ⟨rfl, hb⟩
  have HB9 : Hid (Below wb.heap.size wb w9) := HB8.out.trans (hb.mono HB8.out.size)
  have P9 := Lib.hid (P8.out.below hb P8.out.lt)
  have Q9 := Lib.hid (Q8.out.below hb Q8.out.lt)
  have R9 := Lib.hid (R8.out.below hb R8.out.lt)
  clear hb e0 eQ eR
  have eR := fun i => R9.out.cell i
  go_wp2_with fail
  refine (HSO.out w9  ).mono ?_
  rintro e w10 ⟨rfl, hb⟩
  have HB10 : Hid (Below wb.heap.size wb w10) := HB9.out.trans (hb.mono HB9.out.size)
  have HBF : Hid (Below w.heap.size w w10) := HBB.out.trans (HB10.out.mono HBB.out.size)
  clear hb eR
  go_wp2_with fail
  go_ret
  exact ⟨rfl, HBF.out⟩
/-- the law, for every base, block and place -/
theorem mvLaw_any (l : List Bl) (f : Int → Option Int) (hf : DepOk l f) (A : Option Addr) (n c : Nat) (id pl : Int) (hid : I64 id) (w : World) (h : RB w w.heap.size (.slice A n c) l) :
    Calls Tryz.prog 7 #[.slice A n c, .int .i64 id, .int .i64 pl] w fun e w' => e = .returned (.bool true) ∧ Below w.heap.size w w' := by
  by_cases h0 : baseE l f = 0
  · exact mvLaw_good l f hf A n c id pl hid w h h0
  · exact mvLaw_bad l f hf A n c id pl hid w h h0
end Go.Proofs.YtmkicfjcgbfaaaaGreat
