/-
  DERIVED. The walk of tree.Outdent. Conditions: sizes.
  The walk of the reference's OutdentOf. Conditions: sizes; a base without error.
  The reference's SplitOf and JoinOf at a block that is none. Conditions: sizes.
  By an AI agent.
-/
import Derived.Test.YtmkicfjcgbfaaaaGreatTe42
import Derived.Test.YtmkicfjcgbfaaaaGreatTe48
import Derived.Test.YtmkicfjcgbfaaaaGreatTe47
namespace Go.Proofs.YtmkicfjcgbfaaaaGreat
open Go.RowKit

set_option maxRecDepth 100000 in
set_option maxHeartbeats 8000000 in
theorem outdent_none (l : List Bl) (f : Int → Option Int) (G : Good l f) (A : Option Addr) (n c : Nat) (id : Int) (p q i : Nat) (x y : Bl) (hat : At l id p q i x y) (h0 : x.parent = 0) (w : World) (h : RB w w.heap.size (.slice A n c) l) :
    Calls Tryz.prog 38 #[.slice A n c, .int .i64 id] w (MvR (zO, 11) w) := by
  have HC := Lib.hid fun W (hW : Below w.heap.size w W) => checkInner_any l f A n c id (hat.idI G) W w.heap.size hW.size (h.below hW) fun _ => G.dep
  rw [cin_good G, if_neg (by rw [hat.pp G]; have := hat.p0; omega)] at HC
  have HI1 := Lib.hid fun W (hW : Below w.heap.size w W) => index_any l A n c id W w.heap.size hW.size (h.below hW) G.kids.rise G.kids.ids (hat.idI G)
  rw [hat.pp G] at HI1
  have hx := hat.hx
  have hpn : p < n := by have := (List.getElem?_eq_some_iff.1 hx).1; have := h.len.1; omega
  have hn8 : n ≤ 2000 := by have := G.kids.short; have := h.len.1; omega
  have i0 : (0 : Int) ≤ (p : Int) := by omega
  have i1 : (p : Int) < (n : Int) := by omega
  obtain ⟨b, off, _, _, _, _, _, _, rfl, hbb, _, g1, _⟩ := h.at_ hx
  have G1 := Lib.hid g1
  obtain ⟨xpar, hxp⟩ : ∃ xpar, xpar = x.parent := ⟨_, rfl⟩
  rw [← hxp] at G1 h0
  subst h0
  obtain ⟨wb, hwb⟩ : ∃ wb, wb = w.alloc (.cells #[.int .i64 0, .int .i64 0, .int .i64 0, .int .i64 0, .int .i64 0, .int .i64 0, .string ⟨#[]⟩, .string ⟨#[]⟩, .int .i64 0, .int .i64 0, .int .i64 0, .string ⟨#[]⟩, .slice none 0 0] 31) := ⟨_, rfl⟩
  have HB0 : Hid (Below w.heap.size w wb) := by rw [hwb]; exact (Below.refl _ _).alloc (Nat.le_refl _) _
  have R0 : Hid (Blk wb w.heap.size 31 #[.int .i64 0, .int .i64 0, .int .i64 0, .int .i64 0, .int .i64 0, .int .i64 0, .string ⟨#[]⟩, .string ⟨#[]⟩, .int .i64 0, .int .i64 0, .int .i64 0, .string ⟨#[]⟩, .slice none 0 0]) := by rw [hwb]; exact Blk.new _ _ _
  have hg1 : w.heap.size ≤ w.heap.size := Nat.le_refl _
  have HWB := Lib.hid hwb
  unfold MvR
  clear h hwb hat G hx g1 hxp
  go_enter Tryz.func38, Tryz.ntmps38
  go_upto_region 1 with fail
  rw [← HWB.out]
  go_wp2_with fail
  refine (HC.out wb HB0.out).mono ?_
  rintro e w1 ⟨rfl, hb1⟩
  have HB1 : Hid (Below w.heap.size w w1) := HB0.out.trans (hb1.mono HB0.out.size)
  have R1 := Lib.hid (R0.out.below hb1 R0.out.lt)
  clear hb1
  go_wp2_with fail
  refine (HI1.out w1 HB1.out).mono ?_
  rintro e w2 ⟨rfl, hb2⟩
  have HB2 : Hid (Below w.heap.size w w2) := HB1.out.trans (hb2.mono HB1.out.size)
  have R2 := Lib.hid (R1.out.below hb2 R1.out.lt)
  have c1 : w2.cell? ⟨b, off + p * 5 + 1, none⟩ = some (.int .i64 0) := (HB2.out.cell (p := ⟨b, off + p * 5 + 1, none⟩) (by show b < _; omega)).trans G1.out
  clear hb2
  have rd := fun i => R2.out.cell i
  have fd := fun i => R2.out.frozen i
  go_wp2_with fail
  have PF := putO_blk (.int .i64 0) (.int .i64 0) (.int .i64 0) (.int .i64 0) (.int .i64 0) (.int .i64 0) (.string ⟨#[]⟩) (.string ⟨#[]⟩) (.int .i64 0) (.int .i64 0) (.int .i64 0) (.string ⟨#[]⟩) (.slice none 0 0) R2.out rfl
  have HBF := putO_below (.int .i64 0) (.int .i64 0) (.int .i64 0) (.int .i64 0) (.int .i64 0) (.int .i64 0) (.string ⟨#[]⟩) (.string ⟨#[]⟩) (.int .i64 0) (.int .i64 0) (.int .i64 0) (.string ⟨#[]⟩) (.slice none 0 0) HB2.out hg1
  obtain ⟨wf, hF⟩ : ∃ wf, wf = putO w2 w.heap.size (.int .i64 0) (.int .i64 0) (.int .i64 0) (.int .i64 0) (.int .i64 0) (.int .i64 0) (.string ⟨#[]⟩) (.string ⟨#[]⟩) (.int .i64 0) (.int .i64 0) (.int .i64 0) (.string ⟨#[]⟩) (.slice none 0 0) := ⟨_, rfl⟩
  rw [← hF] at PF HBF
  unfold putO at hF
  rw [← hF]
  obtain ⟨r0, r1, r2, r3, r4, r5, r6, r7, r8, r9, r10, r11, r12⟩ := op_cells PF
  exact bodyPost_ret (v := .tuple #[AO (zO, .slice none 0 0), .int .i64 11]) (by simp [results, Tryz.results38, go_sem, r0, r1, r2, r3, r4, r5, r6, r7, r8, r9, r10, r11, r12, AO, zO, zV, Vl.kind, Vl.int_, Vl.to_, Vl.text]) rfl ⟨rfl, HBF⟩
set_option maxRecDepth 100000 in
set_option maxHeartbeats 8000000 in
theorem outdent_yes (l : List Bl) (f : Int → Option Int) (G : Good l f) (A : Option Addr) (n c : Nat) (id : Int) (p q i : Nat) (x y : Bl) (hat : At l id p q i x y) (h0 : x.parent ≠ 0) (q2 i2 : Nat) (y2 : Bl) (hat2 : At l x.parent q q2 i2 y y2) (w : World) (h : RB w w.heap.size (.slice A n c) l) :
    Calls Tryz.prog 38 #[.slice A n c, .int .i64 id] w (MvR (chk l f (mvO id y.parent (i2 + 1 : Nat))) w) := by
  have HC := Lib.hid fun W (hW : Below w.heap.size w W) => checkInner_any l f A n c id (hat.idI G) W w.heap.size hW.size (h.below hW) fun _ => G.dep
  rw [cin_good G, if_neg (by rw [hat.pp G]; have := hat.p0; omega)] at HC
  have HI1 := Lib.hid fun W (hW : Below w.heap.size w W) => index_any l A n c id W w.heap.size hW.size (h.below hW) G.kids.rise G.kids.ids (hat.idI G)
  rw [hat.pp G] at HI1
  have hx := hat.hx
  have hpn : p < n := by have := (List.getElem?_eq_some_iff.1 hx).1; have := h.len.1; omega
  have hn8 : n ≤ 2000 := by have := G.kids.short; have := h.len.1; omega
  have i0 : (0 : Int) ≤ (p : Int) := by omega
  have i1 : (p : Int) < (n : Int) := by omega
  have HAM := Lib.hid fun W (hW : Below w.heap.size w W) => among_any l f G A n c x.parent q q2 i2 y y2 hat2 W ((h.below hW).more hW.size)
  unfold AmongR at HAM
  rw [hat2.ix] at HAM
  have HI2 := Lib.hid fun W (hW : Below w.heap.size w W) => index_any l A n c x.parent W w.heap.size hW.size (h.below hW) G.kids.rise G.kids.ids (hat.parI G)
  rw [hat.qq G] at HI2
  have hk2 : i2 < y2.kids.length := (List.getElem?_eq_some_iff.1 hat2.hk).1
  have hfew := G.kids.few y2 (List.mem_of_getElem? hat2.hy)
  have hoi : OI (mvO id y.parent (i2 + 1 : Nat)) := by
    have h1 := hat.idI G
    have h2 := hat2.parI G
    refine ⟨h1, h2, ?_, ?_, ?_, Nat.zero_le _⟩ <;> (unfold I64 mvO; dsimp only; omega)
  have HCK := Lib.hid fun W (hW : Below w.heap.size w W) => checked_any l f G A n c id y.parent (i2 + 1 : Nat) hoi W ((h.below hW).more hW.size)
  obtain ⟨CK, hCK⟩ : ∃ CK, CK = chk l f (mvO id y.parent (i2 + 1 : Nat)) := ⟨_, rfl⟩
  rw [← hCK] at HCK ⊢
  have hy := hat.hy
  have hqn : q < n := by have := (List.getElem?_eq_some_iff.1 hy).1; have := h.len.1; omega
  have i2' : (0 : Int) ≤ (q : Int) := by omega
  have i3 : (q : Int) < (n : Int) := by omega
  obtain ⟨b, off, _, _, _, _, _, _, rfl, hbb, _, g1, _⟩ := h.at_ hx
  have G1 := Lib.hid g1
  obtain ⟨b', off', _, _, _, _, _, _, e, _, _, g2, _⟩ := h.at_ hy
  have e : b = b' ∧ off = off' := by injection e with e; injection e with e1 e2; exact ⟨e1, e2⟩
  obtain ⟨rfl, rfl⟩ := e
  have G2 := Lib.hid g2
  obtain ⟨xpar, hxp⟩ : ∃ xpar, xpar = x.parent := ⟨_, rfl⟩
  obtain ⟨ypar, hyp⟩ : ∃ ypar, ypar = y.parent := ⟨_, rfl⟩
  rw [← hxp] at G1 h0 HAM HI2
  rw [← hyp] at G2 HCK
  have h0' : (xpar == 0) = false := by simpa using h0
  have ww1 : IntKind.i64.wrap ((i2 : Int) + 1) = (i2 : Int) + 1 := IntWalk.i64_in _ (by omega)
  obtain ⟨wb, hwb⟩ : ∃ wb, wb = w.alloc (.cells #[.int .i64 0, .int .i64 0, .int .i64 0, .int .i64 0, .int .i64 0, .int .i64 0, .string ⟨#[]⟩, .string ⟨#[]⟩, .int .i64 0, .int .i64 0, .int .i64 0, .string ⟨#[]⟩, .slice none 0 0] 31) := ⟨_, rfl⟩
  have HB0 : Hid (Below w.heap.size w wb) := by rw [hwb]; exact (Below.refl _ _).alloc (Nat.le_refl _) _
  have R0 : Hid (Blk wb w.heap.size 31 #[.int .i64 0, .int .i64 0, .int .i64 0, .int .i64 0, .int .i64 0, .int .i64 0, .string ⟨#[]⟩, .string ⟨#[]⟩, .int .i64 0, .int .i64 0, .int .i64 0, .string ⟨#[]⟩, .slice none 0 0]) := by rw [hwb]; exact Blk.new _ _ _
  have hg1 : w.heap.size ≤ w.heap.size := Nat.le_refl _
  have HWB := Lib.hid hwb
  unfold MvR at HCK ⊢
  clear hCK
  obtain ⟨⟨uk, ui, up, ua, uf, ut, ux, un, ⟨vk, vi, vt, vs, vl⟩⟩, ue⟩ := CK
  rw [show AO (mvO id ypar (i2 + 1 : Nat), .slice none 0 0) = .agg #[.int .i64 3, .int .i64 id, .int .i64 ypar, .int .i64 ((i2 : Int) + 1), .int .i64 0, .int .i64 0, .string ⟨#[]⟩, .string ⟨#[]⟩, .int .i64 0, .int .i64 0, .int .i64 0, .string ⟨#[]⟩, .slice none 0 0] from rfl] at HCK
  dsimp only [AO, Vl.kind, Vl.int_, Vl.to_, Vl.text] at HCK
  clear h hwb hat hat2 G hx hy g1 g2 hxp hyp hoi
  go_enter Tryz.func38, Tryz.ntmps38
  go_upto_region 1 with fail
  rw [← HWB.out]
  go_wp2_with fail
  refine (HC.out wb HB0.out).mono ?_
  rintro e w1 ⟨rfl, hb1⟩
  have HB1 : Hid (Below w.heap.size w w1) := HB0.out.trans (hb1.mono HB0.out.size)
  have R1 := Lib.hid (R0.out.below hb1 R0.out.lt)
  clear hb1
  go_wp2_with fail
  refine (HI1.out w1 HB1.out).mono ?_
  rintro e w2 ⟨rfl, hb2⟩
  have HB2 : Hid (Below w.heap.size w w2) := HB1.out.trans (hb2.mono HB1.out.size)
  have R2 := Lib.hid (R1.out.below hb2 R1.out.lt)
  have c1 : w2.cell? ⟨b, off + p * 5 + 1, none⟩ = some (.int .i64 xpar) := (HB2.out.cell (p := ⟨b, off + p * 5 + 1, none⟩) (by show b < _; omega)).trans G1.out
  clear hb2
  go_wp2_with fail
  refine (HAM.out w2 HB2.out).mono ?_
  rintro e w3 ⟨⟨Ak, nk, ck, rfl, _⟩, hb3⟩
  have HB3 : Hid (Below w.heap.size w w3) := HB2.out.trans (hb3.mono HB2.out.size)
  have R3 := Lib.hid (R2.out.below hb3 R2.out.lt)
  clear hb3 c1
  go_wp2_with fail
  refine (HI2.out w3 HB3.out).mono ?_
  rintro e w4 ⟨rfl, hb4⟩
  have HB4 : Hid (Below w.heap.size w w4) := HB3.out.trans (hb4.mono HB3.out.size)
  have R4 := Lib.hid (R3.out.below hb4 R3.out.lt)
  have c1 : w4.cell? ⟨b, off + q * 5 + 1, none⟩ = some (.int .i64 ypar) := (HB4.out.cell (p := ⟨b, off + q * 5 + 1, none⟩) (by show b < _; omega)).trans G2.out
  clear hb4
  go_wp2_with fail
  refine (HCK.out w4 HB4.out).mono ?_
  rintro e w5 ⟨rfl, hb5⟩
  have HB5 : Hid (Below w.heap.size w w5) := HB4.out.trans (hb5.mono HB4.out.size)
  have R5 := Lib.hid (R4.out.below hb5 R4.out.lt)
  clear hb5 c1
  have rd := fun i => R5.out.cell i
  have fd := fun i => R5.out.frozen i
  go_wp2_with fail
  have PF := putO_blk (.int .i64 uk) (.int .i64 ui) (.int .i64 up) (.int .i64 ua) (.int .i64 uf) (.int .i64 ut) (.string ux) (.string un) (.int .i64 vk) (.int .i64 vi) (.int .i64 vt) (.string vs) (.slice none 0 0) R5.out rfl
  have HBF := putO_below (.int .i64 uk) (.int .i64 ui) (.int .i64 up) (.int .i64 ua) (.int .i64 uf) (.int .i64 ut) (.string ux) (.string un) (.int .i64 vk) (.int .i64 vi) (.int .i64 vt) (.string vs) (.slice none 0 0) HB5.out hg1
  obtain ⟨wf, hF⟩ : ∃ wf, wf = putO w5 w.heap.size (.int .i64 uk) (.int .i64 ui) (.int .i64 up) (.int .i64 ua) (.int .i64 uf) (.int .i64 ut) (.string ux) (.string un) (.int .i64 vk) (.int .i64 vi) (.int .i64 vt) (.string vs) (.slice none 0 0) := ⟨_, rfl⟩
  rw [← hF] at PF HBF
  unfold putO at hF
  rw [← hF]
  obtain ⟨r0, r1, r2, r3, r4, r5, r6, r7, r8, r9, r10, r11, r12⟩ := op_cells PF
  exact bodyPost_ret (v := .tuple #[AO (⟨uk, ui, up, ua, uf, ut, ux, un, ⟨vk, vi, vt, vs, vl⟩⟩, .slice none 0 0), .int .i64 ue]) (by simp [results, Tryz.results38, go_sem, r0, r1, r2, r3, r4, r5, r6, r7, r8, r9, r10, r11, r12, AO, Vl.kind, Vl.int_, Vl.to_, Vl.text]) rfl ⟨rfl, HBF⟩
end Go.Proofs.YtmkicfjcgbfaaaaGreat
namespace Go.Proofs.YtmkicfjcgbfaaaaGreat
open Go.RowKit

set_option maxRecDepth 100000 in
set_option maxHeartbeats 8000000 in
theorem outdentOf_none (l : List Bl) (f : Int → Option Int) (G : Good l f) (A : Option Addr) (n c : Nat) (id : Int) (p q i : Nat) (x y : Bl) (hat : At l id p q i x y) (h0 : x.parent = 0) (w : World) (h : RB w w.heap.size (.slice A n c) l) :
    Calls Tryz.prog 43 #[.slice A n c, .int .i64 id] w (MvR (zO, 11) w) := by
  have HC := Lib.hid fun W (hW : Below w.heap.size w W) => blockError_any l A n c id W ((h.below hW).more hW.size)
  unfold bkE at HC
  rw [if_neg (by rw [hat.pp G]; have := hat.p0; omega)] at HC
  have HX1 := Lib.hid fun W (hW : Below w.heap.size w W) => at_any l A n c id W w.heap.size hW.size (h.below hW)
  rw [hat.pp G] at HX1
  have hx := hat.hx
  have hpn : p < n := by have := (List.getElem?_eq_some_iff.1 hx).1; have := h.len.1; omega
  have hn8 : n ≤ 2000 := by have := G.kids.short; have := h.len.1; omega
  have i2 : (0 : Int) ≤ (p : Int) := by omega
  have i3 : (p : Int) < (n : Int) := by omega
  obtain ⟨b, off, _, _, _, _, _, _, rfl, hbb, _, g1, _⟩ := h.at_ hx
  rw [h0] at g1
  have G1 := Lib.hid g1
  obtain ⟨wb, hwb⟩ : ∃ wb, wb = w.alloc (.cells #[.int .i64 0, .int .i64 0, .int .i64 0, .int .i64 0, .int .i64 0, .int .i64 0, .string ⟨#[]⟩, .string ⟨#[]⟩, .int .i64 0, .int .i64 0, .int .i64 0, .string ⟨#[]⟩, .slice none 0 0] 31) := ⟨_, rfl⟩
  have HB0 : Hid (Below w.heap.size w wb) := by rw [hwb]; exact (Below.refl _ _).alloc (Nat.le_refl _) _
  have R0 : Hid (Blk wb w.heap.size 31 #[.int .i64 0, .int .i64 0, .int .i64 0, .int .i64 0, .int .i64 0, .int .i64 0, .string ⟨#[]⟩, .string ⟨#[]⟩, .int .i64 0, .int .i64 0, .int .i64 0, .string ⟨#[]⟩, .slice none 0 0]) := by rw [hwb]; exact Blk.new _ _ _
  have hg1 : w.heap.size ≤ w.heap.size := Nat.le_refl _
  have HWB := Lib.hid hwb
  unfold MvR
  clear h hwb hat G hx g1 h0
  go_enter Tryz.func43, Tryz.ntmps43
  go_upto_region 1 with fail
  rw [← HWB.out]
  go_wp2_with fail
  refine (HC.out wb HB0.out).mono ?_
  rintro e w1 ⟨rfl, hb1⟩
  have HB1 : Hid (Below w.heap.size w w1) := HB0.out.trans (hb1.mono HB0.out.size)
  have R1 := Lib.hid (R0.out.below hb1 R0.out.lt)
  clear hb1
  go_wp2_with fail
  refine (HX1.out w1 HB1.out).mono ?_
  rintro e w2 ⟨rfl, hb⟩
  have HB2 : Hid (Below w.heap.size w w2) := HB1.out.trans (hb.mono HB1.out.size)
  have R2 := Lib.hid (R1.out.below hb R1.out.lt)
  have c1 : w2.cell? ⟨b, off + p * 5 + 1, none⟩ = some (.int .i64 0) := (HB2.out.cell (p := ⟨b, off + p * 5 + 1, none⟩) (by show b < _; omega)).trans G1.out
  clear hb
  have rd := fun i => R2.out.cell i
  have fd := fun i => R2.out.frozen i
  go_wp2_with fail
  have PF := putO_blk (.int .i64 0) (.int .i64 0) (.int .i64 0) (.int .i64 0) (.int .i64 0) (.int .i64 0) (.string ⟨#[]⟩) (.string ⟨#[]⟩) (.int .i64 0) (.int .i64 0) (.int .i64 0) (.string ⟨#[]⟩) (.slice none 0 0) R2.out rfl
  have HBF := putO_below (.int .i64 0) (.int .i64 0) (.int .i64 0) (.int .i64 0) (.int .i64 0) (.int .i64 0) (.string ⟨#[]⟩) (.string ⟨#[]⟩) (.int .i64 0) (.int .i64 0) (.int .i64 0) (.string ⟨#[]⟩) (.slice none 0 0) HB2.out hg1
  obtain ⟨wf, hF⟩ : ∃ wf, wf = putO w2 w.heap.size (.int .i64 0) (.int .i64 0) (.int .i64 0) (.int .i64 0) (.int .i64 0) (.int .i64 0) (.string ⟨#[]⟩) (.string ⟨#[]⟩) (.int .i64 0) (.int .i64 0) (.int .i64 0) (.string ⟨#[]⟩) (.slice none 0 0) := ⟨_, rfl⟩
  rw [← hF] at PF HBF
  unfold putO at hF
  rw [← hF]
  obtain ⟨r0, r1, r2, r3, r4, r5, r6, r7, r8, r9, r10, r11, r12⟩ := op_cells PF
  exact bodyPost_ret (v := .tuple #[AO (zO, .slice none 0 0), .int .i64 11]) (by simp [results, Tryz.results43, go_sem, r0, r1, r2, r3, r4, r5, r6, r7, r8, r9, r10, r11, r12, AO, zO, zV, Vl.kind, Vl.int_, Vl.to_, Vl.text]) rfl ⟨rfl, HBF⟩
set_option maxRecDepth 100000 in
set_option maxHeartbeats 8000000 in
theorem outdentOf_yes (l : List Bl) (f : Int → Option Int) (G : Good l f) (A : Option Addr) (n c : Nat) (id : Int) (p q i : Nat) (x y : Bl) (hat : At l id p q i x y) (h0 : x.parent ≠ 0) (q2 j2 : Nat) (y2 : Bl) (hat2 : At l x.parent q q2 j2 y y2) (w : World) (h : RB w w.heap.size (.slice A n c) l) :
    Calls Tryz.prog 43 #[.slice A n c, .int .i64 id] w (MvR (chk l f (mvO id y.parent (j2 + 1 : Nat))) w) := by
  have HC := Lib.hid fun W (hW : Below w.heap.size w W) => blockError_any l A n c id W ((h.below hW).more hW.size)
  unfold bkE at HC
  rw [if_neg (by rw [hat.pp G]; have := hat.p0; omega)] at HC
  have HX1 := Lib.hid fun W (hW : Below w.heap.size w W) => at_any l A n c id W w.heap.size hW.size (h.below hW)
  rw [hat.pp G] at HX1
  have HX2 := Lib.hid fun W (hW : Below w.heap.size w W) => at_any l A n c x.parent W w.heap.size hW.size (h.below hW)
  rw [hat.qq G] at HX2
  have HPO := Lib.hid fun W (hW : Below w.heap.size w W) => position_any l A n c x.parent q q2 y y2 W w.heap.size hW.size (h.below hW) G.kids.rise hat2.hx hat2.hxi hat2.hy hat2.hyi (List.mem_of_getElem? hat2.hk)
  rw [hat2.ix] at HPO
  have hk2 : j2 < y2.kids.length := (List.getElem?_eq_some_iff.1 hat2.hk).1
  have hfew := G.kids.few y2 (List.mem_of_getElem? hat2.hy)
  have hoi : OI (mvO id y.parent (j2 + 1 : Nat)) := by
    have h1 := hat.idI G
    have h2 := hat2.parI G
    refine ⟨h1, h2, ?_, ?_, ?_, Nat.zero_le _⟩ <;> (unfold I64 mvO; dsimp only; omega)
  have HOE := Lib.hid fun W (hW : Below w.heap.size w W) => opError_any l f G A n c (mvO id y.parent (j2 + 1 : Nat)) none 0 0 W w.heap.size hW.size (h.below hW) hoi (RV.nil _ _)
  unfold chk
  obtain ⟨er, her⟩ : ∃ er, er = opErr l f (mvO id y.parent (j2 + 1 : Nat)) := ⟨_, rfl⟩
  rw [← her] at HOE ⊢
  have hx := hat.hx
  have hpn : p < n := by have := (List.getElem?_eq_some_iff.1 hx).1; have := h.len.1; omega
  have hn8 : n ≤ 2000 := by have := G.kids.short; have := h.len.1; omega
  have i2 : (0 : Int) ≤ (p : Int) := by omega
  have i3 : (p : Int) < (n : Int) := by omega
  obtain ⟨b, off, _, _, _, _, _, _, rfl, hbb, _, g1, _⟩ := h.at_ hx
  have hy := hat.hy
  have hqn : q < n := by have := (List.getElem?_eq_some_iff.1 hy).1; have := h.len.1; omega
  have i4 : (0 : Int) ≤ (q : Int) := by omega
  have i5 : (q : Int) < (n : Int) := by omega
  obtain ⟨b', off', _, _, _, _, _, _, e, _, _, g2, _⟩ := h.at_ hy
  have e : b = b' ∧ off = off' := by injection e with e; injection e with e1 e2; exact ⟨e1, e2⟩
  obtain ⟨rfl, rfl⟩ := e
  obtain ⟨xpar, hxp⟩ : ∃ xpar, xpar = x.parent := ⟨_, rfl⟩
  obtain ⟨ypar, hyp⟩ : ∃ ypar, ypar = y.parent := ⟨_, rfl⟩
  rw [← hxp] at g1 h0 HX2 HPO
  rw [← hyp] at g2 HOE ⊢
  have h0' : (xpar == 0) = false := by simpa using h0
  have ww1 : IntKind.i64.wrap ((j2 : Int) + 1) = (j2 : Int) + 1 := IntWalk.i64_in _ (by omega)
  have G1 := Lib.hid g1
  have G2 := Lib.hid g2
  rw [show AO (mvO id ypar (j2 + 1 : Nat), .slice none 0 0) = .agg #[.int .i64 3, .int .i64 id, .int .i64 ypar, .int .i64 ((j2 : Int) + 1), .int .i64 0, .int .i64 0, .string ⟨#[]⟩, .string ⟨#[]⟩, .int .i64 0, .int .i64 0, .int .i64 0, .string ⟨#[]⟩, .slice none 0 0] from rfl] at HOE
  obtain ⟨wb, hwb⟩ : ∃ wb, wb = w.alloc (.cells #[.int .i64 0, .int .i64 0, .int .i64 0, .int .i64 0, .int .i64 0, .int .i64 0, .string ⟨#[]⟩, .string ⟨#[]⟩, .int .i64 0, .int .i64 0, .int .i64 0, .string ⟨#[]⟩, .slice none 0 0] 31) := ⟨_, rfl⟩
  have HB0 : Hid (Below w.heap.size w wb) := by rw [hwb]; exact (Below.refl _ _).alloc (Nat.le_refl _) _
  have R0 : Hid (Blk wb w.heap.size 31 #[.int .i64 0, .int .i64 0, .int .i64 0, .int .i64 0, .int .i64 0, .int .i64 0, .string ⟨#[]⟩, .string ⟨#[]⟩, .int .i64 0, .int .i64 0, .int .i64 0, .string ⟨#[]⟩, .slice none 0 0]) := by rw [hwb]; exact Blk.new _ _ _
  have hg1 : w.heap.size ≤ w.heap.size := Nat.le_refl _
  have HWB := Lib.hid hwb
  unfold MvR
  clear her h hwb hat hat2 G hoi g1 g2 hx hy hxp hyp
  obtain ⟨cp, hcp⟩ : ∃ cp, cp = if er = 0 then (mvO id ypar (j2 + 1 : Nat), (0 : Int)) else (zO, er) := ⟨_, rfl⟩
  rw [← hcp]
  go_enter Tryz.func43, Tryz.ntmps43
  go_upto_region 1 with fail
  rw [← HWB.out]
  go_wp2_with fail
  refine (HC.out wb HB0.out).mono ?_
  rintro e w1 ⟨rfl, hb1⟩
  have HB1 : Hid (Below w.heap.size w w1) := HB0.out.trans (hb1.mono HB0.out.size)
  have R1 := Lib.hid (R0.out.below hb1 R0.out.lt)
  clear hb1
  go_wp2_with fail
  refine (HX1.out w1 HB1.out).mono ?_
  rintro e w2 ⟨rfl, hb⟩
  have HB2 : Hid (Below w.heap.size w w2) := HB1.out.trans (hb.mono HB1.out.size)
  have R2 := Lib.hid (R1.out.below hb R1.out.lt)
  have c1 : w2.cell? ⟨b, off + p * 5 + 1, none⟩ = some (.int .i64 xpar) := (HB2.out.cell (p := ⟨b, off + p * 5 + 1, none⟩) (by show b < _; omega)).trans G1.out
  clear hb
  go_upto_region 7 with fail
  have QC : Hid (Below w.heap.size w w2.drew) := HB2.out.drew
  have QCA : Hid (Below w.heap.size w (w2.drew.alloc (.cells #[.int .i64 0, .int .i64 0, .int .i64 0, .int .i64 0, .int .i64 0, .int .i64 0, .string ⟨#[]⟩, .string ⟨#[]⟩, .int .i64 0, .int .i64 0, .int .i64 0, .string ⟨#[]⟩, .slice none 0 0] 31))) := HB2.out.drew.alloc HB2.out.size _
  have HG2 : Hid (w.heap.size + 1 ≤ w2.heap.size) := R2.out.lt
  go_cut [8] (fun s8 wd => ∃ gx : Nat, s8 = .pointer (some ⟨gx, 0, none⟩) ∧ Hid (Below w.heap.size w wd) ∧ Hid (Blk wd w.heap.size 31 #[.int .i64 0, .int .i64 0, .int .i64 0, .int .i64 0, .int .i64 0, .int .i64 0, .string ⟨#[]⟩, .string ⟨#[]⟩, .int .i64 0, .int .i64 0, .int .i64 0, .string ⟨#[]⟩, .slice none 0 0]) ∧ Hid (Blk wd gx 31 #[.int .i64 3, .int .i64 id, .int .i64 ypar, .int .i64 ((j2 : Int) + 1), .int .i64 0, .int .i64 0, .string ⟨#[]⟩, .string ⟨#[]⟩, .int .i64 0, .int .i64 0, .int .i64 0, .string ⟨#[]⟩, .slice none 0 0]))
  case first =>
    go_region_with (first
      | (go_at_call 71; refine (HX2.out _ QC.out).mono ?_; rintro e w3 ⟨rfl, hb3⟩; have HB3 : Hid (Below w.heap.size w w3) := QC.out.trans (hb3.mono QC.out.size); have R3 := Lib.hid (R2.out.below ((Below.refl _ w2).drew.trans hb3) R2.out.lt); have HG3 : Hid (w.heap.size + 1 ≤ w3.heap.size) := R3.out.lt; have c2 : w3.cell? ⟨b, off + q * 5 + 1, none⟩ = some (.int .i64 ypar) := (HB3.out.cell (p := ⟨b, off + q * 5 + 1, none⟩) (by show b < _; omega)).trans G2.out; have c2a : ∀ o, (w3.alloc o).cell? ⟨b, off + q * 5 + 1, none⟩ = some (.int .i64 ypar) := fun o => ((HB3.out.alloc HB3.out.size o).cell (p := ⟨b, off + q * 5 + 1, none⟩) (by show b < _; omega)).trans G2.out; clear hb3)
      | (go_at_call 71; refine (HX2.out _ QCA.out).mono ?_; rintro e w3 ⟨rfl, hb3⟩; have HB3 : Hid (Below w.heap.size w w3) := QCA.out.trans (hb3.mono QCA.out.size); have R3 := Lib.hid (R2.out.below (((Below.refl _ w2).drew.alloc (Nat.le_refl _) _).trans (hb3.mono (by simp))) R2.out.lt); have HG3 : Hid (w.heap.size + 1 ≤ w3.heap.size) := R3.out.lt; have QA : Hid (Blk w3 w2.heap.size 31 #[.int .i64 0, .int .i64 0, .int .i64 0, .int .i64 0, .int .i64 0, .int .i64 0, .string ⟨#[]⟩, .string ⟨#[]⟩, .int .i64 0, .int .i64 0, .int .i64 0, .string ⟨#[]⟩, .slice none 0 0]) := (Blk.new w2.drew _ _).below hb3 (by simp); have HGA := Lib.hid HG2.out; have qc := fun i => QA.out.cell i; have qf := fun i => QA.out.frozen i; have c2 : w3.cell? ⟨b, off + q * 5 + 1, none⟩ = some (.int .i64 ypar) := (HB3.out.cell (p := ⟨b, off + q * 5 + 1, none⟩) (by show b < _; omega)).trans G2.out; have c2a : ∀ o, (w3.alloc o).cell? ⟨b, off + q * 5 + 1, none⟩ = some (.int .i64 ypar) := fun o => ((HB3.out.alloc HB3.out.size o).cell (p := ⟨b, off + q * 5 + 1, none⟩) (by show b < _; omega)).trans G2.out; clear hb3)
      | (go_at_call 110; refine (HPO.out _ HB3.out).mono ?_; rintro e w4 ⟨rfl, hb4⟩; have HB4 : Hid (Below w.heap.size w w4) := HB3.out.trans (hb4.mono HB3.out.size); have R4 := Lib.hid (R3.out.below hb4 R3.out.lt); (try (have QB := Lib.hid (QA.out.below hb4 QA.out.lt); have HGB := Lib.hid HGA.out; have qc4 := fun i => QB.out.cell i; have qf4 := fun i => QB.out.frozen i)); have c3 : w4.cell? ⟨b, off + q * 5 + 1, none⟩ = some (.int .i64 ypar) := (HB4.out.cell (p := ⟨b, off + q * 5 + 1, none⟩) (by show b < _; omega)).trans G2.out; have c3a : ∀ o, (w4.alloc o).cell? ⟨b, off + q * 5 + 1, none⟩ = some (.int .i64 ypar) := fun o => ((HB4.out.alloc HB4.out.size o).cell (p := ⟨b, off + q * 5 + 1, none⟩) (by show b < _; omega)).trans G2.out; clear hb4)
      | (go_at_call 110; refine (HPO.out _ (HB3.out.alloc HB3.out.size _)).mono ?_; rintro e w4 ⟨rfl, hb4⟩; have HB4 : Hid (Below w.heap.size w w4) := (HB3.out.alloc HB3.out.size _).trans (hb4.mono (by have := HB3.out.size; simp; omega)); have R4 := Lib.hid ((R3.out.alloc _).below hb4 (by have := R3.out.lt; simp; omega)); have QB : Hid (Blk w4 w3.heap.size 31 #[.int .i64 0, .int .i64 0, .int .i64 0, .int .i64 0, .int .i64 0, .int .i64 0, .string ⟨#[]⟩, .string ⟨#[]⟩, .int .i64 0, .int .i64 0, .int .i64 0, .string ⟨#[]⟩, .slice none 0 0]) := (Blk.new w3 _ _).below hb4 (by simp); have HGB := Lib.hid HG3.out; have qc4 := fun i => QB.out.cell i; have qf4 := fun i => QB.out.frozen i; have c3 : w4.cell? ⟨b, off + q * 5 + 1, none⟩ = some (.int .i64 ypar) := (HB4.out.cell (p := ⟨b, off + q * 5 + 1, none⟩) (by show b < _; omega)).trans G2.out; have c3a : ∀ o, (w4.alloc o).cell? ⟨b, off + q * 5 + 1, none⟩ = some (.int .i64 ypar) := fun o => ((HB4.out.alloc HB4.out.size o).cell (p := ⟨b, off + q * 5 + 1, none⟩) (by show b < _; omega)).trans G2.out; clear hb4))
    all_goals
      go_wp2_with fail
      go_meet
      first
        | with_reducible exact ⟨_, rfl, Lib.hid (HB4.out.alloc HB4.out.size _), Lib.hid (R4.out.alloc _), Lib.hid (Blk.new _ _ _)⟩
        | (have PF := putO_blk (g := w2.heap.size) (.int .i64 3) (.int .i64 id) (.int .i64 ypar) (.int .i64 ((j2 : Int) + 1)) (.int .i64 0) (.int .i64 0) (.string ⟨#[]⟩) (.string ⟨#[]⟩) (.int .i64 0) (.int .i64 0) (.int .i64 0) (.string ⟨#[]⟩) (.slice none 0 0) QB.out rfl; have P1 := putO_below (g := w2.heap.size) (.int .i64 3) (.int .i64 id) (.int .i64 ypar) (.int .i64 ((j2 : Int) + 1)) (.int .i64 0) (.int .i64 0) (.string ⟨#[]⟩) (.string ⟨#[]⟩) (.int .i64 0) (.int .i64 0) (.int .i64 0) (.string ⟨#[]⟩) (.slice none 0 0) HB4.out (Nat.le_of_succ_le HGB.out); have P3 := R4.out.below (putO_below (g := w2.heap.size) (.int .i64 3) (.int .i64 id) (.int .i64 ypar) (.int .i64 ((j2 : Int) + 1)) (.int .i64 0) (.int .i64 0) (.string ⟨#[]⟩) (.string ⟨#[]⟩) (.int .i64 0) (.int .i64 0) (.int .i64 0) (.string ⟨#[]⟩) (.slice none 0 0) (Below.refl (w.heap.size + 1) w4) HGB.out) (Nat.lt_succ_self _); obtain ⟨wf, hF⟩ : ∃ wf, wf = putO w4 w2.heap.size (.int .i64 3) (.int .i64 id) (.int .i64 ypar) (.int .i64 ((j2 : Int) + 1)) (.int .i64 0) (.int .i64 0) (.string ⟨#[]⟩) (.string ⟨#[]⟩) (.int .i64 0) (.int .i64 0) (.int .i64 0) (.string ⟨#[]⟩) (.slice none 0 0) := ⟨_, rfl⟩; rw [← hF] at PF P1 P3; unfold putO at hF; rw [← hF]; exact ⟨_, rfl, Lib.hid P1, Lib.hid P3, Lib.hid PF⟩)
        | (have PF := putO_blk (g := w3.heap.size) (.int .i64 3) (.int .i64 id) (.int .i64 ypar) (.int .i64 ((j2 : Int) + 1)) (.int .i64 0) (.int .i64 0) (.string ⟨#[]⟩) (.string ⟨#[]⟩) (.int .i64 0) (.int .i64 0) (.int .i64 0) (.string ⟨#[]⟩) (.slice none 0 0) QB.out rfl; have P1 := putO_below (g := w3.heap.size) (.int .i64 3) (.int .i64 id) (.int .i64 ypar) (.int .i64 ((j2 : Int) + 1)) (.int .i64 0) (.int .i64 0) (.string ⟨#[]⟩) (.string ⟨#[]⟩) (.int .i64 0) (.int .i64 0) (.int .i64 0) (.string ⟨#[]⟩) (.slice none 0 0) HB4.out (Nat.le_of_succ_le HGB.out); have P3 := R4.out.below (putO_below (g := w3.heap.size) (.int .i64 3) (.int .i64 id) (.int .i64 ypar) (.int .i64 ((j2 : Int) + 1)) (.int .i64 0) (.int .i64 0) (.string ⟨#[]⟩) (.string ⟨#[]⟩) (.int .i64 0) (.int .i64 0) (.int .i64 0) (.string ⟨#[]⟩) (.slice none 0 0) (Below.refl (w.heap.size + 1) w4) HGB.out) (Nat.lt_succ_self _); obtain ⟨wf, hF⟩ : ∃ wf, wf = putO w4 w3.heap.size (.int .i64 3) (.int .i64 id) (.int .i64 ypar) (.int .i64 ((j2 : Int) + 1)) (.int .i64 0) (.int .i64 0) (.string ⟨#[]⟩) (.string ⟨#[]⟩) (.int .i64 0) (.int .i64 0) (.int .i64 0) (.string ⟨#[]⟩) (.slice none 0 0) := ⟨_, rfl⟩; rw [← hF] at PF P1 P3; unfold putO at hF; rw [← hF]; exact ⟨_, rfl, Lib.hid P1, Lib.hid P3, Lib.hid PF⟩)
  case rest =>
  obtain ⟨gx, rfl, hbd, hrd, hqd⟩ := hcut
  obtain ⟨wy, rfl⟩ : ∃ wy, wy = wc := ⟨_, rfl⟩
  have e0 := fun i => hqd.out.cell i
  go_wp2_with fail
  refine (HOE.out wy hbd.out).mono ?_
  rintro e we ⟨rfl, hb⟩
  have HBE : Hid (Below w.heap.size w we) := hbd.out.trans (hb.mono hbd.out.size)
  have RE := Lib.hid (hrd.out.below hb hrd.out.lt)
  have QE := Lib.hid (hqd.out.below hb hqd.out.lt)
  clear hb e0
  have e0 := fun i => QE.out.cell i
  by_cases h00 : er = 0
  · subst h00
    rw [if_pos rfl] at hcp
    subst hcp
    have rd := fun i => RE.out.cell i
    have fd := fun i => RE.out.frozen i
    go_wp2_with fail
    have PF := putO_blk (.int .i64 3) (.int .i64 id) (.int .i64 ypar) (.int .i64 ((j2 : Int) + 1)) (.int .i64 0) (.int .i64 0) (.string ⟨#[]⟩) (.string ⟨#[]⟩) (.int .i64 0) (.int .i64 0) (.int .i64 0) (.string ⟨#[]⟩) (.slice none 0 0) RE.out rfl
    have HBF := putO_below (.int .i64 3) (.int .i64 id) (.int .i64 ypar) (.int .i64 ((j2 : Int) + 1)) (.int .i64 0) (.int .i64 0) (.string ⟨#[]⟩) (.string ⟨#[]⟩) (.int .i64 0) (.int .i64 0) (.int .i64 0) (.string ⟨#[]⟩) (.slice none 0 0) HBE.out hg1
    obtain ⟨wf, hF⟩ : ∃ wf, wf = putO we w.heap.size (.int .i64 3) (.int .i64 id) (.int .i64 ypar) (.int .i64 ((j2 : Int) + 1)) (.int .i64 0) (.int .i64 0) (.string ⟨#[]⟩) (.string ⟨#[]⟩) (.int .i64 0) (.int .i64 0) (.int .i64 0) (.string ⟨#[]⟩) (.slice none 0 0) := ⟨_, rfl⟩
    rw [← hF] at PF HBF
    unfold putO at hF
    rw [← hF]
    obtain ⟨r0, r1, r2, r3, r4, r5, r6, r7, r8, r9, r10, r11, r12⟩ := op_cells PF
    exact bodyPost_ret (v := .tuple #[AO (mvO id ypar (j2 + 1 : Nat), .slice none 0 0), .int .i64 0]) (by simp [results, Tryz.results43, go_sem, r0, r1, r2, r3, r4, r5, r6, r7, r8, r9, r10, r11, r12, AO, mvO, zV, Vl.kind, Vl.int_, Vl.to_, Vl.text]) rfl ⟨rfl, HBF⟩
  · rw [if_neg h00] at hcp
    subst hcp
    have h00' : (er != 0) = true := by simpa using h00
    clear h00
    have rd := fun i => RE.out.cell i
    have fd := fun i => RE.out.frozen i
    go_wp2_with fail
    have PF := putO_blk (.int .i64 0) (.int .i64 0) (.int .i64 0) (.int .i64 0) (.int .i64 0) (.int .i64 0) (.string ⟨#[]⟩) (.string ⟨#[]⟩) (.int .i64 0) (.int .i64 0) (.int .i64 0) (.string ⟨#[]⟩) (.slice none 0 0) RE.out rfl
    have HBF := putO_below (.int .i64 0) (.int .i64 0) (.int .i64 0) (.int .i64 0) (.int .i64 0) (.int .i64 0) (.string ⟨#[]⟩) (.string ⟨#[]⟩) (.int .i64 0) (.int .i64 0) (.int .i64 0) (.string ⟨#[]⟩) (.slice none 0 0) HBE.out hg1
    obtain ⟨wf, hF⟩ : ∃ wf, wf = putO we w.heap.size (.int .i64 0) (.int .i64 0) (.int .i64 0) (.int .i64 0) (.int .i64 0) (.int .i64 0) (.string ⟨#[]⟩) (.string ⟨#[]⟩) (.int .i64 0) (.int .i64 0) (.int .i64 0) (.string ⟨#[]⟩) (.slice none 0 0) := ⟨_, rfl⟩
    rw [← hF] at PF HBF
    unfold putO at hF
    rw [← hF]
    obtain ⟨r0, r1, r2, r3, r4, r5, r6, r7, r8, r9, r10, r11, r12⟩ := op_cells PF
    exact bodyPost_ret (v := .tuple #[AO (zO, .slice none 0 0), .int .i64 er]) (by simp [results, Tryz.results43, go_sem, r0, r1, r2, r3, r4, r5, r6, r7, r8, r9, r10, r11, r12, AO, zO, zV, Vl.kind, Vl.int_, Vl.to_, Vl.text]) rfl ⟨rfl, HBF⟩
end Go.Proofs.YtmkicfjcgbfaaaaGreat
namespace Go.Proofs.YtmkicfjcgbfaaaaGreat
open Go.RowKit

set_option maxRecDepth 100000 in
set_option maxHeartbeats 8000000 in
theorem splitOf_bad (l : List Bl) (A : Option Addr) (n c : Nat) (id : Int) (pl : Int) (w : World) (h : RB w w.heap.size (.slice A n c) l) (hne : posOf l id ≤ 0) :
    Calls Tryz.prog 44 #[.slice A n c, .int .i64 id, .int .i64 pl] w (ManyR [] 7 w) := by
  have HC := Lib.hid (blockError_any l A n c id w h)
  unfold bkE at HC
  rw [if_pos hne] at HC
  clear hne h
  go_enter Tryz.func44, Tryz.ntmps44
  go_wp2_with fail
  refine HC.out.mono ?_
  rintro e w1 ⟨rfl, hb1⟩
  have HB1 := Lib.hid hb1
  clear hb1
  go_wp2_with fail
  go_ret2
  exact ⟨⟨_, _, _, rfl, .inr ⟨by decide, rfl, rfl, rfl⟩⟩, HB1.out⟩
set_option maxRecDepth 100000 in
set_option maxHeartbeats 8000000 in
theorem joinOf_bad (l : List Bl) (A : Option Addr) (n c : Nat) (id : Int) (w : World) (h : RB w w.heap.size (.slice A n c) l) (hne : posOf l id ≤ 0) :
    Calls Tryz.prog 45 #[.slice A n c, .int .i64 id] w (ManyR [] 7 w) := by
  have HC := Lib.hid (blockError_any l A n c id w h)
  unfold bkE at HC
  rw [if_pos hne] at HC
  clear hne h
  go_enter Tryz.func45, Tryz.ntmps45
  go_wp2_with fail
  refine HC.out.mono ?_
  rintro e w1 ⟨rfl, hb1⟩
  have HB1 := Lib.hid hb1
  clear hb1
  go_wp2_with fail
  go_ret2
  exact ⟨⟨_, _, _, rfl, .inr ⟨by decide, rfl, rfl, rfl⟩⟩, HB1.out⟩
end Go.Proofs.YtmkicfjcgbfaaaaGreat
