/-
  DERIVED. The walks of the reference's blockError, IndentOf, OutdentOf. Conditions: sizes; a base without error.
  By an AI agent.
-/
import Derived.Test.YtmkicfjcgbfaaaaGreatTe42
import Derived.Test.YtmkicfjcgbfaaaaGreatTe44
import Derived.Test.YtmkicfjcgbfaaaaGreatTe34
namespace Go.Proofs.YtmkicfjcgbfaaaaGreat
open Go.RowKit

/-- the error of a block that must be there, in a base without error -/
def bkE (l : List Bl) (id : Int) : Int := if posOf l id ≤ 0 then 7 else 0
set_option maxHeartbeats 1000000 in
/-- the reference's blockError -/
theorem blockError_any (l : List Bl) (A : Option Addr) (n c : Nat) (id : Int) (w : World) (h : RB w w.heap.size (.slice A n c) l) :
    Calls Tryz.prog 109 #[.slice A n c, .int .i64 id] w fun e w' => e = .returned (.int .i64 (bkE l id)) ∧ Below w.heap.size w w' := by
  have HA := Lib.hid (at_any l A n c id w w.heap.size (Nat.le_refl _) h)
  unfold bkE
  obtain ⟨V, hV⟩ : ∃ V, V = posOf l id := ⟨_, rfl⟩
  rw [← hV] at HA ⊢
  clear hV h
  by_cases h0 : V ≤ 0
  · rw [if_pos h0]
    go_enter Tryz.func109, Tryz.ntmps109
    go_wp2_with fail
    refine HA.out.mono ?_
    rintro e w1 ⟨rfl, hb⟩
    have HB := Lib.hid hb
    clear hb
    go_wp2_with fail
    go_ret
    exact ⟨rfl, HB.out⟩
  · rw [if_neg h0]
    go_enter Tryz.func109, Tryz.ntmps109
    go_wp2_with fail
    refine HA.out.mono ?_
    rintro e w1 ⟨rfl, hb⟩
    have HB := Lib.hid hb
    clear hb
    go_wp2_with fail
    go_ret
    exact ⟨rfl, HB.out⟩
set_option maxRecDepth 100000 in
set_option maxHeartbeats 8000000 in
theorem indentOf_bad (l : List Bl) (A : Option Addr) (n c : Nat) (id : Int) (w : World) (h : RB w w.heap.size (.slice A n c) l) (hne : posOf l id ≤ 0) :
    Calls Tryz.prog 42 #[.slice A n c, .int .i64 id] w (MvR (zO, 7) w) := by
  have HC := Lib.hid fun W (hW : Below w.heap.size w W) => blockError_any l A n c id W ((h.below hW).more hW.size)
  unfold bkE at HC
  rw [if_pos hne] at HC
  obtain ⟨wb, hwb⟩ : ∃ wb, wb = w.alloc (.cells #[.int .i64 0, .int .i64 0, .int .i64 0, .int .i64 0, .int .i64 0, .int .i64 0, .string ⟨#[]⟩, .string ⟨#[]⟩, .int .i64 0, .int .i64 0, .int .i64 0, .string ⟨#[]⟩, .slice none 0 0] 31) := ⟨_, rfl⟩
  have HB0 : Hid (Below w.heap.size w wb) := by rw [hwb]; exact (Below.refl _ _).alloc (Nat.le_refl _) _
  have R0 : Hid (Blk wb w.heap.size 31 #[.int .i64 0, .int .i64 0, .int .i64 0, .int .i64 0, .int .i64 0, .int .i64 0, .string ⟨#[]⟩, .string ⟨#[]⟩, .int .i64 0, .int .i64 0, .int .i64 0, .string ⟨#[]⟩, .slice none 0 0]) := by rw [hwb]; exact Blk.new _ _ _
  have hg1 : w.heap.size ≤ w.heap.size := Nat.le_refl _
  have HWB := Lib.hid hwb
  unfold MvR
  clear hne h hwb
  go_enter Tryz.func42, Tryz.ntmps42
  go_upto_region 1 with fail
  rw [← HWB.out]
  go_wp2_with fail
  refine (HC.out wb HB0.out).mono ?_
  rintro e w1 ⟨rfl, hb1⟩
  have HB1 : Hid (Below w.heap.size w w1) := HB0.out.trans (hb1.mono HB0.out.size)
  have R1 := Lib.hid (R0.out.below hb1 R0.out.lt)
  clear hb1
  have rd := fun i => R1.out.cell i
  have fd := fun i => R1.out.frozen i
  go_wp2_with fail
  have PF := putO_blk (.int .i64 0) (.int .i64 0) (.int .i64 0) (.int .i64 0) (.int .i64 0) (.int .i64 0) (.string ⟨#[]⟩) (.string ⟨#[]⟩) (.int .i64 0) (.int .i64 0) (.int .i64 0) (.string ⟨#[]⟩) (.slice none 0 0) R1.out rfl
  have HBF := putO_below (.int .i64 0) (.int .i64 0) (.int .i64 0) (.int .i64 0) (.int .i64 0) (.int .i64 0) (.string ⟨#[]⟩) (.string ⟨#[]⟩) (.int .i64 0) (.int .i64 0) (.int .i64 0) (.string ⟨#[]⟩) (.slice none 0 0) HB1.out hg1
  obtain ⟨wf, hF⟩ : ∃ wf, wf = putO w1 w.heap.size (.int .i64 0) (.int .i64 0) (.int .i64 0) (.int .i64 0) (.int .i64 0) (.int .i64 0) (.string ⟨#[]⟩) (.string ⟨#[]⟩) (.int .i64 0) (.int .i64 0) (.int .i64 0) (.string ⟨#[]⟩) (.slice none 0 0) := ⟨_, rfl⟩
  rw [← hF] at PF HBF
  unfold putO at hF
  rw [← hF]
  obtain ⟨r0, r1, r2, r3, r4, r5, r6, r7, r8, r9, r10, r11, r12⟩ := op_cells PF
  exact bodyPost_ret (v := .tuple #[AO (zO, .slice none 0 0), .int .i64 7]) (by simp [results, Tryz.results42, go_sem, r0, r1, r2, r3, r4, r5, r6, r7, r8, r9, r10, r11, r12, AO, zO, zV, Vl.kind, Vl.int_, Vl.to_, Vl.text]) rfl ⟨rfl, HBF⟩
set_option maxRecDepth 100000 in
set_option maxHeartbeats 8000000 in
theorem outdentOf_bad (l : List Bl) (A : Option Addr) (n c : Nat) (id : Int) (w : World) (h : RB w w.heap.size (.slice A n c) l) (hne : posOf l id ≤ 0) :
    Calls Tryz.prog 43 #[.slice A n c, .int .i64 id] w (MvR (zO, 7) w) := by
  have HC := Lib.hid fun W (hW : Below w.heap.size w W) => blockError_any l A n c id W ((h.below hW).more hW.size)
  unfold bkE at HC
  rw [if_pos hne] at HC
  obtain ⟨wb, hwb⟩ : ∃ wb, wb = w.alloc (.cells #[.int .i64 0, .int .i64 0, .int .i64 0, .int .i64 0, .int .i64 0, .int .i64 0, .string ⟨#[]⟩, .string ⟨#[]⟩, .int .i64 0, .int .i64 0, .int .i64 0, .string ⟨#[]⟩, .slice none 0 0] 31) := ⟨_, rfl⟩
  have HB0 : Hid (Below w.heap.size w wb) := by rw [hwb]; exact (Below.refl _ _).alloc (Nat.le_refl _) _
  have R0 : Hid (Blk wb w.heap.size 31 #[.int .i64 0, .int .i64 0, .int .i64 0, .int .i64 0, .int .i64 0, .int .i64 0, .string ⟨#[]⟩, .string ⟨#[]⟩, .int .i64 0, .int .i64 0, .int .i64 0, .string ⟨#[]⟩, .slice none 0 0]) := by rw [hwb]; exact Blk.new _ _ _
  have hg1 : w.heap.size ≤ w.heap.size := Nat.le_refl _
  have HWB := Lib.hid hwb
  unfold MvR
  clear hne h hwb
  go_enter Tryz.func43, Tryz.ntmps43
  go_upto_region 1 with fail
  rw [← HWB.out]
  go_wp2_with fail
  refine (HC.out wb HB0.out).mono ?_
  rintro e w1 ⟨rfl, hb1⟩
  have HB1 : Hid (Below w.heap.size w w1) := HB0.out.trans (hb1.mono HB0.out.size)
  have R1 := Lib.hid (R0.out.below hb1 R0.out.lt)
  clear hb1
  have rd := fun i => R1.out.cell i
  have fd := fun i => R1.out.frozen i
  go_wp2_with fail
  have PF := putO_blk (.int .i64 0) (.int .i64 0) (.int .i64 0) (.int .i64 0) (.int .i64 0) (.int .i64 0) (.string ⟨#[]⟩) (.string ⟨#[]⟩) (.int .i64 0) (.int .i64 0) (.int .i64 0) (.string ⟨#[]⟩) (.slice none 0 0) R1.out rfl
  have HBF := putO_below (.int .i64 0) (.int .i64 0) (.int .i64 0) (.int .i64 0) (.int .i64 0) (.int .i64 0) (.string ⟨#[]⟩) (.string ⟨#[]⟩) (.int .i64 0) (.int .i64 0) (.int .i64 0) (.string ⟨#[]⟩) (.slice none 0 0) HB1.out hg1
  obtain ⟨wf, hF⟩ : ∃ wf, wf = putO w1 w.heap.size (.int .i64 0) (.int .i64 0) (.int .i64 0) (.int .i64 0) (.int .i64 0) (.int .i64 0) (.string ⟨#[]⟩) (.string ⟨#[]⟩) (.int .i64 0) (.int .i64 0) (.int .i64 0) (.string ⟨#[]⟩) (.slice none 0 0) := ⟨_, rfl⟩
  rw [← hF] at PF HBF
  unfold putO at hF
  rw [← hF]
  obtain ⟨r0, r1, r2, r3, r4, r5, r6, r7, r8, r9, r10, r11, r12⟩ := op_cells PF
  exact bodyPost_ret (v := .tuple #[AO (zO, .slice none 0 0), .int .i64 7]) (by simp [results, Tryz.results43, go_sem, r0, r1, r2, r3, r4, r5, r6, r7, r8, r9, r10, r11, r12, AO, zO, zV, Vl.kind, Vl.int_, Vl.to_, Vl.text]) rfl ⟨rfl, HBF⟩
set_option maxRecDepth 100000 in
set_option maxHeartbeats 8000000 in
theorem indentOf_none (l : List Bl) (f : Int → Option Int) (G : Good l f) (A : Option Addr) (n c : Nat) (id : Int) (p q i : Nat) (x y : Bl) (hat : At l id p q i x y) (h0 : i = 0) (w : World) (h : RB w w.heap.size (.slice A n c) l) :
    Calls Tryz.prog 42 #[.slice A n c, .int .i64 id] w (MvR (zO, 11) w) := by
  have HC := Lib.hid fun W (hW : Below w.heap.size w W) => blockError_any l A n c id W ((h.below hW).more hW.size)
  unfold bkE at HC
  rw [if_neg (by rw [hat.pp G]; have := hat.p0; omega)] at HC
  have HPO := Lib.hid fun W (hW : Below w.heap.size w W) => position_any l A n c id p q x y W w.heap.size hW.size (h.below hW) G.kids.rise hat.hx hat.hxi hat.hy hat.hyi (List.mem_of_getElem? hat.hk)
  rw [hat.ix] at HPO
  subst h0
  obtain ⟨wb, hwb⟩ : ∃ wb, wb = w.alloc (.cells #[.int .i64 0, .int .i64 0, .int .i64 0, .int .i64 0, .int .i64 0, .int .i64 0, .string ⟨#[]⟩, .string ⟨#[]⟩, .int .i64 0, .int .i64 0, .int .i64 0, .string ⟨#[]⟩, .slice none 0 0] 31) := ⟨_, rfl⟩
  have HB0 : Hid (Below w.heap.size w wb) := by rw [hwb]; exact (Below.refl _ _).alloc (Nat.le_refl _) _
  have R0 : Hid (Blk wb w.heap.size 31 #[.int .i64 0, .int .i64 0, .int .i64 0, .int .i64 0, .int .i64 0, .int .i64 0, .string ⟨#[]⟩, .string ⟨#[]⟩, .int .i64 0, .int .i64 0, .int .i64 0, .string ⟨#[]⟩, .slice none 0 0]) := by rw [hwb]; exact Blk.new _ _ _
  have hg1 : w.heap.size ≤ w.heap.size := Nat.le_refl _
  have HWB := Lib.hid hwb
  unfold MvR
  clear h hwb hat G
  go_enter Tryz.func42, Tryz.ntmps42
  go_upto_region 1 with fail
  rw [← HWB.out]
  go_wp2_with fail
  refine (HC.out wb HB0.out).mono ?_
  rintro e w1 ⟨rfl, hb1⟩
  have HB1 : Hid (Below w.heap.size w w1) := HB0.out.trans (hb1.mono HB0.out.size)
  have R1 := Lib.hid (R0.out.below hb1 R0.out.lt)
  clear hb1
  go_wp2_with fail
  refine (HPO.out w1 HB1.out).mono ?_
  rintro e w2 ⟨rfl, hb⟩
  have HB2 : Hid (Below w.heap.size w w2) := HB1.out.trans (hb.mono HB1.out.size)
  have R2 := Lib.hid (R1.out.below hb R1.out.lt)
  clear hb
  have rd := fun i => R2.out.cell i
  have fd := fun i => R2.out.frozen i
  go_wp2_with fail
  have PF := putO_blk (.int .i64 0) (.int .i64 0) (.int .i64 0) (.int .i64 0) (.int .i64 0) (.int .i64 0) (.string ⟨#[]⟩) (.string ⟨#[]⟩) (.int .i64 0) (.int .i64 0) (.int .i64 0) (.string ⟨#[]⟩) (.slice none 0 0) R2.out rfl
  have HBF := putO_below (.int .i64 0) (.int .i64 0) (.int .i64 0) (.int .i64 0) (.int .i64 0) (.int .i64 0) (.string ⟨#[]⟩) (.string ⟨#[]⟩) (.int .i64 0) (.int .i64 0) (.int .i64 0) (.string ⟨#[]⟩) (.slice none 0 0) HB2.out hg1
  obtain ⟨wf, hF⟩ : ∃ wf, wf = putO w2 w.heap.size (.int .i64 0) (.int .i64 0) (.int .i64 0) (.int .i64 0) (.int .i64 0) (.int .i64 0) (.string ⟨#[]⟩) (.string ⟨#[]⟩) (.int .i64 0) (.int .i64 0) (.int .i64 0) (.string ⟨#[]⟩) (.slice none 0 0) := ⟨_, rfl⟩
  rw [← hF] at PF HBF
  unfold putO at hF
  rw [← hF]
  obtain ⟨r0, r1, r2, r3, r4, r5, r6, r7, r8, r9, r10, r11, r12⟩ := op_cells PF
  exact bodyPost_ret (v := .tuple #[AO (zO, .slice none 0 0), .int .i64 11]) (by simp [results, Tryz.results42, go_sem, r0, r1, r2, r3, r4, r5, r6, r7, r8, r9, r10, r11, r12, AO, zO, zV, Vl.kind, Vl.int_, Vl.to_, Vl.text]) rfl ⟨rfl, HBF⟩
set_option maxRecDepth 100000 in
set_option maxHeartbeats 8000000 in
theorem indentOf_yes (l : List Bl) (f : Int → Option Int) (G : Good l f) (A : Option Addr) (n c : Nat) (id : Int) (p q i : Nat) (x y : Bl) (hat : At l id p q i x y) (j r : Nat) (hij : i = j + 1) (z : Bl) (hj : y.kids[j]? = some z.id) (hz : l[r]? = some z) (w : World) (h : RB w w.heap.size (.slice A n c) l) :
    Calls Tryz.prog 42 #[.slice A n c, .int .i64 id] w (MvR (chk l f (mvO id z.id z.kids.length)) w) := by
  have HC := Lib.hid fun W (hW : Below w.heap.size w W) => blockError_any l A n c id W ((h.below hW).more hW.size)
  unfold bkE at HC
  rw [if_neg (by rw [hat.pp G]; have := hat.p0; omega)] at HC
  have HPO := Lib.hid fun W (hW : Below w.heap.size w W) => position_any l A n c id p q x y W w.heap.size hW.size (h.below hW) G.kids.rise hat.hx hat.hxi hat.hy hat.hyi (List.mem_of_getElem? hat.hk)
  rw [hat.ix] at HPO
  have HX1 := Lib.hid fun W (hW : Below w.heap.size w W) => at_any l A n c id W w.heap.size hW.size (h.below hW)
  rw [hat.pp G] at HX1
  have HX2 := Lib.hid fun W (hW : Below w.heap.size w W) => at_any l A n c x.parent W w.heap.size hW.size (h.below hW)
  rw [hat.qq G] at HX2
  have HX3 := Lib.hid fun W (hW : Below w.heap.size w W) => at_any l A n c z.id W w.heap.size hW.size (h.below hW)
  rw [posOf_of G.kids.rise hz] at HX3
  have hfew := G.kids.few z (List.mem_of_getElem? hz)
  have hi1 : i < y.kids.length := (List.getElem?_eq_some_iff.1 hat.hk).1
  have hfew2 := G.kids.few y (List.mem_of_getElem? hat.hy)
  have hoi : OI (mvO id z.id z.kids.length) := by
    have h1 := hat.idI G
    have h2 := G.i64 hz
    refine ⟨h1, h2, ?_, ?_, ?_, Nat.zero_le _⟩ <;> (unfold I64 mvO; dsimp only; omega)
  have HOE := Lib.hid fun W (hW : Below w.heap.size w W) => opError_any l f G A n c (mvO id z.id z.kids.length) none 0 0 W w.heap.size hW.size (h.below hW) hoi (RV.nil _ _)
  unfold chk
  obtain ⟨er, her⟩ : ∃ er, er = opErr l f (mvO id z.id z.kids.length) := ⟨_, rfl⟩
  rw [← her] at HOE ⊢
  have hx := hat.hx
  have hy := hat.hy
  have hpn : p < n := by have := (List.getElem?_eq_some_iff.1 hx).1; have := h.len.1; omega
  have hqn : q < n := by have := (List.getElem?_eq_some_iff.1 hy).1; have := h.len.1; omega
  have hrn : r < n := by have := (List.getElem?_eq_some_iff.1 hz).1; have := h.len.1; omega
  have hn8 : n ≤ 2000 := by have := G.kids.short; have := h.len.1; omega
  obtain ⟨b, off, _, _, _, _, _, _, rfl, hbb, _, g1, _⟩ := h.at_ hx
  obtain ⟨b', off', Ak, nk, ck, _, _, _, e, _, _, _, g2, _, _, hK, _⟩ := h.at_ hy
  have e : b = b' ∧ off = off' := by injection e with e; injection e with e1 e2; exact ⟨e1, e2⟩
  obtain ⟨rfl, rfl⟩ := e
  obtain ⟨b', off', Az, nz, cz, _, _, _, e, _, _, _, g4, _, _, hKz, _⟩ := h.at_ hz
  have e : b = b' ∧ off = off' := by injection e with e; injection e with e1 e2; exact ⟨e1, e2⟩
  obtain ⟨rfl, rfl⟩ := e
  obtain ⟨kb, ko, rfl, hkb, g3⟩ := hK.at_ hj
  have hnk := hK.len.1
  have hnz := hKz.len.1
  subst hij
  have z1 : (j : Int) < (nk : Int) := by omega
  have z0 : (0 : Int) ≤ (j : Int) := by omega
  have i0 : (0 : Int) ≤ (r : Int) := by omega
  have i1 : (r : Int) < (n : Int) := by omega
  have i2 : (0 : Int) ≤ (p : Int) := by omega
  have i3 : (p : Int) < (n : Int) := by omega
  have i4 : (0 : Int) ≤ (q : Int) := by omega
  have i5 : (q : Int) < (n : Int) := by omega
  rw [show ((j + 1 : Nat) : Int) = (j : Int) + 1 from by omega] at HPO
  have hn0 : ¬ ((j : Int) + 1 = 0) := by omega
  have hn1 : (((j : Int) + 1) == 0) = false := by simpa using hn0
  have ww1 : IntKind.i64.wrap (j : Int) = (j : Int) := IntWalk.i64_in _ (by omega)
  have ww2 : IntKind.i64.wrap ((j : Int) + 1 - 1) = (j : Int) := by rw [IntWalk.i64_in _ (by omega)]; omega
  obtain ⟨xpar, hxp⟩ : ∃ xpar, xpar = x.parent := ⟨_, rfl⟩
  obtain ⟨zid, hzi⟩ : ∃ zid, zid = z.id := ⟨_, rfl⟩
  rw [← hnz] at HOE hfew ⊢
  rw [← hxp] at g1 HX2
  rw [← hzi] at g3 HX3 HOE ⊢
  have G1 := Lib.hid g1
  have G2 := Lib.hid g2
  have G3 := Lib.hid g3
  have G4 := Lib.hid g4
  rw [show AO (mvO id zid (nz : Int), .slice none 0 0) = .agg #[.int .i64 3, .int .i64 id, .int .i64 zid, .int .i64 (nz : Int), .int .i64 0, .int .i64 0, .string ⟨#[]⟩, .string ⟨#[]⟩, .int .i64 0, .int .i64 0, .int .i64 0, .string ⟨#[]⟩, .slice none 0 0] from rfl] at HOE
  obtain ⟨wb, hwb⟩ : ∃ wb, wb = w.alloc (.cells #[.int .i64 0, .int .i64 0, .int .i64 0, .int .i64 0, .int .i64 0, .int .i64 0, .string ⟨#[]⟩, .string ⟨#[]⟩, .int .i64 0, .int .i64 0, .int .i64 0, .string ⟨#[]⟩, .slice none 0 0] 31) := ⟨_, rfl⟩
  have HB0 : Hid (Below w.heap.size w wb) := by rw [hwb]; exact (Below.refl _ _).alloc (Nat.le_refl _) _
  have R0 : Hid (Blk wb w.heap.size 31 #[.int .i64 0, .int .i64 0, .int .i64 0, .int .i64 0, .int .i64 0, .int .i64 0, .string ⟨#[]⟩, .string ⟨#[]⟩, .int .i64 0, .int .i64 0, .int .i64 0, .string ⟨#[]⟩, .slice none 0 0]) := by rw [hwb]; exact Blk.new _ _ _
  have hg1 : w.heap.size ≤ w.heap.size := Nat.le_refl _
  have HWB := Lib.hid hwb
  unfold MvR
  clear her h hwb hat G hj hz hK hKz hoi hnz hnk g1 g2 g3 g4 hx hy hxp hzi
  by_cases h00 : er = 0
  · subst h00
    rw [if_pos rfl]
    go_enter Tryz.func42, Tryz.ntmps42
    go_upto_region 1 with fail
    rw [← HWB.out]
    go_wp2_with fail
    refine (HC.out wb HB0.out).mono ?_
    rintro e w1 ⟨rfl, hb1⟩
    have HB1 : Hid (Below w.heap.size w w1) := HB0.out.trans (hb1.mono HB0.out.size)
    have R1 := Lib.hid (R0.out.below hb1 R0.out.lt)
    clear hb1
    go_wp2_with fail
    refine (HPO.out w1 HB1.out).mono ?_
    rintro e w2 ⟨rfl, hb⟩
    have HB2 : Hid (Below w.heap.size w w2) := HB1.out.trans (hb.mono HB1.out.size)
    have R2 := Lib.hid (R1.out.below hb R1.out.lt)
    clear hb
    go_wp2_with fail
    refine (HX1.out w2 HB2.out).mono ?_
    rintro e w3 ⟨rfl, hb⟩
    have HB3 : Hid (Below w.heap.size w w3) := HB2.out.trans (hb.mono HB2.out.size)
    have R3 := Lib.hid (R2.out.below hb R2.out.lt)
    have c1 : w3.cell? ⟨b, off + p * 5 + 1, none⟩ = some (.int .i64 xpar) := (HB3.out.cell (p := ⟨b, off + p * 5 + 1, none⟩) (by show b < _; omega)).trans G1.out
    clear hb
    go_wp2_with fail
    refine (HX2.out w3 HB3.out).mono ?_
    rintro e w4 ⟨rfl, hb⟩
    have HB4 : Hid (Below w.heap.size w w4) := HB3.out.trans (hb.mono HB3.out.size)
    have R4 := Lib.hid (R3.out.below hb R3.out.lt)
    clear c1
    have c2 : w4.cell? ⟨b, off + q * 5 + 2, none⟩ = some (.slice (some ⟨kb, ko, none⟩) nk ck) := (HB4.out.cell (p := ⟨b, off + q * 5 + 2, none⟩) (by show b < _; omega)).trans G2.out
    have c3 : w4.cell? ⟨kb, ko + j, none⟩ = some (.int .i64 zid) := (HB4.out.cell (p := ⟨kb, ko + j, none⟩) (by show kb < _; omega)).trans G3.out
    clear hb
    go_wp2_with fail
    refine (HX3.out w4 HB4.out).mono ?_
    rintro e w5 ⟨rfl, hb⟩
    have HB5 : Hid (Below w.heap.size w w5) := HB4.out.trans (hb.mono HB4.out.size)
    have R5 := Lib.hid (R4.out.below hb R4.out.lt)
    clear c2 c3
    have c4 : w5.cell? ⟨b, off + r * 5 + 2, none⟩ = some (.slice Az nz cz) := (HB5.out.cell (p := ⟨b, off + r * 5 + 2, none⟩) (by show b < _; omega)).trans G4.out
    clear hb
    obtain ⟨wo, hwo⟩ : ∃ wo, wo = w5.alloc (.cells #[.int .i64 3, .int .i64 id, .int .i64 zid, .int .i64 (nz : Int), .int .i64 0, .int .i64 0, .string ⟨#[]⟩, .string ⟨#[]⟩, .int .i64 0, .int .i64 0, .int .i64 0, .string ⟨#[]⟩, .slice none 0 0] 31) := ⟨_, rfl⟩
    have hbo : Below w5.heap.size w5 wo := by rw [hwo]; exact (Below.refl _ _).alloc (Nat.le_refl _) _
    have HBO : Hid (Below w.heap.size w wo) := HB5.out.trans (hbo.mono HB5.out.size)
    have RO := Lib.hid (R5.out.below hbo R5.out.lt)
    have QO : Hid (Blk wo w5.heap.size 31 #[.int .i64 3, .int .i64 id, .int .i64 zid, .int .i64 (nz : Int), .int .i64 0, .int .i64 0, .string ⟨#[]⟩, .string ⟨#[]⟩, .int .i64 0, .int .i64 0, .int .i64 0, .string ⟨#[]⟩, .slice none 0 0]) := by rw [hwo]; exact Blk.new _ _ _
    have HWO := Lib.hid hwo
    clear hbo hwo
    go_upto_region 9 with fail
    rw [← HWO.out]
    have e0 := fun i => QO.out.cell i
    go_wp2_with fail
    refine (HOE.out wo HBO.out).mono ?_
    rintro e we ⟨rfl, hb⟩
    have HBE : Hid (Below w.heap.size w we) := HBO.out.trans (hb.mono HBO.out.size)
    have RE := Lib.hid (RO.out.below hb RO.out.lt)
    have QE := Lib.hid (QO.out.below hb QO.out.lt)
    clear hb e0
    have e0 := fun i => QE.out.cell i
    have rd := fun i => RE.out.cell i
    have fd := fun i => RE.out.frozen i
    go_wp2_with fail
    have PF := putO_blk (.int .i64 3) (.int .i64 id) (.int .i64 zid) (.int .i64 (nz : Int)) (.int .i64 0) (.int .i64 0) (.string ⟨#[]⟩) (.string ⟨#[]⟩) (.int .i64 0) (.int .i64 0) (.int .i64 0) (.string ⟨#[]⟩) (.slice none 0 0) RE.out rfl
    have HBF := putO_below (.int .i64 3) (.int .i64 id) (.int .i64 zid) (.int .i64 (nz : Int)) (.int .i64 0) (.int .i64 0) (.string ⟨#[]⟩) (.string ⟨#[]⟩) (.int .i64 0) (.int .i64 0) (.int .i64 0) (.string ⟨#[]⟩) (.slice none 0 0) HBE.out hg1
    obtain ⟨wf, hF⟩ : ∃ wf, wf = putO we w.heap.size (.int .i64 3) (.int .i64 id) (.int .i64 zid) (.int .i64 (nz : Int)) (.int .i64 0) (.int .i64 0) (.string ⟨#[]⟩) (.string ⟨#[]⟩) (.int .i64 0) (.int .i64 0) (.int .i64 0) (.string ⟨#[]⟩) (.slice none 0 0) := ⟨_, rfl⟩
    rw [← hF] at PF HBF
    unfold putO at hF
    rw [← hF]
    obtain ⟨r0, r1, r2, r3, r4, r5, r6, r7, r8, r9, r10, r11, r12⟩ := op_cells PF
    exact bodyPost_ret (v := .tuple #[AO (mvO id zid (nz : Int), .slice none 0 0), .int .i64 0]) (by simp [results, Tryz.results42, go_sem, r0, r1, r2, r3, r4, r5, r6, r7, r8, r9, r10, r11, r12, AO, mvO, zV, Vl.kind, Vl.int_, Vl.to_, Vl.text]) rfl ⟨rfl, HBF⟩
  · rw [if_neg h00]
    have h00' : (er != 0) = true := by simpa using h00
    clear h00
    go_enter Tryz.func42, Tryz.ntmps42
    go_upto_region 1 with fail
    rw [← HWB.out]
    go_wp2_with fail
    refine (HC.out wb HB0.out).mono ?_
    rintro e w1 ⟨rfl, hb1⟩
    have HB1 : Hid (Below w.heap.size w w1) := HB0.out.trans (hb1.mono HB0.out.size)
    have R1 := Lib.hid (R0.out.below hb1 R0.out.lt)
    clear hb1
    go_wp2_with fail
    refine (HPO.out w1 HB1.out).mono ?_
    rintro e w2 ⟨rfl, hb⟩
    have HB2 : Hid (Below w.heap.size w w2) := HB1.out.trans (hb.mono HB1.out.size)
    have R2 := Lib.hid (R1.out.below hb R1.out.lt)
    clear hb
    go_wp2_with fail
    refine (HX1.out w2 HB2.out).mono ?_
    rintro e w3 ⟨rfl, hb⟩
    have HB3 : Hid (Below w.heap.size w w3) := HB2.out.trans (hb.mono HB2.out.size)
    have R3 := Lib.hid (R2.out.below hb R2.out.lt)
    have c1 : w3.cell? ⟨b, off + p * 5 + 1, none⟩ = some (.int .i64 xpar) := (HB3.out.cell (p := ⟨b, off + p * 5 + 1, none⟩) (by show b < _; omega)).trans G1.out
    clear hb
    go_wp2_with fail
    refine (HX2.out w3 HB3.out).mono ?_
    rintro e w4 ⟨rfl, hb⟩
    have HB4 : Hid (Below w.heap.size w w4) := HB3.out.trans (hb.mono HB3.out.size)
    have R4 := Lib.hid (R3.out.below hb R3.out.lt)
    clear c1
    have c2 : w4.cell? ⟨b, off + q * 5 + 2, none⟩ = some (.slice (some ⟨kb, ko, none⟩) nk ck) := (HB4.out.cell (p := ⟨b, off + q * 5 + 2, none⟩) (by show b < _; omega)).trans G2.out
    have c3 : w4.cell? ⟨kb, ko + j, none⟩ = some (.int .i64 zid) := (HB4.out.cell (p := ⟨kb, ko + j, none⟩) (by show kb < _; omega)).trans G3.out
    clear hb
    go_wp2_with fail
    refine (HX3.out w4 HB4.out).mono ?_
    rintro e w5 ⟨rfl, hb⟩
    have HB5 : Hid (Below w.heap.size w w5) := HB4.out.trans (hb.mono HB4.out.size)
    have R5 := Lib.hid (R4.out.below hb R4.out.lt)
    clear c2 c3
    have c4 : w5.cell? ⟨b, off + r * 5 + 2, none⟩ = some (.slice Az nz cz) := (HB5.out.cell (p := ⟨b, off + r * 5 + 2, none⟩) (by show b < _; omega)).trans G4.out
    clear hb
    obtain ⟨wo, hwo⟩ : ∃ wo, wo = w5.alloc (.cells #[.int .i64 3, .int .i64 id, .int .i64 zid, .int .i64 (nz : Int), .int .i64 0, .int .i64 0, .string ⟨#[]⟩, .string ⟨#[]⟩, .int .i64 0, .int .i64 0, .int .i64 0, .string ⟨#[]⟩, .slice none 0 0] 31) := ⟨_, rfl⟩
    have hbo : Below w5.heap.size w5 wo := by rw [hwo]; exact (Below.refl _ _).alloc (Nat.le_refl _) _
    have HBO : Hid (Below w.heap.size w wo) := HB5.out.trans (hbo.mono HB5.out.size)
    have RO := Lib.hid (R5.out.below hbo R5.out.lt)
    have QO : Hid (Blk wo w5.heap.size 31 #[.int .i64 3, .int .i64 id, .int .i64 zid, .int .i64 (nz : Int), .int .i64 0, .int .i64 0, .string ⟨#[]⟩, .string ⟨#[]⟩, .int .i64 0, .int .i64 0, .int .i64 0, .string ⟨#[]⟩, .slice none 0 0]) := by rw [hwo]; exact Blk.new _ _ _
    have HWO := Lib.hid hwo
    clear hbo hwo
    go_upto_region 9 with fail
    rw [← HWO.out]
    have e0 := fun i => QO.out.cell i
    go_wp2_with fail
    refine (HOE.out wo HBO.out).mono ?_
    rintro e we ⟨rfl, hb⟩
    have HBE : Hid (Below w.heap.size w we) := HBO.out.trans (hb.mono HBO.out.size)
    have RE := Lib.hid (RO.out.below hb RO.out.lt)
    have QE := Lib.hid (QO.out.below hb QO.out.lt)
    clear hb e0
    have e0 := fun i => QE.out.cell i
    have rd := fun i => RE.out.cell i
    have fd := fun i => RE.out.frozen i
    go_wp2_with fail
    have PF := putO_blk (.int .i64 0) (.int .i64 0) (.int .i64 0) (.int .i64 0) (.int .i64 0) (.int .i64 0) (.string ⟨#[]⟩) (.string ⟨#[]⟩) (.int .i64 0) (.int .i64 0) (.int .i64 0) (.string ⟨#[]⟩) (.slice none 0 0) RE.out rfl
    have HBF := putO_below (.int .i64 0) (.int .i64 0) (.int .i64 0) (.int .i64 0) (.int .i64 0) (.int .i64 0) (.string ⟨#[]⟩) (.string ⟨#[]⟩) (.int .i64 0) (.int .i64 0) (.int .i64 0) (.string ⟨#[]⟩) (.slice none 0 0) HBE.out hg1
    obtain ⟨wf, hF⟩ : ∃ wf, wf = putO we w.heap.size (.int .i64 0) (.int .i64 0) (.int .i64 0) (.int .i64 0) (.int .i64 0) (.int .i64 0) (.string ⟨#[]⟩) (.string ⟨#[]⟩) (.int .i64 0) (.int .i64 0) (.int .i64 0) (.string ⟨#[]⟩) (.slice none 0 0) := ⟨_, rfl⟩
    rw [← hF] at PF HBF
    unfold putO at hF
    rw [← hF]
    obtain ⟨r0, r1, r2, r3, r4, r5, r6, r7, r8, r9, r10, r11, r12⟩ := op_cells PF
    exact bodyPost_ret (v := .tuple #[AO (zO, .slice none 0 0), .int .i64 er]) (by simp [results, Tryz.results42, go_sem, r0, r1, r2, r3, r4, r5, r6, r7, r8, r9, r10, r11, r12, AO, zO, zV, Vl.kind, Vl.int_, Vl.to_, Vl.text]) rfl ⟨rfl, HBF⟩
end Go.Proofs.YtmkicfjcgbfaaaaGreat
