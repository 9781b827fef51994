/-
  DERIVED. What a column has of a block: the walk of ask.view's valueOf. Conditions: sizes.
  The walk of florref1.token: escapes, code, bold marks, and what is no token. Conditions: a place in the text.
  Lists of properties that came in, opened. Conditions: none.
  By an AI agent.
-/
import Derived.Test.YtemngidkfgcigaaGreatDoorKa26
import Derived.Test.YtemngidkfgcigaaGreatDoorKa16
import Derived.Test.YtemngidkfgcigaaGreatDoorKa28
import Derived.Test.YtemngidkfgcigaaGreatDoorKa24
import Derived.Test.YtemngidkfgcigaaGreatDoorKa04
import Derived.Test.YtemngidkfgcigaaGreatDoorKa06
import Derived.Test.YtemngidkfgcigaaGreatDoorKa29
namespace Go.Proofs.YtemngidkfgcigaaGreatDoor
open Go.RowKit

/-- what a column has of a block that lies so deep -/
def cellV (b : Bl) (d : Int) (s : ByteArray) : Vl :=
  if s = idS then .mk 2 b.id 0 ⟨#[]⟩ [] else if s = textS then .mk 3 0 0 (plain b.text) [] else if s = depthS then .mk 2 d 0 ⟨#[]⟩ [] else getP b.props s
def cellH (b : Bl) (s : ByteArray) : Bool := decide (s = idS) || decide (s = textS) || decide (s = depthS) || decide (0 ≤ nmOf b.props s)
/-- a value that a call has made, and whether there is one -/
def ValR (v : Vl) (q : Bool) (w : World) (e : Ending) (w' : World) : Prop := (∃ A n c, e = .returned (.tuple #[AV (v, .slice A n c), .bool q]) ∧ RVX w' (fun b => w.heap.size ≤ b ∧ b < w'.heap.size) (.slice A n c) v.items) ∧ Below w.heap.size w w'
theorem ba_lit {s t : ByteArray} {L : List UInt8} (ht : t.toList = L) : decide (s = t) = (s.toList == L) := by rw [dec_toList, ht]
/-- a result of five cells: stored, read back, all above it as it was -/
theorem valFin {w w1 : World} {t : TypeId} {z0 z1 z2 z3 z4 : Value} (hg : Below w.heap.size w w1) (hP : Blk w1 w.heap.size t #[z0, z1, z2, z3, z4]) (x0 x1 x2 x3 x4 : Value) (WF : World)
    (hWF : WF = ((((w1.setCell ⟨w.heap.size, 0, none⟩ x0).setCell ⟨w.heap.size, 1, none⟩ x1).setCell ⟨w.heap.size, 2, none⟩ x2).setCell ⟨w.heap.size, 3, none⟩ x3).setCell ⟨w.heap.size, 4, none⟩ x4) :
    ((WF.cell? ⟨w.heap.size, 0, none⟩ = some x0 ∧ WF.cell? ⟨w.heap.size, 1, none⟩ = some x1 ∧ WF.cell? ⟨w.heap.size, 2, none⟩ = some x2 ∧ WF.cell? ⟨w.heap.size, 3, none⟩ = some x3 ∧ WF.cell? ⟨w.heap.size, 4, none⟩ = some x4)
      ∧ Below w.heap.size w WF) ∧ (∀ p : Addr, w.heap.size + 1 ≤ p.block → WF.cell? p = w1.cell? p) ∧ WF.heap.size = w1.heap.size :=
  ⟨vfin5 hg hP x0 x1 x2 x3 x4 WF hWF, fun p h1 => by
      rw [hWF]
      repeat rw [World.cell?_setCell_other _ _ p _ (by intro e; subst e; dsimp only at h1; omega)], by rw [hWF]; simp [World.setCell]⟩
set_option maxHeartbeats 4000000 in
set_option maxRecDepth 100000 in
/-- ask.view's valueOf -/
theorem valueOf_any {X : World} {vb g0 g1 g2 g3 na K : Nat} {A : Option Addr} {n c : Nat} {fa fp fd fg : Int → Option Int} {os : List Int} (l : List Bl) (id : Int) (p : Nat) (b : Bl) (s : ByteArray) (d : Int) (w : World) (h : VW X w vb g0 g1 g2 g3 (.slice A n c) na K fa os fp fd fg)
    (hb : RB X X.heap.size (.slice A n c) l) (hid : I64 id) (hfa : fa id = some (p : Int)) (hp : l[p]? = some b) (hbi : b.id = id) (hd : (fd id).getD 0 = d) (hs : b.text.size ≤ 1048576) :
    Calls Tryz.prog 21 #[.pointer (some ⟨vb, 0, none⟩), .int .i64 id, .string s] w (ValR (cellV b d s) (cellH b s) w) := by
  obtain ⟨W1, hW1⟩ : ∃ W1, W1 = w.alloc (.cells #[.int .i64 0, .int .i64 0, .int .i64 0, .string ⟨#[]⟩, .slice none 0 0] 41) := ⟨_, rfl⟩
  have hb1 : Below w.heap.size w W1 := by rw [hW1]; exact (Below.refl _ _).alloc (Nat.le_refl _) _
  have hK1 : Blk W1 w.heap.size 41 #[.int .i64 0, .int .i64 0, .int .i64 0, .string ⟨#[]⟩, .slice none 0 0] := by rw [hW1]; exact Blk.new _ _ _
  have h1 := h.step hb1
  have HBLK := Lib.hid (vblock_any l id p b W1 h1 hb hid hfa hp)
  obtain ⟨q1, r1⟩ : ∃ q, (s.toList == [64, 105, 100]) = q := ⟨_, rfl⟩
  obtain ⟨q2, r2⟩ : ∃ q, (s.toList == [64, 116, 101, 120, 116]) = q := ⟨_, rfl⟩
  obtain ⟨q3, r3⟩ : ∃ q, (s.toList == [64, 100, 101, 112, 116, 104]) = q := ⟨_, rfl⟩
  have HQ1 : Hid (decide (s = idS) = q1) := (ba_lit idS_list).trans r1
  have HQ2 : Hid (decide (s = textS) = q2) := (ba_lit textS_list).trans r2
  have HQ3 : Hid (decide (s = depthS) = q3) := (ba_lit depthS_list).trans r3
  have HPL := Lib.hid fun W => plainOf_any b.text W hs
  have HB := Lib.hid hb
  have HW1 := Lib.hid hW1
  have HB1 := Lib.hid hb1
  have HK1 := Lib.hid hK1
  have HV := Lib.hid h
  have HHD := Lib.hid hd
  have HBI := Lib.hid hbi
  clear h hb hfa hp hd hs hW1 hb1 hK1 h1 hbi
  go_enter Tryz.func21, Tryz.ntmps21
  go_upto_region 1 with fail
  rw [← HW1.out]
  go_wp2_with fail
  refine HBLK.out.mono ?_
  rintro e w2 ⟨Ak, nk, ck, Ap, np, cp, rfl, hk, hpr, hb2⟩
  have HB2 : Hid (Below w.heap.size w w2) := HB1.out.trans (hb2.mono HB1.out.size)
  have hsz : w.heap.size + 1 ≤ w2.heap.size := by have := hb2.size; have := HK1.out.lt; omega
  have HK2 := Lib.hid (HK1.out.below hb2 HK1.out.lt)
  have HPR := Lib.hid hpr
  clear hb2 hk hpr
  unfold AB
  dsimp only
  obtain ⟨w3, hw3⟩ : ∃ w3, w3 = w2.alloc (.cells #[.int .i64 b.id, .int .i64 b.parent, .slice Ak nk ck, .string b.text, .slice Ap np cp] 35) := ⟨_, rfl⟩
  have hal : Below w2.heap.size w2 w3 := by rw [hw3]; exact (Below.refl _ _).alloc (Nat.le_refl _) _
  have kb : Blk w3 w2.heap.size 35 #[.int .i64 b.id, .int .i64 b.parent, .slice Ak nk ck, .string b.text, .slice Ap np cp] := by rw [hw3]; exact Blk.new _ _ _
  have HB3 : Hid (Below w.heap.size w w3) := HB2.out.trans (hal.mono (by omega))
  have HK3 := Lib.hid (HK2.out.below hal (by omega))
  have hsz3 : w.heap.size + 1 ≤ w3.heap.size := by have := hal.size; omega
  have k3 : w3.cell? ⟨w2.heap.size, 3, none⟩ = some (.string b.text) := kb.cell 3
  have k4 : w3.cell? ⟨w2.heap.size, 4, none⟩ = some (.slice Ap np cp) := kb.cell 4
  have HW3 := Lib.hid hw3
  clear hw3 hal kb
  go_upto_region 2 with fail
  rw [← HW3.out]
  cases q1
  · cases q2
    · cases q3
      · have HV2 : Hid (cellV b d s = getP b.props s ∧ cellH b s = decide (0 ≤ nmOf b.props s)) := by
          have e1 := of_decide_eq_false HQ1.out
          have e2 := of_decide_eq_false HQ2.out
          have e3 := of_decide_eq_false HQ3.out
          show cellV b d s = _ ∧ _
          rw [cellV, if_neg e1, if_neg e2, if_neg e3, cellH, HQ1.out, HQ2.out, HQ3.out]
          exact ⟨rfl, rfl⟩
        obtain ⟨q4, r4⟩ : ∃ q, decide (0 ≤ nmOf b.props s) = q := ⟨_, rfl⟩
        rw [r4] at HV2
        have HR4 := Lib.hid r4
        obtain ⟨v0, r5⟩ : ∃ v, getP b.props s = v := ⟨_, rfl⟩
        have HR5 := Lib.hid r5
        rw [r5] at HV2
        have HGP : Hid (Calls Tryz.prog 33 #[.slice Ap np cp, .string s] w3 (GetPR b.props s w3)) := getP_any b.props Ap np cp s w3 X.heap.size (by have := HV.out.below.size; omega) (HPR.out.below (HV.out.below.trans (HB3.out.mono HV.out.below.size)))
        clear r4 r5
        go_wp2_with fail
        refine HGP.out.mono ?_
        rintro e w4 ⟨⟨A', n', c', rfl, hrv⟩, hb4⟩
        have HRV := Lib.hid hrv
        have HB4 : Hid (Below w.heap.size w w4) := HB3.out.trans (hb4.mono (by omega))
        have HK4 := Lib.hid (HK3.out.below hb4 (by omega))
        have hsz4 : w3.heap.size ≤ w4.heap.size := hb4.size
        rw [HR4.out, HR5.out]
        rw [HR5.out] at HRV
        clear hb4 hrv k3 k4
        obtain ⟨kx, ix, tx, sx, lx⟩ := v0
        dsimp only [AV, Vl.kind, Vl.int_, Vl.to_, Vl.text, Vl.items] at HRV ⊢
        have f0 := fun i => HK4.out.frozen i
        have t0 := fun i => HK4.out.cell i
        go_wp2_with fail
        obtain ⟨WF, hWF⟩ : ∃ WF, WF = ((((w4.setCell ⟨w.heap.size, 0, none⟩ (.int .i64 kx)).setCell ⟨w.heap.size, 1, none⟩ (.int .i64 ix)).setCell ⟨w.heap.size, 2, none⟩ (.int .i64 tx)).setCell ⟨w.heap.size, 3, none⟩ (.string sx)).setCell ⟨w.heap.size, 4, none⟩ (.slice A' n' c') := ⟨_, rfl⟩
        rw [← hWF]
        obtain ⟨⟨⟨u0, u1, u2, u3, u4⟩, bF⟩, uk, us⟩ := valFin (w1 := w4) HB4.out HK4.out _ _ _ _ _ WF hWF
        refine bodyPost_ret (v := .tuple #[.agg #[.int .i64 kx, .int .i64 ix, .int .i64 tx, .string sx, .slice A' n' c'], .bool q4]) (by simp [results, Tryz.results21, go_sem, u0, u1, u2, u3, u4]) rfl ?_
        rw [HV2.out.1, HV2.out.2]
        exact ⟨⟨A', n', c', rfl, (RVX.keep HRV.out (fun p hp => uk p (by omega))).weak fun b hb => ⟨by omega, by rw [us]; exact hb.2⟩⟩, bF⟩
      · have HV2 : Hid (cellV b d s = .mk 2 d 0 ⟨#[]⟩ [] ∧ cellH b s = true) := by
          have e1 := of_decide_eq_false HQ1.out
          have e2 := of_decide_eq_false HQ2.out
          have e3 := of_decide_eq_true HQ3.out
          show cellV b d s = _ ∧ _
          rw [cellV, if_neg e1, if_neg e2, if_pos e3, cellH, HQ1.out, HQ2.out, HQ3.out]
          exact ⟨rfl, rfl⟩
        have h3 := HV.out.step HB3.out
        obtain ⟨vv, kk, _, _⟩ := h3.ex
        obtain ⟨nd, _, hmd⟩ := h3.md
        have k5 : w3.cell? ⟨vb, 4, none⟩ = some (.map (some g2)) := kk.cell 4
        have hlk := fun (W : World) (hW : W.heap[g2]? = w3.heap[g2]?) => (MapIn.same hmd hW).look vw_elem Tryz.underlying3 Tryz.underlying52 hid
        rw [HHD.out] at hlk
        have hl1 : (Instr.lookup 52 (.map (some g2)) (.int .i64 id) false).run Tryz.prog w3 = .ok (.int .i64 d) w3 := hlk w3 rfl
        have f0 := fun i => HK3.out.frozen i
        have t0 := fun i => HK3.out.cell i
        clear hlk h3 kk hmd k3 k4
        go_wp2_with fail
        obtain ⟨WF, hWF⟩ : ∃ WF, WF = ((((w3.setCell ⟨w.heap.size, 0, none⟩ (.int .i64 2)).setCell ⟨w.heap.size, 1, none⟩ (.int .i64 d)).setCell ⟨w.heap.size, 2, none⟩ (.int .i64 0)).setCell ⟨w.heap.size, 3, none⟩ (.string ⟨#[]⟩)).setCell ⟨w.heap.size, 4, none⟩ (.slice none 0 0) := ⟨_, rfl⟩
        rw [← hWF]
        obtain ⟨⟨⟨u0, u1, u2, u3, u4⟩, bF⟩, _, _⟩ := valFin (w1 := w3) HB3.out HK3.out _ _ _ _ _ WF hWF
        refine bodyPost_ret (v := .tuple #[.agg #[.int .i64 2, .int .i64 d, .int .i64 0, .string ⟨#[]⟩, .slice none 0 0], .bool true]) (by simp [results, Tryz.results21, go_sem, u0, u1, u2, u3, u4]) rfl ?_
        rw [HV2.out.1, HV2.out.2]
        exact ⟨⟨none, 0, 0, rfl, RVX.nil _ _⟩, bF⟩
    · have HV2 : Hid (cellV b d s = .mk 3 0 0 (plain b.text) [] ∧ cellH b s = true) := by
        have e1 := of_decide_eq_false HQ1.out
        have e2 := of_decide_eq_true HQ2.out
        show cellV b d s = _ ∧ _
        rw [cellV, if_neg e1, if_pos e2, cellH, HQ1.out, HQ2.out]
        exact ⟨rfl, rfl⟩
      go_wp2_with fail
      refine (HPL.out w3).mono ?_
      rintro e w4 ⟨rfl, hb4⟩
      have HB4 : Hid (Below w.heap.size w w4) := HB3.out.trans (hb4.mono (by omega))
      have HK4 := Lib.hid (HK3.out.below hb4 (by omega))
      clear hb4 k3 k4
      have f0 := fun i => HK4.out.frozen i
      have t0 := fun i => HK4.out.cell i
      go_wp2_with fail
      obtain ⟨WF, hWF⟩ : ∃ WF, WF = ((((w4.setCell ⟨w.heap.size, 0, none⟩ (.int .i64 3)).setCell ⟨w.heap.size, 1, none⟩ (.int .i64 0)).setCell ⟨w.heap.size, 2, none⟩ (.int .i64 0)).setCell ⟨w.heap.size, 3, none⟩ (.string (plain b.text))).setCell ⟨w.heap.size, 4, none⟩ (.slice none 0 0) := ⟨_, rfl⟩
      rw [← hWF]
      obtain ⟨⟨⟨u0, u1, u2, u3, u4⟩, bF⟩, _, _⟩ := valFin (w1 := w4) HB4.out HK4.out _ _ _ _ _ WF hWF
      refine bodyPost_ret (v := .tuple #[.agg #[.int .i64 3, .int .i64 0, .int .i64 0, .string (plain b.text), .slice none 0 0], .bool true]) (by simp [results, Tryz.results21, go_sem, u0, u1, u2, u3, u4]) rfl ?_
      rw [HV2.out.1, HV2.out.2]
      exact ⟨⟨none, 0, 0, rfl, RVX.nil _ _⟩, bF⟩
  · have HV2 : Hid (cellV b d s = .mk 2 id 0 ⟨#[]⟩ [] ∧ cellH b s = true) := by
      have e := of_decide_eq_true HQ1.out
      show cellV b d s = _ ∧ _
      rw [cellV, if_pos e, HBI.out, cellH, HQ1.out]
      exact ⟨rfl, rfl⟩
    have f0 := fun i => HK3.out.frozen i
    have t0 := fun i => HK3.out.cell i
    go_wp2_with fail
    obtain ⟨WF, hWF⟩ : ∃ WF, WF = ((((w3.setCell ⟨w.heap.size, 0, none⟩ (.int .i64 2)).setCell ⟨w.heap.size, 1, none⟩ (.int .i64 id)).setCell ⟨w.heap.size, 2, none⟩ (.int .i64 0)).setCell ⟨w.heap.size, 3, none⟩ (.string ⟨#[]⟩)).setCell ⟨w.heap.size, 4, none⟩ (.slice none 0 0) := ⟨_, rfl⟩
    rw [← hWF]
    obtain ⟨⟨⟨u0, u1, u2, u3, u4⟩, bF⟩, _, _⟩ := valFin (w1 := w3) HB3.out HK3.out _ _ _ _ _ WF hWF
    refine bodyPost_ret (v := .tuple #[.agg #[.int .i64 2, .int .i64 id, .int .i64 0, .string ⟨#[]⟩, .slice none 0 0], .bool true]) (by simp [results, Tryz.results21, go_sem, u0, u1, u2, u3, u4]) rfl ?_
    rw [HV2.out.1, HV2.out.2]
    exact ⟨⟨none, 0, 0, rfl, RVX.nil _ _⟩, bF⟩
end Go.Proofs.YtemngidkfgcigaaGreatDoor
namespace Go.Proofs.YtemngidkfgcigaaGreatDoor
open Go.RowKit

/-- T is the text from place a on -/
structure Tl (s : ByteArray) (a : Nat) (T : ByteArray) : Prop where
  hT : T = s.extract a s.size
  ha : a < s.size
theorem Tl.size {s T : ByteArray} {a : Nat} (h : Tl s a T) : T.size = s.size - a := by rw [h.hT]; exact tail_size
theorem Tl.bt {s T : ByteArray} {a : Nat} (h : Tl s a T) (i : Nat) : Go.Proofs.YtemngidkfgcigaaGreatDoor.bt T i = Go.Proofs.YtemngidkfgcigaaGreatDoor.bt s (a + i) := by rw [h.hT]; exact tail_bt (Nat.le_of_lt h.ha) i
theorem Tl.same {s T : ByteArray} {a : Nat} (h : Tl s a T) : Same T s 0 a := by rw [h.hT]; exact same_tail (Nat.le_of_lt h.ha)
theorem Tl.z {s T : ByteArray} {a : Nat} (h : Tl s a T) : 0 < T.size := by have := h.size; have := h.ha; omega
theorem notBeq {x y : Int} (h : x ≠ y) : (x == y) = false := beq_eq_false_iff_ne.2 h
theorem pre_two {T : ByteArray} {c : UInt8} {x : Int} (hx : (c.toNat : Int) = x) {b : Bool} (h : decide (bt T 0 = x ∧ bt T 1 = x) = b) : Lib.hasPrefix T.data.toList [c, c] = b := by
  have := prefix_two T 0 c hx (b := b) (by rw [Nat.zero_add]; exact h)
  rwa [show T.extract 0 T.size = T by apply ba_ext; rw [ext_list]; simp] at this

set_option maxHeartbeats 2000000 in
set_option maxRecDepth 100000 in
theorem rtok_esc (s T : ByteArray) (a : Nat) (w : World) (hs : s.size ≤ 4294967280) (L : Tl s a T) (h0 : bt T 0 = 92) (z1 : 1 < T.size) (h1 : punB (bt T 1) = true) :
    Calls Tryz.prog 58 #[.string s, .int .i64 a] w fun e w' => e = .returned (rtV s a) ∧ Below w.heap.size w w' := by
  have ha := L.ha
  have hz := L.z
  have hsz := L.size
  have ia : (a : Int) < (s.size : Int) := by omega
  have ia0 : (0 : Int) ≤ (a : Int) := by omega
  have b0 := bt_at hz
  have HT := Lib.hid L.hT
  have b1 := bt_at z1
  have HV : Hid (rtV s a = .agg #[.int .i64 2, .int .i64 a, .int .i64 (a + 2), .string (T.extract 1 2), .string ⟨#[]⟩, .int .i64 0, .bool false]) := by
    show _ = _
    have e0 := L.bt 0
    have e1 := L.bt 1
    rw [Nat.add_zero] at e0
    rw [rtV_of (k := 0) (x := ⟨2, a, a + 2, s.extract (a + 1) (a + 2), noB, 0, false⟩) (by omega) (by show tokE s a = _; unfold tokE; rw [if_pos ⟨by rw [← e0]; exact h0, by rw [← e1]; exact h1⟩]) (by show (2 : Int) ≠ 1; decide), L.hT, tail_ext (by omega) (by omega)]
    rfl
  rw [b0] at h0
  rw [b1] at h1
  have g0 : ((T[0].toNat : Int) == 92) = true := by simpa using h0
  have c0 : (0 : Int) ≤ (T[1].toNat : Int) := by omega
  have c1 : (T[1].toNat : Int) ≤ 255 := by have := (T[1]).toNat_lt; omega
  have zi : (1 : Int) < (T.size : Int) := by omega
  have zi2 : (2 : Int) ≤ (T.size : Int) := by omega
  clear L b0 hsz b1 h0
  go_enter Tryz.func58, Tryz.ntmps58
  go_upto_region 3 with (fail)
  rw [← HT.out]
  go_wp2_with fail
  refine (rPunct_any _ _ c0 c1).mono ?_
  rintro e w1 ⟨rfl, hw⟩
  rw [h1, ← hw]
  clear hw
  go_wp2_with fail
  exact bodyPost_ret (v := .agg #[.int .i64 2, .int .i64 a, .int .i64 (a + 2), .string (T.extract 1 2), .string ⟨#[]⟩, .int .i64 0, .bool false]) (by simp [results, Tryz.results58, go_sem]) rfl ⟨by rw [HV.out], ((Below.refl _ _).alloc (Nat.le_refl _) _).alloc (by simp) _⟩
set_option maxHeartbeats 2000000 in
set_option maxRecDepth 100000 in
theorem rtok_code (s T : ByteArray) (a : Nat) (w : World) (hs : s.size ≤ 4294967280) (L : Tl s a T) (h0 : bt T 0 = 96) (h1 : upto (isC 96) T 1 < T.size) (h2 : 1 < upto (isC 96) T 1) :
    Calls Tryz.prog 58 #[.string s, .int .i64 a] w fun e w' => e = .returned (rtV s a) ∧ Below w.heap.size w w' := by
  have ha := L.ha
  have hz := L.z
  have hsz := L.size
  have ia : (a : Int) < (s.size : Int) := by omega
  have ia0 : (0 : Int) ≤ (a : Int) := by omega
  have b0 := bt_at hz
  have HT := Lib.hid L.hT
  have hz2 : (1 : Int) ≤ (T.size : Int) := by omega
  have hx := indexByte_ext T 1 96
  rw [show isC (96 : UInt8).toNat = isC 96 from rfl] at hx
  obtain ⟨m, hm⟩ : ∃ m : Nat, upto (isC 96) T 1 = m + 1 := ⟨upto (isC 96) T 1 - 1, by omega⟩
  have HV : Hid (rtV s a = .agg #[.int .i64 3, .int .i64 a, .int .i64 (a + m + 2), .string (T.extract 1 (m + 1)), .string ⟨#[]⟩, .int .i64 0, .bool false]) := by
    show _ = _
    have ht : tokC s a = some ⟨3, a, a + m + 2, T.extract 1 (m + 1), noB, 0, false⟩ := by
      have := tokC_same L.same
      rw [this]
      unfold tokC
      dsimp only
      rw [if_pos ⟨h0, h1, by omega⟩, hm]
      simp [mv, shF]
      omega
    rw [rtV_of (k := 1) (by omega) ht (by show (3 : Int) ≠ 1; decide)]
    rfl
  have HX : Hid (Lib.indexByte (T.extract 1 T.size).data.toList 96 = (m : Int)) := by show _ = _; rw [hx, if_pos h1, hm]; omega
  have m1 : (0 : Int) < (m : Int) := by omega
  have m2 : (m : Int) + 1 < (T.size : Int) := by omega
  have m3 : (T.size : Int) ≤ 4294967280 := by omega
  rw [b0] at h0
  have g0 : ((T[0].toNat : Int) == 92) = false := notBeq (by omega)
  have g1 : ((T[0].toNat : Int) == 96) = true := by simpa using h0
  clear L b0 hsz h0 h1 h2 hx hm
  go_enter Tryz.func58, Tryz.ntmps58
  go_upto_region 3 with (fail)
  rw [← HT.out]
  go_wp2_with fail
  refine (Tryz.strings_IndexByte _ _ _).mono ?_
  rintro e _ ⟨rfl, rfl⟩
  rw [show ((96 : Int).toNat.toUInt8) = 96 from rfl, HX.out]
  go_wp2_with fail
  exact bodyPost_ret (v := .agg #[.int .i64 3, .int .i64 a, .int .i64 (a + m + 2), .string (T.extract 1 (m + 1)), .string ⟨#[]⟩, .int .i64 0, .bool false]) (by simp [results, Tryz.results58, go_sem]) rfl ⟨by rw [HV.out], ((Below.refl _ _).alloc (Nat.le_refl _) _).alloc (by simp) _⟩
set_option maxHeartbeats 2000000 in
set_option maxRecDepth 100000 in
theorem rtok_nocode (s T : ByteArray) (a : Nat) (w : World) (hs : s.size ≤ 4294967280) (L : Tl s a T) (h0 : bt T 0 = 96) (h1 : ¬ (upto (isC 96) T 1 < T.size ∧ 1 < upto (isC 96) T 1)) :
    Calls Tryz.prog 58 #[.string s, .int .i64 a] w fun e w' => e = .returned (rtV s a) ∧ Below w.heap.size w w' := by
  have ha := L.ha
  have hz := L.z
  have hsz := L.size
  have ia : (a : Int) < (s.size : Int) := by omega
  have ia0 : (0 : Int) ≤ (a : Int) := by omega
  have b0 := bt_at hz
  have HT := Lib.hid L.hT
  have hz2 : (1 : Int) ≤ (T.size : Int) := by omega
  have hx := indexByte_ext T 1 96
  rw [show isC (96 : UInt8).toNat = isC 96 from rfl] at hx
  have HV : Hid (rtV s a = .agg #[.int .i64 1, .int .i64 a, .int .i64 (a + 1), .string (s.extract a (a + 1)), .string ⟨#[]⟩, .int .i64 0, .bool false]) := by
    show _ = _
    have e0 := L.bt 0
    rw [Nat.add_zero] at e0
    exact rtV_plain (tokA_no (k := 1) (by omega) (by rw [← e0]; exact h0) (by show tokC s a = none; rw [tokC_same L.same]; unfold tokC; dsimp only; rw [if_neg (fun c => h1 ⟨c.2.1, c.2.2⟩)]; rfl))
  obtain ⟨x, hxx, hx0⟩ : ∃ x : Int, Lib.indexByte (T.extract 1 T.size).data.toList 96 = x ∧ x ≤ 0 := by
    have := upto_ge (isC 96) T 1
    refine ⟨_, rfl, ?_⟩
    rw [hx]
    split <;> omega
  have HX := Lib.hid hxx
  rw [b0] at h0
  have g0 : ((T[0].toNat : Int) == 92) = false := notBeq (by omega)
  have g1 : ((T[0].toNat : Int) == 96) = true := by simpa using h0
  clear L b0 hsz h0 h1 hx hxx
  go_enter Tryz.func58, Tryz.ntmps58
  go_upto_region 3 with (fail)
  rw [← HT.out]
  go_wp2_with fail
  refine (Tryz.strings_IndexByte _ _ _).mono ?_
  rintro e _ ⟨rfl, rfl⟩
  rw [show ((96 : Int).toNat.toUInt8) = 96 from rfl, HX.out]
  go_wp2_with fail
  exact bodyPost_ret (v := .agg #[.int .i64 1, .int .i64 a, .int .i64 (a + 1), .string (s.extract a (a + 1)), .string ⟨#[]⟩, .int .i64 0, .bool false]) (by simp [results, Tryz.results58, go_sem]) rfl ⟨by rw [HV.out], ((Below.refl _ _).alloc (Nat.le_refl _) _).alloc (by simp) _⟩
set_option maxHeartbeats 2000000 in
set_option maxRecDepth 100000 in
theorem rtok_bold (s T : ByteArray) (a : Nat) (w : World) (hs : s.size ≤ 4294967280) (L : Tl s a T) (h0 : bt T 0 = 42) (h1 : bt T 1 = 42) :
    Calls Tryz.prog 58 #[.string s, .int .i64 a] w fun e w' => e = .returned (rtV s a) ∧ Below w.heap.size w w' := by
  have ha := L.ha
  have hz := L.z
  have hsz := L.size
  have ia : (a : Int) < (s.size : Int) := by omega
  have ia0 : (0 : Int) ≤ (a : Int) := by omega
  have b0 := bt_at hz
  have HT := Lib.hid L.hT
  have HV : Hid (rtV s a = .agg #[.int .i64 7, .int .i64 a, .int .i64 (a + 2), .string ⟨#[42, 42]⟩, .string ⟨#[]⟩, .int .i64 0, .bool false]) := by
    show _ = _
    have e0 := L.bt 0
    have e1 := L.bt 1
    rw [Nat.add_zero] at e0
    rw [rtV_of (k := 5) (x := ⟨7, a, a + 2, ⟨#[42, 42]⟩, noB, 0, false⟩) (by omega) (by show tokB s a = _; unfold tokB; rw [if_pos ⟨by rw [← e0]; exact h0, by rw [← e1]; exact h1⟩]) (by show (7 : Int) ≠ 1; decide)]
    rfl
  have HP1 : Hid (Lib.hasPrefix T.data.toList [91, 91] = false) := pre_two (x := 91) rfl (by rw [decide_eq_false_iff_not]; intro c; omega)
  have HP2 : Hid (Lib.hasPrefix T.data.toList [40, 40] = false) := pre_two (x := 40) rfl (by rw [decide_eq_false_iff_not]; intro c; omega)
  have HP3 : Hid (Lib.hasPrefix T.data.toList [42, 42] = true) := pre_two (x := 42) rfl (by rw [decide_eq_true_iff]; exact ⟨h0, h1⟩)
  have z1 := bt_in (s := T) (i := 1) (by omega)
  have zi2 : (a : Int) + 2 ≤ (s.size : Int) := by omega
  rw [b0] at h0
  have g0 : ((T[0].toNat : Int) == 92) = false := notBeq (by omega)
  have g1 : ((T[0].toNat : Int) == 96) = false := notBeq (by omega)
  have g2 : ((T[0].toNat : Int) == 35) = false := notBeq (by omega)
  clear L b0 hsz h0 h1
  go_enter Tryz.func58, Tryz.ntmps58
  go_upto_region 3 with (fail)
  rw [← HT.out]
  go_wp2_with fail
  refine (Tryz.strings_HasPrefix _ _ _).mono ?_
  rintro e _ ⟨rfl, rfl⟩
  rw [show (⟨#[91, 91]⟩ : ByteArray).data.toList = [91, 91] from rfl, HP1.out]
  go_wp2_with fail
  refine (Tryz.strings_HasPrefix _ _ _).mono ?_
  rintro e _ ⟨rfl, rfl⟩
  rw [show (⟨#[40, 40]⟩ : ByteArray).data.toList = [40, 40] from rfl, HP2.out]
  go_wp2_with fail
  refine (Tryz.strings_HasPrefix _ _ _).mono ?_
  rintro e _ ⟨rfl, rfl⟩
  rw [show (⟨#[42, 42]⟩ : ByteArray).data.toList = [42, 42] from rfl, HP3.out]
  go_wp2_with fail
  exact bodyPost_ret (v := .agg #[.int .i64 7, .int .i64 a, .int .i64 (a + 2), .string ⟨#[42, 42]⟩, .string ⟨#[]⟩, .int .i64 0, .bool false]) (by simp [results, Tryz.results58, go_sem]) rfl ⟨by rw [HV.out], ((Below.refl _ _).alloc (Nat.le_refl _) _).alloc (by simp) _⟩
set_option maxHeartbeats 2000000 in
set_option maxRecDepth 100000 in
theorem rtok_rest (s T : ByteArray) (a : Nat) (w : World) (hs : s.size ≤ 4294967280) (L : Tl s a T) (h0 : (bt T 0 == 92) = false) (h1 : bt T 0 ≠ 96) (h2 : ¬ (bt T 0 = 91 ∧ bt T 1 = 91)) (h3 : ¬ (bt T 0 = 40 ∧ bt T 1 = 40)) (h4 : bt T 0 ≠ 35) (h5 : ¬ (bt T 0 = 42 ∧ bt T 1 = 42)) (hp : tokA s a = plainAt a) :
    Calls Tryz.prog 58 #[.string s, .int .i64 a] w fun e w' => e = .returned (rtV s a) ∧ Below w.heap.size w w' := by
  have ha := L.ha
  have hz := L.z
  have hsz := L.size
  have ia : (a : Int) < (s.size : Int) := by omega
  have ia0 : (0 : Int) ≤ (a : Int) := by omega
  have b0 := bt_at hz
  have HT := Lib.hid L.hT
  have HV : Hid (rtV s a = .agg #[.int .i64 1, .int .i64 a, .int .i64 (a + 1), .string (s.extract a (a + 1)), .string ⟨#[]⟩, .int .i64 0, .bool false]) := rtV_plain hp
  have HP1 : Hid (Lib.hasPrefix T.data.toList [91, 91] = false) := pre_two (x := 91) rfl (decide_eq_false h2)
  have HP2 : Hid (Lib.hasPrefix T.data.toList [40, 40] = false) := pre_two (x := 40) rfl (decide_eq_false h3)
  have HP3 : Hid (Lib.hasPrefix T.data.toList [42, 42] = false) := pre_two (x := 42) rfl (decide_eq_false h5)
  rw [b0] at h0 h1 h4
  have g1 : ((T[0].toNat : Int) == 96) = false := notBeq h1
  have g2 : ((T[0].toNat : Int) == 35) = false := notBeq h4
  clear L b0 hsz h1 h2 h3 h4 h5 hp
  go_enter Tryz.func58, Tryz.ntmps58
  go_upto_region 3 with (fail)
  rw [← HT.out]
  go_wp2_with fail
  refine (Tryz.strings_HasPrefix _ _ _).mono ?_
  rintro e _ ⟨rfl, rfl⟩
  rw [show (⟨#[91, 91]⟩ : ByteArray).data.toList = [91, 91] from rfl, HP1.out]
  go_wp2_with fail
  refine (Tryz.strings_HasPrefix _ _ _).mono ?_
  rintro e _ ⟨rfl, rfl⟩
  rw [show (⟨#[40, 40]⟩ : ByteArray).data.toList = [40, 40] from rfl, HP2.out]
  go_wp2_with fail
  refine (Tryz.strings_HasPrefix _ _ _).mono ?_
  rintro e _ ⟨rfl, rfl⟩
  rw [show (⟨#[42, 42]⟩ : ByteArray).data.toList = [42, 42] from rfl, HP3.out]
  go_wp2_with fail
  exact bodyPost_ret (v := .agg #[.int .i64 1, .int .i64 a, .int .i64 (a + 1), .string (s.extract a (a + 1)), .string ⟨#[]⟩, .int .i64 0, .bool false]) (by simp [results, Tryz.results58, go_sem]) rfl ⟨by rw [HV.out], ((Below.refl _ _).alloc (Nat.le_refl _) _).alloc (by simp) _⟩
set_option maxHeartbeats 2000000 in
set_option maxRecDepth 100000 in
theorem rtok_noesc (s T : ByteArray) (a : Nat) (w : World) (hs : s.size ≤ 4294967280) (L : Tl s a T) (h0 : (bt T 0 == 92) = true) (h6 : T.size ≤ 1 ∨ ∃ h : 1 < T.size, punB (T[1].toNat : Int) = false) (h1 : bt T 0 ≠ 96) (h2 : ¬ (bt T 0 = 91 ∧ bt T 1 = 91)) (h3 : ¬ (bt T 0 = 40 ∧ bt T 1 = 40)) (h4 : bt T 0 ≠ 35) (h5 : ¬ (bt T 0 = 42 ∧ bt T 1 = 42)) (hp : tokA s a = plainAt a) :
    Calls Tryz.prog 58 #[.string s, .int .i64 a] w fun e w' => e = .returned (rtV s a) ∧ Below w.heap.size w w' := by
  have ha := L.ha
  have hz := L.z
  have hsz := L.size
  have ia : (a : Int) < (s.size : Int) := by omega
  have ia0 : (0 : Int) ≤ (a : Int) := by omega
  have b0 := bt_at hz
  have HT := Lib.hid L.hT
  have HV : Hid (rtV s a = .agg #[.int .i64 1, .int .i64 a, .int .i64 (a + 1), .string (s.extract a (a + 1)), .string ⟨#[]⟩, .int .i64 0, .bool false]) := rtV_plain hp
  have HP1 : Hid (Lib.hasPrefix T.data.toList [91, 91] = false) := pre_two (x := 91) rfl (decide_eq_false h2)
  have HP2 : Hid (Lib.hasPrefix T.data.toList [40, 40] = false) := pre_two (x := 40) rfl (decide_eq_false h3)
  have HP3 : Hid (Lib.hasPrefix T.data.toList [42, 42] = false) := pre_two (x := 42) rfl (decide_eq_false h5)
  rw [b0] at h0 h1 h4
  have g1 : ((T[0].toNat : Int) == 96) = false := notBeq h1
  have g2 : ((T[0].toNat : Int) == 35) = false := notBeq h4
  rcases h6 with h6 | ⟨h6, h7⟩
  · have zi : (T.size : Int) ≤ 1 := by omega
    clear L b0 hsz h1 h2 h3 h4 h5 hp h6
    go_enter Tryz.func58, Tryz.ntmps58
    go_upto_region 3 with (fail)
    rw [← HT.out]
    go_wp2_with fail
    refine (Tryz.strings_HasPrefix _ _ _).mono ?_
    rintro e _ ⟨rfl, rfl⟩
    rw [show (⟨#[91, 91]⟩ : ByteArray).data.toList = [91, 91] from rfl, HP1.out]
    go_wp2_with fail
    refine (Tryz.strings_HasPrefix _ _ _).mono ?_
    rintro e _ ⟨rfl, rfl⟩
    rw [show (⟨#[40, 40]⟩ : ByteArray).data.toList = [40, 40] from rfl, HP2.out]
    go_wp2_with fail
    refine (Tryz.strings_HasPrefix _ _ _).mono ?_
    rintro e _ ⟨rfl, rfl⟩
    rw [show (⟨#[42, 42]⟩ : ByteArray).data.toList = [42, 42] from rfl, HP3.out]
    go_wp2_with fail
    exact bodyPost_ret (v := .agg #[.int .i64 1, .int .i64 a, .int .i64 (a + 1), .string (s.extract a (a + 1)), .string ⟨#[]⟩, .int .i64 0, .bool false]) (by simp [results, Tryz.results58, go_sem]) rfl ⟨by rw [HV.out], ((Below.refl _ _).alloc (Nat.le_refl _) _).alloc (by simp) _⟩
  · have zi : (1 : Int) < (T.size : Int) := by omega
    have c0 : (0 : Int) ≤ (T[1].toNat : Int) := by omega
    have c1 : (T[1].toNat : Int) ≤ 255 := by have := (T[1]).toNat_lt; omega
    clear L b0 hsz h1 h2 h3 h4 h5 hp
    go_enter Tryz.func58, Tryz.ntmps58
    go_upto_region 3 with (fail)
    rw [← HT.out]
    go_wp2_with fail
    refine (rPunct_any _ _ c0 c1).mono ?_
    rintro e w1 ⟨rfl, hw⟩
    rw [h7, ← hw]
    clear hw
    go_wp2_with fail
    refine (Tryz.strings_HasPrefix _ _ _).mono ?_
    rintro e _ ⟨rfl, rfl⟩
    rw [show (⟨#[91, 91]⟩ : ByteArray).data.toList = [91, 91] from rfl, HP1.out]
    go_wp2_with fail
    refine (Tryz.strings_HasPrefix _ _ _).mono ?_
    rintro e _ ⟨rfl, rfl⟩
    rw [show (⟨#[40, 40]⟩ : ByteArray).data.toList = [40, 40] from rfl, HP2.out]
    go_wp2_with fail
    refine (Tryz.strings_HasPrefix _ _ _).mono ?_
    rintro e _ ⟨rfl, rfl⟩
    rw [show (⟨#[42, 42]⟩ : ByteArray).data.toList = [42, 42] from rfl, HP3.out]
    go_wp2_with fail
    exact bodyPost_ret (v := .agg #[.int .i64 1, .int .i64 a, .int .i64 (a + 1), .string (s.extract a (a + 1)), .string ⟨#[]⟩, .int .i64 0, .bool false]) (by simp [results, Tryz.results58, go_sem]) rfl ⟨by rw [HV.out], ((Below.refl _ _).alloc (Nat.le_refl _) _).alloc (by simp) _⟩
end Go.Proofs.YtemngidkfgcigaaGreatDoor
namespace Go.Proofs.YtemngidkfgcigaaGreatDoor
open Go.ChangeShapes Go.WideShapes Go.RowKit

theorem cellsP : Tryz.prog.cellsOf 74 = 6 := by kernel_rfl
theorem cells_of_props : Tryz.prog.cellsOf 33 = 1 := by kernel_rfl

section
variable {H : Type} {enc : TypeId × Value → H} {W : World}
set_option maxRecDepth 100000 in
theorem prop_open (fuel : Nat) (cs : List Value) (x : DataW H × List MemPlace)
    (h : DataW.trod enc Tryz.prog W 0 (fun _ => true) true fuel 74 cs = some x) (hp : ∀ y ∈ x.2, y.block < W.heap.size) (hfit : Fits Tryz.prog 74 x.1) : ∃ p : Pr × Value, prV p = cs ∧ RV W W.heap.size p.2 p.1.val.items := by
  obtain ⟨xs, n, rfl, rfl, hlen, hxl, hf⟩ := DataW.trod_struct Tryz.underlying74 h
  rw [cellsP] at hlen
  match cs, hlen with
  | [u0, u1, u2, u3, u4, u5], _ =>
    match xs, hxl with
    | [y0, y1], _ =>
      have g0 : DataW.trod enc Tryz.prog W 0 (fun _ => true) true n 9 (([u0, u1, u2, u3, u4, u5].drop 0).take (Tryz.prog.cellsOf 9)) = some y0 := hf 0 _ rfl
      have g1 : DataW.trod enc Tryz.prog W 0 (fun _ => true) true n 41 (([u0, u1, u2, u3, u4, u5].drop 1).take (Tryz.prog.cellsOf 41)) = some y1 := hf 1 _ rfl
      rw [cells_of_str] at g0
      rw [cellsV] at g1
      change DataW.trod enc Tryz.prog W 0 (fun _ => true) true n 9 [u0] = some y0 at g0
      change DataW.trod enc Tryz.prog W 0 (fun _ => true) true n 41 [u1, u2, u3, u4, u5] = some y1 at g1
      obtain ⟨s, e0, rfl, _⟩ := DataW.trod_string Tryz.underlying9 g0
      simp at e0
      subst e0
      obtain ⟨v, hv, hq⟩ := val_open n _ y1 g1 (fun y hy => hp y (by simp [hy])) (hfit.part Tryz.underlying74 (j := 1) rfl rfl)
      exact ⟨(⟨s, v.1⟩, v.2), by rw [prV]; exact congrArg _ hv, n, hq⟩

set_option maxRecDepth 100000 in
theorem props_open {fuel : Nat} {u : Value} {y : DataW H × List MemPlace} (h : DataW.trod enc Tryz.prog W 0 (fun _ => true) true fuel 33 [u] = some y) (hp : ∀ x ∈ y.2, x.block < W.heap.size) (hfit : Fits Tryz.prog 33 y.1) : ∃ ps, RPr W W.heap.size u ps := by
  obtain ⟨A, len, cap, M, rfl, h1, h2, h3, h4⟩ := open_list (en := prV) (Q := fun _ x => RV W W.heap.size x.2 x.1.val.items) Tryz.underlying33 cellsP (by omega) (show _ = 80 by kernel_rfl) prV_len
    (fun m cs z hm htr hz hft => prop_open m cs z htr hz hft) h hp hfit
  exact ⟨M.map Prod.fst, A, len, cap, M, rfl, rfl, h1, h2, h3, fun x hx => by
    obtain ⟨m, _, hq⟩ := h4 x hx
    exact hq⟩

end
end Go.Proofs.YtemngidkfgcigaaGreatDoor
