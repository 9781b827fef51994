/-
  DERIVED. The walk of prop.reader's quoted. Conditions: sizes. By an AI agent.
-/
import Derived.Test.YtbdcimakdiegnaaGreatDoorRvEnv
namespace Go.Proofs.YtbdcimakdiegnaaGreatDoor
open Go.RowKit

theorem Bld.put {b B rb i : Nat} {bs : List Value} {w : World} (h : Bld b B bs w) (hr : rb < B) (hne : rb ≠ b) (v : Value) : Bld b B bs (w.setCell ⟨rb, i, none⟩ v) := by
  obtain ⟨h1, p, v0, hp, hbk, hown⟩ := h
  exact ⟨h1, p, v0, hp, (Below.heap_setCell w ⟨rb, i, none⟩ v b (fun e => hne e.symm)).trans hbk, ownsRow_setCell_below hown hr v⟩
theorem gr_keep {w w1 w2 : World} {b : Nat} {r : Option Nat} (h : w.grownBy w1 r) (hk : Below b w1 w2) (hb : w.heap.size ≤ b) : w.grownBy w2 r :=
  ⟨hk.os.trans h.os, hk.tape.trans h.tape, hk.output.trans h.output, Nat.le_trans h.size hk.size, fun j hj hn => (hk.block j (by omega)).trans (h.block j hj hn)⟩
theorem bytes_snoc (l : List UInt8) (c : UInt8) : Lib.byteCells l ++ Lib.byteCells [c] = Lib.byteCells (l ++ [c]) := by
  simp [Lib.byteCells]
/-- the loop of quoted: the reader, the result's block, the builder -/
structure QR (w : World) (rb : Nat) (s : ByteArray) (far : Bool) (bb : Nat) (p : Nat) (l : List UInt8) (wr : World) : Prop where
  rd : RdM wr rb s p false far
  bk : Blk wr w.heap.size 24 zV5
  gr : w.grownBy wr (some rb)
  bl : Bld bb (bb + 1) (Lib.byteCells l) wr
section
variable {w wr w2 : World} {rb bb p : Nat} {s : ByteArray} {far : Bool} {l : List UInt8}
theorem QR.drewN (h : QR w rb s far bb p l wr) (n : Nat) : QR w rb s far bb p l (wr.drewN n) :=
  ⟨h.rd, h.bk, gr_trans h.gr (gr_drewN wr n _), h.bl.below (bl_drewN wr n _)⟩
theorem QR.go (h : QR w rb s far bb p l wr) (hr : rb < w.heap.size) (hb : w.heap.size < bb) (q : Nat) : QR w rb s far bb q l (wr.setCell ⟨rb, 1, none⟩ (.int .i64 (q : Int))) :=
  ⟨h.rd.go q, h.bk.far (p := ⟨rb, 1, none⟩) (by show _ ≠ rb; omega) _, gr_set h.gr 1 _, h.bl.put (by omega) (by omega) _⟩
theorem QR.push (h : QR w rb s far bb p l wr) (hr : rb < w.heap.size) (hb : w.heap.size < bb) {c : UInt8} (h2 : Bld bb (bb + 1) (Lib.byteCells l ++ Lib.byteCells [c]) w2) (hk : Keep bb (bb + 1) wr w2) : QR w rb s far bb p (l ++ [c]) w2 :=
  ⟨Blk.below h.rd hk.1 (by omega), h.bk.below hk.1 hb, gr_keep h.gr hk.1 (by omega), by rw [← bytes_snoc]; exact h2⟩
theorem QR.zb (h : QR w rb s far bb p l wr) : bb < wr.heap.size := by
  obtain ⟨_, p, v, _, hbk, _⟩ := h.bl
  rcases Nat.lt_or_ge bb wr.heap.size with h | h
  · exact h
  · rw [Array.getElem?_eq_none h] at hbk; cases hbk
end
theorem bld_str {b B : Nat} {l : List UInt8} {w : World} (h : Bld b B (Lib.byteCells l) w) : Bld b B (Lib.strCells ⟨l.toArray⟩) w := by
  rw [strCells_byte]
  simpa using h
theorem eqN (c : UInt8) (n : Nat) (hn : n < 256) : ((c.toNat : Int) == (n : Int)) = (c == UInt8.ofNat n) := by
  rw [Bool.eq_iff_iff, beq_iff_eq, beq_iff_eq, ← UInt8.toNat_inj, UInt8.toNat_ofNat']
  omega

set_option maxHeartbeats 2000000 in
set_option maxRecDepth 100000 in
theorem quoted_any (rb : Nat) (s : ByteArray) (a : Nat) (far : Bool) (w : World) (h : RdM w rb s a false far) (ha : a ≤ s.size) (hs : s.size ≤ 400000) :
    Calls Tryz.prog 89 #[.pointer (some ⟨rb, 0, none⟩)] w fun e w' => ∃ x, e = .returned (vN x) ∧ RdOut1 ((rdQuo (rs s a)).map fun p => (vT 3 p.1, p.2, false)) rb s far w x w' := by
  have hlt := Blk.lt h
  obtain ⟨X, hX, hr, hK, hg, hz⟩ := start5 h
  obtain ⟨bb, hbb⟩ : ∃ bb, bb = w.heap.size + 1 := ⟨_, rfl⟩
  have hwb : w.heap.size < bb := by omega
  have hQ0 : QR w rb s far bb a [] (X.alloc (.cells #[.pointer none, .slice none 0 0] 58)) := by
    refine ⟨Blk.alloc hr _, hK.alloc _, gr_below hg ((Below.refl _ _).alloc (Nat.le_refl _) _), Bld.fresh (Nat.lt_succ_self _) ?_⟩
    rw [hbb, ← hz]
    exact Blk.new X 58 _
  have HX := Lib.hid hX
  have HQ0 := Lib.hid hQ0
  have HZ := Lib.hid (hz.trans hbb.symm)
  obtain ⟨o, ho⟩ : ∃ o, o = rdQuo (rs s a) := ⟨_, rfl⟩
  rw [← ho]
  have HO : Hid (o = (rdQuo (rs s a)).map fun q => ([] ++ q.1, q.2)) := by
    show _ = _
    rw [ho]
    cases rdQuo (rs s a) <;> rfl
  clear h hX hr hK hg hz hbb hQ0 ho
  go_enter Tryz.func89, Tryz.ntmps89
  go_upto_region 1 with fail
  rw [← HX.out]
  go_wp2_with fail
  rw [HZ.out]
  go_loopg [4] (s.size + 1 - a) (fun gg s4 wr => ∃ (p : Nat) (l : List UInt8), p + gg = s.size + 1 ∧ l.length ≤ p ∧ p ≤ s.size ∧ Hid (o = (rdQuo (rs s p)).map fun q => (l ++ q.1, q.2)) ∧ Hid (QR w rb s far bb p l wr))
  case atStart => exact ⟨a, [], by omega, by simp, ha, HO, HQ0⟩
  case round =>
    obtain ⟨p, l, hpg, hlp, hps, HOr, HQ⟩ := hrel
    have c0 := Blk.cell HQ.out.rd 0
    have c1 := Blk.cell HQ.out.rd 1
    have i0 : (0 : Int) ≤ (p : Int) := by omega
    by_cases hp : p < s.size
    · have j1 : (p : Int) < (s.size : Int) := by omega
      have j2 : decide ((p : Int) < (s.size : Int)) = true := decide_eq_true j1
      have hrs := rs_at hp
      have G34 : Hid (((s[p].toNat : Int) == 34) = (s[p] == 34)) := eqN s[p] 34 (by decide)
      have G92 : Hid (((s[p].toNat : Int) == 92) = (s[p] == 92)) := eqN s[p] 92 (by decide)
      by_cases h34 : s[p] = 34
      · rw [h34] at hrs
        have HON : Hid (o = some (l ++ [], rs s (p + 1))) := by
          show _ = _
          rw [HOr.out, hrs, rdQuo_end]
          rfl
        have b34 : ((s[p].toNat : Int) == 34) = true := by rw [G34.out, h34]; rfl
        clear hrs h34
        go_wp2_with fail
        go_quiet (fail)
        have HQ2 := Lib.hid (HQ.out.drewN nq)
        generalize wr.drewN nq = w2 at HQ2 ⊢
        clear c0 c1
        have c0 := Blk.cell HQ2.out.rd 0
        have c1 := Blk.cell HQ2.out.rd 1
        go_wp2_with fail
        go_quiet (fail)
        have HQ3 := Lib.hid (HQ2.out.drewN nq)
        generalize w2.drewN nq = w3 at HQ3 ⊢
        clear c0 c1
        have c1 := Blk.cell HQ3.out.rd 1
        have f1 := Blk.frozen HQ3.out.rd 1
        have HQ4 : Hid (QR w rb s far bb (p + 1) l (w3.setCell ⟨rb, 1, none⟩ (.int .i64 ((p : Int) + 1)))) := by
          have := HQ3.out.go hlt hwb (p + 1)
          rw [show ((p + 1 : Nat) : Int) = (p : Int) + 1 by omega] at this
          exact this
        go_wp2_with fail
        generalize (w3.setCell ⟨rb, 1, none⟩ (.int .i64 ((p : Int) + 1))) = w4 at HQ4 ⊢
        clear c1 f1
        refine (string_any bb (bb + 1) ⟨l.toArray⟩ w4 (bld_str HQ4.out.bl)).mono ?_
        rintro e w5 ⟨rfl, hb5⟩
        have HR5 := Lib.hid (Blk.below HQ4.out.rd hb5 (by omega))
        have HK5 := Lib.hid (HQ4.out.bk.below hb5 hwb)
        have HG5 := Lib.hid (gr_keep HQ4.out.gr hb5 (by omega))
        have e5 := fun i => HK5.out.cell i
        have f5 := fun i => HK5.out.frozen i
        clear hb5
        obtain ⟨T, hT⟩ : ∃ T : ByteArray, T = ⟨l.toArray⟩ := ⟨_, rfl⟩
        rw [← hT]
        have HT := Lib.hid hT
        clear hT
        go_wp2_with fail
        obtain ⟨⟨r0, r1, r2, r3, r4⟩, gF, kF, _, _⟩ := fin5 HG5.out hlt HK5.out (.int .i64 3) (.int .i64 0) (.int .i64 0) (.string T) (.slice none 0 0) _ rfl
        refine bodyPost_ret (v := vN (.mk 3 0 0 T [])) (by simp [results, Tryz.results89, go_sem, r0, r1, r2, r3, r4, vN, Vl.kind, Vl.int_, Vl.to_, Vl.text]) rfl ⟨_, rfl, gF, rfl, p + 1, false, far, kF _ _ HR5.out, hp, ?_⟩
        rw [HON.out]
        exact ⟨rfl, by simp, rfl, by rw [HT.out]; simp [vT]⟩
      have b34 : ((s[p].toNat : Int) == 34) = false := by
        rw [G34.out, beq_eq_false_iff_ne]
        exact h34
      by_cases h92 : s[p] = 92
      · rw [h92] at hrs
        have b92 : ((s[p].toNat : Int) == 92) = true := by rw [G92.out, h92]; rfl
        by_cases hp1 : p + 1 < s.size
        · have hrs1 := rs_at hp1
          rw [hrs1] at hrs
          have k0 : (0 : Int) ≤ (p : Int) + 1 := by omega
          have k1 : (p : Int) + 1 < (s.size : Int) := by omega
          have y34 := pre_cons 34 [] s[p + 1] (rs s (p + 1 + 1))
          have y92 := pre_cons 92 [] s[p + 1] (rs s (p + 1 + 1))
          rw [← hrs1, pre_nil, Bool.and_true] at y34 y92
          by_cases d34 : s[p + 1] = 34
          · have HON : Hid (o = (rdQuo (rs s (p + 2))).map fun q => ((l ++ [s[p + 1]]) ++ q.1, q.2)) := by
              show _ = _
              rw [HOr.out, hrs, rdQuo_esc2 (.inl d34)]
              rw [Option.map_map]
              congr 1
              funext q
              simp
            have P34 : Hid (pre (⟨#[34]⟩ : ByteArray).data.toList (rs s (p + 1)) = true) := by
              show pre [34] _ = _
              rw [y34, d34]
              rfl
            clear hrs hrs1 h34 h92 y34 y92 d34
            go_wp2_with fail
            go_quiet (fail)
            have HQ2 := Lib.hid (HQ.out.drewN nq)
            generalize wr.drewN nq = w2 at HQ2 ⊢
            clear c0 c1
            have c0 := Blk.cell HQ2.out.rd 0
            have c1 := Blk.cell HQ2.out.rd 1
            go_wp2_with fail
            go_quiet (fail)
            have HQ3 := Lib.hid (HQ2.out.drewN nq)
            generalize w2.drewN nq = w3 at HQ3 ⊢
            clear c0 c1
            have c1 := Blk.cell HQ3.out.rd 1
            have f1 := Blk.frozen HQ3.out.rd 1
            have HQ4 : Hid (QR w rb s far bb (p + 1) l (w3.setCell ⟨rb, 1, none⟩ (.int .i64 ((p : Int) + 1)))) := by
              have := HQ3.out.go hlt hwb (p + 1)
              rw [show ((p + 1 : Nat) : Int) = (p : Int) + 1 by omega] at this
              exact this
            go_wp2_with fail
            generalize (w3.setCell ⟨rb, 1, none⟩ (.int .i64 ((p : Int) + 1))) = w4 at HQ4 ⊢
            clear c1 f1
            refine (has_any rb s ⟨#[34]⟩ (p + 1) false far w4 HQ4.out.rd hp hs true P34.out).mono ?_
            rintro e wz ⟨rfl, nz, rfl⟩
            have HQh := Lib.hid (HQ4.out.drewN nz)
            generalize w4.drewN nz = wh at HQh ⊢
            have c0 := Blk.cell HQh.out.rd 0
            have c1 := Blk.cell HQh.out.rd 1
            go_wp2_with fail
            go_quiet (fail)
            have HQ6 := Lib.hid (HQh.out.drewN nq)
            generalize wh.drewN nq = w6 at HQ6 ⊢
            clear c0 c1
            have c1 := Blk.cell HQ6.out.rd 1
            have f1 := Blk.frozen HQ6.out.rd 1
            have HQ7 : Hid (QR w rb s far bb (p + 2) l (w6.setCell ⟨rb, 1, none⟩ (.int .i64 ((p : Int) + 1 + 1)))) := by
              have := HQ6.out.go hlt hwb (p + 2)
              rw [show ((p + 2 : Nat) : Int) = (p : Int) + 1 + 1 by omega] at this
              exact this
            go_wp2_with fail
            generalize (w6.setCell ⟨rb, 1, none⟩ (.int .i64 ((p : Int) + 1 + 1))) = w7 at HQ7 ⊢
            clear c1 f1
            have hzb := HQ7.out.zb
            refine (writeByte_any bb (bb + 1) (Lib.byteCells l) s[p + 1] _ HQ7.out.bl (by rw [Lib.byteCells_length]; omega) hzb).mono ?_
            rintro e w9 ⟨rfl, h9, k9⟩
            have HQ9 := Lib.hid (HQ7.out.push hlt hwb h9 k9)
            clear h9 k9 hzb
            go_wp2_with fail
            go_roundg (s.size + 1 - (p + 2))
            case measure => omega
            case rel => exact ⟨p + 2, l ++ [s[p + 1]], by omega, by simp; omega, by omega, HON, HQ9⟩
          have P34 : Hid (pre (⟨#[34]⟩ : ByteArray).data.toList (rs s (p + 1)) = false) := by
            show pre [34] _ = _
            rw [y34, beq_eq_false_iff_ne]
            exact fun e => d34 e.symm
          by_cases d92 : s[p + 1] = 92
          · have HON : Hid (o = (rdQuo (rs s (p + 2))).map fun q => ((l ++ [s[p + 1]]) ++ q.1, q.2)) := by
              show _ = _
              rw [HOr.out, hrs, rdQuo_esc2 (.inr d92)]
              rw [Option.map_map]
              congr 1
              funext q
              simp
            have P92 : Hid (pre (⟨#[92]⟩ : ByteArray).data.toList (rs s (p + 1)) = true) := by
              show pre [92] _ = _
              rw [y92, d92]
              rfl
            clear hrs hrs1 h34 h92 y34 y92 d34 d92
            go_wp2_with fail
            go_quiet (fail)
            have HQ2 := Lib.hid (HQ.out.drewN nq)
            generalize wr.drewN nq = w2 at HQ2 ⊢
            clear c0 c1
            have c0 := Blk.cell HQ2.out.rd 0
            have c1 := Blk.cell HQ2.out.rd 1
            go_wp2_with fail
            go_quiet (fail)
            have HQ3 := Lib.hid (HQ2.out.drewN nq)
            generalize w2.drewN nq = w3 at HQ3 ⊢
            clear c0 c1
            have c1 := Blk.cell HQ3.out.rd 1
            have f1 := Blk.frozen HQ3.out.rd 1
            have HQ4 : Hid (QR w rb s far bb (p + 1) l (w3.setCell ⟨rb, 1, none⟩ (.int .i64 ((p : Int) + 1)))) := by
              have := HQ3.out.go hlt hwb (p + 1)
              rw [show ((p + 1 : Nat) : Int) = (p : Int) + 1 by omega] at this
              exact this
            go_wp2_with fail
            generalize (w3.setCell ⟨rb, 1, none⟩ (.int .i64 ((p : Int) + 1))) = w4 at HQ4 ⊢
            clear c1 f1
            refine (has_any rb s ⟨#[34]⟩ (p + 1) false far w4 HQ4.out.rd hp hs false P34.out).mono ?_
            rintro e wz ⟨rfl, nz, rfl⟩
            have HQg := Lib.hid (HQ4.out.drewN nz)
            generalize w4.drewN nz = wg at HQg ⊢
            go_wp2_with fail
            refine (has_any rb s ⟨#[92]⟩ (p + 1) false far wg HQg.out.rd hp hs true P92.out).mono ?_
            rintro e wz ⟨rfl, nz, rfl⟩
            have HQh := Lib.hid (HQg.out.drewN nz)
            generalize wg.drewN nz = wh at HQh ⊢
            have c0 := Blk.cell HQh.out.rd 0
            have c1 := Blk.cell HQh.out.rd 1
            go_wp2_with fail
            go_quiet (fail)
            have HQ6 := Lib.hid (HQh.out.drewN nq)
            generalize wh.drewN nq = w6 at HQ6 ⊢
            clear c0 c1
            have c1 := Blk.cell HQ6.out.rd 1
            have f1 := Blk.frozen HQ6.out.rd 1
            have HQ7 : Hid (QR w rb s far bb (p + 2) l (w6.setCell ⟨rb, 1, none⟩ (.int .i64 ((p : Int) + 1 + 1)))) := by
              have := HQ6.out.go hlt hwb (p + 2)
              rw [show ((p + 2 : Nat) : Int) = (p : Int) + 1 + 1 by omega] at this
              exact this
            go_wp2_with fail
            generalize (w6.setCell ⟨rb, 1, none⟩ (.int .i64 ((p : Int) + 1 + 1))) = w7 at HQ7 ⊢
            clear c1 f1
            have hzb := HQ7.out.zb
            refine (writeByte_any bb (bb + 1) (Lib.byteCells l) s[p + 1] _ HQ7.out.bl (by rw [Lib.byteCells_length]; omega) hzb).mono ?_
            rintro e w9 ⟨rfl, h9, k9⟩
            have HQ9 := Lib.hid (HQ7.out.push hlt hwb h9 k9)
            clear h9 k9 hzb
            go_wp2_with fail
            go_roundg (s.size + 1 - (p + 2))
            case measure => omega
            case rel => exact ⟨p + 2, l ++ [s[p + 1]], by omega, by simp; omega, by omega, HON, HQ9⟩
          · have HON : Hid (o = none) := by
              show _ = _
              rw [HOr.out, hrs, rdQuo_bad (by rintro (e | e); exact d34 e; exact d92 e)]
              rfl
            have P92 : Hid (pre (⟨#[92]⟩ : ByteArray).data.toList (rs s (p + 1)) = false) := by
              show pre [92] _ = _
              rw [y92, beq_eq_false_iff_ne]
              exact fun e => d92 e.symm
            clear hrs hrs1 h34 h92 y34 y92 d34 d92
            go_wp2_with fail
            go_quiet (fail)
            have HQ2 := Lib.hid (HQ.out.drewN nq)
            generalize wr.drewN nq = w2 at HQ2 ⊢
            clear c0 c1
            have c0 := Blk.cell HQ2.out.rd 0
            have c1 := Blk.cell HQ2.out.rd 1
            go_wp2_with fail
            go_quiet (fail)
            have HQ3 := Lib.hid (HQ2.out.drewN nq)
            generalize w2.drewN nq = w3 at HQ3 ⊢
            clear c0 c1
            have c1 := Blk.cell HQ3.out.rd 1
            have f1 := Blk.frozen HQ3.out.rd 1
            have HQ4 : Hid (QR w rb s far bb (p + 1) l (w3.setCell ⟨rb, 1, none⟩ (.int .i64 ((p : Int) + 1)))) := by
              have := HQ3.out.go hlt hwb (p + 1)
              rw [show ((p + 1 : Nat) : Int) = (p : Int) + 1 by omega] at this
              exact this
            go_wp2_with fail
            generalize (w3.setCell ⟨rb, 1, none⟩ (.int .i64 ((p : Int) + 1))) = w4 at HQ4 ⊢
            clear c1 f1
            refine (has_any rb s ⟨#[34]⟩ (p + 1) false far w4 HQ4.out.rd hp hs false P34.out).mono ?_
            rintro e wz ⟨rfl, nz, rfl⟩
            have HQg := Lib.hid (HQ4.out.drewN nz)
            generalize w4.drewN nz = wg at HQg ⊢
            go_wp2_with fail
            refine (has_any rb s ⟨#[92]⟩ (p + 1) false far wg HQg.out.rd hp hs false P92.out).mono ?_
            rintro e wz ⟨rfl, nz, rfl⟩
            have HQh := Lib.hid (HQg.out.drewN nz)
            generalize wg.drewN nz = wh at HQh ⊢
            have HKb := Lib.hid (HQh.out.bk.far (p := ⟨rb, 2, none⟩) (show w.heap.size ≠ rb by omega) (.bool true))
            have HRb := Lib.hid (HQh.out.rd.bads true)
            have HGb := Lib.hid (gr_set HQh.out.gr 2 (.bool true))
            have eb := fun i => HKb.out.cell i
            have fb := fun i => HKb.out.frozen i
            have c2 := Blk.cell HQh.out.rd 2
            have f2 := Blk.frozen HQh.out.rd 2
            go_wp2_with fail
            obtain ⟨⟨r0, r1, r2, r3, r4⟩, gF, kF, _, _⟩ := fin5 HGb.out hlt HKb.out (.int .i64 0) (.int .i64 0) (.int .i64 0) (.string ⟨#[]⟩) (.slice none 0 0) _ rfl
            refine bodyPost_ret (v := vN (vI 0 0 0)) (by simp [results, Tryz.results89, go_sem, r0, r1, r2, r3, r4, vN, vI, Vl.kind, Vl.int_, Vl.to_, Vl.text]) rfl ⟨_, rfl, gF, rfl, p + 1, true, far, kF _ _ HRb.out, by omega, ?_⟩
            rw [HON.out]
            rfl
        · have hre := rs_end (s := s) (a := p + 1) (by omega)
          rw [hre] at hrs
          have HON : Hid (o = none) := by
            show _ = _
            rw [HOr.out, hrs, rdQuo_one]
            rfl
          have P34 : Hid (pre (⟨#[34]⟩ : ByteArray).data.toList (rs s (p + 1)) = false) := by
            show pre [34] _ = _
            rw [hre]
            rfl
          have P92 : Hid (pre (⟨#[92]⟩ : ByteArray).data.toList (rs s (p + 1)) = false) := by
            show pre [92] _ = _
            rw [hre]
            rfl
          clear hrs hre h34 h92
          go_wp2_with fail
          go_quiet (fail)
          have HQ2 := Lib.hid (HQ.out.drewN nq)
          generalize wr.drewN nq = w2 at HQ2 ⊢
          clear c0 c1
          have c0 := Blk.cell HQ2.out.rd 0
          have c1 := Blk.cell HQ2.out.rd 1
          go_wp2_with fail
          go_quiet (fail)
          have HQ3 := Lib.hid (HQ2.out.drewN nq)
          generalize w2.drewN nq = w3 at HQ3 ⊢
          clear c0 c1
          have c1 := Blk.cell HQ3.out.rd 1
          have f1 := Blk.frozen HQ3.out.rd 1
          have HQ4 : Hid (QR w rb s far bb (p + 1) l (w3.setCell ⟨rb, 1, none⟩ (.int .i64 ((p : Int) + 1)))) := by
            have := HQ3.out.go hlt hwb (p + 1)
            rw [show ((p + 1 : Nat) : Int) = (p : Int) + 1 by omega] at this
            exact this
          go_wp2_with fail
          generalize (w3.setCell ⟨rb, 1, none⟩ (.int .i64 ((p : Int) + 1))) = w4 at HQ4 ⊢
          clear c1 f1
          refine (has_any rb s ⟨#[34]⟩ (p + 1) false far w4 HQ4.out.rd hp hs false P34.out).mono ?_
          rintro e wz ⟨rfl, nz, rfl⟩
          have HQg := Lib.hid (HQ4.out.drewN nz)
          generalize w4.drewN nz = wg at HQg ⊢
          go_wp2_with fail
          refine (has_any rb s ⟨#[92]⟩ (p + 1) false far wg HQg.out.rd hp hs false P92.out).mono ?_
          rintro e wz ⟨rfl, nz, rfl⟩
          have HQh := Lib.hid (HQg.out.drewN nz)
          generalize wg.drewN nz = wh at HQh ⊢
          have HKb := Lib.hid (HQh.out.bk.far (p := ⟨rb, 2, none⟩) (show w.heap.size ≠ rb by omega) (.bool true))
          have HRb := Lib.hid (HQh.out.rd.bads true)
          have HGb := Lib.hid (gr_set HQh.out.gr 2 (.bool true))
          have eb := fun i => HKb.out.cell i
          have fb := fun i => HKb.out.frozen i
          have c2 := Blk.cell HQh.out.rd 2
          have f2 := Blk.frozen HQh.out.rd 2
          go_wp2_with fail
          obtain ⟨⟨r0, r1, r2, r3, r4⟩, gF, kF, _, _⟩ := fin5 HGb.out hlt HKb.out (.int .i64 0) (.int .i64 0) (.int .i64 0) (.string ⟨#[]⟩) (.slice none 0 0) _ rfl
          refine bodyPost_ret (v := vN (vI 0 0 0)) (by simp [results, Tryz.results89, go_sem, r0, r1, r2, r3, r4, vN, vI, Vl.kind, Vl.int_, Vl.to_, Vl.text]) rfl ⟨_, rfl, gF, rfl, p + 1, true, far, kF _ _ HRb.out, by omega, ?_⟩
          rw [HON.out]
          rfl
      · have b92 : ((s[p].toNat : Int) == 92) = false := by
          rw [G92.out, beq_eq_false_iff_ne]
          exact h92
        have HON : Hid (o = (rdQuo (rs s (p + 1))).map fun q => ((l ++ [s[p]]) ++ q.1, q.2)) := by
          show _ = _
          rw [HOr.out, hrs, rdQuo_chr h34 h92]
          rw [Option.map_map]
          congr 1
          funext q
          simp
        clear hrs h34 h92
        go_wp2_with fail
        go_quiet (fail)
        have HQ2 := Lib.hid (HQ.out.drewN nq)
        generalize wr.drewN nq = w2 at HQ2 ⊢
        clear c0 c1
        have c0 := Blk.cell HQ2.out.rd 0
        have c1 := Blk.cell HQ2.out.rd 1
        go_wp2_with fail
        go_quiet (fail)
        have HQ3 := Lib.hid (HQ2.out.drewN nq)
        generalize w2.drewN nq = w3 at HQ3 ⊢
        clear c0 c1
        have c1 := Blk.cell HQ3.out.rd 1
        have f1 := Blk.frozen HQ3.out.rd 1
        have HQ4 : Hid (QR w rb s far bb (p + 1) l (w3.setCell ⟨rb, 1, none⟩ (.int .i64 ((p : Int) + 1)))) := by
          have := HQ3.out.go hlt hwb (p + 1)
          rw [show ((p + 1 : Nat) : Int) = (p : Int) + 1 by omega] at this
          exact this
        go_wp2_with fail
        generalize (w3.setCell ⟨rb, 1, none⟩ (.int .i64 ((p : Int) + 1))) = w4 at HQ4 ⊢
        clear c1 f1
        have hzb := HQ4.out.zb
        refine (writeByte_any bb (bb + 1) (Lib.byteCells l) s[p] _ HQ4.out.bl (by rw [Lib.byteCells_length]; omega) hzb).mono ?_
        rintro e w9 ⟨rfl, h9, k9⟩
        have HQ9 := Lib.hid (HQ4.out.push hlt hwb h9 k9)
        clear h9 k9 hzb
        go_wp2_with fail
        go_roundg (s.size + 1 - (p + 1))
        case measure => omega
        case rel => exact ⟨p + 1, l ++ [s[p]], by omega, by simp; omega, by omega, HON, HQ9⟩
    · obtain rfl : s.size = p := by omega
      have j2 : decide ((s.size : Int) < (s.size : Int)) = false := decide_eq_false (by omega)
      have HON : Hid (o = none) := by
        show _ = _
        rw [HOr.out, rs_end (Nat.le_refl _), rdQuo_nil]
        rfl
      go_wp2_with fail
      go_quiet (fail)
      have HQ2 := Lib.hid (HQ.out.drewN nq)
      generalize wr.drewN nq = w2 at HQ2 ⊢
      clear c0 c1
      have HKb := Lib.hid (HQ2.out.bk.far (p := ⟨rb, 2, none⟩) (show w.heap.size ≠ rb by omega) (.bool true))
      have HRb := Lib.hid (HQ2.out.rd.bads true)
      have HGb := Lib.hid (gr_set HQ2.out.gr 2 (.bool true))
      have eb := fun i => HKb.out.cell i
      have fb := fun i => HKb.out.frozen i
      have c2 := Blk.cell HQ2.out.rd 2
      have f2 := Blk.frozen HQ2.out.rd 2
      go_wp2_with fail
      obtain ⟨⟨r0, r1, r2, r3, r4⟩, gF, kF, _, _⟩ := fin5 HGb.out hlt HKb.out (.int .i64 0) (.int .i64 0) (.int .i64 0) (.string ⟨#[]⟩) (.slice none 0 0) _ rfl
      refine bodyPost_ret (v := vN (vI 0 0 0)) (by simp [results, Tryz.results89, go_sem, r0, r1, r2, r3, r4, vN, vI, Vl.kind, Vl.int_, Vl.to_, Vl.text]) rfl ⟨_, rfl, gF, rfl, s.size, true, far, kF _ _ HRb.out, by omega, ?_⟩
      rw [HON.out]
      rfl
end Go.Proofs.YtbdcimakdiegnaaGreatDoor
