/-
  DERIVED. The walk of prop.reader's list. Conditions: sizes; tables are laid. By an AI agent.
-/
import Derived.Test.YtbdcimakdiegnaaGreatDoorRvListM
import Derived.Deep.RegionLaw
namespace Go.Proofs.YtbdcimakdiegnaaGreatDoor
open Go.RowKit

set_option maxHeartbeats 1500000 in
set_option maxRecDepth 100000 in
theorem list_any (rb : Nat) (s : ByteArray) (a : Nat) (far : Bool) (m : Int) (w : World) (h : RdM w rb s a false far) (ha : a ≤ s.size) (hs : s.size ≤ 400000) (hm : En m w) :
    Calls Tryz.prog 92 #[.pointer (some ⟨rb, 0, none⟩)] w fun e w' => ∃ v : Vl × Value, e = .returned (AV v) ∧ RdOut2 (rdList (rs s a)) rb s far w v w' := by
  obtain ⟨i0, hi0, hz0', hz1, hz2⟩ := info_parts val_info
  have hrb := Blk.lt h
  obtain ⟨X, hX, hr, hK, hg, hz⟩ := start5 h
  obtain ⟨gv, hgv⟩ : ∃ gv, gv = w.heap.size + 1 := ⟨_, rfl⟩
  have hgw : w.heap.size < gv := by omega
  have hL0 : LR w rb s a false far gv (.slice none 0 0) [] (X.alloc (.cells #[.int .i64 7, .int .i64 0, .int .i64 0, .string ⟨#[]⟩, .slice none 0 0] 24)) := by
    refine ⟨Blk.alloc hr _, hK.alloc _, ?_, World.ownsRow_nil _ _ _ _, gr_below hg ((Below.refl _ _).alloc (Nat.le_refl _) _), fun x hx => by cases hx⟩
    rw [hgv, ← hz]
    exact Blk.new X _ _
  have HEN : Hid (∀ W, w.grownBy W (some rb) → En m W) := fun W hW => hm.gr h hW
  have HX := Lib.hid hX
  have HL0 := Lib.hid hL0
  have HZ := Lib.hid (hz.trans hgv.symm)
  obtain ⟨O, hO⟩ : ∃ O, O = rdList (rs s a) := ⟨_, rfl⟩
  rw [← hO]
  unfold rdList at hO
  clear h hX hr hK hg hz hgv hL0 hm
  go_enter Tryz.func92, Tryz.ntmps92
  go_upto_region 1 with fail
  rw [← HX.out]
  go_wp2_with fail
  rw [HZ.out]
  generalize (X.alloc (.cells #[.int .i64 7, .int .i64 0, .int .i64 0, .string ⟨#[]⟩, .slice none 0 0] 24)) = w1 at HL0 ⊢
  cases q1 : pre [93] (rs s a)
  case true =>
    rw [q1, if_pos rfl, rs_drop] at hO
    have HO := Lib.hid hO
    clear hO
    refine (take_yes rb s ⟨#[93]⟩ a false far w1 HL0.out.rd ha hs q1).mono ?_
    rintro e w2 ⟨rfl, hr2, hg2⟩
    have HL2 := Lib.hid (HL0.out.step hrb hgw hg2 hr2)
    have hat : a + 1 ≤ s.size := rs_pre q1 ha
    clear hr2 hg2 q1
    have e2 := fun i => HL2.out.bk.cell i
    have f2 := fun i => HL2.out.bk.frozen i
    have v2 := fun i => HL2.out.bv.cell i
    go_wp2_with fail
    obtain ⟨⟨r0, r1, r2, r3, r4⟩, gF, kF, mF⟩ := HL2.out.fin hrb hgw (by simp) _ rfl
    refine bodyPost_ret (v := AV (lsV [], .slice none 0 0)) (by simp [results, Tryz.results92, go_sem, r0, r1, r2, r3, r4, AV, lsV, Vl.kind, Vl.int_, Vl.to_, Vl.text]) rfl ⟨_, rfl, gF, mF, a + 1, false, far, kF, hat, ?_⟩
    rw [HO.out]
    exact ⟨rfl, by simp, rfl, rfl⟩
  case false =>
  have HO0 : Hid (O = (rdItems (s.size - a + 1) (rs s a)).map fun q => (lsV ([] ++ q.1), q.2.1, false || q.2.2)) := by
    show _ = _
    rw [hO, q1, if_neg (by decide), rs_len]
    rfl
  clear hO
  refine (take_no rb s ⟨#[93]⟩ a false far w1 HL0.out.rd ha hs q1).mono ?_
  rintro e w2 ⟨rfl, n2, rfl⟩
  have HL2 := Lib.hid (HL0.out.draw n2)
  generalize w1.drewN n2 = w2 at HL2 ⊢
  clear q1
  go_wp2_with fail
  go_loopg [] (s.size + 2 - a) (fun gg wr => ∃ (p : Nat) (bd far' : Bool) (vs : Value) (M : List Vl), p ≤ s.size ∧ M.length ≤ s.size + 1 ∧ ((bd = true ∧ Hid (O = none)) ∨ (bd = false ∧ M.length ≤ p ∧ p + gg = s.size + 2 ∧ ∃ (F : Bool) (n : Nat), Hid (far' = (far || F)) ∧ s.size - p < n ∧ Hid (O = (rdItems n (rs s p)).map fun q => (lsV (M ++ q.1), q.2.1, F || q.2.2)))) ∧ Hid (LR w rb s p bd far' gv vs M wr))
  case atStart => exact ⟨a, false, far, .slice none 0 0, [], ha, by simp, .inr ⟨rfl, by simp, by omega, false, s.size - a + 1, by show far = (far || false); simp, by omega, HO0⟩, HL2⟩
  case round =>
    obtain ⟨p, bd, far', vs, M, hp, hMp, hst, HL⟩ := hrel
    have hMs : M.length * 64 ≤ 140737488351232 := by omega
    rcases hst with ⟨rfl, HON⟩ | ⟨rfl, hMq, hpg, F, n, HF, hn, HO⟩
    · obtain ⟨A, c, rfl, _⟩ := own_reads HL.out.own
      have c2 := Blk.cell HL.out.rd 2
      have e2 := fun i => HL.out.bk.cell i
      have f2 := fun i => HL.out.bk.frozen i
      have v2 := fun i => HL.out.bv.cell i
      go_wp2_with fail
      obtain ⟨⟨r0, r1, r2, r3, r4⟩, gF, kF, mF⟩ := HL.out.fin hrb hgw hMs _ rfl
      refine bodyPost_ret (v := AV (lsV M, .slice A M.length c)) (by simp [results, Tryz.results92, go_sem, r0, r1, r2, r3, r4, AV, lsV, Vl.kind, Vl.int_, Vl.to_, Vl.text]) rfl ⟨_, rfl, gF, mF, p, true, far', kF, hp, ?_⟩
      rw [HON.out]
    · have HI : Hid (∀ W, RdM W rb s p false far' → w.grownBy W (some rb) → Calls Tryz.prog 119 #[.pointer (some ⟨rb, 0, none⟩)] W fun e w' => ∃ x, e = .returned (vN x) ∧ RdOut1 (rdItem (rs s p)) rb s far' W x w') := fun W hW hG => item_any rb s p far' m W hW hp hs (HEN.out W hG)
      have c2 := Blk.cell HL.out.rd 2
      have c4 := HL.out.bv.cell 4
      obtain ⟨ri, hri⟩ : ∃ ri, ri = rdItem (rs s p) := ⟨_, rfl⟩
      rw [← hri] at HI
      have HRI := Lib.hid hri
      clear hri
      go_wp2_with fail
      go_cut [] (fun wc => ∃ (p' : Nat) (bd' far2 : Bool) (x : Vl) (vs' : Value), Hid (LR w rb s p' bd' far2 gv vs' (M ++ [x]) wc) ∧ p' ≤ s.size ∧ Hid (StI ri far' bd' far2 s p' x))
      case first =>
        go_region_law (first | (refine step_append_any _ (by rfl) _ _ _ (by rfl) (gv + 1) 24 i0 vZ 5 64 Tryz.underlying22 hi0 hz0' hz1 hz2 rfl (by decide) vs M.length _ (by rfl) (HC5.out.own.alloc _) (w5.heap.size + 1) (some ⟨w5.heap.size, 0, none⟩) 1 1 [.int .i64 x.kind, .int .i64 x.int_, .int .i64 x.to_, .string x.text, .slice none 0 0] (by rfl) ⟨rfl, fun _ => ⟨_, rfl, by simp, newCells w5 (vnV x) _⟩⟩ (vnV_one x) (by unfold maxLen; omega) (by omega) (by have := HC5.out.bv.lt; simp; omega) ?_; intro v7 w7 hown7 hg7 hv7; obtain ⟨g', cap', rfl⟩ := ownsRow_succ hown7; have h77 := HC5.out.app hrb hgw it5.out hown7 hg7; have HC7 := Lib.hid h77.2; have s1 := h77.1.cell 4; have s2 := h77.1.frozen 4; clear h77 hown7 hg7 hv7) | (go_simp; go_at_call 119; refine (HI.out wr.drew HL.out.rd (gr_trans HL.out.gr (gr_drewN wr 1 _))).mono ?_; rintro e w5 ⟨x, rfl, ho5⟩; obtain ⟨p', bd', far2, gr5, it5, rd5, le5, st5⟩ := ho5.parts; have HC5 := Lib.hid ((HL.out.draw 1).step hrb hgw gr5 rd5); have it5 := Lib.hid it5; have st5 := Lib.hid st5; have c5c := HC5.out.bv.cell 4; have c5d : ∀ o, (w5.alloc o).cell? ⟨gv, 4, none⟩ = some vs := fun o => (HC5.out.bv.alloc o).cell 4; clear gr5 rd5; unfold vN))
        all_goals (go_wp2_with fail; go_meet)
        all_goals exact ⟨_, _, _, _, _, HC7, le5, st5⟩
      case rest =>
      obtain ⟨p', bd', far2, x, vs', HL5, hp5, st5⟩ := hcut
      clear c2 c4 HI HL
      obtain ⟨M2, hM2e⟩ : ∃ M2, M2 = M ++ [x] := ⟨_, rfl⟩
      rw [← hM2e] at HL5
      have hM3 : M2.length ≤ M.length + 1 := by rw [hM2e]; simp
      have hM2 : M2.length * 64 ≤ 140737488351232 := by omega
      have HM2 := Lib.hid hM2e
      clear hM2e
      obtain ⟨n, rfl⟩ : ∃ k, n = k + 1 := ⟨n - 1, by omega⟩
      have hri := HRI.out
      rcases ri with _ | ⟨y, r, f⟩
      · obtain rfl : bd' = true := st5.out
        have HON : Hid (O = none) := by
          show _ = _
          rw [HO.out, rdItems, ← hri]
          rfl
        clear HRI hri HO
        go_wp2_with fail
        cases q1 : pre [93] (rs s p')
        case true =>
          refine (take_yes rb s ⟨#[93]⟩ p' true far2 wc HL5.out.rd hp5 hs q1).mono ?_
          rintro e w6 ⟨rfl, hr6, hg6⟩
          have HL6 := Lib.hid (HL5.out.step hrb hgw hg6 hr6)
          have hat : p' + 1 ≤ s.size := rs_pre q1 hp5
          clear hr6 hg6
          clear q1
          obtain ⟨A, c, rfl, _⟩ := own_reads HL6.out.own
          have e2 := fun i => HL6.out.bk.cell i
          have f2 := fun i => HL6.out.bk.frozen i
          have v2 := fun i => HL6.out.bv.cell i
          go_wp2_with fail
          obtain ⟨⟨r0, r1, r2, r3, r4⟩, gF, kF, mF⟩ := HL6.out.fin hrb hgw hM2 _ rfl
          refine bodyPost_ret (v := AV (lsV M2, .slice A M2.length c)) (by simp [results, Tryz.results92, go_sem, r0, r1, r2, r3, r4, AV, lsV, Vl.kind, Vl.int_, Vl.to_, Vl.text]) rfl ⟨_, rfl, gF, mF, p' + 1, true, far2, kF, by omega, ?_⟩
          rw [HON.out]
        case false =>
          refine (take_no rb s ⟨#[93]⟩ p' true far2 wc HL5.out.rd hp5 hs q1).mono ?_
          rintro e wz ⟨rfl, nz, rfl⟩
          have HL6 := Lib.hid (HL5.out.draw nz)
          generalize wc.drewN nz = w6 at HL6 ⊢
          clear q1
          have c2 := Blk.cell HL6.out.rd 2
          have f2 := Blk.frozen HL6.out.rd 2
          have HL7 := Lib.hid (HL6.out.bads hrb hgw true)
          go_wp2_with fail
          go_roundg 0
          case measure => omega
          case rel => exact ⟨p', true, far2, vs', M2, hp5, by omega, .inl ⟨rfl, HON⟩, HL7⟩
      · obtain ⟨hb5, hf5, hr5, hx5⟩ : bd' = false ∧ far2 = (far' || f) ∧ rs s p' = r ∧ x = y := st5.out
        subst hb5
        subst hx5
        have hsh : r.length ≤ (rs s p).length := rdItem_sh (rs s p) _ hri.symm
        rw [← hr5, rs_len, rs_len] at hsh
        have hpp : p ≤ p' := by omega
        have HF2 : Hid (far2 = (far || (F || f))) := by
          show _ = _
          rw [hf5, HF.out, Bool.or_assoc]
        have HO2 : Hid (O = (if pre [93] r = true then some ([x], r.drop 1, f) else if pre [44, 32] r = true then (rdItems n (r.drop 2)).map fun q => (x :: q.1, q.2.1, f || q.2.2) else none).map fun q => (lsV (M ++ q.1), q.2.1, F || q.2.2)) := by
          show _ = _
          rw [HO.out, rdItems, ← hri]
        rw [← hr5] at HO2
        clear HRI hri HO hf5 hr5 hsh HF
        go_wp2_with fail
        cases q1 : pre [93] (rs s p')
        case true =>
          have HON : Hid (O = some (lsV M2, rs s (p' + 1), F || f)) := by
            show _ = _
            rw [HO2.out, if_pos q1, rs_drop, HM2.out]
            rfl
          refine (take_yes rb s ⟨#[93]⟩ p' false far2 wc HL5.out.rd hp5 hs q1).mono ?_
          rintro e w6 ⟨rfl, hr6, hg6⟩
          have HL6 := Lib.hid (HL5.out.step hrb hgw hg6 hr6)
          have hat : p' + 1 ≤ s.size := rs_pre q1 hp5
          clear hr6 hg6
          clear q1
          obtain ⟨A, c, rfl, _⟩ := own_reads HL6.out.own
          have e2 := fun i => HL6.out.bk.cell i
          have f2 := fun i => HL6.out.bk.frozen i
          have v2 := fun i => HL6.out.bv.cell i
          go_wp2_with fail
          obtain ⟨⟨r0, r1, r2, r3, r4⟩, gF, kF, mF⟩ := HL6.out.fin hrb hgw hM2 _ rfl
          refine bodyPost_ret (v := AV (lsV M2, .slice A M2.length c)) (by simp [results, Tryz.results92, go_sem, r0, r1, r2, r3, r4, AV, lsV, Vl.kind, Vl.int_, Vl.to_, Vl.text]) rfl ⟨_, rfl, gF, mF, p' + 1, false, far2, kF, by omega, ?_⟩
          rw [HON.out]
          exact ⟨rfl, HF2.out, rfl, rfl⟩
        case false =>
          refine (take_no rb s ⟨#[93]⟩ p' false far2 wc HL5.out.rd hp5 hs q1).mono ?_
          rintro e wz ⟨rfl, nz, rfl⟩
          have HL6 := Lib.hid (HL5.out.draw nz)
          generalize wc.drewN nz = w6 at HL6 ⊢
          have c2 := Blk.cell HL6.out.rd 2
          go_wp2_with fail
          cases q2 : pre [44, 32] (rs s p')
          case true =>
            have HO3 : Hid (O = (rdItems n (rs s (p' + 2))).map fun q => (lsV (M2 ++ q.1), q.2.1, (F || f) || q.2.2)) := by
              show _ = _
              rw [HO2.out, if_neg (by rw [q1]; decide), if_pos q2, rs_drop, Option.map_map, HM2.out]
              congr 1
              funext q
              simp [Bool.or_assoc]
            refine (take_yes rb s ⟨#[44, 32]⟩ p' false far2 w6 HL6.out.rd hp5 hs q2).mono ?_
            rintro e w7 ⟨rfl, hr7, hg7⟩
            have HL7 : Hid (LR w rb s (p' + 2) false far2 gv vs' M2 w7) := HL6.out.step hrb hgw hg7 hr7
            have hat : p' + 2 ≤ s.size := rs_pre q2 hp5
            have f2 := Blk.frozen HL7.out.rd 2
            have c7 := Blk.cell HL7.out.rd 2
            have HL8 := Lib.hid (HL7.out.bads hrb hgw false)
            clear hr7 hg7 q1 q2 c2
            go_wp2_with fail
            go_roundg (s.size + 2 - (p' + 2))
            case measure => omega
            case rel => exact ⟨p' + 2, false, far2, vs', M2, hat, by omega, .inr ⟨rfl, by omega, by omega, F || f, n, HF2, by omega, HO3⟩, HL8⟩
          case false =>
            have HON : Hid (O = none) := by
              show _ = _
              rw [HO2.out, if_neg (by rw [q1]; decide), if_neg (by rw [q2]; decide)]
              rfl
            refine (take_no rb s ⟨#[44, 32]⟩ p' false far2 w6 HL6.out.rd hp5 hs q2).mono ?_
            rintro e wy ⟨rfl, ny, rfl⟩
            have HL7 := Lib.hid (HL6.out.draw ny)
            generalize w6.drewN ny = w7 at HL7 ⊢
            have f2 := Blk.frozen HL7.out.rd 2
            have c7 := Blk.cell HL7.out.rd 2
            have HL8 := Lib.hid (HL7.out.bads hrb hgw true)
            clear q1 q2 c2
            go_wp2_with fail
            go_roundg 0
            case measure => omega
            case rel => exact ⟨p', true, far2, vs', M2, hp5, by omega, .inl ⟨rfl, HON⟩, HL8⟩
end Go.Proofs.YtbdcimakdiegnaaGreatDoor
