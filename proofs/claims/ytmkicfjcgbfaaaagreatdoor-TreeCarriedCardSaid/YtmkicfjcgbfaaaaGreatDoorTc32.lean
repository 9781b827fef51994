/-
  DERIVED. The walk of tree.done, for operations without error. Conditions: sizes.
  By an AI agent.
-/
import Derived.Test.YtmkicfjcgbfaaaaGreatDoorTc30
import Derived.Test.YtmkicfjcgbfaaaaGreatDoorTc29
import Derived.Test.YtmkicfjcgbfaaaaGreatDoorTc07
import Derived.Lib.BufferOwn
namespace Go.Proofs.YtmkicfjcgbfaaaaGreatDoor
open Go.RowKit

/-- what done leaves, its nested memory in blocks of a sort -/
def DoneS (S : Nat → Prop) (g : Nat) (l : List Bl) (w : World) (e : Ending) (w' : World) : Prop := ∃ (g' cap' n : Nat) (M : List BK), e = .returned (.slice (some ⟨g', 0, none⟩) n cap') ∧ M.length = n ∧ M.map Prod.fst = l ∧ RowS S w' g' cap' M ∧ w.grownBy w' (some g) ∧ (g' = g ∨ w.heap.size ≤ g')
/-- what done leaves -/
def DoneR (g : Nat) (l : List Bl) (w : World) (e : Ending) (w' : World) : Prop := ∃ (g' cap' n : Nat) (M : List BK), e = .returned (.slice (some ⟨g', 0, none⟩) n cap') ∧ M.length = n ∧ M.map Prod.fst = l ∧ RowB w' g' cap' M ∧ w.grownBy w' (some g) ∧ (g' = g ∨ w.heap.size ≤ g')
theorem grown_more {w w1 w2 : World} {g g' : Nat} (h : w.grownBy w1 (some g)) (k : w1.grownBy w2 (some g')) (hg : g' = g ∨ w.heap.size ≤ g') : w.grownBy w2 (some g) :=
  ⟨k.os.trans h.os, k.tape.trans h.tape, k.output.trans h.output, Nat.le_trans h.size k.size, fun i hi hne => (k.block i (Nat.lt_of_lt_of_le hi h.size) fun e => by
    have e : i = g' := Option.some.inj e
    rcases hg with r | r
    · exact hne (by rw [e, r])
    · omega).trans (h.block i hi hne)⟩
theorem grown_below {w w1 : World} (h : Below w.heap.size w w1) (g : Option Nat) : w.grownBy w1 g := ⟨h.os, h.tape, h.output, h.size, fun i hi _ => h.block i hi⟩

set_option maxRecDepth 100000 in
set_option maxHeartbeats 8000000 in
/-- tree.done -/
theorem doneS_any {S : Nat → Prop} (w : World) (hS : ∀ b, w.heap.size ≤ b → S b) (g cap n : Nat) (M : List BK) (l : List Bl) (os : List Opn) (h : RowS S w g cap M) (hn : M.length = n) (hl : M.map Prod.fst = l) (Ao : Option Addr) (no co : Nat) (ho : ROsX w (fun b => b < w.heap.size ∧ b ≠ g) (.slice Ao no co) os) (hok : OkAll l os) :
    Calls Tryz.prog 48 #[.slice (some ⟨g, 0, none⟩) n cap, .slice Ao no co] w (DoneS S g (applL l os) w) := by
  have hnol := (ho.reads (B := w.heap.size) fun b hb => hb.1).len
  have hno : no * 144 ≤ 140737488351232 := hnol.2.2
  have HNO : Hid (no = os.length) := hnol.1
  have HO := Lib.hid ho
  have HOK := Lib.hid hok
  have HSS := Lib.hid hS
  clear hS
  have H0 := Lib.hid h
  have HL0 : Hid (M.map Prod.fst = applL l (os.take 0)) := hl
  have HN0 := Lib.hid hn
  have HGR : Hid (w.grownBy w (some g)) := grown_below (Below.refl _ _) _
  clear hnol ho hok h hl hn
  go_enter Tryz.func48, Tryz.ntmps48
  go_wp2_with fail
  go_loopg [0, 11] no (fun gg s0 s11 wr => ∃ (k g' cap' nM : Nat) (M' : List BK), k + gg = no ∧ s11 = .int .i64 (k : Int) ∧ s0 = .slice (some ⟨g', 0, none⟩) nM cap' ∧ Hid (M'.length = nM) ∧ Hid (M'.map Prod.fst = applL l (os.take k)) ∧ Hid (RowS S wr g' cap' M') ∧ Hid (w.grownBy wr (some g)) ∧ Hid (g' = g ∨ w.heap.size ≤ g'))
  case atStart => exact ⟨0, g, cap, n, M, by omega, rfl, rfl, HN0, HL0, H0, HGR, .inl rfl⟩
  case round =>
    obtain ⟨k, g', cap', nM, M', hkg, rfl, rfl, hml, hmm, hrow, hgr, hgg⟩ := hrel
    obtain ⟨W1, rfl⟩ : ∃ W1, W1 = wr := ⟨_, rfl⟩
    have hgw := hrow.out.lt
    by_cases hk : k < no
    · obtain ⟨o, hko⟩ : ∃ o, os[k]? = some o := ⟨_, List.getElem?_eq_getElem (by have := HNO.out; omega)⟩
      obtain ⟨f, G, he⟩ := HOK.out k o hko
      have F := G.op_facts he
      have HSN : Hid (applL l (os.take (k + 1)) = applied (applL l (os.take k)) o) := applL_snoc hko
      obtain ⟨L, hL⟩ : ∃ L, L = applL l (os.take k) := ⟨_, rfl⟩
      rw [← hL] at G he F HSN
      have hmm : Hid (M'.map Prod.fst = L) := hmm.out.trans hL.symm
      have HWZ : w.heap.size ≤ W1.heap.size := hgr.out.size
      have HKP : ∀ p : Addr, p.block < w.heap.size ∧ p.block ≠ g → W1.cell? p = w.cell? p := fun p hp => World.cell?_of_block (hgr.out.block _ hp.1 fun e => hp.2 (Option.some.inj e))
      obtain ⟨b, off, Av, nv, cv, rfl, hSb, hc, hrv, hoi⟩ := (HO.out.keep (W' := W1) HKP).at_ (B := w.heap.size) (fun b hb => hb.1) hko
      have HRV : Hid (RV W1 W1.heap.size (.slice Av nv cv) o.val.items) := hrv.reads fun b hb => by omega
      have hid : 0 ≤ o.id ∧ o.id ≤ 1000000 := by
        cases F with
        | ins h hn hid => omega
        | rem h p x hx hxi => rw [← hxi]; exact G.kids.ids x (List.mem_of_getElem? hx)
        | mov h p x hx hxi => rw [← hxi]; exact G.kids.ids x (List.mem_of_getElem? hx)
        | edit h p x hx hxi => rw [← hxi]; exact G.kids.ids x (List.mem_of_getElem? hx)
        | set h p x hx hxi => rw [← hxi]; exact G.kids.ids x (List.mem_of_getElem? hx)
      have HF := Lib.hid F
      have HG := Lib.hid G
      have HKO := Lib.hid hko
      have HOI := Lib.hid hoi
      have hLs : L.length ≤ 2000 := G.kids.short
      have hMs : nM ≤ 2000 := by
        have := congrArg List.length hmm.out
        rw [List.length_map, hml.out] at this
        omega
      have j0 : (0 : Int) ≤ (k : Int) := by omega
      have j1 : (k : Int) < (no : Int) := by omega
      obtain ⟨ok, oi, op, oa, of, ot, ox, on, ⟨vk, vi, vt, vs, vl⟩⟩ := o
      have g0 : W1.cell? ⟨b, off + k * 13, none⟩ = some (.int .i64 ok) := hc 0 _ rfl
      have g1 : W1.cell? ⟨b, off + k * 13 + 1, none⟩ = some (.int .i64 oi) := hc 1 _ rfl
      have g2 : W1.cell? ⟨b, off + k * 13 + 2, none⟩ = some (.int .i64 op) := hc 2 _ rfl
      have g3 : W1.cell? ⟨b, off + k * 13 + 3, none⟩ = some (.int .i64 oa) := hc 3 _ rfl
      have g4 : W1.cell? ⟨b, off + k * 13 + 4, none⟩ = some (.int .i64 of) := hc 4 _ rfl
      have g5 : W1.cell? ⟨b, off + k * 13 + 5, none⟩ = some (.int .i64 ot) := hc 5 _ rfl
      have g6 : W1.cell? ⟨b, off + k * 13 + 6, none⟩ = some (.string ox) := hc 6 _ rfl
      have g7 : W1.cell? ⟨b, off + k * 13 + 7, none⟩ = some (.string on) := hc 7 _ rfl
      have g8 : W1.cell? ⟨b, off + k * 13 + 8, none⟩ = some (.int .i64 vk) := hc 8 _ rfl
      have g9 : W1.cell? ⟨b, off + k * 13 + 9, none⟩ = some (.int .i64 vi) := hc 9 _ rfl
      have g10 : W1.cell? ⟨b, off + k * 13 + 10, none⟩ = some (.int .i64 vt) := hc 10 _ rfl
      have g11 : W1.cell? ⟨b, off + k * 13 + 11, none⟩ = some (.string vs) := hc 11 _ rfl
      have g12 : W1.cell? ⟨b, off + k * 13 + 12, none⟩ = some (.slice Av nv cv) := hc 12 _ rfl
      obtain ⟨wa, hwa⟩ : ∃ wa, wa = W1.alloc (.cells #[.int .i64 ok, .int .i64 oi, .int .i64 op, .int .i64 oa, .int .i64 of, .int .i64 ot, .string ox, .string on, .int .i64 vk, .int .i64 vi, .int .i64 vt, .string vs, .slice Av nv cv] 67) := ⟨_, rfl⟩
      have hal : Below W1.heap.size W1 wa := by rw [hwa]; exact (Below.refl _ _).alloc (Nat.le_refl _) _
      have hza : W1.heap.size < wa.heap.size := by rw [hwa]; simp
      have P0 : Hid (Blk wa W1.heap.size 67 #[.int .i64 ok, .int .i64 oi, .int .i64 op, .int .i64 oa, .int .i64 of, .int .i64 ot, .string ox, .string on, .int .i64 vk, .int .i64 vi, .int .i64 vt, .string vs, .slice Av nv cv]) := by rw [hwa]; exact Blk.new _ _ _
      have HRA := Lib.hid (hrow.out.below hal)
      have HBN := Lib.hid (binD_any (M'.map Prod.fst) (some ⟨g', 0, none⟩) M'.length cap' oi wa wa.heap.size (Nat.le_refl _) HRA.out.rb (by rw [hmm.out]; exact G.kids.rise) (by rw [hmm.out]; exact G.kids.ids) hid)
      rw [hml.out, hmm.out] at HBN
      have HAL := Lib.hid hal
      have HWA := Lib.hid hwa
      clear hL hko G he F hSb hc hrv hid hoi hLs hal hwa HKP
      go_upto_region 4 with fail
      rw [← HWA.out]
      clear g0 g1 g2 g3 g4 g5 g6 g7 g8 g9 g10 g11 g12
      have e1 := P0.out.cell 1
      go_wp2_with fail
      refine HBN.out.mono ?_
      rintro e w2 ⟨⟨i, bb, rfl, hlow⟩, hb2⟩
      have HB2 : Hid (Below W1.heap.size W1 w2) := HAL.out.trans (hb2.mono HAL.out.size)
      have P2 := Lib.hid (P0.out.below hb2 P0.out.lt)
      have HR2 := Lib.hid (hrow.out.below HB2.out)
      have HLOW := Lib.hid hlow
      have hi : i ≤ nM := by
        have := hlow.1
        rw [← hmm.out, List.length_map, hml.out] at this
        exact this
      have hz2 := HB2.out.size
      have i0 : (0 : Int) ≤ (i : Int) := by omega
      have i1 : (i : Int) ≤ (nM : Int) := by omega
      clear hb2 hlow e1
      have e0 := P2.out.cell 0
      have e1 := P2.out.cell 1
      have e2 := P2.out.cell 2
      have e3 := P2.out.cell 3
      have e6 := P2.out.cell 6
      cases HF.out with
      | ins hkd hne hidr q y hy hyi ha hka h5 hl2 =>
        obtain rfl : ok = 1 := hkd
        have HAP := Lib.hid (applied_ins (l := L) rfl hne (List.mem_of_getElem? hy) hyi)
        obtain ⟨a, rfl⟩ : ∃ a : Nat, oa = (a : Int) := ⟨oa.toNat, (Int.toNat_of_nonneg ha).symm⟩
        dsimp only at hidr hyi hne hka HAP
        rw [Int.toNat_natCast] at hka HAP
        have hMl := hml.out
        have HIN := Lib.hid (insertB_any w2 g' cap' M' HR2.out i (by omega) (by omega) oi op ox)
        rw [hMl] at HIN
        obtain ⟨yk, hyk, rfl⟩ := row_at hmm.out hy
        obtain ⟨q', hyq⟩ := put_at (i := i) (x := newB oi op ox) hyk
        have hx3 := put_new (M := M') (i := i) (by omega) (newB oi op ox)
        have hm3 := map_put (M := M') (i := i) (x := newB oi op ox) (by rw [hmm.out]; exact HLOW.out)
        rw [hmm.out] at hm3
        have hl3 : (M'.take i ++ newB oi op ox :: M'.drop i).length = nM + 1 := by rw [List.length_append, List.length_cons, List.length_take, List.length_drop]; omega
        obtain ⟨M3, hM3⟩ : ∃ M3, M3 = M'.take i ++ newB oi op ox :: M'.drop i := ⟨_, rfl⟩
        rw [← hM3] at HIN hyq hx3 hm3 hl3
        have HR3 : Hid (Rise (M3.map Prod.fst) ∧ IdsIn (M3.map Prod.fst)) := by
          show _ ∧ _
          rw [hm3]
          exact ⟨insB_rise HG.out.kids.rise hne, insB_ids HG.out.kids.ids (x := (newB oi op ox).1) (by show 0 ≤ oi ∧ oi ≤ _; omega)⟩
        have HYQ := Lib.hid hyq
        have HX3 := Lib.hid hx3
        have HM3 := Lib.hid hm3
        have HL3 := Lib.hid hl3
        have HNE := Lib.hid hne
        have HYI := Lib.hid hyi
        clear hMl hyk hyq hx3 hm3 hl3 hM3 hne hyi hy
        go_wp2_with fail
        refine HIN.out.mono ?_
        rintro e w3 ⟨g3, cap3, rfl, hrow3, hg3, hat3⟩
        have HG3 : Hid (W1.grownBy w3 (some g')) := Lib.grownBy_trans (grown_below (HB2.out.alloc HB2.out.size _) _) hg3
        have P3 := Lib.hid ((P2.out.alloc _).grown hg3 (fun e => by have := Option.some.inj e; omega))
        have hgg3 : Hid (g3 = g ∨ w.heap.size ≤ g3) := by
          rcases hat3 with e | e
          · rw [e]; exact hgg.out
          · refine .inr (Nat.le_trans HWZ (Nat.le_trans hz2 (Nat.le_trans (Nat.le_succ _) ?_)))
            simpa using e
        have HAT := attach_any w3 (fun b hb => HSS.out b (Nat.le_trans hgr.out.size (Nat.le_trans HG3.out.size hb))) g3 cap3 M3 hrow3 HR3.out.1 HR3.out.2 oi a i q' (newB oi op ox) yk HX3.out rfl HYQ.out HYI.out hka (by omega)
        have HATT := Lib.hid HAT
        clear hrow3 hg3 hat3 HAT e0 e1 e2 e3 e6
        have e1 := P3.out.cell 1
        have e3 := P3.out.cell 3
        go_wp2_with fail
        refine HATT.out.mono ?_
        rintro e w4 ⟨rfl, ⟨kv, hrow4⟩, hg4⟩
        have HW4 : Hid (w.grownBy w4 (some g)) := grown_more (grown_more hgr.out HG3.out hgg.out) hg4 hgg3.out
        have HROW4 := Lib.hid hrow4
        have HM4 : Hid ((M3.set q' (yk.1.withKids (plusK yk.1.kids a oi), kv, yk.2.2)).map Prod.fst = applL l (os.take (k + 1))) := by
          show _ = _
          rw [map_upd HR3.out.1 HYQ.out (fun b => b.withKids (plusK b.kids a oi)), HM3.out, HYI.out, HSN.out, HAP.out]; rfl
        have HL4 : Hid ((M3.set q' (yk.1.withKids (plusK yk.1.kids a oi), kv, yk.2.2)).length = M3.length) := List.length_set ..
        clear hg4 hrow4 e1 e3
        go_wp2_with fail
        go_roundg (no - (k + 1))
        case measure => omega
        case rel => exact ⟨k + 1, g3, cap3, M3.length, _, by omega, by go_num, rfl, HL4, HM4, HROW4, HW4, hgg3⟩
      | rem hkd p x hx hxi h0 hks q y hy hyi hin =>
        obtain rfl : ok = 2 := hkd
        have HAP := Lib.hid (applied_rem (l := L) HG.out.kids rfl (List.mem_of_getElem? hx) hxi)
        dsimp only at hxi HAP
        obtain ⟨xk, hxk, rfl⟩ := row_at hmm.out hx
        obtain ⟨yk, hyk, rfl⟩ := row_at hmm.out hy
        have hip : i = p := HLOW.out.place HG.out.kids.rise hx hxi
        subst hip
        have hMl := hml.out
        have hilt : i < nM := by have := (List.getElem?_eq_some_iff.1 hxk).1; omega
        have hi0 : 0 < i := Nat.pos_of_ne_zero fun e => by
          obtain ⟨r, h1, h2, _⟩ := HG.out.kids.root
          rw [e, h1] at hx
          exact h0 (by rw [← Option.some.inj hx]; exact h2)
        have HRI : Hid (Rise (M'.map Prod.fst) ∧ IdsIn (M'.map Prod.fst)) := by
          show _ ∧ _
          rw [hmm.out]
          exact ⟨HG.out.kids.rise, HG.out.kids.ids⟩
        have hkf : yk.1.kids.length ≤ 500 := HG.out.kids.few _ (List.mem_of_getElem? hy)
        have HDT := Lib.hid (detach_any w2 (fun b hb => HSS.out b (Nat.le_trans hgr.out.size (Nat.le_trans HB2.out.size hb))) g' cap' M' HR2.out HRI.out.1 HRI.out.2 oi i q xk yk hxk hxi hyk hyi (by rw [← hxi]; exact hin) hkf)
        rw [hMl] at HDT
        have HXI := Lib.hid hxi
        have HYI := Lib.hid hyi
        have HYK := Lib.hid hyk
        have HXK := Lib.hid hxk
        clear hxk hyk hx hy hxi hyi hin hMl h0 hks hkf
        go_wp2_with fail
        refine HDT.out.mono ?_
        rintro e w3 ⟨rfl, ⟨kv, hrow3⟩, hg3⟩
        have HG3 : Hid (w.grownBy w3 (some g)) := grown_more (Lib.grownBy_trans hgr.out (grown_below HB2.out _)) hg3 hgg.out
        obtain ⟨M3, hM3⟩ : ∃ M3, M3 = M'.set q (yk.1.withKids (lessK yk.1.kids oi), kv, yk.2.2) := ⟨_, rfl⟩
        have hm3 := map_upd HRI.out.1 HYK.out (fun b => b.withKids (lessK b.kids oi)) kv yk.2.2
        have hl3 : M3.length = nM := by rw [hM3, List.length_set]; exact hml.out
        rw [← hM3] at hrow3 hm3
        rw [hmm.out, HYI.out] at hm3
        have HR3 : Hid (Rise (M3.map Prod.fst)) := by
          show Rise _
          rw [hm3]; exact Rise.upd HG.out.kids.rise fun b => rfl
        obtain ⟨x3, hx3, hx3i⟩ : ∃ x3, (M3.map Prod.fst)[i]? = some x3 ∧ x3.id = oi := by
          rw [hm3]
          refine ⟨_, upd_at (by rw [← hmm.out, List.getElem?_map, HXK.out]; rfl), ?_⟩
          split <;> exact HXI.out
        have HDL := deleteB_any w3 g' cap' M3 hrow3 i (by omega) (by omega)
        rw [hl3] at HDL
        have HDLL := Lib.hid HDL
        have HM4 : Hid ((M3.take i ++ M3.drop (i + 1)).map Prod.fst = applL l (os.take (k + 1))) := by
          show _ = _
          rw [List.map_append, List.map_take, List.map_drop, ← filter_out HR3.out hx3, hx3i, hm3, HSN.out, HAP.out]
        have i3 : (i : Int) + 1 ≤ (nM : Int) := by omega
        clear hg3 hrow3 hM3 hm3 hl3 hx3 hx3i HDL e0 e1 e2 e3 e6
        go_wp2_with fail
        refine HDLL.out.mono ?_
        rintro e w4 ⟨cap4, rfl, hrow4, hg4, _⟩
        have HW4 : Hid (w.grownBy w4 (some g)) := grown_more HG3.out hg4 hgg.out
        have HROW4 := Lib.hid hrow4
        obtain ⟨M4, hM4⟩ : ∃ M4, M4 = M3.take i ++ M3.drop (i + 1) := ⟨_, rfl⟩
        rw [← hM4] at HM4 HROW4 ⊢
        clear hg4 hrow4 hM4
        go_wp2_with fail
        go_roundg (no - (k + 1))
        case measure => omega
        case rel => exact ⟨k + 1, g', cap4, M4.length, M4, by omega, by go_num, rfl, Lib.hid rfl, HM4, HROW4, HW4, hgg⟩
      | mov hkd p x hx hxi h0 q y hy hyi hin r z hz hzi ha hka =>
        obtain rfl : ok = 3 := hkd
        have HAP := Lib.hid (applied_mov (l := L) HG.out.kids rfl (List.mem_of_getElem? hx) hxi)
        obtain ⟨a, rfl⟩ : ∃ a : Nat, oa = (a : Int) := ⟨oa.toNat, (Int.toNat_of_nonneg ha).symm⟩
        dsimp only at hxi hzi hka HAP
        rw [Int.toNat_natCast] at hka HAP
        obtain ⟨xk, hxk, rfl⟩ := row_at hmm.out hx
        obtain ⟨yk, hyk, rfl⟩ := row_at hmm.out hy
        have hip : i = p := HLOW.out.place HG.out.kids.rise hx hxi
        subst hip
        have hMl := hml.out
        have hilt : i < nM := by have := (List.getElem?_eq_some_iff.1 hxk).1; omega
        have HRI : Hid (Rise (M'.map Prod.fst) ∧ IdsIn (M'.map Prod.fst)) := by
          show _ ∧ _
          rw [hmm.out]
          exact ⟨HG.out.kids.rise, HG.out.kids.ids⟩
        have hkf : yk.1.kids.length ≤ 500 := HG.out.kids.few _ (List.mem_of_getElem? hy)
        have hkz : z.kids.length ≤ 500 := HG.out.kids.few _ (List.mem_of_getElem? hz)
        have hnz : z.id ≠ yk.1.id → oi ∉ z.kids := fun e hin2 => by
          obtain ⟨_, y2, h1, h2, h3⟩ := HG.out.kids.kid z (List.mem_of_getElem? hz) _ hin2
          have : y2 = xk.1 := HG.out.kids.rise.inj h1 (List.mem_of_getElem? hx) (by rw [h2, hxi])
          rw [this] at h3
          exact e (by rw [hyi, h3])
        have HDT := Lib.hid (detach_any w2 (fun b hb => HSS.out b (Nat.le_trans hgr.out.size (Nat.le_trans HB2.out.size hb))) g' cap' M' HR2.out HRI.out.1 HRI.out.2 oi i q xk yk hxk hxi hyk hyi (by rw [← hxi]; exact hin) hkf)
        rw [hMl] at HDT
        have HXI := Lib.hid hxi
        have HYI := Lib.hid hyi
        have HYK := Lib.hid hyk
        have HXL := Lib.hid hx
        have HZL := Lib.hid hz
        have HZI := Lib.hid hzi
        have HNZ := Lib.hid hnz
        have HYL := Lib.hid hy
        clear hxk hyk hx hy hxi hyi hin hMl h0 hkf hz hzi hnz
        go_wp2_with fail
        refine HDT.out.mono ?_
        rintro e w3 ⟨rfl, ⟨kv, hrow3⟩, hg3⟩
        have HG3 : Hid (W1.grownBy w3 (some g')) := Lib.grownBy_trans (grown_below HB2.out _) hg3
        have P3 := Lib.hid (P2.out.grown hg3 (fun e => by have := Option.some.inj e; omega))
        obtain ⟨M3, hM3⟩ : ∃ M3, M3 = M'.set q (yk.1.withKids (lessK yk.1.kids oi), kv, yk.2.2) := ⟨_, rfl⟩
        have hm3 := map_upd HRI.out.1 HYK.out (fun b => b.withKids (lessK b.kids oi)) kv yk.2.2
        have hl3 : M3.length = nM := by rw [hM3, List.length_set]; exact hml.out
        rw [← hM3] at hrow3 hm3
        rw [hmm.out, HYI.out] at hm3
        obtain ⟨L3, hL3⟩ : ∃ L3, L3 = upd L xk.1.parent fun b => b.withKids (lessK b.kids oi) := ⟨_, rfl⟩
        rw [← hL3] at hm3 HAP
        have hr3 : Rise L3 := by rw [hL3]; exact HG.out.kids.rise.upd fun b => rfl
        have hi3 : IdsIn L3 := by rw [hL3]; exact HG.out.kids.ids.upd fun b => rfl
        obtain ⟨x3, hx3, hx3i⟩ : ∃ x3, L3[i]? = some x3 ∧ x3.id = oi := by
          rw [hL3]
          refine ⟨_, upd_at HXL.out, ?_⟩
          split <;> exact HXI.out
        obtain ⟨z3, hz3, hz3i, hz3k⟩ : ∃ z3, L3[r]? = some z3 ∧ z3.id = op ∧ z3.kids = lessK z.kids oi := by
          rw [hL3]
          refine ⟨_, upd_at HZL.out, ?_⟩
          split
          · exact ⟨HZI.out, rfl⟩
          · rename_i e
            exact ⟨HZI.out, (less_same (HNZ.out fun e2 => e (by rw [e2, HYI.out]))).symm⟩
        obtain ⟨xk3, hxk3, hxe3⟩ := row_at hm3 hx3
        obtain ⟨⟨xid, xpar, xks, xtx, xps⟩, xkv, xpv⟩ := xk3
        have hnb3 := hrow3.far _ (List.mem_of_getElem? hxk3)
        have c1 : w3.cell? ⟨g', i * 5 + 1, none⟩ = some (.int .i64 xpar) := hrow3.cell hxk3 rfl
        have f1 := hrow3.frozen (i * 5 + 1)
        have hrow4 := hrow3.store (u := .int .i64 op) (y := (⟨xid, op, xks, xtx, xps⟩, xkv, xpv)) hxk3 (j := 1) (by omega) rfl hnb3
        have hm4 := map_upd (by rw [hm3]; exact hr3) hxk3 (fun b => b.withPar op) xkv xpv
        obtain ⟨M4, hM4⟩ : ∃ M4, M4 = M3.set i (⟨xid, op, xks, xtx, xps⟩, xkv, xpv) := ⟨_, rfl⟩
        have hl4 : M4.length = nM := by rw [hM4, List.length_set]; exact hl3
        have hxid : xid = oi := by rw [← hx3i, ← hxe3]
        dsimp only [Bl.withPar] at hm4
        rw [← hM4] at hrow4 hm4
        rw [hm3, hxid] at hm4
        have hm4 : M4.map Prod.fst = upd L3 oi fun b => b.withPar op := hm4
        obtain ⟨L4, hL4⟩ : ∃ L4, L4 = upd L3 oi fun b => b.withPar op := ⟨_, rfl⟩
        rw [← hL4] at hm4 HAP
        have hr4 : Rise L4 := by rw [hL4]; exact hr3.upd fun b => rfl
        have hi4 : IdsIn L4 := by rw [hL4]; exact hi3.upd fun b => rfl
        have hx4 : M4[i]? = some (⟨xid, op, xks, xtx, xps⟩, xkv, xpv) := by rw [hM4, List.getElem?_set, if_pos rfl, if_pos (by omega)]
        obtain ⟨z4, hz4, hz4i, hz4k⟩ : ∃ z4, L4[r]? = some z4 ∧ z4.id = op ∧ z4.kids = lessK z.kids oi := by
          rw [hL4]
          refine ⟨_, upd_at hz3, ?_⟩
          split
          · exact ⟨hz3i, hz3k⟩
          · exact ⟨hz3i, hz3k⟩
        obtain ⟨zk, hzk, rfl⟩ := row_at hm4 hz4
        have HR4 : Hid (Rise (M4.map Prod.fst) ∧ IdsIn (M4.map Prod.fst)) := by
          show _ ∧ _
          rw [hm4]; exact ⟨hr4, hi4⟩
        have hlk := less_len z.kids oi
        have HAT := attach_any _ (fun b hb => HSS.out b (Nat.le_trans hgr.out.size (Nat.le_trans HG3.out.size (by simpa [World.setCell] using hb)))) g' cap' M4 hrow4 HR4.out.1 HR4.out.2 oi a i r _ zk hx4 hxid hzk hz4i (by rw [hz4k]; exact hka) (by rw [hz4k]; omega)
        rw [hl4] at HAT
        have HATT := Lib.hid HAT
        have HW4 : Hid (w.grownBy (w3.setCell ⟨g', i * 5 + 1, none⟩ (.int .i64 op)) (some g)) := grown_more (grown_more hgr.out HG3.out hgg.out) (Lib.grownBy_setCell w3 g' (i * 5 + 1) (.int .i64 op)) hgg.out
        have P4 := Lib.hid (P3.out.far (p := ⟨g', i * 5 + 1, none⟩) (by show W1.heap.size ≠ g'; omega) (.int .i64 op))
        have HM5 : Hid (∀ kv', (M4.set r (zk.1.withKids (plusK zk.1.kids a oi), kv', zk.2.2)).map Prod.fst = applL l (os.take (k + 1))) := fun kv' => by
          rw [map_upd HR4.out.1 hzk (fun b => b.withKids (plusK b.kids a oi)), hm4, hz4i, HSN.out, HAP.out]
        have HL5 : Hid (∀ kv', (M4.set r (zk.1.withKids (plusK zk.1.kids a oi), kv', zk.2.2)).length = nM) := fun kv' => by rw [List.length_set]; exact hl4
        have HP3 := P3.out
        clear hg3 hrow3 hM3 hm3 hl3 hx3 hx3i hxk3 hxe3 hnb3 hrow4 hm4 hM4 hl4 hL4 hr4 hi4 hx4 hz4 hz4i hz4k hzk HAT hL3 hr3 hi3 hz3 hz3i hz3k hlk e0 e1 e2 e3 e6
        have i3 : (i : Int) < (nM : Int) := by omega
        have e1 := P3.out.cell 1
        have e2 := P3.out.cell 2
        have e3 := P3.out.cell 3
        have d1 := P4.out.cell 1
        have d3 := P4.out.cell 3
        clear HP3
        go_wp2_with fail
        refine HATT.out.mono ?_
        rintro e w5 ⟨rfl, ⟨kv', hrow5⟩, hg5⟩
        have HW5 : Hid (w.grownBy w5 (some g)) := grown_more HW4.out hg5 hgg.out
        have HROW5 := Lib.hid hrow5
        have HM6 := Lib.hid (HM5.out kv')
        have HL6 := Lib.hid (HL5.out kv')
        clear hg5 hrow5 e1 e2 e3 d1 d3 c1 f1
        go_wp2_with fail
        go_roundg (no - (k + 1))
        case measure => omega
        case rel => exact ⟨k + 1, g', cap', nM, _, by omega, by go_num, rfl, HL6, HM6, HROW5, HW5, hgg⟩
      | edit hkd p x hx hxi hed =>
        obtain rfl : ok = 4 := hkd
        have HAP := Lib.hid (applied_edit (l := L) (o := ⟨4, oi, op, oa, of, ot, ox, on, ⟨vk, vi, vt, vs, vl⟩⟩) rfl)
        dsimp only at hxi hed HAP
        obtain ⟨xk, hxk, rfl⟩ := row_at hmm.out hx
        have hip : i = p := HLOW.out.place HG.out.kids.rise hx hxi
        subst hip
        have hMl := hml.out
        have hilt : i < nM := by have := (List.getElem?_eq_some_iff.1 hxk).1; omega
        have htx := txt_size (HG.out.tree.loc _ (List.mem_of_getElem? hx)).1
        obtain ⟨⟨xid, xpar, xks, xtx, xps⟩, xkv, xpv⟩ := xk
        have hrr : Rise (M'.map Prod.fst) := by rw [hmm.out]; exact HG.out.kids.rise
        have hm4 := map_upd hrr hxk (fun b => b.withText (edS b.text ox of ot)) xkv xpv
        have hxi : xid = oi := hxi
        have hed : edErr xtx ox of ot = 0 := hed
        have htx : xtx.size ≤ 65536 := htx
        dsimp only [Bl.withText] at hm4
        rw [hmm.out] at hm4
        obtain ⟨T, hT⟩ : ∃ T, T = edS xtx ox of ot := ⟨_, rfl⟩
        have HED : Hid (∀ W, Below w2.heap.size w2 W → Calls Tryz.prog 63 #[AO (⟨4, oi, op, oa, of, ot, ox, on, ⟨vk, vi, vt, vs, vl⟩⟩, .slice Av nv cv)] W fun e w' => e = .returned (.agg #[.int .i64 of, .int .i64 ot, .string ox]) ∧ Below w2.heap.size w2 w') := fun W hW => (editOf_any _ Av nv cv W).mono fun e w' h => ⟨h.1, hW.trans (h.2.mono hW.size)⟩
        have HAPP : Hid (∀ W, Below w2.heap.size w2 W → Calls Tryz.prog 70 #[.string xtx, .agg #[.int .i64 of, .int .i64 ot, .string ox]] W fun e w' => e = .returned (.tuple #[.string T, .int .i64 0]) ∧ Below w2.heap.size w2 w') := fun W hW => (apply_ok xtx ox of ot W (by omega) HOI.out.2.2.2.2.2 hed).mono fun e w' h => ⟨by rw [hT]; exact h.1, hW.trans (h.2.mono hW.size)⟩
        have HRW : Hid (∀ W, Below w2.heap.size w2 W → W.cell? ⟨g', i * 5 + 3, none⟩ = some (.string xtx) ∧ W.frozen? ⟨g', i * 5 + 3, none⟩ = false ∧ ∀ j, W.cell? ⟨W1.heap.size, j, none⟩ = (#[.int .i64 4, .int .i64 oi, .int .i64 op, .int .i64 oa, .int .i64 of, .int .i64 ot, .string ox, .string on, .int .i64 vk, .int .i64 vi, .int .i64 vt, .string vs, .slice Av nv cv] : Array Value)[j]?) := fun W hW =>
          have hr := HR2.out.below hW
          ⟨hr.cell hxk rfl, hr.frozen _, fun j => (P2.out.below hW P2.out.lt).cell j⟩
        have HFIN : Hid (∀ W, Below w2.heap.size w2 W → RowS S (W.setCell ⟨g', i * 5 + 3, none⟩ (.string T)) g' cap' (M'.set i (⟨xid, xpar, xks, T, xps⟩, xkv, xpv)) ∧ W1.grownBy (W.setCell ⟨g', i * 5 + 3, none⟩ (.string T)) (some g')) := fun W hW => by
          have hr := HR2.out.below hW
          have hnb := hr.far _ (List.mem_of_getElem? hxk)
          exact ⟨hr.store hxk (j := 3) (by omega) rfl ⟨hnb.1, hnb.2⟩, Lib.grownBy_trans (grown_below (HB2.out.trans (hW.mono HB2.out.size)) _) (Lib.grownBy_setCell W g' (i * 5 + 3) (.string T))⟩
        obtain ⟨M4, hM4⟩ : ∃ M4, M4 = M'.set i (⟨xid, xpar, xks, T, xps⟩, xkv, xpv) := ⟨_, rfl⟩
        have HL4 : Hid (M4.length = nM) := by
          show _ = _
          rw [hM4, List.length_set]; exact hMl
        have HM4 : Hid (M4.map Prod.fst = applL l (os.take (k + 1))) := by
          show _ = _
          rw [HSN.out, HAP.out, hM4, hT, hm4, hxi]; rfl
        rw [← hM4] at HFIN
        dsimp only [AO, Vl.kind, Vl.int_, Vl.to_, Vl.text] at HED
        obtain ⟨q0, q1, q2⟩ := HRW.out w2 (Below.refl _ _)
        clear hMl hxk hx hxi hed hrr hm4 hT hM4 htx e0 e1 e2 e3 e6
        have e0 := q2 0
        have i3 : (i : Int) < (nM : Int) := by omega
        go_upto_region 17 with fail
        go_region_with (first
            | (go_at_call 63; refine (HED.out _ (by first | with_reducible exact (Below.refl _ _).drew | with_reducible exact Below.refl _ _ | exact (Below.refl _ _).drew)).mono ?_; rintro e w9 ⟨rfl, hb9⟩; have HB9 := Lib.hid hb9; obtain ⟨r0, r1, r2⟩ := HRW.out w9 hb9; clear hb9)
            | (go_at_call 70; refine (HAPP.out _ HB9.out).mono ?_; rintro e w10 ⟨rfl, hb10⟩; have HB10 := Lib.hid hb10; obtain ⟨t0, t1, t2⟩ := HRW.out w10 hb10; clear hb10))
        all_goals
          have HR4 := Lib.hid (HFIN.out _ HB10.out).1
          have HW4 : Hid (w.grownBy _ (some g)) := grown_more hgr.out (HFIN.out _ HB10.out).2 hgg.out
          clear q0 q1 q2 r0 r1 r2 t0 t1 t2 e0
          go_wp2_with fail
          go_roundg (no - (k + 1))
          case measure => omega
          case rel => exact ⟨k + 1, g', cap', nM, M4, by omega, by go_num, rfl, HL4, HM4, HR4, HW4, hgg⟩
      | set hkd p x hx hxi hnm hve hcp hsl =>
        obtain rfl : ok = 5 := hkd
        have HAP := Lib.hid (applied_set (l := L) (o := ⟨5, oi, op, oa, of, ot, ox, on, ⟨vk, vi, vt, vs, vl⟩⟩) rfl)
        dsimp only at hxi hnm hve hsl HAP
        obtain ⟨xk, hxk, rfl⟩ := row_at hmm.out hx
        have hip : i = p := HLOW.out.place HG.out.kids.rise hx hxi
        subst hip
        have hMl := hml.out
        have hilt : i < nM := by have := (List.getElem?_eq_some_iff.1 hxk).1; omega
        obtain ⟨⟨xid, xpar, xks, xtx, xps⟩, xkv, xpv⟩ := xk
        have hrr : Rise (M'.map Prod.fst) := by rw [hmm.out]; exact HG.out.kids.rise
        have hm4 := map_upd hrr hxk (fun b => b.withProps (setPr b.props on ⟨vk, vi, vt, vs, vl⟩)) xkv
        have hxo : xid = oi := hxi
        have hcp : cpErr xps = 0 := hcp
        have hsl : (setPr xps on ⟨vk, vi, vt, vs, vl⟩).length ≤ 20 := hsl
        dsimp only [Bl.withProps] at hm4
        rw [hmm.out] at hm4
        obtain ⟨T, hT⟩ : ∃ T, T = setPr xps on ⟨vk, vi, vt, vs, vl⟩ := ⟨_, rfl⟩
        have hnb2 := HR2.out.far _ (List.mem_of_getElem? hxk)
        have hpx : RPrX w2 _ xpv xps := hnb2.2
        obtain ⟨Ap, np, cp, rfl⟩ := (hpx.reads (B := w2.heap.size) fun b hb => hb.1.1).slice
        have HPUT : Hid (∀ W, Below w2.heap.size w2 W → Calls Tryz.prog 71 #[.slice Ap np cp, .string on, .agg #[.int .i64 vk, .int .i64 vi, .int .i64 vt, .string vs, .slice Av nv cv]] W fun e w' => ∃ A n c, e = .returned (.tuple #[.slice A n c, .int .i64 0]) ∧ RPrX w' (fun b => w2.heap.size ≤ b ∧ b < w'.heap.size) (.slice A n c) T ∧ Below w2.heap.size w2 w') := fun W hW => by
          have := put_ok Ap np cp xps on ⟨vk, vi, vt, vs, vl⟩ Av nv cv W W.heap.size (Nat.le_refl _) (((hpx.reads (B := w2.heap.size) fun b hb => hb.1.1).below hW).more hW.size) hcp ((HRV.out.below (HB2.out.trans (hW.mono HB2.out.size))).more (Nat.le_trans HB2.out.size hW.size)) hnm hve hsl
          rw [← hT] at this
          refine this.mono ?_
          rintro e w' ⟨⟨A, n, c, h1, h2⟩, h3⟩
          exact ⟨A, n, c, h1, h2.weak fun b hb => ⟨Nat.le_trans hW.size hb.1, hb.2⟩, hW.trans (h3.mono hW.size)⟩
        have HRW : Hid (∀ W, Below w2.heap.size w2 W → W.cell? ⟨g', i * 5 + 4, none⟩ = some (.slice Ap np cp) ∧ W.frozen? ⟨g', i * 5 + 4, none⟩ = false ∧ ∀ j, W.cell? ⟨W1.heap.size, j, none⟩ = (#[.int .i64 5, .int .i64 oi, .int .i64 op, .int .i64 oa, .int .i64 of, .int .i64 ot, .string ox, .string on, .int .i64 vk, .int .i64 vi, .int .i64 vt, .string vs, .slice Av nv cv] : Array Value)[j]?) := fun W hW =>
          have hr := HR2.out.below hW
          ⟨hr.cell hxk rfl, hr.frozen _, fun j => (P2.out.below hW P2.out.lt).cell j⟩
        have HFIN : Hid (∀ W A n c, Below w2.heap.size w2 W → RPrX W (fun b => w2.heap.size ≤ b ∧ b < W.heap.size) (.slice A n c) T → RowS S (W.setCell ⟨g', i * 5 + 4, none⟩ (.slice A n c)) g' cap' (M'.set i (⟨xid, xpar, xks, xtx, T⟩, xkv, .slice A n c)) ∧ W1.grownBy (W.setCell ⟨g', i * 5 + 4, none⟩ (.slice A n c)) (some g')) := fun W A n c hW hp => by
          have hr := HR2.out.below hW
          have hnb := hr.far _ (List.mem_of_getElem? hxk)
          exact ⟨hr.store hxk (j := 4) (by omega) rfl ⟨hnb.1, hp.weak fun b hb => ⟨⟨hb.2, by have := HR2.out.lt; omega⟩, HSS.out b (Nat.le_trans HWZ (Nat.le_trans HB2.out.size hb.1))⟩⟩, Lib.grownBy_trans (grown_below (HB2.out.trans (hW.mono HB2.out.size)) _) (Lib.grownBy_setCell W g' (i * 5 + 4) (.slice A n c))⟩
        have HL4 : Hid (∀ u : Value, (M'.set i (⟨xid, xpar, xks, xtx, T⟩, xkv, u)).length = nM) := fun u => by rw [List.length_set]; exact hMl
        have HM4 : Hid (∀ u : Value, (M'.set i (⟨xid, xpar, xks, xtx, T⟩, xkv, u)).map Prod.fst = applL l (os.take (k + 1))) := fun u => by
          rw [HSN.out, HAP.out, hT]
          refine (hm4 u).trans ?_
          show upd L xid _ = upd L oi _
          rw [hxo]; rfl
        obtain ⟨q0, q1, q2⟩ := HRW.out w2 (Below.refl _ _)
        clear hMl hxk hx hxi hxo hnm hve hcp hsl hrr hm4 hT hnb2 hpx e0 e1 e2 e3 e6
        have e0 := q2 0
        have i3 : (i : Int) < (nM : Int) := by omega
        go_upto_region 19 with fail
        go_region_with ((go_at_call 71; refine (HPUT.out _ (by first | with_reducible exact (Below.refl _ _).drew | with_reducible exact Below.refl _ _ | exact (Below.refl _ _).drew)).mono ?_; rintro e w9 ⟨A9, n9, c9, rfl, hp9, hb9⟩; have HB9 := Lib.hid hb9; have HP9 := Lib.hid hp9; obtain ⟨r0, r1, r2⟩ := HRW.out w9 hb9; clear hb9 hp9))
        all_goals
          have HR4 := Lib.hid (HFIN.out _ A9 n9 c9 HB9.out HP9.out).1
          have HW4 : Hid (w.grownBy _ (some g)) := grown_more hgr.out (HFIN.out _ A9 n9 c9 HB9.out HP9.out).2 hgg.out
          have HL5 := Lib.hid (HL4.out (.slice A9 n9 c9))
          have HM5 := Lib.hid (HM4.out (.slice A9 n9 c9))
          clear q0 q1 q2 r0 r1 r2 e0
          go_wp2_with fail
          go_roundg (no - (k + 1))
          case measure => omega
          case rel => exact ⟨k + 1, g', cap', nM, _, by omega, by go_num, rfl, HL5, HM5, HR4, HW4, hgg⟩
    · obtain rfl : no = k := by omega
      go_wp2_with fail
      go_ret
      exact ⟨g', cap', nM, M', rfl, hml.out, by rw [hmm.out, HNO.out, List.take_length], hrow.out, hgr.out, hgg.out⟩
/-- tree.done -/
theorem done_any (w : World) (g cap n : Nat) (M : List BK) (l : List Bl) (os : List Opn) (h : RowB w g cap M) (hn : M.length = n) (hl : M.map Prod.fst = l) (Ao : Option Addr) (no co : Nat) (ho : ROsX w (fun b => b < w.heap.size ∧ b ≠ g) (.slice Ao no co) os) (hok : OkAll l os) :
    Calls Tryz.prog 48 #[.slice (some ⟨g, 0, none⟩) n cap, .slice Ao no co] w (DoneR g (applL l os) w) := by
  refine (doneS_any w (fun _ _ => trivial) g cap n M l os h.all hn hl Ao no co ho hok).mono ?_
  rintro e w' ⟨g', cap', n', M', h1, h2, h3, h4, h5⟩
  exact ⟨g', cap', n', M', h1, h2, h3, h4.toRowB, h5⟩
end Go.Proofs.YtmkicfjcgbfaaaaGreatDoor
