/-
  DERIVED. The walk of the law TreeHistories. Conditions: sizes. By an AI agent.
-/
import Derived.Test.YtmkicfjcgbfaaaaGreatTk02
import Derived.Test.YtmkicfjcgbfaaaaGreatTk01
import Derived.Test.YtmkicfjcgbfaaaaGreatTk06
import Derived.Test.YtmkicfjcgbfaaaaGreatTg30
import Derived.Test.YtmkicfjcgbfaaaaGreatTg21
import Derived.Test.YtmkicfjcgbfaaaaGreatTg22
import Derived.Deep.DeepCutAuto
import Derived.Deep.CutBlock
import Derived.Deep.RegionHeld3
namespace Go.Proofs.YtmkicfjcgbfaaaaGreat
open Go.RowKit

theorem some_addr {b o b' o' : Nat} (h : some (⟨b, o, none⟩ : Addr) = some ⟨b', o', none⟩) : b = b' ∧ o = o' := by
  have h := Option.some.inj h
  injection h with h1 h2
  exact ⟨h1, h2⟩

theorem th_eqL_refl {α : Type} {f : α → α → Bool} (hf : ∀ x, f x x = true) (l : List α) : eqL f l l = true :=
  eqL_of rfl fun k x y h1 h2 => by
    rw [h1] at h2
    rw [← Option.some.inj h2]; exact hf x
theorem thPs_refl (l : List Pr) : samePs l l = true := th_eqL_refl (fun x => by unfold samePr; rw [beq_self_eq_true, sameV_refl]; rfl) l
theorem thB_refl (x : Bl) : sameB x x = true := by unfold sameB; rw [beq_self_eq_true, beq_self_eq_true, beq_self_eq_true, beq_self_eq_true, thPs_refl]; rfl
theorem thBs_refl (l : List Bl) : sameBs l l = true := th_eqL_refl thB_refl l
theorem RBX.of_rb {w : World} {B : Nat} {v : Value} {l : List Bl} (h : RB w B v l) : RBX w (· < B) v l := by
  obtain ⟨A, n, c, M, h1, h2, h3, h4, h5, h6⟩ := h
  exact ⟨A, n, c, M, h1, h2, h3, h4, RdX.of h5, fun x hx => ⟨RInX.of (h6 x hx).1, RPrX.of (h6 x hx).2⟩⟩
theorem ROs.th_recap {w : World} {B n c c' : Nat} {A : Option Addr} {l : List Opn} (h : ROs w B (.slice A n c) l) (hc : n ≤ c') : ROs w B (.slice A n c') l := by
  obtain ⟨A', n', c2, M, h1, e, h2, h3, h4⟩ := h
  injection e with e1 e2 e3
  subst e1 e2
  exact ⟨A, n, c', M, h1, rfl, h2, ⟨hc, h3.2⟩, h4⟩
theorem bases_info : (Tryz.prog.info? 22).map (fun i => (i.zero, i.size, i.bytes)) = some (some (.slice none 0 0), 1, 24) := by kernel_rfl
/-- what a deed leaves -/
def DeedP (gh : Nat) (lf : List Bl) (os : List Opn) (d : Nat) (ls : List Opn) (er : Int) (w w' : World) : Prop :=
  (er ≠ 0 ∧ Below w.heap.size w w') ∨ (er = 0 ∧ OkAll (applL lf (os.take d)) ls ∧ ((ls = [] ∧ Below w.heap.size w w') ∨ (0 < ls.length ∧ ∃ gn', HistM w' gh gn' lf (os.take d ++ ls) (d + ls.length) ∧ w.heap.size ≤ gn' ∧ Kept (fun b => b = gh) w w')))
theorem DoR.deed {gh gn d : Nat} {lf : List Bl} {os ls : List Opn} {w w' : World} {e : Ending} {er : Int} (h : DoR gh gn lf os d ls w e w') (ht : TryP (applL lf (os.take d)) ls er) : e = .returned (.int .i64 er) ∧ DeedP gh lf os d ls er w w' := by
  obtain ⟨rfl, h2⟩ := h.tried ht
  refine ⟨rfl, h2.imp id ?_⟩
  rintro ⟨h1, h2, h3⟩
  exact ⟨h1, h2, h3.imp id fun ⟨a, _, b⟩ => ⟨a, b⟩⟩
/-- the relation between two deeds -/
def ThR (w wr : World) (gh : Nat) (l : List Bl) (k : Nat) (s10 s11 s12 : Value) : Prop := ∃ (d gn : Nat) (os : List Opn) (vb vo : Value) (Mb : List BV) (Mo : List (Opn × Value)), vb = s10 ∧ vo = s11 ∧ s12 = .int .i64 (d : Int) ∧ os.length ≤ 5 * k ∧ HistM wr gh gn l os d ∧ ThB w wr gh gn l os vb vo Mb Mo
set_option maxRecDepth 100000 in
set_option maxHeartbeats 4000000 in
theorem thLaw_bad (l : List Bl) (f : Int → Option Int) (hf : DepOk l f) (A : Option Addr) (n c : Nat) (dv : Value) (k : Int) (w : World) (h : RB w w.heap.size (.slice A n c) l) (hne : baseE l f ≠ 0) :
    Calls Tryz.prog 4 #[.slice A n c, dv, .int .i64 k] w fun e w' => e = .returned (.bool true) ∧ Below w.heap.size w w' := by
  have HCH := Lib.hid fun W (hW : Below w.heap.size w W) => new_bad l f hf A n c W w.heap.size hW.size (h.below hW) hne
  have HBE := Lib.hid fun W (hW : Below w.heap.size w W) => baseError_any l f A n c W w.heap.size hW.size (h.below hW) hf
  obtain ⟨er, her⟩ : ∃ er, er = baseE l f := ⟨_, rfl⟩
  rw [← her] at HCH HBE hne
  have h0' : (er != 0) = true := by simpa using hne
  clear her hne h
  go_enter Tryz.func4, Tryz.ntmps4
  go_wp2_with fail
  refine (HCH.out w (Below.refl _ _)).mono ?_
  rintro e w1 ⟨rfl, hb1⟩
  have HB1 := Lib.hid hb1
  clear hb1
  go_wp2_with fail
  refine (HBE.out w1 HB1.out).mono ?_
  rintro e w2 ⟨rfl, hb2⟩
  have HB2 : Hid (Below w.heap.size w w2) := HB1.out.trans (hb2.mono HB1.out.size)
  clear hb2
  go_wp2_with fail
  go_ret
  exact ⟨rfl, HB2.out⟩
set_option maxRecDepth 100000 in
set_option maxHeartbeats 40000000 in
theorem thLaw_good (l : List Bl) (f : Int → Option Int) (hf : DepOk l f) (A : Option Addr) (n c : Nat) (dl : List Dd) (Ad : Option Addr) (nd cd : Nat) (k0 : Int) (w : World) (h : RB w w.heap.size (.slice A n c) l) (hd : RDs w w.heap.size (.slice Ad nd cd) dl) (h0 : baseE l f = 0) (m : Nat) (hm : m = min nd 40) :
    Calls Tryz.prog 4 #[.slice A n c, .slice Ad nd cd, .int .i64 k0] w fun e w' => e = .returned (.bool true) ∧ Below w.heap.size w w' := by
  obtain ⟨i0, xi, xz0, xz1, xz2⟩ := info_parts bases_info
  obtain ⟨j0, yi, yz0, yz1, yz2⟩ := info_parts op_info
  have G := good_of h0 hf
  have HCH := Lib.hid fun W (hW : Below w.heap.size w W) => new_any l f G A n c W w.heap.size hW.size (h.below hW)
  have HBE := Lib.hid fun W (hW : Below w.heap.size w W) => baseError_any l f A n c W w.heap.size hW.size (h.below hW) hf
  rw [h0] at HBE
  have hdl := hd.len
  have HND : Hid (nd = dl.length) := hdl.1
  have hnb : nd * 32 ≤ 140737488351232 := hdl.2.2
  have hnc : nd ≤ cd := hdl.2.1
  have HD := Lib.hid hd
  have HRB0 := Lib.hid h
  have HM := Lib.hid hm
  have hmin : min (nd : Int) 40 = (m : Int) := by omega
  have hmn : m ≤ nd := by omega
  have hm30 : m ≤ 40 := by omega
  clear h0 G h hd hdl hm hf
  go_enter Tryz.func4, Tryz.ntmps4
  go_wp2_with fail
  refine (HCH.out w (Below.refl _ _)).mono ?_
  rintro e w1 ⟨gh, gn0, rfl, hh1, hgh1, hgn1, hb1⟩
  have HB1 := Lib.hid hb1
  have HH1 := Lib.hid hh1
  have HGN1 := Lib.hid hgn1
  have HGH1 := Lib.hid hgh1
  clear hh1 hgh1 hgn1 hb1
  go_wp2_with fail
  refine (HBE.out w1 HB1.out).mono ?_
  rintro e w2 ⟨rfl, hb2⟩
  have HB2 : Hid (Below w.heap.size w w2) := HB1.out.trans (hb2.mono HB1.out.size)
  have HH2 := Lib.hid (HH1.out.below hb2)
  clear hb2
  go_wp2_with fail
  go_loopg [10, 11, 12, 56] m (fun gg s10 s11 s12 s56 wr => ∃ (k : Nat), k + gg = m ∧ s56 = .int .i64 (k : Int) ∧ Hid (ThR w wr gh l k s10 s11 s12))
  case atStart =>
    obtain ⟨w3, hw3⟩ : ∃ w3, w3 = w2.alloc (.cells #[.slice A n c] 22) := ⟨_, rfl⟩
    have hb3 : Below w2.heap.size w2 w3 := by rw [hw3]; exact (Below.refl _ _).alloc (Nat.le_refl _) _
    have hb4 : Below w2.heap.size w2 (w3.alloc (.cells #[] 31)) := hb3.alloc hb3.size _
    have hz3 : w3.heap.size = w2.heap.size + 1 := by rw [hw3]; simp
    have hB4 := HB2.out.trans (hb4.mono HB2.out.size)
    have hzw := HB2.out.size
    have hl := HH2.out.lt
    have q3 : Blk w3 w2.heap.size 22 #[.slice A n c] := by rw [hw3]; exact Blk.new _ _ _
    have q4 : Blk (w3.alloc (.cells #[] 31)) w2.heap.size 22 #[.slice A n c] := q3.alloc _
    have hG := HGH1.out
    have hN := HGN1.out
    rw [← hw3]
    refine ⟨0, by omega, rfl, 0, gn0, [], _, _, [(l, .slice A n c)], [], rfl, rfl, rfl, Nat.zero_le _, HH2.out.below hb4, ⟨own_one hzw q4, fun x hx => ?_⟩, rfl, ⟨fun e => ?_, fun e => ?_⟩, ⟨own_empty (by omega) (by rw [← hz3]; exact Blk.new _ _ _), fun x hx => (by cases hx)⟩, rfl, fun x hx => (by cases hx), ⟨fun e => ?_, fun e => ?_⟩, hN, hG, hB4⟩
    · obtain rfl := List.mem_singleton.1 hx
      exact ((RBX.of_rb HRB0.out).keep (fun p hp => hB4.cell hp)).weak fun b hb => by
        have hb : b < w.heap.size := hb
        have := hB4.size
        exact ⟨⟨by omega, fun e => by have : w2.heap.size = b := Option.some.inj e; omega⟩, by omega, by omega⟩
    all_goals
      first
      | (have : w2.heap.size = gh := Option.some.inj e; omega)
      | (have : w2.heap.size = gn0 := Option.some.inj e; omega)
      | (have : w2.heap.size + 1 = gh := Option.some.inj e; omega)
      | (have : w2.heap.size + 1 = gn0 := Option.some.inj e; omega)
  case round =>
    obtain ⟨k, hkg, rfl, hrr⟩ := hrel
    obtain ⟨W1, rfl⟩ : ∃ W1, W1 = wr := ⟨_, rfl⟩
    obtain ⟨d, gn, os, vb, vo, Mb, Mo, rfl, rfl, rfl, hos, hh, hB⟩ := hrr.out
    have HH := Lib.hid hh
    have HB := Lib.hid hB
    have hdle : d ≤ os.length := hh.le
    obtain ⟨Ao, co, rfl, hros, hoc, hon⟩ := hB.slice (by omega)
    clear hrr hh hB
    obtain ⟨no, hno⟩ : ∃ no, no = os.length := ⟨_, rfl⟩
    rw [← hno] at HB hros hoc hon hos hdle ⊢
    have HNO := Lib.hid hno
    have HON := Lib.hid hon
    have HROS := Lib.hid hros
    clear hno hon hros
    obtain ⟨gb, cb, Ax, nx, cx, rfl, hcell, hrb⟩ := HB.out.at_ (k := d) (by rw [← HNO.out]; exact hdle)
    obtain ⟨nb, hnb2⟩ : ∃ nb, nb = os.length + 1 := ⟨_, rfl⟩
    rw [← hnb2] at HB ⊢
    have hnb3 : nb = no + 1 := by rw [hnb2, HNO.out]
    have hdb : d < nb := by omega
    have hdb2 : d + 1 ≤ nb := by omega
    have hnb4 : nb ≤ 201 := by omega
    have HNB := Lib.hid hnb2
    have HNB3 := Lib.hid hnb3
    have HCELL := Lib.hid hcell
    have HRB := Lib.hid hrb
    have hcb : nb ≤ cb := by
      rcases HB.out.bases.own.2 with ⟨e, _⟩ | ⟨g, cap, cur, e, _, _, hle, _⟩
      · cases e
      · injection e with _ e2 e3
        omega
    clear hnb2 hnb3 hcell hrb
    have hz1 : w.heap.size ≤ W1.heap.size := HB.out.below.size
    by_cases hk : k < m
    · skip
      obtain ⟨x, hx⟩ : ∃ x, dl[k]? = some x := ⟨_, List.getElem?_eq_getElem (by have := HND.out; omega)⟩
      obtain ⟨b, off, Ae, ne, ce, rfl, hbb, g0, g1, hre⟩ := (HD.out.below HB.out.below).at_ hx
      obtain ⟨wh, es⟩ := x
      dsimp only at g0 g1 hre
      have hel := hre.len
      have HEL : Hid (ne = es.length) := hel.1
      have hec : ne ≤ ce := hel.2.1
      have heb : ne * 144 ≤ 140737488351232 := hel.2.2
      obtain ⟨p, hp⟩ : ∃ p, p = min ne 5 := ⟨_, rfl⟩
      have hmin5 : min (ne : Int) 5 = (p : Int) := by omega
      have hpn : p ≤ ne := by omega
      have hp5 : p ≤ 5 := by omega
      have j1 : (k : Int) < (m : Int) := by omega
      obtain ⟨wa, hwa⟩ : ∃ wa, wa = W1.alloc (.cells #[.int .i64 wh, .slice Ae ne ce] 50) := ⟨_, rfl⟩
      have hal : Below W1.heap.size W1 wa := by rw [hwa]; exact (Below.refl _ _).alloc (Nat.le_refl _) _
      have Q0 : Hid (Blk wa W1.heap.size 50 #[.int .i64 wh, .slice Ae ne ce]) := by rw [hwa]; exact Blk.new _ _ _
      have hza : W1.heap.size < wa.heap.size := by rw [hwa]; simp
      have HHA := Lib.hid (HH.out.below hal)
      have HBA := Lib.hid (HB.out.keep hal)
      have HREA : Hid (ROs wa w.heap.size (.slice Ae ne ce) es) := hre.below (hal.mono hz1)
      have HWA := Lib.hid hwa
      have HZA : Hid (W1.heap.size < wa.heap.size) := hza
      clear hx hbb hre hel hp hal hwa hza
      go_upto_region 11 with fail
      rw [← HWA.out]
      clear g0 g1
      have c0 := Q0.out.cell 0
      have c1 := Q0.out.cell 1
      by_cases hC : wh = 0 ∧ p = 0
      · obtain ⟨rfl, hp0⟩ := hC
        have ep : ((p : Int) == 0) = true := by simp [hp0]
        clear hp0
        go_wp2_with fail
        go_roundg (m - (k + 1))
        case measure => omega
        case rel => exact ⟨k + 1, by omega, by go_num, d, gn, os, _, _, Mb, Mo, rfl, rfl, rfl, by have := HNO.out; omega, HHA.out, HBA.out⟩
      · skip
        have HC := Lib.hid hC
        clear hC
        go_upto_block 2 with fail
        go_cut [10, 11, 12] (fun s10 s11 s12 wc => Hid (ThR w wc gh l (k + 1) s10 s11 s12))
        case first =>
          as_aux_lemma =>
          by_cases h2 : wh = 2
          · subst h2
            by_cases hd0 : d = 0
            · have e1 : decide ((0 : Int) < (d : Int)) = false := by simp [hd0]
              have e2 : decide (0 < d) = false := by simp [hd0]
              have hmx : max ((d : Int) - 1) 0 = (d : Int) := by omega
              have HU := Lib.hid (undo_no wa gh gn l os (by rw [← hd0]; exact HHA.out))
              clear hd0
              go_wp2_with fail
              refine HU.out.mono ?_
              rintro e w2 ⟨rfl, hw⟩
              rw [hw]
              clear hw
              go_wp2_with fail
              go_meet
              exact ⟨d, gn, os, _, _, Mb, Mo, rfl, rfl, rfl, by have := HNO.out; omega, HHA.out, HBA.out⟩
            · obtain ⟨d', hd'⟩ : ∃ d', d = d' + 1 := ⟨d - 1, by omega⟩
              have e1 : decide ((0 : Int) < (d : Int)) = true := by simp; omega
              have e2 : decide (0 < d) = true := by simp; omega
              have hmx : max ((d : Int) - 1) 0 = (d' : Int) := by omega
              have HU := Lib.hid (undo_any wa gh gn l os d' (by rw [← hd']; exact HHA.out))
              unfold BackR at HU
              clear hd0 hd'
              go_wp2_with fail
              refine HU.out.mono ?_
              rintro e w2 ⟨gn', rfl, hh2, hg2, hk2⟩
              have HH2 := Lib.hid hh2
              have HB2 := Lib.hid (HBA.out.turn (hk2.weak fun i h => .inl h) (.inr hg2))
              clear hh2 hg2 hk2
              go_wp2_with fail
              go_meet
              exact ⟨d', gn', os, _, _, Mb, Mo, rfl, rfl, rfl, by have := HNO.out; omega, HH2.out, HB2.out⟩
          · have h2' : (wh == 2) = false := by simpa using h2
            by_cases h3 : wh = 3
            · subst h3
              by_cases hdn : d = no
              · have e1 : decide ((d : Int) < (no : Int)) = false := by simp [hdn]
                have e2 : decide (d < no) = false := by simp [hdn]
                have hmx : min ((d : Int) + 1) (no : Int) = (d : Int) := by omega
                have HU := Lib.hid (redo_no wa gh gn l os d HHA.out (hdn.trans HNO.out))
                clear hdn
                go_wp2_with fail
                refine HU.out.mono ?_
                rintro e w2 ⟨rfl, hb2⟩
                have HH2 := Lib.hid (HHA.out.below hb2)
                have HB2 := Lib.hid (HBA.out.keep hb2)
                clear hb2
                go_wp2_with fail
                go_meet
                exact ⟨d, gn, os, _, _, Mb, Mo, rfl, rfl, rfl, by have := HNO.out; omega, HH2.out, HB2.out⟩
              · have hlt : d < no := by omega
                have e1 : decide ((d : Int) < (no : Int)) = true := by simp; omega
                have e2 : decide (d < no) = true := by simp; omega
                obtain ⟨d', hd'⟩ : ∃ d', d' = d + 1 := ⟨_, rfl⟩
                have hmx : min ((d : Int) + 1) (no : Int) = (d' : Int) := by omega
                have HU := Lib.hid (redo_any wa gh gn l os d HHA.out (by rw [← HNO.out]; exact hlt))
                unfold OnR at HU
                rw [← hd'] at HU
                clear hdn hd' hlt
                go_wp2_with fail
                refine HU.out.mono ?_
                rintro e w2 ⟨gn', rfl, hh2, hg2, hk2⟩
                have HH2 := Lib.hid hh2
                have HB2 := Lib.hid (HBA.out.turn hk2 hg2)
                clear hh2 hg2 hk2
                go_wp2_with fail
                go_meet
                exact ⟨d', gn', os, _, _, Mb, Mo, rfl, rfl, rfl, by have := HNO.out; omega, HH2.out, HB2.out⟩
            · have h3' : (wh == 3) = false := by simpa using h3
              clear h2 h3
              obtain ⟨q, hq⟩ : ∃ q, q = if wh = 0 then 1 else p := ⟨_, rfl⟩
              have HQ0 : Hid (wh = 0 → q = 1) := fun h => by rw [hq, if_pos h]
              have HQ1 : Hid (wh ≠ 0 → q = p) := fun h => by rw [hq, if_neg h]
              have hqn : q ≤ ne := by
                by_cases h : wh = 0
                · rw [HQ0.out h]
                  have := HC.out
                  omega
                · rw [HQ1.out h]; omega
              have hq5 : q ≤ 5 := by
                by_cases h : wh = 0
                · rw [HQ0.out h]; omega
                · rw [HQ1.out h]; exact hp5
              clear hq
              obtain ⟨ls, hls⟩ : ∃ ls, ls = es.take q := ⟨_, rfl⟩
              have HLS := Lib.hid hls
              have HLSL : Hid (ls.length = q) := by
                show _ = _
                rw [hls, List.length_take, ← HEL.out]; omega
              clear hls
              obtain ⟨f0, G0⟩ := HHA.out.now
              obtain ⟨L0, hL0⟩ : ∃ L0, L0 = applL l (os.take d) := ⟨_, rfl⟩
              obtain ⟨er, htry⟩ := try_ex G0 ls
              have HTRY := Lib.hid htry
              have HL0 := Lib.hid hL0
              rw [← hL0] at G0 HRB
              have HG0 := Lib.hid G0
              have HAR : Hid (∀ W, Below wa.heap.size wa W → ROsX W (fun b => b < w.heap.size) (.slice Ae q ce) ls) := fun W hW => by
                have := ((ROsX.of (HREA.out.below (hW.mono (Nat.le_trans hz1 (Nat.le_of_lt HZA.out))))).take (k := q) hqn)
                rw [← HLS.out] at this
                exact this
              have HALA : Hid (Below W1.heap.size W1 wa) := by rw [HWA.out]; exact (Below.refl _ _).alloc (Nat.le_refl _) _
              have HNOW : Hid (RBX wa (fun b => b < wa.heap.size ∧ SH gh gn b) (.slice Ax nx cx) L0) := (HRB.out.keep (w' := wa) fun p hp => HALA.out.cell hp.1).weak fun b hb => ⟨Nat.lt_of_lt_of_le hb.1 HALA.out.size, hb.2⟩
              have hcell : wa.cell? ⟨gb, d, none⟩ = some (.slice Ax nx cx) := by
                have hg := HB.out.bases.blocks gb rfl
                exact (HALA.out.cell (p := ⟨gb, d, none⟩) hg.2).trans HCELL.out
              clear htry hL0 G0
              go_upto_region 12 with fail
              go_cut [74] (fun s74 wc => s74 = .bool false ∧ wa = wc)
              case first =>
                by_cases hw0 : wh = 0
                · have ep : ((p : Int) == 0) = false := by
                    have := HC.out
                    simp; omega
                  subst hw0
                  go_wp2_with fail
                  go_meet
                  exact ⟨rfl, rfl⟩
                · have hw0' : (wh == 0) = false := by simpa using hw0
                  clear hw0
                  go_wp2_with fail
                  go_meet
                  exact ⟨rfl, rfl⟩
              case rest =>
              obtain ⟨rfl, rfl⟩ := hcut
              go_upto_if 77 with (fail)
              go_cut [15] (fun s15 wc => s15 = .slice Ae q ce ∧ wa = wc)
              case first =>
                by_cases hw0 : wh = 0
                · have hq1 := HQ0.out hw0
                  have i1 : (1 : Int) ≤ (ce : Int) := by omega
                  subst hw0
                  have HQ1' := Lib.hid hq1
                  clear hq1
                  go_wp2_with fail
                  go_meet
                  exact ⟨by rw [HQ1'.out], rfl⟩
                · have hq1 := HQ1.out hw0
                  have hw0' : (wh == 0) = false := by simpa using hw0
                  have HQ1' := Lib.hid hq1
                  clear hw0 hq1
                  go_wp2_with fail
                  go_meet
                  exact ⟨by rw [HQ1'.out], rfl⟩
              case rest =>
              as_aux_lemma =>
              obtain ⟨rfl, rfl⟩ := hcut
              have d0 : (0 : Int) ≤ (d : Int) := by omega
              have d1 : (d : Int) < (nb : Int) := by omega
              clear c0 c1
              go_wp2_with fail
              go_loopg [16, 17, 18, 86] q (fun gg s16 s17 s18 s86 wr => ∃ (j : Nat) (va : Value) (Ma : List BV) (An : Option Addr) (nn cn : Nat), j + gg = q ∧ s16 = .slice An nn cn ∧ s17 = .int .i64 0 ∧ va = s18 ∧ s86 = .int .i64 (j : Int) ∧ Hid (OkAll L0 (ls.take j)) ∧ Hid (RBX wr (fun b => b < wr.heap.size ∧ SH gh gn b ∧ va.ownBlock ≠ some b) (.slice An nn cn) (applL L0 (ls.take j))) ∧ Hid (OutR (SH gh gn) wr wa.heap.size va Ma ∧ Ma.map Prod.fst = (List.range j).map fun i => applL L0 (ls.take (i + 1))) ∧ Hid (Below wa.heap.size wa wr))
              case atStart => exact ⟨0, _, [], Ax, nx, cx, by omega, rfl, rfl, rfl, rfl, fun i o hi => (by simp at hi), HNOW.out.weak fun b hb => ⟨hb.1, hb.2, fun e => (by cases e)⟩, ⟨OutN.start _ _, rfl⟩, Below.refl _ _⟩
              case round =>
                obtain ⟨j, va, Ma, An, nn, cn, hjg, rfl, rfl, rfl, rfl, hok, hnow, hout, hbw⟩ := hrel
                obtain ⟨W2, rfl⟩ : ∃ W2, W2 = wr := ⟨_, rfl⟩
                have HMA : Hid (Ma.length = j) := by
                  show _ = _
                  have := congrArg List.length hout.out.2
                  rwa [List.length_map, List.length_map, List.length_range] at this
                have hza2 := hbw.out.size
                by_cases hjq : j < q
                · obtain ⟨o, hjo⟩ : ∃ o, ls[j]? = some o := ⟨_, List.getElem?_eq_getElem (by have := HLSL.out; omega)⟩
                  have hjo2 : es[j]? = some o := by
                    have := hjo
                    rw [HLS.out, List.getElem?_take, if_pos hjq] at this
                    exact this
                  have hzwa : w.heap.size ≤ wa.heap.size := Nat.le_trans hz1 (Nat.le_of_lt HZA.out)
                  obtain ⟨be, offe, Av, nv, cv, hAe, hbe, hc, hrv, hoi⟩ := (HREA.out.below (hbw.out.mono hzwa)).at_ hjo2
                  subst hAe
                  have HJO := Lib.hid hjo
                  have HOI := Lib.hid hoi
                  obtain ⟨ok, oi, op, oa, of, ot, ox, on, ⟨vk, vi, vt, vs, vl⟩⟩ := o
                  have g0 : W2.cell? ⟨be, offe + j * 13, none⟩ = some (.int .i64 ok) := hc 0 _ rfl
                  have g1 : W2.cell? ⟨be, offe + j * 13 + 1, none⟩ = some (.int .i64 oi) := hc 1 _ rfl
                  have g2 : W2.cell? ⟨be, offe + j * 13 + 2, none⟩ = some (.int .i64 op) := hc 2 _ rfl
                  have g3 : W2.cell? ⟨be, offe + j * 13 + 3, none⟩ = some (.int .i64 oa) := hc 3 _ rfl
                  have g4 : W2.cell? ⟨be, offe + j * 13 + 4, none⟩ = some (.int .i64 of) := hc 4 _ rfl
                  have g5 : W2.cell? ⟨be, offe + j * 13 + 5, none⟩ = some (.int .i64 ot) := hc 5 _ rfl
                  have g6 : W2.cell? ⟨be, offe + j * 13 + 6, none⟩ = some (.string ox) := hc 6 _ rfl
                  have g7 : W2.cell? ⟨be, offe + j * 13 + 7, none⟩ = some (.string on) := hc 7 _ rfl
                  have g8 : W2.cell? ⟨be, offe + j * 13 + 8, none⟩ = some (.int .i64 vk) := hc 8 _ rfl
                  have g9 : W2.cell? ⟨be, offe + j * 13 + 9, none⟩ = some (.int .i64 vi) := hc 9 _ rfl
                  have g10 : W2.cell? ⟨be, offe + j * 13 + 10, none⟩ = some (.int .i64 vt) := hc 10 _ rfl
                  have g11 : W2.cell? ⟨be, offe + j * 13 + 11, none⟩ = some (.string vs) := hc 11 _ rfl
                  have g12 : W2.cell? ⟨be, offe + j * 13 + 12, none⟩ = some (.slice Av nv cv) := hc 12 _ rfl
                  have j2 : (0 : Int) ≤ (j : Int) := by omega
                  have j3 : (j : Int) < (q : Int) := by omega
                  obtain ⟨wo, hwo⟩ : ∃ wo, wo = W2.alloc (.cells #[.int .i64 ok, .int .i64 oi, .int .i64 op, .int .i64 oa, .int .i64 of, .int .i64 ot, .string ox, .string on, .int .i64 vk, .int .i64 vi, .int .i64 vt, .string vs, .slice Av nv cv] 31) := ⟨_, rfl⟩
                  have hal2 : Below W2.heap.size W2 wo := by rw [hwo]; exact (Below.refl _ _).alloc (Nat.le_refl _) _
                  have P0 : Hid (Blk wo W2.heap.size 31 #[.int .i64 ok, .int .i64 oi, .int .i64 op, .int .i64 oa, .int .i64 of, .int .i64 ot, .string ox, .string on, .int .i64 vk, .int .i64 vi, .int .i64 vt, .string vs, .slice Av nv cv]) := by rw [hwo]; exact Blk.new _ _ _
                  have HWO := Lib.hid hwo
                  have HBO : Hid (Below W2.heap.size W2 wo) := hal2
                  have HRV : Hid (RV wo w.heap.size (.slice Av nv cv) vl) := (show RV W2 w.heap.size (.slice Av nv cv) vl from hrv).below (hal2.mono (Nat.le_trans hzwa hza2))
                  have HNO2 : Hid (RBX wo (fun b => b < W2.heap.size ∧ SH gh gn b ∧ va.ownBlock ≠ some b) (.slice An nn cn) (applL L0 (ls.take j))) := hnow.out.keep (w' := wo) fun p hp => hal2.cell hp.1
                  obtain ⟨f9, G9⟩ := hok.out.good HG0.out j (by rw [List.length_take]; have := HLSL.out; omega)
                  rw [List.take_take, Nat.min_self] at G9
                  obtain ⟨L9, hL9⟩ : ∃ L9, L9 = applL L0 (ls.take j) := ⟨_, rfl⟩
                  have HL9 := Lib.hid hL9
                  rw [← hL9] at G9 HNO2
                  have HG9 := Lib.hid G9
                  have HOE := Lib.hid (opError_any L9 f9 G9 An nn cn ⟨ok, oi, op, oa, of, ot, ox, on, ⟨vk, vi, vt, vs, vl⟩⟩ Av nv cv wo wo.heap.size (Nat.le_refl _) (HNO2.out.reads fun b hb => Nat.lt_of_lt_of_le hb.1 hal2.size) HOI.out (HRV.out.more (Nat.le_trans (Nat.le_trans hzwa hza2) hal2.size)))
                  dsimp only [AO, Vl.kind, Vl.int_, Vl.to_, Vl.text, Vl.items] at HOE
                  obtain ⟨eo, heo⟩ : ∃ eo, eo = opErr L9 f9 ⟨ok, oi, op, oa, of, ot, ox, on, ⟨vk, vi, vt, vs, vl⟩⟩ := ⟨_, rfl⟩
                  have HEO := Lib.hid heo
                  rw [← heo] at HOE
                  clear hjo hjo2 hbe hc hrv hoi hwo hal2 hL9 G9 heo
                  go_upto_region 20 with fail
                  rw [← HWO.out]
                  clear g0 g1 g2 g3 g4 g5 g6 g7 g8 g9 g10 g11 g12
                  have e0 := fun i => P0.out.cell i
                  go_wp2_with fail
                  refine HOE.out.mono ?_
                  rintro e w3 ⟨rfl, hb3⟩
                  have HB3 : Hid (Below W2.heap.size W2 w3) := HBO.out.trans (hb3.mono HBO.out.size)
                  have P3 := Lib.hid (P0.out.below hb3 P0.out.lt)
                  clear hb3 e0
                  by_cases he : eo = 0
                  · as_aux_lemma =>
                    subst he
                    have he9 : opErr L9 f9 ⟨ok, oi, op, oa, of, ot, ox, on, ⟨vk, vi, vt, vs, vl⟩⟩ = 0 := HEO.out.symm
                    have HOK1 : Hid (OkAll L0 (ls.take (j + 1))) := hok.out.snoc HJO.out (by rw [← HL9.out]; exact HG9.out) (by rw [← HL9.out]; exact he9)
                    have HAPL : Hid (applL L0 (ls.take (j + 1)) = applied L9 ⟨ok, oi, op, oa, of, ot, ox, on, ⟨vk, vi, vt, vs, vl⟩⟩) := by
                      show _ = _
                      rw [List.take_add_one, HJO.out, applL_app, HL9.out]; rfl
                    have hgl := HHA.out.lt
                    have hz3 := HB3.out.size
                    have HOWB : Hid (∀ g, va.ownBlock = some g → wa.heap.size ≤ g ∧ g < W2.heap.size) := hout.out.1.blocks
                    have hw3n : RBX w3 (fun b => b < w3.heap.size ∧ SH gh gn b ∧ va.ownBlock ≠ some b) (.slice An nn cn) L9 := by
                      have := (hnow.out.keep (w' := w3) fun p hp => HB3.out.cell hp.1).weak (S' := fun b => b < w3.heap.size ∧ SH gh gn b ∧ va.ownBlock ≠ some b) fun b hb => ⟨Nat.lt_of_lt_of_le hb.1 hz3, hb.2⟩
                      rw [← HL9.out] at this
                      exact this
                    have hw3v : RVX w3 (fun b => b < w3.heap.size ∧ SH gh gn b ∧ va.ownBlock ≠ some b) (.slice Av nv cv) vl := ((RVX.of HRV.out).keep (w' := w3) fun p hp => by
                      have hp : p.block < w.heap.size := hp
                      refine (HB3.out.cell (by omega)).trans ?_
                      exact (HBO.out.cell (by omega)).symm).weak fun b hb => by
                        have hb : b < w.heap.size := hb
                        have h3 := HBA.out.ghle
                        have h4 := HBA.out.gnle
                        exact ⟨by omega, ⟨by omega, by omega⟩, fun e => by have := (HOWB.out b e).1; omega⟩
                    have HAP := Lib.hid (appliedS_any L9 f9 HG9.out An nn cn ⟨ok, oi, op, oa, of, ot, ox, on, ⟨vk, vi, vt, vs, vl⟩⟩ Av nv cv w3 w3.heap.size (Nat.le_refl _) (fun b => SH gh gn b ∧ va.ownBlock ≠ some b) (fun b hb => ⟨⟨by omega, by omega⟩, fun e => by have := (HOWB.out b e).2; omega⟩) hw3n hw3v HOI.out he9)
                    dsimp only [AO, Vl.kind, Vl.int_, Vl.to_, Vl.text, Vl.items] at HAP
                    unfold ApplS at HAP
                    clear hw3n hw3v he9 hgl
                    have e0 := fun i => P3.out.cell i
                    go_wp2_with fail
                    refine HAP.out.mono ?_
                    rintro e w4 ⟨A4, n4, c4, rfl, hr4, hb4⟩
                    have HB4 : Hid (Below W2.heap.size W2 w4) := HB3.out.trans (hb4.mono HB3.out.size)
                    have HR4 := Lib.hid hr4
                    have hz4 := HB4.out.size
                    obtain ⟨O, hO⟩ : ∃ O, O = Obj.cells #[.slice A4 n4 c4] 22 := ⟨_, rfl⟩
                    have HOW := Lib.hid ((hout.out.1.below (NR_ok _) HB4.out).below (NR_ok _) ((Below.refl _ _).alloc (Nat.le_refl _) O))
                    have HR7 : Hid (Reads (w4.alloc O) (w4.heap.size + 1) 1 (some ⟨w4.heap.size, 0, none⟩) 1 [.slice A4 n4 c4]) := by rw [hO]; exact Reads.blk (Blk.new _ _ _) rfl
                    have hone : ∀ u ∈ [Value.slice A4 n4 c4], u.oneCell' = true := by simp [Value.oneCell']
                    have HC7 : Hid (Ma.length + 1 ≤ maxLen) := by show _ ≤ _; unfold maxLen; have := HMA.out; omega
                    have HC8 : Hid ((Ma.length + 1) * 24 ≤ 140737488355328) := by show _ ≤ _; have := HMA.out; omega
                    have hbase : wa.heap.size ≤ (w4.alloc O).heap.size := by simp; omega
                    have HX7 : Hid (RBX (w4.alloc O) (fun b => (b < w4.heap.size ∧ va.ownBlock ≠ some b) ∧ SH gh gn b) (.slice A4 n4 c4) (applied L9 ⟨ok, oi, op, oa, of, ot, ox, on, ⟨vk, vi, vt, vs, vl⟩⟩)) := (HR4.out.keep fun p hp => World.cell?_alloc_lt _ _ _ hp.1).weak fun b hb => ⟨⟨hb.1, hb.2.2⟩, hb.2.1⟩
                    have HB7 : Hid (Below wa.heap.size wa (w4.alloc O)) := (hbw.out.trans (HB4.out.mono hza2)).alloc (by omega) O
                    have hsz : (w4.alloc O).heap.size = w4.heap.size + 1 := by simp
                    have HSZ := Lib.hid hsz
                    rw [hO] at HOW HR7 hbase HX7 HB7 HSZ
                    clear hb4 hr4 e0 hO hsz
                    go_wp2_with (at_builtin; refine wpList_append_any _ rfl _ _ 48 rfl wa.heap.size 22 i0 (.slice none 0 0) 1 24 Tryz.underlying48 xi xz0 xz1 xz2 rfl (by decide) va Ma.length (Ma.flatMap slV) rfl HOW.out.own (w4.heap.size + 1) (some ⟨w4.heap.size, 0, none⟩) 1 1 [.slice A4 n4 c4] rfl HR7.out hone HC7.out HC8.out hbase ?_)
                    intro v8 w8 hown8 hg8 hat8
                    have HO8 : Hid (OutR (SH gh gn) w8 wa.heap.size v8 (Ma ++ [(applied L9 ⟨ok, oi, op, oa, of, ot, ox, on, ⟨vk, vi, vt, vs, vl⟩⟩, .slice A4 n4 c4)])) := HOW.out.app (NR_ok _) (x := (applied L9 ⟨ok, oi, op, oa, of, ot, ox, on, ⟨vk, vi, vt, vs, vl⟩⟩, Value.slice A4 n4 c4)) (S := fun b => b < w4.heap.size ∧ va.ownBlock ≠ some b) HX7.out (fun b hb => ⟨by rw [HSZ.out]; omega, hb.2⟩) hown8 hg8 (by simpa using hat8)
                    have HB8 : Hid (Below wa.heap.size wa w8) := HB7.out.grown hg8 hbase (fun g hg => (HOWB.out g hg).1)
                    have HM8 : Hid ((Ma ++ [((applied L9 ⟨ok, oi, op, oa, of, ot, ox, on, ⟨vk, vi, vt, vs, vl⟩⟩ : List Bl), Value.slice A4 n4 c4)]).map Prod.fst = (List.range (j + 1)).map fun i => applL L0 (ls.take (i + 1))) := by
                      show _ = _
                      rw [List.map_append, hout.out.2, List.range_succ, List.map_append]
                      simp only [List.map_cons, List.map_nil]
                      rw [HAPL.out]
                    have HN8 : Hid (RBX w8 (fun b => b < w8.heap.size ∧ SH gh gn b ∧ v8.ownBlock ≠ some b) (.slice A4 n4 c4) (applL L0 (ls.take (j + 1)))) := by
                      show RBX _ _ _ _
                      rw [HAPL.out]
                      refine (HX7.out.keep fun p hp => World.cell?_of_block (hg8.block _ (by rw [HSZ.out]; have := hp.1.1; omega) (fun e => hp.1.2 e.symm))).weak fun b hb => ⟨by have h1 := hg8.size; have h2 := HSZ.out; have h3 := hb.1.1; omega, hb.2, ?_⟩
                      rcases hat8 with e | e
                      · rw [e]; exact hb.1.2
                      · rw [e]
                        intro e'
                        have e' := Option.some.inj e'
                        have h3 := hb.1.1
                        have h4 := HSZ.out
                        omega
                    clear hown8 hg8 hat8 hone hbase
                    go_wp2_with fail
                    go_roundg (q - (j + 1))
                    case measure => omega
                    case rel => exact ⟨j + 1, v8, _, A4, n4, c4, by omega, rfl, rfl, rfl, by go_num, HOK1, HN8, ⟨HO8.out, HM8.out⟩, HB8⟩
                  · have he' : (eo != 0) = true := by simpa using he
                    have HTB : Hid (er = eo) := by
                      refine HTRY.out.uniq (.inr ⟨he, j, ?_, ?_⟩)
                      · rw [← HL0.out]; exact hok.out
                      · refine ⟨_, f9, HJO.out, ?_, ?_, he⟩
                        · rw [← HL0.out, ← HL9.out]; exact HG9.out
                        · rw [← HL0.out, ← HL9.out]; exact HEO.out.symm
                    have HER : Hid (er ≠ 0) := by show _ ≠ _; rw [HTB.out]; exact he
                    have HBW3 : Hid (Below wa.heap.size wa w3) := hbw.out.trans (HB3.out.mono hza2)
                    obtain rfl := HTB.out
                    clear he
                    have HHD := Lib.hid (HHA.out.below HBW3.out)
                    have HQ2 := Lib.hid (Q0.out.below HBW3.out Q0.out.lt)
                    have HLX : Hid (ROsX w3 (fun b => b < w3.heap.size ∧ b ≠ gh) (.slice (some ⟨be, offe, none⟩) q ce) ls) := (HAR.out w3 HBW3.out).weak fun b hb => by
                      have hb : b < w.heap.size := hb
                      have h1 := HZA.out
                      have h2 := (HBW3.out).size
                      have h3 := HBA.out.ghle
                      exact ⟨by omega, by omega⟩
                    have c0 := HQ2.out.cell 0
                    go_upto_if 105 with (fail)
                    go_cut [21] (fun s21 wc => s21 = .int .i64 er ∧ Hid (DeedP gh l os d ls er w3 wc))
                    case first =>
                      as_aux_lemma =>
                      by_cases hw0 : wh = 0
                      · subst hw0
                        have hq1 : q = 1 := HQ0.out rfl
                        obtain ⟨y, hy⟩ : ∃ y, ls = [y] := by
                          have : ls.length = 1 := HLSL.out.trans hq1
                          match ls, this with
                          | [y], _ => exact ⟨y, rfl⟩
                        have hy0 : ls[0]? = some y := by rw [hy]; rfl
                        obtain ⟨be2, offe2, Av, nv, cv, hAe2, hbe, hce, hrve, hoie⟩ := HLX.out.at_ (B := w3.heap.size) (fun b hb => hb.1) hy0
                        obtain ⟨rfl, rfl⟩ := some_addr hAe2
                        have HY := Lib.hid hy
                        have HRVE := Lib.hid hrve
                        have HOIE := Lib.hid hoie
                        obtain ⟨f8, G8⟩ := HHD.out.now
                        have HD1 := Lib.hid (do_any w3 gh gn l os d HHD.out (by omega) f8 G8 y HOIE.out Av nv cv HRVE.out)
                        have HD2 : Hid (∀ e w', Do1R gh l os d y (opErr (applL l (os.take d)) f8 y) w3 e w' → e = .returned (.int .i64 er) ∧ DeedP gh l os d ls er w3 w') := fun e w' h => by
                          have := DoR.deed (Do1R.all (gn := gn) (fun e => HHD.out.ne e.symm) G8 h) (by rw [← HY.out]; exact HTRY.out)
                          rw [← HY.out] at this
                          exact this
                        obtain ⟨pk, pi, pp, pa, pf, pt, px, pn, ⟨qk, qi, qt, qs, ql⟩⟩ := y
                        dsimp only [AO, Vl.kind, Vl.int_, Vl.to_, Vl.text, Vl.items] at HD1 HD2
                        have f0 : w3.cell? ⟨be, offe, none⟩ = some (.int .i64 pk) := by have h9 : w3.cell? ⟨be, offe + 0 * 13 + 0, none⟩ = some (.int .i64 pk) := hce 0 _ rfl; simpa using h9
                        have f1 : w3.cell? ⟨be, offe + 1, none⟩ = some (.int .i64 pi) := by have h9 : w3.cell? ⟨be, offe + 0 * 13 + 1, none⟩ = some (.int .i64 pi) := hce 1 _ rfl; simpa using h9
                        have f2 : w3.cell? ⟨be, offe + 2, none⟩ = some (.int .i64 pp) := by have h9 : w3.cell? ⟨be, offe + 0 * 13 + 2, none⟩ = some (.int .i64 pp) := hce 2 _ rfl; simpa using h9
                        have f3 : w3.cell? ⟨be, offe + 3, none⟩ = some (.int .i64 pa) := by have h9 : w3.cell? ⟨be, offe + 0 * 13 + 3, none⟩ = some (.int .i64 pa) := hce 3 _ rfl; simpa using h9
                        have f4 : w3.cell? ⟨be, offe + 4, none⟩ = some (.int .i64 pf) := by have h9 : w3.cell? ⟨be, offe + 0 * 13 + 4, none⟩ = some (.int .i64 pf) := hce 4 _ rfl; simpa using h9
                        have f5 : w3.cell? ⟨be, offe + 5, none⟩ = some (.int .i64 pt) := by have h9 : w3.cell? ⟨be, offe + 0 * 13 + 5, none⟩ = some (.int .i64 pt) := hce 5 _ rfl; simpa using h9
                        have f6 : w3.cell? ⟨be, offe + 6, none⟩ = some (.string px) := by have h9 : w3.cell? ⟨be, offe + 0 * 13 + 6, none⟩ = some (.string px) := hce 6 _ rfl; simpa using h9
                        have f7 : w3.cell? ⟨be, offe + 7, none⟩ = some (.string pn) := by have h9 : w3.cell? ⟨be, offe + 0 * 13 + 7, none⟩ = some (.string pn) := hce 7 _ rfl; simpa using h9
                        have f9 : w3.cell? ⟨be, offe + 8, none⟩ = some (.int .i64 qk) := by have h9 : w3.cell? ⟨be, offe + 0 * 13 + 8, none⟩ = some (.int .i64 qk) := hce 8 _ rfl; simpa using h9
                        have f10 : w3.cell? ⟨be, offe + 9, none⟩ = some (.int .i64 qi) := by have h9 : w3.cell? ⟨be, offe + 0 * 13 + 9, none⟩ = some (.int .i64 qi) := hce 9 _ rfl; simpa using h9
                        have f11 : w3.cell? ⟨be, offe + 10, none⟩ = some (.int .i64 qt) := by have h9 : w3.cell? ⟨be, offe + 0 * 13 + 10, none⟩ = some (.int .i64 qt) := hce 10 _ rfl; simpa using h9
                        have f12 : w3.cell? ⟨be, offe + 11, none⟩ = some (.string qs) := by have h9 : w3.cell? ⟨be, offe + 0 * 13 + 11, none⟩ = some (.string qs) := hce 11 _ rfl; simpa using h9
                        have f13 : w3.cell? ⟨be, offe + 12, none⟩ = some (.slice Av nv cv) := by have h9 : w3.cell? ⟨be, offe + 0 * 13 + 12, none⟩ = some (.slice Av nv cv) := hce 12 _ rfl; simpa using h9
                        have p0 : 0 < q := by omega
                        have p1 : (0 : Int) < (q : Int) := by omega
                        clear hq1 hy hy0 hbe hce hrve hoie G8
                        go_wp2_with fail
                        refine HD1.out.mono ?_
                        rintro e w7 hdo
                        obtain ⟨rfl, hde⟩ := HD2.out _ _ hdo
                        have HDE := Lib.hid hde
                        clear hde hdo
                        go_wp2_with fail
                        go_meet
                        exact ⟨rfl, HDE⟩
                      · have hw0' : (wh == 0) = false := by simpa using hw0
                        have HDA := Lib.hid (doAll_any w3 gh gn l os d HHD.out ls (some ⟨be, offe, none⟩) q ce HLX.out (by have := HLSL.out; omega))
                        clear hw0
                        go_wp2_with fail
                        refine HDA.out.mono ?_
                        rintro e w7 hdo
                        obtain ⟨rfl, hde⟩ := hdo.deed HTRY.out
                        have HDE := Lib.hid hde
                        clear hde hdo
                        go_wp2_with fail
                        go_meet
                        exact ⟨rfl, HDE⟩
                    case rest =>
                    as_aux_lemma =>
                    obtain ⟨rfl, hde⟩ := hcut
                    obtain ⟨w7, hww⟩ : ∃ w7, w7 = wc := ⟨_, rfl⟩
                    rw [← hww] at hde ⊢
                    clear hww c0
                    have hnz := HER.out
                    rcases hde.out with ⟨_, hb7⟩ | ⟨h0, _⟩
                    · have HB7 : Hid (Below wa.heap.size wa w7) := HBW3.out.trans (hb7.mono HBW3.out.size)
                      have HH7 := Lib.hid (HHA.out.below HB7.out)
                      have HBB := Lib.hid (HBA.out.keep HB7.out)
                      have e1 : (er == 0) = false := by simpa using hnz
                      clear hb7 hnz
                      go_wp2_with fail
                      go_meet
                      exact ⟨d, gn, os, _, _, Mb, Mo, rfl, rfl, rfl, by have := HNO.out; omega, HH7.out, HBB.out⟩
                    · exact absurd h0 hnz
                · obtain rfl : q = j := by omega
                  have htk : ls.take q = ls := by rw [← HLSL.out, List.take_length]
                  rw [htk] at hok hnow
                  obtain rfl : er = 0 := HTRY.out.uniq (.inl ⟨by rw [← HL0.out]; exact hok.out, rfl⟩)
                  clear htk
                  have HHD := Lib.hid (HHA.out.below hbw.out)
                  have HQ2 := Lib.hid (Q0.out.below hbw.out Q0.out.lt)
                  have HLX : Hid (ROsX W2 (fun b => b < W2.heap.size ∧ b ≠ gh) (.slice Ae q ce) ls) := (HAR.out W2 hbw.out).weak fun b hb => by
                    have hb : b < w.heap.size := hb
                    have h1 := HZA.out
                    have h2 := (hbw.out).size
                    have h3 := HBA.out.ghle
                    exact ⟨by omega, by omega⟩
                  have c0 := HQ2.out.cell 0
                  go_upto_if 105 with (fail)
                  go_cut [21] (fun s21 wc => s21 = .int .i64 0 ∧ Hid (DeedP gh l os d ls 0 W2 wc))
                  case first =>
                    as_aux_lemma =>
                    by_cases hw0 : wh = 0
                    · subst hw0
                      have hq1 : q = 1 := HQ0.out rfl
                      obtain ⟨y, hy⟩ : ∃ y, ls = [y] := by
                        have : ls.length = 1 := HLSL.out.trans hq1
                        match ls, this with
                        | [y], _ => exact ⟨y, rfl⟩
                      have hy0 : ls[0]? = some y := by rw [hy]; rfl
                      obtain ⟨be2, offe2, Av, nv, cv, hAe2, hbe, hce, hrve, hoie⟩ := HLX.out.at_ (B := W2.heap.size) (fun b hb => hb.1) hy0
                      subst hAe2
                      have HY := Lib.hid hy
                      have HRVE := Lib.hid hrve
                      have HOIE := Lib.hid hoie
                      obtain ⟨f8, G8⟩ := HHD.out.now
                      have HD1 := Lib.hid (do_any W2 gh gn l os d HHD.out (by omega) f8 G8 y HOIE.out Av nv cv HRVE.out)
                      have HD2 : Hid (∀ e w', Do1R gh l os d y (opErr (applL l (os.take d)) f8 y) W2 e w' → e = .returned (.int .i64 0) ∧ DeedP gh l os d ls 0 W2 w') := fun e w' h => by
                        have := DoR.deed (Do1R.all (gn := gn) (fun e => HHD.out.ne e.symm) G8 h) (by rw [← HY.out]; exact HTRY.out)
                        rw [← HY.out] at this
                        exact this
                      obtain ⟨pk, pi, pp, pa, pf, pt, px, pn, ⟨qk, qi, qt, qs, ql⟩⟩ := y
                      dsimp only [AO, Vl.kind, Vl.int_, Vl.to_, Vl.text, Vl.items] at HD1 HD2
                      have f0 : W2.cell? ⟨be2, offe2, none⟩ = some (.int .i64 pk) := by have h9 : W2.cell? ⟨be2, offe2 + 0 * 13 + 0, none⟩ = some (.int .i64 pk) := hce 0 _ rfl; simpa using h9
                      have f1 : W2.cell? ⟨be2, offe2 + 1, none⟩ = some (.int .i64 pi) := by have h9 : W2.cell? ⟨be2, offe2 + 0 * 13 + 1, none⟩ = some (.int .i64 pi) := hce 1 _ rfl; simpa using h9
                      have f2 : W2.cell? ⟨be2, offe2 + 2, none⟩ = some (.int .i64 pp) := by have h9 : W2.cell? ⟨be2, offe2 + 0 * 13 + 2, none⟩ = some (.int .i64 pp) := hce 2 _ rfl; simpa using h9
                      have f3 : W2.cell? ⟨be2, offe2 + 3, none⟩ = some (.int .i64 pa) := by have h9 : W2.cell? ⟨be2, offe2 + 0 * 13 + 3, none⟩ = some (.int .i64 pa) := hce 3 _ rfl; simpa using h9
                      have f4 : W2.cell? ⟨be2, offe2 + 4, none⟩ = some (.int .i64 pf) := by have h9 : W2.cell? ⟨be2, offe2 + 0 * 13 + 4, none⟩ = some (.int .i64 pf) := hce 4 _ rfl; simpa using h9
                      have f5 : W2.cell? ⟨be2, offe2 + 5, none⟩ = some (.int .i64 pt) := by have h9 : W2.cell? ⟨be2, offe2 + 0 * 13 + 5, none⟩ = some (.int .i64 pt) := hce 5 _ rfl; simpa using h9
                      have f6 : W2.cell? ⟨be2, offe2 + 6, none⟩ = some (.string px) := by have h9 : W2.cell? ⟨be2, offe2 + 0 * 13 + 6, none⟩ = some (.string px) := hce 6 _ rfl; simpa using h9
                      have f7 : W2.cell? ⟨be2, offe2 + 7, none⟩ = some (.string pn) := by have h9 : W2.cell? ⟨be2, offe2 + 0 * 13 + 7, none⟩ = some (.string pn) := hce 7 _ rfl; simpa using h9
                      have f9 : W2.cell? ⟨be2, offe2 + 8, none⟩ = some (.int .i64 qk) := by have h9 : W2.cell? ⟨be2, offe2 + 0 * 13 + 8, none⟩ = some (.int .i64 qk) := hce 8 _ rfl; simpa using h9
                      have f10 : W2.cell? ⟨be2, offe2 + 9, none⟩ = some (.int .i64 qi) := by have h9 : W2.cell? ⟨be2, offe2 + 0 * 13 + 9, none⟩ = some (.int .i64 qi) := hce 9 _ rfl; simpa using h9
                      have f11 : W2.cell? ⟨be2, offe2 + 10, none⟩ = some (.int .i64 qt) := by have h9 : W2.cell? ⟨be2, offe2 + 0 * 13 + 10, none⟩ = some (.int .i64 qt) := hce 10 _ rfl; simpa using h9
                      have f12 : W2.cell? ⟨be2, offe2 + 11, none⟩ = some (.string qs) := by have h9 : W2.cell? ⟨be2, offe2 + 0 * 13 + 11, none⟩ = some (.string qs) := hce 11 _ rfl; simpa using h9
                      have f13 : W2.cell? ⟨be2, offe2 + 12, none⟩ = some (.slice Av nv cv) := by have h9 : W2.cell? ⟨be2, offe2 + 0 * 13 + 12, none⟩ = some (.slice Av nv cv) := hce 12 _ rfl; simpa using h9
                      have p0 : 0 < q := by omega
                      have p1 : (0 : Int) < (q : Int) := by omega
                      clear hq1 hy hy0 hbe hce hrve hoie G8
                      go_wp2_with fail
                      refine HD1.out.mono ?_
                      rintro e w7 hdo
                      obtain ⟨rfl, hde⟩ := HD2.out _ _ hdo
                      have HDE := Lib.hid hde
                      clear hde hdo
                      go_wp2_with fail
                      go_meet
                      exact ⟨rfl, HDE⟩
                    · have hw0' : (wh == 0) = false := by simpa using hw0
                      have HDA := Lib.hid (doAll_any W2 gh gn l os d HHD.out ls Ae q ce HLX.out (by have := HLSL.out; omega))
                      clear hw0
                      go_wp2_with fail
                      refine HDA.out.mono ?_
                      rintro e w7 hdo
                      obtain ⟨rfl, hde⟩ := hdo.deed HTRY.out
                      have HDE := Lib.hid hde
                      clear hde hdo
                      go_wp2_with fail
                      go_meet
                      exact ⟨rfl, HDE⟩
                  case rest =>
                  as_aux_lemma =>
                  obtain ⟨rfl, hde⟩ := hcut
                  obtain ⟨w7, hww⟩ : ∃ w7, w7 = wc := ⟨_, rfl⟩
                  rw [← hww] at hde ⊢
                  clear hww c0
                  rcases hde.out with ⟨h, _⟩ | ⟨_, hokd, ⟨hnil, hb7⟩ | ⟨hpos, gn', hh7, hgn7, hk7⟩⟩
                  · exact absurd rfl h
                  · have HB7 : Hid (Below wa.heap.size wa w7) := hbw.out.trans (hb7.mono hza2)
                    have HH7 := Lib.hid (HHA.out.below HB7.out)
                    have HBB := Lib.hid (HBA.out.keep HB7.out)
                    have hq0 : q = 0 := by rw [← HLSL.out, hnil]; rfl
                    have e1 : decide ((0 : Int) < (q : Int)) = false := by simp [hq0]
                    have e2 : decide (0 < q) = false := by simp [hq0]
                    clear hb7 hq0 hnil hokd
                    go_wp2_with fail
                    go_meet
                    exact ⟨d, gn, os, _, _, Mb, Mo, rfl, rfl, rfl, by have := HNO.out; omega, HH7.out, HBB.out⟩
                  · have hq1 : 1 ≤ q := by rw [← HLSL.out]; exact hpos
                    have e1 : decide ((0 : Int) < (q : Int)) = true := by simp; omega
                    have e2 : decide (0 < q) = true := by simp; omega
                    have hgl := HHA.out.lt
                    have hk7' : Kept (fun b => b = gh ∨ b = gn) W2 w7 := hk7.weak fun i h => .inl h
                    have HB7 := Lib.hid ((HBA.out.keep hbw.out).turn hk7' (.inr hgn7))
                    have ha7 : OutR (SH gh gn') w7 wa.heap.size va Ma := hout.out.1.kept hk7' (fun e => by have := (hout.out.1.blocks _ e).1; omega) (fun e => by have := (hout.out.1.blocks _ e).1; omega) (fun b h1 h2 h3 => ⟨h2, by omega⟩)
                    obtain ⟨Aa, ca, hva, hca, hra⟩ := RdX.of_own ha7.own
                    rw [HMA.out] at hva hra hca
                    subst hva
                    obtain ⟨aa, rfl, _, hac⟩ := hra.2 (by omega)
                    rw [slV_flat] at hac
                    obtain ⟨d1, hd1⟩ : ∃ d1, d1 = d + 1 := ⟨_, rfl⟩
                    have hs1 : (d : Int) + 1 = (d1 : Int) := by omega
                    have hs1' : (0 : Int) ≤ (d1 : Int) := by omega
                    have hs2' : (d1 : Int) ≤ (cb : Int) := by omega
                    obtain ⟨d2, hd2⟩ : ∃ d2, d2 = d + q := ⟨_, rfl⟩
                    have hs2 : (d : Int) + (q : Int) = (d2 : Int) := by omega
                    have hdo : (d : Int) ≤ (co : Int) := by omega
                    have hbc := HB7.out.bcells (k := d1) (by have := HNO.out; omega) rfl
                    have hlo := Lib.hid hbc.1
                    have holds := Lib.hid hbc.2
                    have hnl : Hid ((Ma.map Prod.snd).length = q * 1) := by show _ = _; rw [List.length_map, HMA.out]; omega
                    have HAC := Lib.hid hac
                    have h1c : Hid (∀ u ∈ Ma.map Prod.snd, u.oneCell' = true) := by
                      show ∀ u ∈ _, _
                      intro u hu
                      obtain ⟨x, hx, rfl⟩ := List.mem_map.1 hu
                      obtain ⟨A9, n9, c9, e⟩ := RBX.slice (ha7.nest x hx)
                      rw [e]; rfl
                    have hfull : Hid (d1 < d1 + q) := by show _ < _; omega
                    have hb1 : Hid (d1 + q ≤ maxLen) := by show _ ≤ _; unfold maxLen; omega
                    have hb2 : Hid ((d1 + q) * 24 ≤ 140737488355328) := by show _ ≤ _; omega
                    have HH7 := Lib.hid hh7
                    have HA7 := Lib.hid ha7
                    have HD1 := Lib.hid hd1
                    have HD2 := Lib.hid hd2
                    have HGL7 := Lib.hid hh7.lt
                    have HZ7 : Hid (W2.heap.size ≤ w7.heap.size) := hk7.size
                    have HGN7 := Lib.hid hgn7
                    have HOKD := Lib.hid hokd
                    have HK7 := Lib.hid hk7
                    clear hk7 hgn7 hokd hh7 ha7 hd1 hd2 hac hra hbc hk7' hgl hpos
                    go_wp2_with (at_builtin; refine wpList_append_grows _ rfl _ _ 48 rfl 22 i0 (.slice none 0 0) 1 24 Tryz.underlying48 xi xz0 xz1 xz2 rfl (by decide) (some ⟨gb, 0, none⟩) d1 d1 ((Mb.take d1).map Prod.snd) rfl (fun h => by cases h) hlo.out holds.out aa q ca (Ma.map Prod.snd) rfl hnl.out HAC.out h1c.out hfull.out hb1.out hb2.out ?_)
                    intro v8 w8 hown8 hg8
                    have hb8 : Below w7.heap.size w7 w8 := (Below.refl _ _).grown hg8 (Nat.le_refl _) fun g hg => by cases hg
                    have HB8 := Lib.hid (HB7.out.keep hb8)
                    have HOWN8 := Lib.hid hown8
                    have HG8 := Lib.hid hg8
                    have HBL8 := Lib.hid hb8
                    have HAX : Hid (ROsX w8 (fun b => b < w8.heap.size ∧ SH gh gn' b) (.slice Ae q ce) ls) := ((HAR.out W2 hbw.out).keep fun p hp => by
                      have hp : p.block < w.heap.size := hp
                      have h1 := HBA.out.ghle
                      have h2 := HZA.out
                      have h3 := HZ7.out
                      refine (hb8.cell (by omega)).trans (HK7.out.cell (by omega) fun e => ?_)
                      have e : p.block = gh := e
                      omega).weak fun b hb => by
                        have hb : b < w.heap.size := hb
                        have h1 := HBA.out.ghle
                        have h2 := HZA.out
                        have h3 := HZ7.out
                        have h4 := HGN7.out
                        have h5 := hb8.size
                        exact ⟨by omega, by omega, by omega⟩
                    obtain ⟨A', n', c', Ms, hms, e, hn', _, hrd, hxs⟩ := HAX.out
                    injection e with e1 e2 e3
                    subst e1 e2 e3
                    obtain ⟨ae, rfl, _, hec⟩ := hrd.2 (by omega)
                    have hoc' := HB8.out.ocells (k := d) (by rw [← HNO.out]; exact hdle) rfl
                    have hlo2 := Lib.hid hoc'.1
                    have hnone2 := Lib.hid hoc'.2.1
                    have holds2 := Lib.hid hoc'.2.2
                    have hnl2 : Hid ((Ms.flatMap opV).length = q * 13) := hrd.1
                    have HEC := Lib.hid hec
                    have h1c2 : Hid (∀ u ∈ Ms.flatMap opV, u.oneCell' = true) := by
                      show ∀ u ∈ _, _
                      intro u hu
                      obtain ⟨x, hx, hu⟩ := List.mem_flatMap.1 hu
                      obtain ⟨A9, n9, c9, e⟩ := (hxs x hx).1.slice
                      exact opV_one x ⟨A9, n9, c9, e⟩ u hu
                    have hfull2 : Hid (d < d + q) := by show _ < _; omega
                    have hb3 : Hid (d + q ≤ maxLen) := by show _ ≤ _; unfold maxLen; omega
                    have hb4 : Hid ((d + q) * 144 ≤ 140737488355328) := by show _ ≤ _; omega
                    have HMS := Lib.hid hms
                    have HXS := Lib.hid hxs
                    clear hms hxs hrd hec hoc' hn' hown8 hg8 hb8 hlo holds hnl HAC h1c hfull hb1 hb2
                    go_wp2_with (at_builtin; refine wpList_append_grows _ rfl _ _ 23 rfl 31 j0 opZ 13 144 Tryz.underlying23 yi yz0 yz1 yz2 rfl (by decide) Ao d d ((Mo.take d).flatMap opV) rfl hnone2.out hlo2.out holds2.out ae q ce (Ms.flatMap opV) rfl hnl2.out HEC.out h1c2.out hfull2.out hb3.out hb4.out ?_)
                    intro v9 w9 hown9 hg9
                    have hb9 : Below w8.heap.size w8 w9 := (Below.refl _ _).grown hg9 (Nat.le_refl _) fun g hg => by cases hg
                    have HH9 : Hid (HistM w9 gh gn' l (os.take d ++ ls) d2) := by
                      have := (HH7.out.below HBL8.out).below hb9
                      rw [HLSL.out, ← HD2.out] at this
                      exact this
                    have HB9 : Hid (ThB w w9 gh gn' l (os.take d ++ ls) v8 v9 (Mb.take (d + 1) ++ Ma) (Mo.take d ++ Ms)) := by
                      refine HB7.out.grown (by rw [← HNO.out]; exact hdle) HGL7.out.1 HGL7.out.2 HA7.out ?_ ?_ HG8.out ?_ HMS.out ?_ hg9
                      · rw [← HL0.out, HLSL.out]; exact hout.out.2
                      · rw [HLSL.out, ← HD1.out, List.map_take]; exact HOWN8.out
                      · exact HXS.out
                      · rw [HLSL.out]; exact hown9
                    clear hown9 hg9 hb9
                    go_wp2_with fail
                    go_meet
                    exact ⟨d2, gn', os.take d ++ ls, v8, v9, _, _, rfl, rfl, rfl, by rw [List.length_append, List.length_take, HLSL.out]; have := HNO.out; omega, HH9.out, HB9.out⟩
        case rest =>
        as_aux_lemma =>
        obtain ⟨w1, hww⟩ : ∃ w1, w1 = wc := ⟨_, rfl⟩
        rw [← hww] at hcut ⊢
        clear hww HROS HON HNO HNB HNB3 HCELL HRB HH HB Q0 HHA HBA HREA HWA HZA c0 c1 HC hoc hos hdle hdb hdb2 hnb4 hcb hmin5 hpn hp5 HEL hec heb
        obtain ⟨d, gn, os, vb, vo, Mb, Mo, rfl, rfl, rfl, hos, hh, hB⟩ := hcut.out
        have HH := Lib.hid hh
        have HB := Lib.hid hB
        have hdle : d ≤ os.length := hh.le
        obtain ⟨Ao, co, rfl, hros, hoc, hon⟩ := hB.slice (by omega)
        obtain ⟨gb, cb, Ax, nx, cx, rfl, hcell, hrb⟩ := hB.at_ (k := d) hh.le
        clear hcut hh hB hon
        have HOL : Hid (os.length ≤ 5 * (k + 1)) := hos
        have HRO : Hid (ROs w1 w1.heap.size (.slice Ao d co) (os.take d)) := ((((ROsX.of hros).take hdle).reads (B := w1.heap.size) fun b hb => hb)).th_recap (by omega)
        obtain ⟨no, hno⟩ : ∃ no, no = os.length := ⟨_, rfl⟩
        rw [← hno] at hoc hdle hos ⊢
        obtain ⟨nb, hnb2⟩ : ∃ nb, nb = os.length + 1 := ⟨_, rfl⟩
        rw [← hno] at hnb2
        have hgb := HB.out.bases.blocks gb rfl
        have HRB := Lib.hid hrb
        have HCELL : Hid (∀ W, Below w1.heap.size w1 W → W.cell? ⟨gb, d, none⟩ = some (.slice Ax nx cx)) := fun W hW => (hW.cell (p := ⟨gb, d, none⟩) hgb.2).trans hcell
        have HLEN := Lib.hid (histLen_any w1 gh gn l os d HH.out)
        rw [← hno] at HLEN
        have HBASE := Lib.hid fun W (hW : Below w1.heap.size w1 W) => histBase_any W gh gn l os d (HH.out.below hW)
        have HOPS := Lib.hid fun W (hW : Below w1.heap.size w1 W) => histOps_any W gh gn l os d (HH.out.below hW) (by omega)
        obtain ⟨LA, hLA⟩ : ∃ LA, LA = applL l (os.take d) := ⟨_, rfl⟩
        obtain ⟨OA, hOA⟩ : ∃ OA, OA = os.take d := ⟨_, rfl⟩
        rw [← hLA] at HBASE HRB
        rw [← hOA] at HOPS HRO
        unfold CopyBaseS at HBASE
        have hd0 : (0 : Int) ≤ (d : Int) := by omega
        have hd1 : (d : Int) < (nb : Int) := by omega
        have hd2 : d < nb := by omega
        have hd3 : (d : Int) ≤ (co : Int) := by omega
        have hsum : IntKind.i64.wrap ((no : Int) - (d : Int)) = (no : Int) - (d : Int) := IntWalk.i64_in _ (by omega)
        rw [← hnb2]
        have HNO := Lib.hid hno
        have HNB := Lib.hid hnb2
        clear hno hnb2 hLA hOA hrb hcell hros
        go_wp2_with fail
        refine HLEN.out.mono ?_
        rintro e w2 ⟨rfl, hb2⟩
        have HB2 := Lib.hid hb2
        clear hb2
        go_wp2_with fail
        have VV : Below w1.heap.size w1 w2.drew := HB2.out.drew
        go_region_held3 (fun w' => w'.cell? ⟨gb, d, none⟩ = some (.slice Ax nx cx))
          (exact HCELL.out _ VV)
          (first
            | (go_at_call 27; refine (HBASE.out _ VV).mono ?_; rintro e v1 ⟨g1, n1, M1, rfl, hl1, hm1, hg1, hr1, hb1⟩; have EA := hr1.rb; rw [hl1, hm1] at EA; have VV := VV.trans (hb1.mono VV.size); clear hl1 hm1 hg1 hr1 hb1)
            | (go_at_call 26; have ST := sameBase_any LA LA (some ⟨g1, 0, none⟩) Ax n1 n1 nx cx _ _ (Nat.le_refl _) EA ((HRB.out.reads (B := w1.heap.size) fun b hb => hb.1).below VV |>.more VV.size); rw [thBs_refl] at ST; refine ST.mono ?_; rintro e v2 ⟨rfl, hb2⟩; have VV := VV.trans (hb2.mono VV.size); clear ST hb2)
            | (go_at_call 29; refine (HOPS.out _ VV).mono ?_; rintro e v3 ⟨⟨A3, n3, c3, rfl, hr3⟩, hb3⟩; have EB := hr3; have VV := VV.trans (hb3.mono VV.size); clear hr3 hb3)
            | (go_at_call 28; refine (sameOps_any OA A3 Ao n3 c3 d co _ EB ((HRO.out.below VV).more VV.size)).mono ?_; rintro e v4 ⟨rfl, hb4⟩; have VV := VV.trans (hb4.mono VV.size); clear hb4))
        go_wp2_with fail
        go_roundg (m - (k + 1))
        case measure => omega
        case rel => exact ⟨k + 1, by omega, by go_num, d, gn, os, _, _, Mb, Mo, by rw [HNB.out, HNO.out], by rw [HNO.out], rfl, HOL.out, HH.out.below VV, HB.out.keep VV⟩
    · skip
      as_aux_lemma =>
        obtain rfl : k = m := by omega
        by_cases hn : k0 < 0 ∨ (d : Int) < k0
        · have HAT := Lib.hid (at_no W1 gh gn l os d HH.out k0 hn)
          have hd0 : (0 : Int) ≤ (d : Int) := by omega
          by_cases h0 : k0 < 0
          · have e1 : decide (k0 < 0) = true := by simpa using h0
            clear hn
            go_wp2_with fail
            refine HAT.out.mono ?_
            rintro e w2 ⟨rfl, hb2⟩
            have HB2 := Lib.hid (HB.out.below.trans (hb2.mono hz1))
            clear hb2
            go_wp2_with fail
            go_ret
            exact ⟨rfl, HB2.out⟩
          · have e1 : decide (k0 < 0) = false := by simpa using h0
            have e2 : decide ((d : Int) < k0) = true := by
              rcases hn with h | h
              · exact absurd h h0
              · simpa using h
            clear hn h0
            go_wp2_with fail
            refine HAT.out.mono ?_
            rintro e w2 ⟨rfl, hb2⟩
            have HB2 := Lib.hid (HB.out.below.trans (hb2.mono hz1))
            clear hb2
            go_wp2_with fail
            go_ret
            exact ⟨rfl, HB2.out⟩
        · obtain ⟨x, rfl⟩ : ∃ x : Nat, k0 = (x : Int) := ⟨k0.toNat, by omega⟩
          have hxd : x ≤ d := by omega
          have e1 : decide ((x : Int) < 0) = false := by simp
          have e2 : decide ((d : Int) < (x : Int)) = false := by simp; omega
          have e3 : decide (d < x) = false := by simp; omega
          obtain ⟨gb3, cb3, Az, nz, cz, ez, hcz, hrz⟩ := HB.out.at_ (k := x) (by have := HNO.out; omega)
          injection ez with ez1 ez2 ez3
          injection ez1 with ez1
          injection ez1 with ez1
          subst ez1
          have hgb := HB.out.bases.blocks gb rfl
          have HAT := Lib.hid (at_yes W1 gh gn l os d x HH.out hxd)
          unfold AtR at HAT
          have hx0 : (0 : Int) ≤ (x : Int) := by omega
          have hx1 : (x : Int) < (nb : Int) := by omega
          have hx2 : x < nb := by omega
          have HRZ := Lib.hid hrz
          have HCZ := Lib.hid hcz
          have HGB := Lib.hid hgb
          clear hn hrz hcz ez2 ez3 hgb
          go_wp2_with fail
          refine HAT.out.mono ?_
          rintro e w2 ⟨g2, cap2, n2, M2, rfl, ⟨hl2, hm2, hr2, hg2⟩, hb2⟩
          have HR2 := hr2.rb
          rw [hl2, hm2] at HR2
          have HR2 := Lib.hid HR2
          have HB2 := Lib.hid hb2
          have hcz : w2.cell? ⟨gb, x, none⟩ = some (.slice Az nz cz) := (hb2.cell (p := ⟨gb, x, none⟩) HGB.out.2).trans HCZ.out
          have HSB := Lib.hid (sameBase_any _ _ (some ⟨g2, 0, none⟩) Az n2 cap2 nz cz w2 _ (Nat.le_refl _) HR2.out (((HRZ.out.reads (B := W1.heap.size) fun b hb => hb.1).below hb2).more hb2.size))
          rw [thBs_refl] at HSB
          clear hl2 hm2 hr2 hg2 hb2
          go_wp2_with fail
          refine HSB.out.mono ?_
          rintro e w3 ⟨rfl, hb3⟩
          have HB3 := Lib.hid (HB.out.below.trans ((HB2.out.trans (hb3.mono HB2.out.size)).mono hz1))
          clear hb3 hcz
          go_wp2_with fail
          go_ret
          exact ⟨rfl, HB3.out⟩
/-- the law, for every base and all deeds -/
theorem thLaw_any (l : List Bl) (f : Int → Option Int) (hf : DepOk l f) (A : Option Addr) (n c : Nat) (dl : List Dd) (Ad : Option Addr) (nd cd : Nat) (k : Int) (w : World) (h : RB w w.heap.size (.slice A n c) l) (hd : RDs w w.heap.size (.slice Ad nd cd) dl) :
    Calls Tryz.prog 4 #[.slice A n c, .slice Ad nd cd, .int .i64 k] w fun e w' => e = .returned (.bool true) ∧ Below w.heap.size w w' := by
  by_cases h0 : baseE l f = 0
  · exact thLaw_good l f hf A n c dl Ad nd cd k w h hd h0 _ rfl
  · exact thLaw_bad l f hf A n c _ k w h h0
end Go.Proofs.YtmkicfjcgbfaaaaGreat
