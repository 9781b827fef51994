/-
  DERIVED. Operations tried, on both sides: the walks of tree.tried, the reference's AllOf and tried. Conditions: sizes.
  By an AI agent.
-/
import Derived.Test.YtmkicfjcgbfaaaaGreatTg36
import Derived.Test.YtmkicfjcgbfaaaaGreatTg44
import Derived.Test.YtmkicfjcgbfaaaaGreatTg43
import Derived.Test.YtmkicfjcgbfaaaaGreatTg31
import Derived.Test.YtmkicfjcgbfaaaaGreatTg38
namespace Go.Proofs.YtmkicfjcgbfaaaaGreat
open Go.RowKit

/-- operations tried one after another: no error, or the first one -/
def TryP (l : List Bl) (os : List Opn) (er : Int) : Prop := (OkAll l os ∧ er = 0) ∨ (er ≠ 0 ∧ ∃ k, OkAll l (os.take k) ∧ BadAt l os k er)
theorem bad_lt {l : List Bl} {os : List Opn} {k k' : Nat} {er : Int} (h : BadAt l os k er) (h' : OkAll l (os.take k')) : k' ≤ k := by
  obtain ⟨o, f, h1, h2, h3, h4⟩ := h
  refine Nat.le_of_not_lt fun hlt => ?_
  obtain ⟨f', G', he⟩ := h' k o (by rw [List.getElem?_take, if_pos hlt]; exact h1)
  rw [take_take os (Nat.le_of_lt hlt)] at G' he
  rw [h2.uniq G', he] at h3
  exact h4 h3.symm
theorem TryP.uniq {l : List Bl} {os : List Opn} {e e' : Int} (h : TryP l os e) (h' : TryP l os e') : e = e' := by
  rcases h with ⟨h, rfl⟩ | ⟨hne, k, hk, hb⟩
  · rcases h' with ⟨_, rfl⟩ | ⟨_, k', _, hb'⟩
    · rfl
    · obtain ⟨o, f, h1, _⟩ := hb'
      have hl := (List.getElem?_eq_some_iff.1 h1).1
      have := bad_lt ⟨o, f, h1, ‹_›⟩ (k' := k' + 1) (h.pre _)
      omega
  · rcases h' with ⟨h', rfl⟩ | ⟨_, k', hk', hb'⟩
    · have := bad_lt hb (k' := k + 1) (h'.pre _)
      omega
    · have h1 := bad_lt hb hk'
      have h2 := bad_lt hb' hk
      obtain rfl : k = k' := by omega
      obtain ⟨o, f, a1, a2, a3, _⟩ := hb
      obtain ⟨o', f', b1, b2, b3, _⟩ := hb'
      obtain rfl : o = o' := by rw [a1] at b1; exact Option.some.inj b1
      rw [← a3, ← b3, a2.uniq b2]
/-- what AllOf leaves -/
def AllOfR (l : List Bl) (os : List Opn) (w : World) (e : Ending) (w' : World) : Prop := (∃ A n c k er, e = .returned (.tuple #[.slice A n c, .int .i64 k, .int .i64 er]) ∧ TryP l os er ∧ (er = 0 → RB w' w'.heap.size (.slice A n c) (applL l os))) ∧ Below w.heap.size w w'
set_option maxRecDepth 100000 in
set_option maxHeartbeats 8000000 in
/-- the reference's AllOf -/
theorem allOf_any (l : List Bl) (f : Int → Option Int) (G : Good l f) (A : Option Addr) (n c : Nat) (os : List Opn) (Ao : Option Addr) (no co : Nat) (w : World) (h : RB w w.heap.size (.slice A n c) l) (ho : ROs w w.heap.size (.slice Ao no co) os) :
    Calls Tryz.prog 33 #[.slice A n c, .slice Ao no co] w (AllOfR l os w) := by
  have hnol := ho.len
  have HNO : Hid (no = os.length) := hnol.1
  have hnb : no * 144 ≤ 140737488351232 := hnol.2.2
  have HO := Lib.hid ho
  have HRB0 := Lib.hid h
  have HG := Lib.hid G
  have HOK0 : Hid (OkAll l (os.take 0)) := fun i o hi => by simp at hi
  clear G h ho hnol
  go_enter Tryz.func33, Tryz.ntmps33
  go_wp2_with fail
  go_loopg [0, 12] no (fun gg s0 s12 wr => ∃ (k : Nat) (A9 : Option Addr) (n9 c9 : Nat), k + gg = no ∧ s0 = .slice A9 n9 c9 ∧ s12 = .int .i64 (k : Int) ∧ Hid (OkAll l (os.take k)) ∧ Hid (RB wr wr.heap.size (.slice A9 n9 c9) (applL l (os.take k))) ∧ Hid (Below w.heap.size w wr))
  case atStart => exact ⟨0, A, n, c, by omega, rfl, rfl, HOK0, HRB0, Below.refl _ _⟩
  case round =>
    obtain ⟨k, A9, n9, c9, hkg, rfl, rfl, hok, hrb, hbel⟩ := hrel
    obtain ⟨W1, rfl⟩ : ∃ W1, W1 = wr := ⟨_, rfl⟩
    by_cases hk : k < no
    · obtain ⟨o, hko⟩ : ∃ o, os[k]? = some o := ⟨_, List.getElem?_eq_getElem (by have := HNO.out; omega)⟩
      obtain ⟨f9, G9⟩ := hok.out.good HG.out k (by rw [List.length_take, ← HNO.out]; omega)
      rw [take_take os (Nat.le_refl k)] at G9
      obtain ⟨b, off, Av, nv, cv, rfl, hbb, hc, hrv, hoi⟩ := (HO.out.below hbel.out).at_ hko
      have HRV : Hid (RV W1 W1.heap.size (.slice Av nv cv) o.val.items) := hrv.more hbel.out.size
      have HOI := Lib.hid hoi
      have HKO := Lib.hid hko
      have HSN : Hid (applL l (os.take (k + 1)) = applied (applL l (os.take k)) o) := applL_snoc hko
      have hokn : opErr (applL l (os.take k)) f9 o = 0 → OkAll l (os.take (k + 1)) := fun he => hok.out.snoc hko G9 he
      have hbad : opErr (applL l (os.take k)) f9 o ≠ 0 → BadAt l os k (opErr (applL l (os.take k)) f9 o) := fun he => ⟨o, f9, hko, G9, rfl, he⟩
      have HOKN := Lib.hid hokn
      have HBAD := Lib.hid hbad
      obtain ⟨L, hL⟩ : ∃ L, L = applL l (os.take k) := ⟨_, rfl⟩
      rw [← hL] at hrb HSN G9 HOKN HBAD
      obtain ⟨ok, oi, op, oa, of, ot, ox, on, ⟨vk, vi, vt, vs, vl⟩⟩ := o
      have g0 : W1.cell? ⟨b, off + k * 13, none⟩ = some (.int .i64 ok) := hc 0 _ rfl
      have g1 : W1.cell? ⟨b, off + k * 13 + 1, none⟩ = some (.int .i64 oi) := hc 1 _ rfl
      have g2 : W1.cell? ⟨b, off + k * 13 + 2, none⟩ = some (.int .i64 op) := hc 2 _ rfl
      have g3 : W1.cell? ⟨b, off + k * 13 + 3, none⟩ = some (.int .i64 oa) := hc 3 _ rfl
      have g4 : W1.cell? ⟨b, off + k * 13 + 4, none⟩ = some (.int .i64 of) := hc 4 _ rfl
      have g5 : W1.cell? ⟨b, off + k * 13 + 5, none⟩ = some (.int .i64 ot) := hc 5 _ rfl
      have g6 : W1.cell? ⟨b, off + k * 13 + 6, none⟩ = some (.string ox) := hc 6 _ rfl
      have g7 : W1.cell? ⟨b, off + k * 13 + 7, none⟩ = some (.string on) := hc 7 _ rfl
      have g8 : W1.cell? ⟨b, off + k * 13 + 8, none⟩ = some (.int .i64 vk) := hc 8 _ rfl
      have g9 : W1.cell? ⟨b, off + k * 13 + 9, none⟩ = some (.int .i64 vi) := hc 9 _ rfl
      have g10 : W1.cell? ⟨b, off + k * 13 + 10, none⟩ = some (.int .i64 vt) := hc 10 _ rfl
      have g11 : W1.cell? ⟨b, off + k * 13 + 11, none⟩ = some (.string vs) := hc 11 _ rfl
      have g12 : W1.cell? ⟨b, off + k * 13 + 12, none⟩ = some (.slice Av nv cv) := hc 12 _ rfl
      have j0 : (0 : Int) ≤ (k : Int) := by omega
      have j1 : (k : Int) < (no : Int) := by omega
      obtain ⟨wa, hwa⟩ : ∃ wa, wa = W1.alloc (.cells #[.int .i64 ok, .int .i64 oi, .int .i64 op, .int .i64 oa, .int .i64 of, .int .i64 ot, .string ox, .string on, .int .i64 vk, .int .i64 vi, .int .i64 vt, .string vs, .slice Av nv cv] 31) := ⟨_, rfl⟩
      have hal : Below W1.heap.size W1 wa := by rw [hwa]; exact (Below.refl _ _).alloc (Nat.le_refl _) _
      have P0 : Hid (Blk wa W1.heap.size 31 #[.int .i64 ok, .int .i64 oi, .int .i64 op, .int .i64 oa, .int .i64 of, .int .i64 ot, .string ox, .string on, .int .i64 vk, .int .i64 vi, .int .i64 vt, .string vs, .slice Av nv cv]) := by rw [hwa]; exact Blk.new _ _ _
      have HBA : Hid (Below w.heap.size w wa) := hbel.out.trans (hal.mono hbel.out.size)
      have HRA : Hid (RB wa wa.heap.size (.slice A9 n9 c9) L) := (hrb.out.below hal).more hal.size
      have HVA : Hid (RV wa wa.heap.size (.slice Av nv cv) vl) := (HRV.out.below hal).more hal.size
      have HG9 := Lib.hid G9
      have HOE := Lib.hid fun W (hW : Below wa.heap.size wa W) => opError_any L f9 HG9.out A9 n9 c9 ⟨ok, oi, op, oa, of, ot, ox, on, ⟨vk, vi, vt, vs, vl⟩⟩ Av nv cv W wa.heap.size hW.size (HRA.out.below hW) HOI.out (HVA.out.below hW)
      have HAP := Lib.hid fun (he : opErr L f9 ⟨ok, oi, op, oa, of, ot, ox, on, ⟨vk, vi, vt, vs, vl⟩⟩ = 0) W (hW : Below wa.heap.size wa W) => appliedR_any L f9 HG9.out A9 n9 c9 ⟨ok, oi, op, oa, of, ot, ox, on, ⟨vk, vi, vt, vs, vl⟩⟩ Av nv cv W wa.heap.size hW.size (HRA.out.below hW) (HVA.out.below hW) HOI.out he
      obtain ⟨L', hL'⟩ : ∃ L', L' = applied L ⟨ok, oi, op, oa, of, ot, ox, on, ⟨vk, vi, vt, vs, vl⟩⟩ := ⟨_, rfl⟩
      rw [← hL'] at HAP HSN
      obtain ⟨er, her⟩ : ∃ er, er = opErr L f9 ⟨ok, oi, op, oa, of, ot, ox, on, ⟨vk, vi, vt, vs, vl⟩⟩ := ⟨_, rfl⟩
      rw [← her] at HOE HAP HOKN HBAD
      unfold ApplR at HAP
      dsimp only [AO, Vl.kind, Vl.int_, Vl.to_, Vl.text, Vl.items] at HOE HAP
      have HWA := Lib.hid hwa
      clear hko hbb hc hrv hoi hwa hal hL' her hokn hbad G9 hL
      go_upto_region 4 with fail
      rw [← HWA.out]
      clear g0 g1 g2 g3 g4 g5 g6 g7 g8 g9 g10 g11 g12
      have e0 := fun i => P0.out.cell i
      go_wp2_with fail
      refine (HOE.out wa (Below.refl _ _)).mono ?_
      rintro e w2 ⟨rfl, hb⟩
      have HB2 := Lib.hid hb
      have P2 := Lib.hid (P0.out.below hb P0.out.lt)
      clear hb e0
      by_cases h0 : er = 0
      · subst h0
        have e0 := fun i => P2.out.cell i
        go_wp2_with fail
        refine (HAP.out trivial w2 HB2.out).mono ?_
        rintro e w3 ⟨A3, n3, c3, rfl, hr3, hb⟩
        have HB3 : Hid (Below w.heap.size w w3) := HBA.out.trans ((HB2.out.trans (hb.mono HB2.out.size)).mono HBA.out.size)
        have HR3 : Hid (RB w3 w3.heap.size (.slice A3 n3 c3) (applL l (os.take (k + 1)))) := by
          show RB _ _ _ _
          rw [HSN.out]; exact hr3
        have HOK3 := Lib.hid (HOKN.out trivial)
        clear hb e0 hr3
        go_wp2_with fail
        go_roundg (no - (k + 1))
        case measure => omega
        case rel => exact ⟨k + 1, A3, n3, c3, by omega, rfl, by go_num, HOK3, HR3, HB3⟩
      · have h0' : (er != 0) = true := by simpa using h0
        have HTP : Hid (TryP l os er) := .inr ⟨h0, k, hok.out, HBAD.out h0⟩
        have HNZ := Lib.hid h0
        have HBF : Hid (Below w.heap.size w w2) := HBA.out.trans (HB2.out.mono HBA.out.size)
        clear h0
        go_wp2_with fail
        go_ret3
        exact ⟨⟨_, _, _, _, er, rfl, HTP.out, fun e => absurd e HNZ.out⟩, HBF.out⟩
    · obtain rfl : k = no := by omega
      have hok' := hok.out
      have hrb' := hrb.out
      rw [HNO.out, List.take_length] at hok' hrb'
      have HOKF := Lib.hid hok'
      have HRBF := Lib.hid hrb'
      clear hok' hrb'
      go_wp2_with fail
      go_ret3
      exact ⟨⟨_, _, _, _, 0, rfl, .inl ⟨HOKF.out, rfl⟩, fun _ => HRBF.out⟩, hbel.out⟩
/-- what tried leaves: the list, or why not -/
def TriedR (l : List Bl) (os : List Opn) (Ao : Option Addr) (no co : Nat) (w : World) (e : Ending) (w' : World) : Prop := (∃ er, TryP l os er ∧ e = .returned (.tuple #[if er = 0 then .slice Ao no co else .slice none 0 0, .int .i64 er])) ∧ Below w.heap.size w w'
set_option maxRecDepth 100000 in
set_option maxHeartbeats 4000000 in
/-- the reference's tried -/
theorem triedR_any (l : List Bl) (f : Int → Option Int) (G : Good l f) (A : Option Addr) (n c : Nat) (os : List Opn) (Ao : Option Addr) (no co : Nat) (w : World) (h : RB w w.heap.size (.slice A n c) l) (ho : ROs w w.heap.size (.slice Ao no co) os) :
    Calls Tryz.prog 112 #[.slice A n c, .slice Ao no co] w (TriedR l os Ao no co w) := by
  have HA := Lib.hid (allOf_any l f G A n c os Ao no co w h ho)
  clear h ho G
  go_enter Tryz.func112, Tryz.ntmps112
  go_wp2_with fail
  refine HA.out.mono ?_
  rintro e w1 ⟨⟨A1, n1, c1, k, er, rfl, hT, _⟩, hb⟩
  have HT := Lib.hid hT
  have HB := Lib.hid hb
  clear hT hb
  by_cases h0 : er = 0
  · subst h0
    go_wp2_with fail
    go_ret2
    exact ⟨⟨0, HT.out, by rw [if_pos rfl]; rfl⟩, HB.out⟩
  · have h0' : (er != 0) = true := by simpa using h0
    have HN := Lib.hid h0
    clear h0
    go_wp2_with fail
    go_ret2
    exact ⟨⟨er, HT.out, by rw [if_neg HN.out]; rfl⟩, HB.out⟩
set_option maxRecDepth 100000 in
set_option maxHeartbeats 4000000 in
/-- tree.tried -/
theorem tried_any (l : List Bl) (f : Int → Option Int) (G : Good l f) (A : Option Addr) (n c : Nat) (os : List Opn) (Ao : Option Addr) (no co : Nat) (w : World) (h : RB w w.heap.size (.slice A n c) l) (ho : ROs w w.heap.size (.slice Ao no co) os) (hcl : Ao = none → no = 0 ∧ co = 0) :
    Calls Tryz.prog 107 #[.slice A n c, .slice Ao no co] w (TriedR l os Ao no no w) := by
  have hn0 : 0 < n := by
    obtain ⟨r, hr, _⟩ := G.kids.root
    have := (List.getElem?_eq_some_iff.1 hr).1
    have := h.len.1
    omega
  have hn1 : n ≤ 100000 := by have := G.kids.short; have := h.len.1; omega
  have HCB := Lib.hid (copyBase_any l A n c w w.heap.size (Nat.le_refl _) h hn0 hn1)
  have HCL := Lib.hid fun W => clipO_any Ao no co W ho.len.2.1 hcl
  have HO := Lib.hid ho
  have HG := Lib.hid G
  clear h ho G hn0 hn1 hcl
  go_enter Tryz.func107, Tryz.ntmps107
  go_wp2_with fail
  refine HCB.out.mono ?_
  rintro e w2 ⟨g, n2, M, rfl, hl2, hm2, hg2, hr2, hb2⟩
  have HB2 := Lib.hid hb2
  have hz2 := HB2.out.size
  have HA := Lib.hid (allIn_any w2 g n2 n2 M l f os hr2 hl2 hm2 HG.out Ao no co (((ROsX.of HO.out).keep fun p hp => HB2.out.cell (by have hp : p.block < w.heap.size := hp; omega)).weak fun b hb => ⟨by have hb : b < w.heap.size := hb; omega, by have hb : b < w.heap.size := hb; omega⟩))
  have HGL : Hid (w.heap.size ≤ g) := hg2
  clear hb2 hl2 hm2 hr2 hg2
  go_wp2_with fail
  refine HA.out.mono ?_
  rintro e w3 ⟨hcase, hg3⟩
  have HB3 : Hid (Below w.heap.size w w3) := below_own HB2.out hg3 HGL.out
  rcases hcase with ⟨k, er, h1, h2, rfl⟩ | ⟨h1, g', cap', n3, M3, rfl, h3, h4, h5, h6⟩
  · have hne : er ≠ 0 := by obtain ⟨_, _, _, _, _, h⟩ := h2; exact h
    have HT : Hid (TryP l os er) := .inr ⟨hne, k, h1, h2⟩
    have HN := Lib.hid hne
    have h0' : (er != 0) = true := by simpa using hne
    clear h1 h2 hg3 hne
    go_wp2_with fail
    go_ret2
    exact ⟨⟨er, HT.out, by rw [if_neg HN.out]; rfl⟩, HB3.out⟩
  · have HT : Hid (TryP l os 0) := .inl ⟨h1, rfl⟩
    clear h1 h3 h4 h5 h6 hg3
    go_wp2_with fail
    refine (HCL.out w3).mono ?_
    rintro e w4 ⟨rfl, hw⟩
    rw [hw]
    clear hw
    go_wp2_with fail
    go_ret2
    exact ⟨⟨0, HT.out, by rw [if_pos rfl]; rfl⟩, HB3.out⟩
end Go.Proofs.YtmkicfjcgbfaaaaGreat
