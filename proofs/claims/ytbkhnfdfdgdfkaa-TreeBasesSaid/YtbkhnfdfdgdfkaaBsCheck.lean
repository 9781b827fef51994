/-
  DERIVED. The walk of tree.Check. Conditions: sizes. By an AI agent.
-/
import Derived.Test.YtbkhnfdfdgdfkaaBsBase
import Derived.Test.YtbkhnfdfdgdfkaaBsBfs
namespace Go.Proofs.Ytbkhnfdfdgdfkaa
open Go.RowKit

set_option maxHeartbeats 4000000 in
/-- tree.Check -/
theorem treeCheck_any (l : List Bl) (f : Int → Option Int) (A : Option Addr) (n c : Nat) (w : World) (B : Nat) (hB : B ≤ w.heap.size) (h : RB w B (.slice A n c) l) (hf : DepOk l f) :
    Calls Try.prog 5 #[.slice A n c] w fun e w' => e = .returned (.int .i64 (baseE l f)) ∧ Below w.heap.size w w' := by
  obtain ⟨V, hV⟩ : ∃ V, V = baseE l f := ⟨_, rfl⟩
  rw [← hV]
  unfold baseE at hV
  have hn := h.len
  rw [← hn.1] at hV
  by_cases h0 : n = 0
  · subst h0
    rw [if_pos rfl] at hV
    subst hV
    clear h hn hf
    go_enter Try.func5, Try.ntmps5
    go_wp2_with fail
    go_ret
    exact ⟨rfl, Below.refl _ _⟩
  rw [if_neg h0] at hV
  have h0' : ((n : Int) == 0) = false := by simpa using h0
  by_cases h1 : 2000 < n
  · rw [if_pos h1] at hV
    have h1' : (2000 : Int) < (n : Int) := by omega
    subst hV
    clear h hn hf h0 h1
    go_enter Try.func5, Try.ntmps5
    go_wp2_with fail
    go_ret
    exact ⟨rfl, Below.refl _ _⟩
  rw [if_neg h1] at hV
  have h1' : ¬ (2000 : Int) < (n : Int) := by omega
  have HBK := Lib.hid fun (k : Nat) (x : Bl) (W : World) (hx : l[k]? = some x) (hW : Below w.heap.size w W) => checkBlock_any l A n c k x W B (Nat.le_trans hB hW.size) (h.below (hW.mono hB)) hx
  have HCK := Lib.hid fun (W : World) (hr : Rise l) (hi : IdsIn l) (hW : Below w.heap.size w W) => checkKids_any l A n c W B (Nat.le_trans hB hW.size) (h.below (hW.mono hB)) hr hi
  have HDP := Lib.hid fun (W : World) (K : Kids l) (hW : Below w.heap.size w W) => depths_any l A n c W B (Nat.le_trans hB hW.size) (h.below (hW.mono hB)) K
  have HE := Lib.hid (intElem (P := Try.prog) (e := 3) Try.underlying3 int_zero)
  have H := Lib.hid h
  have HN := Lib.hid hn
  have HV := Lib.hid hV
  have HF := Lib.hid hf
  have H0 := Lib.hid h0
  have H1 := Lib.hid h1
  obtain ⟨U, hU⟩ : ∃ U, U = blksErr none l := ⟨_, rfl⟩
  rw [← hU] at HV
  have HU : Hid (U = blksErr (prevB l 0) (l.drop 0)) := hU
  have HU0 : Hid (U = 0 → blksErr none l = 0) := fun e => hU.symm.trans e
  clear h hn hV hf h0 hU
  go_enter Try.func5, Try.ntmps5
  go_wp2_with fail
  go_loopg [21] n (fun gg s21 wr => ∃ i : Nat, i + gg = n ∧ s21 = .int .i64 (i : Int) ∧ Hid (U = blksErr (prevB l i) (l.drop i)) ∧ Hid (Below w.heap.size w wr))
  case atStart => exact ⟨0, by omega, rfl, HU, Below.refl _ _⟩
  case round =>
    obtain ⟨i, hig, rfl, hno, hbel⟩ := hrel
    obtain ⟨W1, rfl⟩ : ∃ W1, W1 = wr := ⟨_, rfl⟩
    by_cases hk : i < n
    case pos =>
      obtain ⟨x, hx⟩ : ∃ x, l[i]? = some x := ⟨_, List.getElem?_eq_getElem (by have := HN.out.1; omega)⟩
      have hst := hno.out.trans (blksErr_at hx)
      have HX := HBK.out i x W1 hx hbel.out
      obtain ⟨e, he⟩ : ∃ e, e = blkErr (prevB l i) x := ⟨_, rfl⟩
      rw [← he] at hst HX
      have HX := Lib.hid HX
      have j0 : (0 : Int) ≤ (i : Int) := by omega
      have j1 : (i : Int) < (n : Int) := by omega
      clear hx he
      by_cases hz : e = 0
      · have HS := Lib.hid (hst.trans (if_neg (fun h => h hz)))
        subst hz
        clear hst
        go_wp2_with fail
        refine HX.out.mono ?_
        rintro e w2 ⟨rfl, hb⟩
        have HB2 : Hid (Below w.heap.size w w2) := hbel.out.trans (hb.mono hbel.out.size)
        clear hb
        go_wp2_with fail
        go_roundg (n - (i + 1))
        case measure => omega
        case rel => exact ⟨i + 1, by omega, by go_num, HS, HB2⟩
      · have hs := hst.trans (if_pos hz)
        have HZ := Lib.hid (HV.out.trans ((if_pos (by rw [hs]; exact hz)).trans hs))
        have hz' : (e != 0) = true := by simpa using hz
        clear hst hs hz
        go_wp2_with fail
        refine HX.out.mono ?_
        rintro e' w2 ⟨rfl, hb⟩
        have HB2 : Hid (Below w.heap.size w w2) := hbel.out.trans (hb.mono hbel.out.size)
        clear hb
        go_wp2_with fail
        go_ret
        exact ⟨by rw [HZ.out]; rfl, HB2.out⟩
    case neg =>
    obtain rfl : n = i := by omega
    have hu : U = 0 := hno.out.trans (by rw [List.drop_of_length_le (by rw [← HN.out.1]; exact Nat.le_refl _)]; cases prevB l n <;> rfl)
    have hb0 := HU0.out hu
    have HV2 := Lib.hid (HV.out.trans (if_neg (fun h => h hu)))
    have HX := HCK.out W1 (rise_of hb0) (ids_of hb0) hbel.out
    have HK : Hid (allKids l l = 0 → Kids l) := fun h3 => kids_of (by have := HN.out.1; have := H0.out; omega) (by have := HN.out.1; have := H1.out; omega) hb0 h3
    obtain ⟨e, he⟩ : ∃ e, e = allKids l l := ⟨_, rfl⟩
    rw [← he] at HX HV2 HK
    have HX := Lib.hid HX
    clear he hu hb0 hno
    by_cases hz : e = 0
    case neg =>
      have HZ := Lib.hid (HV2.out.trans (if_pos hz))
      have hz' : (e != 0) = true := by simpa using hz
      clear hz
      go_wp2_with fail
      refine HX.out.mono ?_
      rintro e' w2 ⟨rfl, hb⟩
      have HB2 : Hid (Below w.heap.size w w2) := hbel.out.trans (hb.mono hbel.out.size)
      clear hb
      go_wp2_with fail
      go_ret
      exact ⟨by rw [HZ.out]; rfl, HB2.out⟩
    have KK := Lib.hid (HK.out hz)
    have HV3 := Lib.hid (HV2.out.trans (if_neg (fun h => h hz)))
    subst hz
    clear HV HV2
    go_wp2_with fail
    refine HX.out.mono ?_
    rintro e' w2 ⟨rfl, hb⟩
    have HB2 : Hid (Below w.heap.size w w2) := hbel.out.trans (hb.mono hbel.out.size)
    have HY := Lib.hid (HDP.out w2 KK.out HB2.out)
    clear hb
    go_wp2_with fail
    refine HY.out.mono ?_
    rintro e' w3 ⟨⟨bm, km, f', rfl, hm, hdep⟩, hb⟩
    obtain rfl : f' = f := hdep.uniq (HF.out KK.out)
    have HB3 : Hid (Below w.heap.size w w3) := HB2.out.trans (hb.mono HB2.out.size)
    have HM := Lib.hid hm
    have HD := Lib.hid hdep
    clear hb hm hdep
    go_wp2_with fail
    go_loopg [40] n (fun gg s40 wr => ∃ i : Nat, i + gg = n ∧ s40 = .int .i64 (i : Int) ∧ Hid (V = lvlE f' (l.drop i)) ∧ Hid (IM wr bm km f') ∧ Hid (Below w.heap.size w wr))
    case atStart => exact ⟨0, by omega, rfl, HV3, HM, HB3⟩
    case round =>
      obtain ⟨i, hig, rfl, hno, hm, hbel⟩ := hrel
      by_cases hk : i < n
      case neg =>
        obtain rfl : n = i := by omega
        have hu : V = 0 := hno.out.trans (by rw [List.drop_of_length_le (by rw [← HN.out.1]; exact Nat.le_refl _)]; rfl)
        have HZ := Lib.hid hu
        clear hu
        go_wp2_with fail
        go_ret
        exact ⟨by rw [HZ.out]; rfl, hbel.out⟩
      obtain ⟨x, hx⟩ : ∃ x, l[i]? = some x := ⟨_, List.getElem?_eq_getElem (by have := HN.out.1; omega)⟩
      obtain ⟨b, off, Ak, nk, ck, Ap, np, cp, rfl, hbb, g0, g1, g2, g3, g4, _, _⟩ := (H.out.below (hbel.out.mono hB)).at_ hx
      have hst := hno.out.trans (lvlE_at hx)
      have hxi := KK.out.ids.i64 (List.mem_of_getElem? hx)
      have hlk := (hm.out.alloc (.cells #[.int .i64 x.id, .int .i64 x.parent, .slice Ak nk ck, .string x.text, .slice Ap np cp] 30)).look_ok HE.out Try.underlying3 Try.underlying51 hxi
      have HMA := Lib.hid (hm.out.alloc (.cells #[.int .i64 x.id, .int .i64 x.parent, .slice Ak nk ck, .string x.text, .slice Ap np cp] 30))
      have HAL := Lib.hid (hbel.out.alloc hbel.out.size (.cells #[.int .i64 x.id, .int .i64 x.parent, .slice Ak nk ck, .string x.text, .slice Ap np cp] 30))
      have j0 : (0 : Int) ≤ (i : Int) := by omega
      have j1 : (i : Int) < (n : Int) := by omega
      clear hx
      cases hfx : f' x.id with
      | none =>
        rw [hfx] at hlk hst
        dsimp only [Option.getD_none, Option.isSome_none] at hlk
        have HZ := Lib.hid (hst.trans (if_pos rfl))
        clear hst hfx
        go_wp2_with fail
        go_ret
        exact ⟨by rw [HZ.out]; rfl, HAL.out⟩
      | some d =>
        rw [hfx] at hlk hst
        dsimp only [Option.getD_some, Option.isSome_some] at hlk hst
        have hst := hst.trans (if_neg (by simp))
        clear hfx
        by_cases hd : 40 < d
        · have HZ := Lib.hid (hst.trans (if_pos hd))
          clear hst
          go_wp2_with fail
          go_ret
          exact ⟨by rw [HZ.out]; rfl, HAL.out⟩
        · have HZ := Lib.hid (hst.trans (if_neg hd))
          clear hst
          go_wp2_with fail
          go_roundg (n - (i + 1))
          case measure => omega
          case rel => exact ⟨i + 1, by omega, by go_num, HZ, HMA, HAL⟩
end Go.Proofs.Ytbkhnfdfdgdfkaa
