/-
  DERIVED. The walk of tree.ReadOutline. Conditions: a length in reach; the library's own bound holds some number.
  By an AI agent.
-/
import Derived.Test.YtmkicfjcgbfaaaaGreatDoorTc15
namespace Go.Proofs.YtmkicfjcgbfaaaaGreatDoor
open Go.RowKit

/-- what the reading of an outline answers -/
def OutlP (s : ByteArray) (w : World) (e : Ending) (w' : World) : Prop :=
  ∃ A c, e = .returned (.tuple #[.slice A (olL s).length c, .int .i64 (olE s)]) ∧ Reads w' w'.heap.size 2 A (olL s).length (flatL (olL s)) ∧ (olL s).length ≤ 400000 ∧ (olL s).length ≤ c ∧ Below w.heap.size w w'
theorem OutlP.bad {s : ByteArray} {w w' : World} {e : Ending} {E : Int} (h : olE s = E ∧ olL s = []) (he : e = .returned (.tuple #[.slice none 0 0, .int .i64 E])) (hb : Below w.heap.size w w') : OutlP s w e w' := by
  unfold OutlP
  rw [h.1, h.2]
  exact ⟨none, 0, he, Reads.none_, Nat.zero_le _, Nat.le_refl _, hb⟩
theorem cut_none {r : List UInt8} (h : nl r = -1) : Lib.cut r [10] = (r, [], false) := by
  unfold Lib.cut
  rw [show Lib.index r [10] = -1 from h, if_neg (by omega)]
theorem cut_some {r : List UInt8} {i : Nat} (h : nl r = i) : Lib.cut r [10] = (r.take i, r.drop (i + 1), true) := by
  unfold Lib.cut
  rw [show Lib.index r [10] = (i : Int) from h, if_pos (by omega)]
  rfl
theorem ba_back (p : ByteArray) : (⟨p.data.toList.toArray⟩ : ByteArray) = p := by cases p; rfl
theorem trim_le (ln : ByteArray) : (⟨(Lib.trimLeftB ln.data.toList 32).toArray⟩ : ByteArray).size ≤ ln.size := by
  have h := trimLeftB_le ln.data.toList 32
  rw [← Lib.size_eq] at h
  show (Lib.trimLeftB ln.data.toList 32).toArray.size ≤ _
  simpa using h
theorem trim_sz (ln : ByteArray) : (⟨(Lib.trimLeftB ln.data.toList 32).toArray⟩ : ByteArray).size = (Lib.trimLeftB ln.data.toList 32).length := by
  show (Lib.trimLeftB ln.data.toList 32).toArray.size = _
  simp

theorem snoc_cases {α : Type} (l : List α) : l = [] ∨ ∃ a x, l = a ++ [x] := by
  rcases List.eq_nil_or_concat l with h | ⟨a, x, h⟩
  · exact .inl h
  · exact .inr ⟨a, x, by rw [h]; simp⟩
theorem own_some {w : World} {B : Nat} {e : TypeId} {size n : Nat} {v : Value} {xs : List Value} (h : w.ownsRow B e size v n xs) (hn : 0 < n) : ∃ g cap, v = .slice (some ⟨g, 0, none⟩) n cap ∧ ∀ j u, xs[j]? = some u → w.cell? ⟨g, j, none⟩ = some u := by
  rcases h.2 with ⟨_, hz⟩ | ⟨g, cap, cur, rfl, r⟩
  · exact absurd hz (by omega)
  · refine ⟨g, cap, rfl, fun j u hu => ?_⟩
    have := h.cells (g := g) rfl j u hu
    rwa [Addr.add_lit, Nat.zero_add] at this

set_option maxHeartbeats 16000000 in
set_option maxRecDepth 100000 in
theorem readOutline_any (s : ByteArray) (m : Int) (w : World) (hs : s.size ≤ 140737488351232) (hm : w.cell? ⟨0, 0, none⟩ = some (.int .i64 m)) (hz0 : 0 < w.heap.size) :
    Calls Tryz.prog 6 #[.string s] w (OutlP s w) := by
  by_cases hbig : 400000 < s.size
  · have HB := Lib.hid (olE_big hbig)
    have h1 : (400000 : Int) < (s.size : Int) := by omega
    clear hbig
    go_enter Tryz.func6, Tryz.ntmps6
    go_wp2
    go_ret2
    exact OutlP.bad HB.out rfl (Below.refl _ _)
  obtain ⟨i0, hi, hz0', hz1, hz2⟩ := info_parts ln_info
  have hsz : s.size ≤ 400000 := by omega
  have h1 : ¬ (400000 : Int) < (s.size : Int) := by omega
  have HM := Lib.hid hm
  have HST := Lib.hid (Rd.start s)
  clear hbig hm
  go_enter Tryz.func6, Tryz.ntmps6
  go_wp2_with fail
  go_loopg [0, 4] s.size (fun gg s0 s4 wr => ∃ (r : ByteArray) (acc : List Ln), r.size = gg ∧ r.size + acc.length ≤ s.size ∧ s0 = .string r ∧ wr.ownsRow w.heap.size 59 2 s4 acc.length (flatL acc) ∧ Hid (Rd s r.data.toList acc) ∧ (∀ x ∈ acc, (lnT x).size ≤ s.size ∧ x.1 ≤ s.size) ∧ Below w.heap.size w wr)
  case atStart => exact ⟨s, [], rfl, by simp, rfl, World.ownsRow_nil _ _ _ _, HST, fun x hx => (by cases hx), Below.refl _ _⟩
  case round =>
    obtain ⟨r, acc, hrg, hra, rfl, hown, hrd, hax, hbel⟩ := hrel
    have hzz := hbel.size
    have hax := Lib.hid hax
    by_cases h0 : r.size = 0
    · obtain ⟨wo, rfl⟩ : ∃ wo : World, wo = wr := ⟨_, rfl⟩
      have hem : r.toList.isEmpty = true := by rw [Lib.toList_data, List.isEmpty_iff, ← List.length_eq_zero_iff, ← Lib.size_eq]; exact h0
      have hdn := hrd.out
      rw [toL_nil.2 hem] at hdn
      have HD := Lib.hid hdn.done
      obtain ⟨AC, hAC⟩ : ∃ AC, AC = acc := ⟨_, rfl⟩
      rw [← hAC] at HD hown hra hax
      have HR := Lib.hid (olE_some hsz HD.out)
      obtain ⟨n, hn⟩ : ∃ n, n = AC.length := ⟨_, rfl⟩
      rw [← hn] at hown hra
      have HNL := Lib.hid hn
      obtain ⟨A, c, rfl, hrds⟩ := own_reads hown
      have hnc : n ≤ c := by
        rcases hown.2 with ⟨hv, hz⟩ | ⟨g, cap, cur, hv, hbg, hg, hnc, _⟩
        · omega
        · injection hv with _ _ hv; omega
      have HRD := Lib.hid hrds
      have PL := Lib.hid (fun h => hrds.plain h (by omega))
      clear hdn hrd hAC hn h0 hown hrds
      go_wp2_with fail
      go_loopg [73] n (fun gg s73 wr => ∃ k : Nat, k + gg = n ∧ s73 = .int .i64 k ∧ Hid (firstE AC = firstE (AC.drop k)) ∧ Below wo.heap.size wo wr)
      case atStart => exact ⟨0, by omega, rfl, rfl, Below.refl _ _⟩
      case round =>
        obtain ⟨k, hkg, rfl, hfe, hbk⟩ := hrel
        have hzk := hbk.size
        by_cases hk : k < n
        · obtain ⟨b1, o1, rfl, hb1, hc1⟩ := PL.out (by omega)
          obtain ⟨x, hx⟩ : ∃ x, AC[k]? = some x := ⟨_, List.getElem?_eq_getElem (by have := HNL.out; omega)⟩
          obtain ⟨p0, p1⟩ := ln_at hc1 hx rfl hb1 hbk
          have hfx := firstE_drop hx
          rw [← hfe.out] at hfx
          have HFX := Lib.hid hfx
          have hsx := (hax.out x (List.mem_of_getElem? hx)).1
          have ik : (k : Int) < (n : Int) := by omega
          have ik0 : (0 : Int) ≤ (k : Int) := by omega
          have HBK := Lib.hid (hbk.trans ((Below.refl _ _).alloc hzk (.cells #[.int .i64 x.1, .string (lnT x)] 59)))
          obtain ⟨E, hE⟩ : ∃ E, E = chkE (lnT x) := ⟨_, rfl⟩
          rw [← hE] at HFX
          have HE := Lib.hid hE
          clear hc1 hx hfx hbk hfe hE
          by_cases hz : E = 0
          · have g1 : (E == 0) = true := by simpa using hz
            have g2 : (E != 0) = false := by simpa using hz
            have HF2 := HFX.out
            rw [if_pos hz] at HF2
            have HF3 := Lib.hid HF2
            clear hz HF2
            go_wp2_with fail
            refine (check_any (lnT x) _ (by omega)).mono ?_
            rintro e wz ⟨rfl, hwz⟩
            rw [← HE.out, ← hwz]
            clear hwz
            go_wp2_with fail
            go_roundg (n - (k + 1))
            case measure => omega
            case rel => exact ⟨k + 1, by omega, by go_num, HF3, HBK.out⟩
          · have g1 : (E == 0) = false := by simpa using hz
            have g2 : (E != 0) = true := by simpa using hz
            have HR2 : Hid (olE s = E ∧ olL s = []) := by
              have h2 := HFX.out
              rw [if_neg hz] at h2
              have h3 := HR.out
              rw [h2, if_neg hz, if_neg hz] at h3
              exact h3
            have R : Hid (Below w.heap.size w (wr.alloc (.cells #[.int .i64 x.1, .string (lnT x)] 59))) := hbel.trans (HBK.out.mono hzz)
            clear hz
            go_wp2_with fail
            refine (check_any (lnT x) _ (by omega)).mono ?_
            rintro e wz ⟨rfl, hwz⟩
            rw [← HE.out, ← hwz]
            clear hwz
            go_wp2_with fail
            go_ret2
            exact OutlP.bad HR2.out rfl R.out
        · obtain rfl : k = n := by omega
          have hf0 : firstE AC = 0 := by rw [hfe.out, List.drop_eq_nil_of_le (by have := HNL.out; omega)]; rfl
          have hres := HR.out
          rw [hf0, if_pos rfl, if_pos rfl, ← HNL.out] at hres
          have HRES := Lib.hid hres
          have R : Hid (Below w.heap.size w wr) := hbel.trans (hbk.mono hzz)
          have RR : Hid (Reads wr wr.heap.size 2 A k (flatL AC)) := (HRD.out.below hbk).more hbk.size
          have ikn : ¬ (k : Int) < (k : Int) := by omega
          clear hf0 hres hfe hbk hbel
          by_cases hbk : 2000 < k
          · have g1 : (2000 : Int) < (k : Int) := by omega
            have HRE2 := HRES.out
            rw [if_pos hbk, if_pos hbk] at HRE2
            have HRE3 := Lib.hid HRE2
            clear HRE2
            go_wp2_with fail
            go_ret2
            exact OutlP.bad HRE3.out rfl R.out
          · have g1 : ¬ (2000 : Int) < (k : Int) := by omega
            have HRE2 := HRES.out
            rw [if_neg hbk, if_neg hbk] at HRE2
            have HRE3 := Lib.hid HRE2
            clear HRE2
            go_wp2_with fail
            refine (clip_any A k c _ hnc (by omega)).mono ?_
            rintro e wz ⟨rfl, hwz⟩
            rw [hwz]
            clear hwz
            go_wp2_with fail
            go_ret2
            refine ⟨A, k, ?_, ?_, ?_, ?_, R.out⟩
            · rw [HRE3.out.1, HRE3.out.2, ← HNL.out]; rfl
            · rw [HRE3.out.2, ← HNL.out]; exact RR.out
            · rw [HRE3.out.2, ← HNL.out]; omega
            · rw [HRE3.out.2, ← HNL.out]; exact Nat.le_refl _
    · have hem : r.toList.isEmpty = false := by
        cases he : r.toList.isEmpty
        · rfl
        · have := toL_nil.2 he
          rw [Lib.size_eq, this] at h0
          exact absurd rfl h0
      have hne := toL_cons.2 hem
      have hm1 : wr.cell? ⟨0, 0, none⟩ = some (.int .i64 m) := (hbel.cell (p := ⟨0, 0, none⟩) hz0).trans HM.out
      have CU := Tryz.strings_Cut r ⟨#[10]⟩ m wr (by omega) hm1
      have hne := Lib.hid hne
      have hnlt := nl_lt r.data.toList
      have hnge := nl_ge r.data.toList
      rw [← Lib.size_eq] at hnlt
      clear hm1 h0
      by_cases hn : nl r.data.toList = -1
      · have cu := cut_none hn
        rw [show (⟨#[10]⟩ : ByteArray).data.toList = [10] from rfl, cu, ba_back] at CU
        have CU := Lib.hid CU
        have HN := Lib.hid (olE_none hsz (hrd.out.noline hne.out hn))
        have TL := Lib.hid (fun w1 => Tryz.strings_TrimLeft_one r 32 (by decide) w1)
        obtain ⟨W, hW⟩ : ∃ W : ByteArray, W = ⟨(Lib.trimLeftB r.data.toList 32).toArray⟩ := ⟨_, rfl⟩
        have hWs : W.size ≤ r.size := by rw [hW]; exact trim_le r
        obtain ⟨sp, hsp⟩ : ∃ sp, sp = r.size - W.size := ⟨_, rfl⟩
        have hspe : (r.size : Int) - (W.size : Int) = (sp : Int) := by omega
        have hW4 : W.size ≤ 400000 := by omega
        have hr4 : r.size ≤ 400000 := by omega
        have HW := Lib.hid hW
        clear cu hn hW hsp
        rcases snoc_cases acc with rfl | ⟨a1, x0, rfl⟩
        · skip
          obtain ⟨A, c, rfl, _⟩ := own_reads hown
          go_wp2_with fail
          refine CU.out.mono ?_
          rintro e wc ⟨rfl, nq, hwc⟩
          have hbc : Below wr.heap.size wr wc := by rw [hwc]; exact bdrew (Below.refl _ _) _
          have hownC := own_below hown hbc
          have hzc := hbc.size
          have HBC := Lib.hid (hbel.trans (hbc.mono hzz))
          clear hwc hbc hown
          go_wp2_with fail
          refine (TL.out _).mono ?_
          rintro e wt ⟨rfl, hwt⟩
          rw [← HW.out, hwt]
          clear hwt
          go_wp2_with fail
          go_ret2
          exact OutlP.bad HN.out rfl HBC.out
        · skip
          have hl : (a1 ++ [x0]).length = a1.length + 1 := by simp
          obtain ⟨n0, hn0⟩ : ∃ n0, n0 = a1.length := ⟨_, rfl⟩
          have hce : (flatL (a1 ++ [x0]))[n0 * 2 + 0]? = some (.int .i64 x0.1) := flatL_at (i := 0) (x := x0) (by rw [hn0]; simp) (by omega)
          have hx0 := (hax.out x0 (by simp)).2
          obtain ⟨D, hD⟩ : ∃ D, D = a1 ++ [x0] := ⟨_, rfl⟩
          have lz : oLastD D + 1 = (x0.1 : Int) + 1 := by rw [hD, oLastD_snoc]
          rw [← hD] at hl hce hown hra hrd hax
          rw [← hn0] at hl
          rw [hl] at hown hra
          obtain ⟨g, cap, rfl, hce2⟩ := own_some hown (by omega)
          have hce3 := hce2 _ _ hce
          rw [Nat.add_zero] at hce3
          have HL := Lib.hid hl
          have LZ := Lib.hid lz
          clear hce hce2 hn0 hD lz hl
          go_wp2_with fail
          refine CU.out.mono ?_
          rintro e wc ⟨rfl, nq, hwc⟩
          have hbc : Below wr.heap.size wr wc := by rw [hwc]; exact bdrew (Below.refl _ _) _
          have hownC := own_below hown hbc
          have hzc := hbc.size
          have HBC := Lib.hid (hbel.trans (hbc.mono hzz))
          have hceC : wc.cell? ⟨g, n0 * 2, none⟩ = some (.int .i64 x0.1) := (hbc.cell (p := ⟨g, n0 * 2, none⟩) (hown.lt g rfl).2).trans hce3
          clear hwc hbc hown
          go_wp2_with fail
          refine (TL.out _).mono ?_
          rintro e wt ⟨rfl, hwt⟩
          rw [← HW.out, hwt]
          clear hwt
          go_wp2_with fail
          go_ret2
          exact OutlP.bad HN.out rfl HBC.out
      · obtain ⟨i, hi0⟩ : ∃ i : Nat, nl r.data.toList = i := ⟨(nl r.data.toList).toNat, by omega⟩
        have cu := cut_some hi0
        rw [show (⟨#[10]⟩ : ByteArray).data.toList = [10] from rfl, cu] at CU
        have hil : i < r.size := by omega
        obtain ⟨ln, hln⟩ : ∃ ln : ByteArray, ln = ⟨(r.data.toList.take i).toArray⟩ := ⟨_, rfl⟩
        obtain ⟨rs, hrs⟩ : ∃ rs : ByteArray, rs = ⟨(r.data.toList.drop (i + 1)).toArray⟩ := ⟨_, rfl⟩
        have hlnd : ln.data.toList = r.data.toList.take i := by rw [hln]
        have hrsd : rs.data.toList = r.data.toList.drop (i + 1) := by rw [hrs]
        have hlns : ln.size = i := by rw [Lib.size_eq, hlnd, List.length_take, ← Lib.size_eq]; omega
        have hrss : rs.size + (i + 1) = r.size := by rw [Lib.size_eq, hrsd, List.length_drop, ← Lib.size_eq]; omega
        rw [← hln, ← hrs] at CU
        have CU := Lib.hid CU
        have TL := Lib.hid (fun w1 => Tryz.strings_TrimLeft_one ln 32 (by decide) w1)
        obtain ⟨W, hW⟩ : ∃ W : ByteArray, W = ⟨(Lib.trimLeftB ln.data.toList 32).toArray⟩ := ⟨_, rfl⟩
        have hWs : W.size ≤ ln.size := by rw [hW]; exact trim_le ln
        have hWd : W.data.toList = Lib.trimLeftB ln.data.toList 32 := by rw [hW]
        have HP := Lib.hid (fun w1 => Tryz.strings_HasPrefix W ⟨#[45, 32]⟩ w1)
        obtain ⟨sp, hsp⟩ : ∃ sp, sp = ln.size - W.size := ⟨_, rfl⟩
        have hspe : (ln.size : Int) - (W.size : Int) = (sp : Int) := by omega
        obtain ⟨d, hd⟩ : ∃ d, d = sp / 2 := ⟨_, rfl⟩
        have hde : (sp : Int) / 2 = (d : Int) := by omega
        have hdl : d ≤ s.size := by omega
        have hlo : lineOk (r.data.toList.take i) = if Lib.hasPrefix W.data.toList [45, 32] = true ∧ sp % 2 = 0 then some (d, W.data.toList.drop 2) else none := by
          rw [← hlnd]
          unfold lineOk
          rw [hd, hsp, hWd, hW, trim_sz, Lib.size_eq ln]
        have HW := Lib.hid hW
        have HLO := Lib.hid hlo
        have HI0 := Lib.hid hi0
        have HRSD := Lib.hid hrsd
        have hpl := fun h => pre_len (w := W.data.toList) h
        have HPL := Lib.hid hpl
        have hspl : sp ≤ 400000 := by omega
        have hW4 : W.size ≤ 400000 := by omega
        have hln4 : ln.size ≤ 400000 := by omega
        have hWS : W.size ≤ s.size := by omega
        have hmod : (sp : Int) % 2 = ((sp % 2 : Nat) : Int) := by omega
        have HMOD := Lib.hid hmod
        have HRSS := Lib.hid hrss
        clear cu hn hln hrs hlnd hrsd hW hWd hsp hd hlo hi0 hpl hmod hlns hrss
        cases hpf : Lib.hasPrefix W.data.toList [45, 32]
        case false =>
          have HN : Hid (olE s = 8 ∧ olL s = []) := olE_none hsz (hrd.out.bad hne.out HI0.out (by rw [HLO.out, if_neg (by rw [hpf]; simp)]))
          rcases snoc_cases acc with rfl | ⟨a1, x0, rfl⟩
          · skip
            obtain ⟨A, c, rfl, _⟩ := own_reads hown
            go_wp2_with fail
            refine CU.out.mono ?_
            rintro e wc ⟨rfl, nq, hwc⟩
            have hbc : Below wr.heap.size wr wc := by rw [hwc]; exact bdrew (Below.refl _ _) _
            have hownC := own_below hown hbc
            have hzc := hbc.size
            have HBC := Lib.hid (hbel.trans (hbc.mono hzz))
            clear hwc hbc hown
            go_wp2_with fail
            refine (TL.out _).mono ?_
            rintro e wt ⟨rfl, hwt⟩
            rw [← HW.out, hwt]
            clear hwt
            go_wp2_with fail
            refine (HP.out _).mono ?_
            rintro e wp ⟨rfl, hwp⟩
            rw [hpf, hwp]
            clear hwp
            go_wp2_with fail
            go_ret2
            exact OutlP.bad HN.out rfl HBC.out
          · skip
            have hl : (a1 ++ [x0]).length = a1.length + 1 := by simp
            obtain ⟨n0, hn0⟩ : ∃ n0, n0 = a1.length := ⟨_, rfl⟩
            have hce : (flatL (a1 ++ [x0]))[n0 * 2 + 0]? = some (.int .i64 x0.1) := flatL_at (i := 0) (x := x0) (by rw [hn0]; simp) (by omega)
            have hx0 := (hax.out x0 (by simp)).2
            obtain ⟨D, hD⟩ : ∃ D, D = a1 ++ [x0] := ⟨_, rfl⟩
            have lz : oLastD D + 1 = (x0.1 : Int) + 1 := by rw [hD, oLastD_snoc]
            rw [← hD] at hl hce hown hra hrd hax
            rw [← hn0] at hl
            rw [hl] at hown hra
            obtain ⟨g, cap, rfl, hce2⟩ := own_some hown (by omega)
            have hce3 := hce2 _ _ hce
            rw [Nat.add_zero] at hce3
            have HL := Lib.hid hl
            have LZ := Lib.hid lz
            clear hce hce2 hn0 hD lz hl
            go_wp2_with fail
            refine CU.out.mono ?_
            rintro e wc ⟨rfl, nq, hwc⟩
            have hbc : Below wr.heap.size wr wc := by rw [hwc]; exact bdrew (Below.refl _ _) _
            have hownC := own_below hown hbc
            have hzc := hbc.size
            have HBC := Lib.hid (hbel.trans (hbc.mono hzz))
            have hceC : wc.cell? ⟨g, n0 * 2, none⟩ = some (.int .i64 x0.1) := (hbc.cell (p := ⟨g, n0 * 2, none⟩) (hown.lt g rfl).2).trans hce3
            clear hwc hbc hown
            go_wp2_with fail
            refine (TL.out _).mono ?_
            rintro e wt ⟨rfl, hwt⟩
            rw [← HW.out, hwt]
            clear hwt
            go_wp2_with fail
            refine (HP.out _).mono ?_
            rintro e wp ⟨rfl, hwp⟩
            rw [hpf, hwp]
            clear hwp
            go_wp2_with fail
            go_ret2
            exact OutlP.bad HN.out rfl HBC.out
        case true =>
          have hW2 := HPL.out hpf
          rw [← Lib.size_eq] at hW2
          rcases Nat.mod_two_eq_zero_or_one sp with hev | hev
          case inr =>
            have HN : Hid (olE s = 8 ∧ olL s = []) := olE_none hsz (hrd.out.bad hne.out HI0.out (by rw [HLO.out, if_neg (by rintro ⟨_, h⟩; omega)]))
            have g1 : ((sp : Int) % 2 != 0) = true := by rw [HMOD.out, hev]; rfl
            clear hev
            rcases snoc_cases acc with rfl | ⟨a1, x0, rfl⟩
            · skip
              obtain ⟨A, c, rfl, _⟩ := own_reads hown
              go_wp2_with fail
              refine CU.out.mono ?_
              rintro e wc ⟨rfl, nq, hwc⟩
              have hbc : Below wr.heap.size wr wc := by rw [hwc]; exact bdrew (Below.refl _ _) _
              have hownC := own_below hown hbc
              have hzc := hbc.size
              have HBC := Lib.hid (hbel.trans (hbc.mono hzz))
              clear hwc hbc hown
              go_wp2_with fail
              refine (TL.out _).mono ?_
              rintro e wt ⟨rfl, hwt⟩
              rw [← HW.out, hwt]
              clear hwt
              go_wp2_with fail
              refine (HP.out _).mono ?_
              rintro e wp ⟨rfl, hwp⟩
              rw [hpf, hwp]
              clear hwp
              go_wp2_with fail
              go_ret2
              exact OutlP.bad HN.out rfl HBC.out
            · skip
              have hl : (a1 ++ [x0]).length = a1.length + 1 := by simp
              obtain ⟨n0, hn0⟩ : ∃ n0, n0 = a1.length := ⟨_, rfl⟩
              have hce : (flatL (a1 ++ [x0]))[n0 * 2 + 0]? = some (.int .i64 x0.1) := flatL_at (i := 0) (x := x0) (by rw [hn0]; simp) (by omega)
              have hx0 := (hax.out x0 (by simp)).2
              obtain ⟨D, hD⟩ : ∃ D, D = a1 ++ [x0] := ⟨_, rfl⟩
              have lz : oLastD D + 1 = (x0.1 : Int) + 1 := by rw [hD, oLastD_snoc]
              rw [← hD] at hl hce hown hra hrd hax
              rw [← hn0] at hl
              rw [hl] at hown hra
              obtain ⟨g, cap, rfl, hce2⟩ := own_some hown (by omega)
              have hce3 := hce2 _ _ hce
              rw [Nat.add_zero] at hce3
              have HL := Lib.hid hl
              have LZ := Lib.hid lz
              clear hce hce2 hn0 hD lz hl
              go_wp2_with fail
              refine CU.out.mono ?_
              rintro e wc ⟨rfl, nq, hwc⟩
              have hbc : Below wr.heap.size wr wc := by rw [hwc]; exact bdrew (Below.refl _ _) _
              have hownC := own_below hown hbc
              have hzc := hbc.size
              have HBC := Lib.hid (hbel.trans (hbc.mono hzz))
              have hceC : wc.cell? ⟨g, n0 * 2, none⟩ = some (.int .i64 x0.1) := (hbc.cell (p := ⟨g, n0 * 2, none⟩) (hown.lt g rfl).2).trans hce3
              clear hwc hbc hown
              go_wp2_with fail
              refine (TL.out _).mono ?_
              rintro e wt ⟨rfl, hwt⟩
              rw [← HW.out, hwt]
              clear hwt
              go_wp2_with fail
              refine (HP.out _).mono ?_
              rintro e wp ⟨rfl, hwp⟩
              rw [hpf, hwp]
              clear hwp
              go_wp2_with fail
              go_ret2
              exact OutlP.bad HN.out rfl HBC.out
          case inl =>
            have g1 : ((sp : Int) % 2 != 0) = false := by rw [HMOD.out, hev]; rfl
            have hyes : lineOk (r.data.toList.take i) = some (d, W.data.toList.drop 2) := by rw [HLO.out, if_pos ⟨hpf, hev⟩]
            have HY := Lib.hid hyes
            have u0 : (0 : Int) ≤ 2 := by omega
            have u1 : (2 : Int) ≤ (W.size : Int) := by omega
            have hex : W.extract 2 W.size = lnT (d, W.data.toList.drop 2) := by
              have h := Lib.extract_to_end W 2
              show W.extract 2 W.size = ⟨(W.data.toList.drop 2).toArray⟩
              rw [← h]
            have hexz : (W.extract 2 W.size).size ≤ s.size := by rw [ByteArray.size_extract, Nat.min_self]; omega
            have HEX := Lib.hid hex
            clear hyes hex hev
            rcases snoc_cases acc with rfl | ⟨a1, x0, rfl⟩
            · skip
              obtain ⟨A, c, rfl, _⟩ := own_reads hown
              by_cases hdp : 0 < d
              · have HN : Hid (olE s = 8 ∧ olL s = []) := olE_none hsz (hrd.out.deep hne.out HI0.out HY.out (by show oLastD [] + 1 < ((d : Nat) : Int); rw [oLastD_nil]; omega))
                have k1 : (0 : Int) < (d : Int) := by omega
                have k2 : decide (0 < d) = true := by simp; omega
                clear hdp
                go_wp2_with fail
                refine CU.out.mono ?_
                rintro e wc ⟨rfl, nq, hwc⟩
                have hbc : Below wr.heap.size wr wc := by rw [hwc]; exact bdrew (Below.refl _ _) _
                have hownC := own_below hown hbc
                have hzc := hbc.size
                have HBC := Lib.hid (hbel.trans (hbc.mono hzz))
                clear hwc hbc hown
                go_wp2_with fail
                refine (TL.out _).mono ?_
                rintro e wt ⟨rfl, hwt⟩
                rw [← HW.out, hwt]
                clear hwt
                go_wp2_with fail
                refine (HP.out _).mono ?_
                rintro e wp ⟨rfl, hwp⟩
                rw [hpf, hwp]
                clear hwp
                go_wp2_with fail
                go_ret2
                exact OutlP.bad HN.out rfl HBC.out
              · have hnx := hrd.out.next hne.out HI0.out HY.out (by show ¬ oLastD [] + 1 < ((d : Nat) : Int); rw [oLastD_nil]; omega)
                rw [← HRSD.out] at hnx
                have HNX := Lib.hid hnx
                have k1 : ¬ (0 : Int) < (d : Int) := by omega
                have k2 : decide (0 < d) = false := by simp; omega
                clear hnx hdp
                go_wp2_with fail
                refine CU.out.mono ?_
                rintro e wc ⟨rfl, nq, hwc⟩
                have hbc : Below wr.heap.size wr wc := by rw [hwc]; exact bdrew (Below.refl _ _) _
                have hownC := own_below hown hbc
                have hzc := hbc.size
                have HBC := Lib.hid (hbel.trans (hbc.mono hzz))
                clear hwc hbc hown
                go_wp2_with fail
                refine (TL.out _).mono ?_
                rintro e wt ⟨rfl, hwt⟩
                rw [← HW.out, hwt]
                clear hwt
                go_wp2_with fail
                refine (HP.out _).mono ?_
                rintro e wp ⟨rfl, hwp⟩
                rw [hpf, hwp]
                clear hwp
                have hcl := hownC.lt
                have HCL := Lib.hid hcl
                clear hcl
                go_wp2_with (at_builtin; refine wpList_append_own_at _ rfl _ _ 27 rfl w.heap.size 59 i0 lnZ 2 24 Tryz.underlying27 hi hz0' hz1 hz2 rfl (by decide) _ 0 _ rfl (hownC.alloc _) ⟨wc.heap.size, 0, none⟩ 1 1 [.int .i64 d, .string (W.extract 2 W.size)] rfl rfl (new_cells _ _ [.int .i64 d, .string (W.extract 2 W.size)] _ (by simp)) (by rw [HEX.out]; exact ln_one (d, W.data.toList.drop 2)) (by unfold maxLen; omega) (by omega) (by simp; omega) ?_; intro v7 w7 hown7 hg7 _ _)
                have R : Hid (w7.ownsRow w.heap.size 59 2 v7 (([] : List Ln) ++ [(d, W.data.toList.drop 2)]).length (flatL (([] : List Ln) ++ [(d, W.data.toList.drop 2)])) ∧ Below w.heap.size w w7) := by
                  refine ⟨?_, (HBC.out.trans ((Below.refl _ _).alloc (Nat.le_trans hzz hzc) _)).grown hg7 (by simp; omega) (fun g h => (HCL.out g h).1)⟩
                  rw [HEX.out] at hown7
                  rw [flatL_snoc, List.length_append, List.length_singleton]
                  exact hown7
                have R2 : Hid (∀ x ∈ ([] : List Ln) ++ [(d, W.data.toList.drop 2)], (lnT x).size ≤ s.size ∧ x.1 ≤ s.size) := by
                  show ∀ x ∈ _, _
                  intro x hx
                  rcases List.mem_append.1 hx with hx | hx
                  · exact hax.out x hx
                  · rw [List.mem_singleton] at hx
                    subst hx
                    exact ⟨by rw [← HEX.out]; exact hexz, hdl⟩
                have hrq := HRSS.out
                have hlen2 : rs.size + (([] : List Ln) ++ [(d, W.data.toList.drop 2)]).length ≤ s.size := by rw [List.length_append, List.length_singleton]; simp only [List.length_nil] at hra ⊢; omega
                clear hown7 hg7 hownC
                go_wp2_with fail
                go_roundg rs.size
                case measure => omega
                case rel => exact ⟨rs, ([] : List Ln) ++ [(d, W.data.toList.drop 2)], rfl, hlen2, rfl, R.out.1, HNX, R2.out, R.out.2⟩
            · skip
              have hl : (a1 ++ [x0]).length = a1.length + 1 := by simp
              obtain ⟨n0, hn0⟩ : ∃ n0, n0 = a1.length := ⟨_, rfl⟩
              have hce : (flatL (a1 ++ [x0]))[n0 * 2 + 0]? = some (.int .i64 x0.1) := flatL_at (i := 0) (x := x0) (by rw [hn0]; simp) (by omega)
              have hx0 := (hax.out x0 (by simp)).2
              obtain ⟨D, hD⟩ : ∃ D, D = a1 ++ [x0] := ⟨_, rfl⟩
              have lz : oLastD D + 1 = (x0.1 : Int) + 1 := by rw [hD, oLastD_snoc]
              rw [← hD] at hl hce hown hra hrd hax
              rw [← hn0] at hl
              rw [hl] at hown hra
              obtain ⟨g, cap, rfl, hce2⟩ := own_some hown (by omega)
              have hce3 := hce2 _ _ hce
              rw [Nat.add_zero] at hce3
              have HL := Lib.hid hl
              have LZ := Lib.hid lz
              clear hce hce2 hn0 hD lz hl
              by_cases hdp : x0.1 + 1 < d
              · have HN : Hid (olE s = 8 ∧ olL s = []) := olE_none hsz (hrd.out.deep hne.out HI0.out HY.out (by show oLastD D + 1 < ((d : Nat) : Int); rw [LZ.out]; omega))
                have k1 : (x0.1 : Int) + 1 < (d : Int) := by omega
                have k2 : decide (x0.1 + 1 < d) = true := by simp; omega
                clear hdp
                go_wp2_with fail
                refine CU.out.mono ?_
                rintro e wc ⟨rfl, nq, hwc⟩
                have hbc : Below wr.heap.size wr wc := by rw [hwc]; exact bdrew (Below.refl _ _) _
                have hownC := own_below hown hbc
                have hzc := hbc.size
                have HBC := Lib.hid (hbel.trans (hbc.mono hzz))
                have hceC : wc.cell? ⟨g, n0 * 2, none⟩ = some (.int .i64 x0.1) := (hbc.cell (p := ⟨g, n0 * 2, none⟩) (hown.lt g rfl).2).trans hce3
                clear hwc hbc hown
                go_wp2_with fail
                refine (TL.out _).mono ?_
                rintro e wt ⟨rfl, hwt⟩
                rw [← HW.out, hwt]
                clear hwt
                go_wp2_with fail
                refine (HP.out _).mono ?_
                rintro e wp ⟨rfl, hwp⟩
                rw [hpf, hwp]
                clear hwp
                go_wp2_with fail
                go_ret2
                exact OutlP.bad HN.out rfl HBC.out
              · have hnx := hrd.out.next hne.out HI0.out HY.out (by show ¬ oLastD D + 1 < ((d : Nat) : Int); rw [LZ.out]; omega)
                rw [← HRSD.out] at hnx
                have HNX := Lib.hid hnx
                have k1 : ¬ (x0.1 : Int) + 1 < (d : Int) := by omega
                have k2 : decide (x0.1 + 1 < d) = false := by simp; omega
                clear hnx hdp
                go_wp2_with fail
                refine CU.out.mono ?_
                rintro e wc ⟨rfl, nq, hwc⟩
                have hbc : Below wr.heap.size wr wc := by rw [hwc]; exact bdrew (Below.refl _ _) _
                have hownC := own_below hown hbc
                have hzc := hbc.size
                have HBC := Lib.hid (hbel.trans (hbc.mono hzz))
                have hceC : wc.cell? ⟨g, n0 * 2, none⟩ = some (.int .i64 x0.1) := (hbc.cell (p := ⟨g, n0 * 2, none⟩) (hown.lt g rfl).2).trans hce3
                clear hwc hbc hown
                go_wp2_with fail
                refine (TL.out _).mono ?_
                rintro e wt ⟨rfl, hwt⟩
                rw [← HW.out, hwt]
                clear hwt
                go_wp2_with fail
                refine (HP.out _).mono ?_
                rintro e wp ⟨rfl, hwp⟩
                rw [hpf, hwp]
                clear hwp
                have hcl := hownC.lt
                have HCL := Lib.hid hcl
                clear hcl
                go_wp2_with (at_builtin; refine wpList_append_own_at _ rfl _ _ 27 rfl w.heap.size 59 i0 lnZ 2 24 Tryz.underlying27 hi hz0' hz1 hz2 rfl (by decide) _ (n0 + 1) _ rfl (hownC.alloc _) ⟨wc.heap.size, 0, none⟩ 1 1 [.int .i64 d, .string (W.extract 2 W.size)] rfl rfl (new_cells _ _ [.int .i64 d, .string (W.extract 2 W.size)] _ (by simp)) (by rw [HEX.out]; exact ln_one (d, W.data.toList.drop 2)) (by unfold maxLen; omega) (by omega) (by simp; omega) ?_; intro v7 w7 hown7 hg7 _ _)
                have R : Hid (w7.ownsRow w.heap.size 59 2 v7 (D ++ [(d, W.data.toList.drop 2)]).length (flatL (D ++ [(d, W.data.toList.drop 2)])) ∧ Below w.heap.size w w7) := by
                  refine ⟨?_, (HBC.out.trans ((Below.refl _ _).alloc (Nat.le_trans hzz hzc) _)).grown hg7 (by simp; omega) (fun g h => (HCL.out g h).1)⟩
                  rw [HEX.out] at hown7
                  rw [flatL_snoc, List.length_append, List.length_singleton]
                  rw [HL.out]; exact hown7
                have R2 : Hid (∀ x ∈ D ++ [(d, W.data.toList.drop 2)], (lnT x).size ≤ s.size ∧ x.1 ≤ s.size) := by
                  show ∀ x ∈ _, _
                  intro x hx
                  rcases List.mem_append.1 hx with hx | hx
                  · exact hax.out x hx
                  · rw [List.mem_singleton] at hx
                    subst hx
                    exact ⟨by rw [← HEX.out]; exact hexz, hdl⟩
                have hrq := HRSS.out
                have hlen2 : rs.size + (D ++ [(d, W.data.toList.drop 2)]).length ≤ s.size := by rw [List.length_append, List.length_singleton]; rw [HL.out]; omega
                clear hown7 hg7 hownC
                go_wp2_with fail
                go_roundg rs.size
                case measure => omega
                case rel => exact ⟨rs, D ++ [(d, W.data.toList.drop 2)], rfl, hlen2, rfl, R.out.1, HNX, R2.out, R.out.2⟩
end Go.Proofs.YtmkicfjcgbfaaaaGreatDoor
