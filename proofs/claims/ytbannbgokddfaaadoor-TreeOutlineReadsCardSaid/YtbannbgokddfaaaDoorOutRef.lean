/-
  DERIVED. The walks of florref1.linesOf, OutlineRead and of the law TreeOutlineReads. Conditions: a length in reach; the library's own bound holds some number. By an AI agent.
-/
import Derived.Test.YtbannbgokddfaaaDoorOutProg
namespace Go.Proofs.YtbannbgokddfaaaDoor
open Go.RowKit

theorem splitB_size (sep : ByteArray) : ∀ (k : Nat) (s : ByteArray), ∀ x ∈ Lib.splitB sep 0 k s, x.size ≤ s.size
  | 0, s => by
    intro x hx
    rw [Lib.splitB_zero, List.mem_singleton] at hx
    subst hx; exact Nat.le_refl _
  | k + 1, s => by
    intro x hx
    unfold Lib.splitB at hx
    split at hx
    · rw [List.mem_singleton] at hx
      subst hx; exact Nat.le_refl _
    · rcases List.mem_cons.1 hx with rfl | hx
      · rw [ByteArray.size_extract]; omega
      · have h1 := splitB_size sep k _ x hx
        rw [ByteArray.size_extract] at h1; omega
/-- what linesOf answers -/
def LinesP (s : ByteArray) (w : World) (e : Ending) (w' : World) : Prop :=
  Below w.heap.size w w' ∧ ((olR s = none ∧ e = .returned (.tuple #[.slice none 0 0, .bool false])) ∨
    ∃ (xs : List ByteArray) (A : Option Addr) (c : Nat), e = .returned (.tuple #[.slice A xs.length c, .bool true]) ∧ Reads w' w'.heap.size 1 A xs.length (xs.map Value.string) ∧ RdL s (xs.map (·.data.toList)) [] ∧ xs.length ≤ s.size + 2 ∧ ∀ x ∈ xs, x.size ≤ s.size)

set_option maxHeartbeats 2000000 in
set_option maxRecDepth 100000 in
theorem linesOf_any (s : ByteArray) (m : Int) (w : World) (hs : s.size ≤ 400000) (hm : w.cell? ⟨0, 0, none⟩ = some (.int .i64 m)) :
    Calls Tryd.prog 12 #[.string s] w (LinesP s w) := by
  cases hem : s.toList.isEmpty
  case true =>
    have hnil := toL_nil.2 hem
    have HR : Hid (RdL s (([] : List ByteArray).map (·.data.toList)) []) := by
      show olR s = _
      rw [olR_empty hnil]; rfl
    clear hnil
    go_enter Tryd.func12, Tryd.ntmps12
    go_wp2_with fail
    go_ret2
    exact ⟨Below.refl _ _, .inr ⟨[], none, 0, rfl, Reads.none_, HR.out, Nat.zero_le _, fun x hx => (by cases hx)⟩⟩
  case false =>
    have hne := toL_cons.2 hem
    have hpos : 0 < s.size := by
      rcases Nat.eq_zero_or_pos s.size with h | h
      · rw [Lib.size_eq] at h
        exact absurd (List.eq_nil_of_length_eq_zero h) hne
      · exact h
    have HS := Lib.hid (fun w1 => Tryd.strings_HasSuffix s ⟨#[10]⟩ w1 (by omega))
    have HM := Lib.hid hm
    have HNE := Lib.hid hne
    clear hm hne
    cases hsf : Lib.hasSuffix s.data.toList [10]
    case false =>
      have HN : Hid (olR s = none) := olR_open HNE.out (fun h => by rw [suffix_last.2 h] at hsf; cases hsf)
      go_enter Tryd.func12, Tryd.ntmps12
      go_wp2_with fail
      refine (HS.out _).mono ?_
      rintro e w1 ⟨rfl, hw1⟩
      rw [hsf, hw1]
      clear hw1
      go_wp2_with fail
      go_ret2
      exact ⟨Below.refl _ _, .inl ⟨HN.out, rfl⟩⟩
    case true =>
      have hcut := last_cut (suffix_last.1 hsf)
      obtain ⟨M, hM⟩ : ∃ M, M = s.extract 0 (s.size - 1) := ⟨_, rfl⟩
      have hMd : M.data.toList = s.data.toList.take (s.data.toList.length - 1) := by
        rw [hM, Lib.extract_from_zero, ← Lib.size_eq]
      rw [← hMd] at hcut
      have hMz : M.size ≤ s.size := by rw [hM, ByteArray.size_extract]; omega
      obtain ⟨xs, hxs⟩ : ∃ xs, xs = Lib.splitB ⟨#[10]⟩ 0 (Lib.countB M ⟨#[10]⟩) M := ⟨_, rfl⟩
      have hxl : xs.length = Lib.countB M ⟨#[10]⟩ + 1 := by rw [hxs]; exact Lib.splitB_all ⟨#[10]⟩ (by decide) 0 _ M rfl
      have hrd : RdL s (xs.map (·.data.toList)) [] := by
        rw [hxs, Lib.splitB_data]
        exact RdL.start hcut
      have hcl := Lib.count_le M.data.toList [10]
      have hcl2 : Lib.countB M ⟨#[10]⟩ ≤ M.size + 1 := by rw [Lib.size_eq M]; exact hcl
      have hxz : ∀ x ∈ xs, x.size ≤ s.size := fun x hx => by
        rw [hxs] at hx
        exact Nat.le_trans (splitB_size _ _ _ x hx) hMz
      have SP := Tryd.strings_Split M ⟨#[10]⟩ m w (by omega) HM.out (by decide)
      rw [← hxs, ← hxl] at SP
      have SP := Lib.hid SP
      have HRD := Lib.hid hrd
      have HXZ := Lib.hid hxz
      have HMM := Lib.hid hM
      have hxlen : xs.length ≤ s.size + 2 := by omega
      have i1 : (0 : Int) ≤ (s.size : Int) - 1 := by omega
      have i2 : (1 : Int) ≤ (s.size : Int) := by omega
      have i3 : ((s.size : Int) - 1).toNat = s.size - 1 := by omega
      have i4 : (s.size : Int) - 1 ≤ (s.size : Int) := by omega
      clear hcut hM hMd hxs hxl hrd hcl hcl2 hxz
      go_enter Tryd.func12, Tryd.ntmps12
      go_wp2_with fail
      refine (HS.out _).mono ?_
      rintro e w1 ⟨rfl, hw1⟩
      rw [hsf, hw1]
      clear hw1
      go_wp2_with fail
      rw [← HMM.out]
      refine SP.out.mono ?_
      rintro e w2 ⟨rfl, hw2⟩
      have R : Hid (Below w.heap.size w w2 ∧ Reads w2 w2.heap.size 1 (some ⟨w.heap.size, 0, none⟩) xs.length (xs.map Value.string)) := by
        rw [hw2]
        refine ⟨(Below.refl _ _).alloc (Nat.le_refl _) _, by simp, fun _ => ⟨_, rfl, by simp, new_cells w _ _ _ rfl⟩⟩
      clear hw2
      go_wp2_with fail
      go_ret2
      exact ⟨R.out.1, .inr ⟨xs, _, _, rfl, R.out.2, HRD.out, hxlen, HXZ.out⟩⟩

theorem lastD_bd {acc : List Ln} {N : Nat} (h : ∀ x ∈ acc, x.1 ≤ N) : -1 ≤ lastD acc ∧ lastD acc ≤ N := by
  rcases snoc_cases acc with rfl | ⟨a, x, rfl⟩
  · rw [lastD_nil]; omega
  · rw [lastD_snoc]
    have := h x (by simp)
    omega

set_option maxHeartbeats 16000000 in
set_option maxRecDepth 100000 in
theorem routline_any (s : ByteArray) (m : Int) (w : World) (hs : s.size ≤ 140737488351232) (hm : w.cell? ⟨0, 0, none⟩ = some (.int .i64 m)) :
    Calls Tryd.prog 5 #[.string s] w (OutP s w) := by
  by_cases hbig : 400000 < s.size
  · have HB := Lib.hid (olE_big hbig)
    have h1 : (400000 : Int) < (s.size : Int) := by omega
    clear hbig
    go_enter Tryd.func5, Tryd.ntmps5
    go_wp2
    go_ret2
    exact OutP.bad HB.out rfl (Below.refl _ _)
  obtain ⟨i0, hi, hz0', hz1, hz2⟩ := info_parts ln_info
  have hsz : s.size ≤ 400000 := by omega
  have h1 : ¬ (400000 : Int) < (s.size : Int) := by omega
  have HM := Lib.hid hm
  clear hbig hm
  go_enter Tryd.func5, Tryd.ntmps5
  go_wp2_with fail
  refine (linesOf_any s m _ hsz HM.out).mono ?_
  rintro e w1 ⟨hb1, ⟨hnone, rfl⟩ | ⟨xs, A, c, rfl, hrx, hrl, hxl, hxz⟩⟩
  · have HN := Lib.hid (olE_none hsz hnone)
    have HB := Lib.hid hb1
    clear hb1 hnone
    go_wp2_with fail
    go_ret2
    exact OutP.bad HN.out rfl HB.out
  have HB1 := Lib.hid hb1
  have HRL := Lib.hid hrl
  have HXZ := Lib.hid hxz
  have PL := Lib.hid (fun h => hrx.plain h (by omega))
  obtain ⟨n, hn⟩ : ∃ n, n = xs.length := ⟨_, rfl⟩
  rw [← hn] at hxl ⊢
  have HN := Lib.hid hn
  have hz1w := hb1.size
  clear hb1 hrl hxz hrx hn
  go_wp2_with fail
  go_loopg [6, 7, 29] n (fun gg s6 s7 s29 wr => ∃ (k : Nat) (acc : List Ln), k + gg = n ∧ acc.length = k ∧ s29 = .int .i64 k ∧ s7 = .int .i64 (lastD acc) ∧ wr.ownsRow w1.heap.size 28 2 s6 k (flatL acc) ∧ Hid (RdL s ((xs.drop k).map (·.data.toList)) acc) ∧ (∀ x ∈ acc, (lnT x).size ≤ s.size ∧ x.1 ≤ s.size) ∧ Below w1.heap.size w1 wr)
  case atStart => exact ⟨0, [], by omega, rfl, rfl, rfl, World.ownsRow_nil _ _ _ _, by rw [List.drop_zero]; exact HRL, fun x hx => (by cases hx), Below.refl _ _⟩
  case round =>
    obtain ⟨k, acc, hkg, hak, rfl, rfl, hown, hrd, hax, hbel⟩ := hrel
    have hzz := hbel.size
    obtain ⟨qb1, qb2⟩ := lastD_bd (fun x hx => (hax x hx).2)
    obtain ⟨q, hq⟩ : ∃ q, q = lastD acc := ⟨_, rfl⟩
    rw [← hq] at qb1 qb2 ⊢
    have HQ := Lib.hid hq
    have HAX := Lib.hid hax
    have HAK := Lib.hid hak
    clear hq hax hak
    by_cases hk : k < n
    · obtain ⟨b1, o1, hA, hlb, hc1⟩ := PL.out (by have := HN.out; omega)
      obtain ⟨ln, hx⟩ : ∃ x, xs[k]? = some x := ⟨_, List.getElem?_eq_getElem (by have := HN.out; omega)⟩
      have hlz := HXZ.out ln (List.mem_of_getElem? hx)
      have hcell : wr.cell? ⟨b1, o1 + k, none⟩ = some (.string ln) := (hbel.cell (p := ⟨b1, o1 + k, none⟩) hlb).trans (hc1 k _ (by rw [List.getElem?_map, hx]; rfl))
      have hdr : (xs.drop k).map (·.data.toList) = ln.data.toList :: (xs.drop (k + 1)).map (·.data.toList) := by
        obtain ⟨hl, he⟩ := List.getElem?_eq_some_iff.1 hx
        rw [List.drop_eq_getElem_cons hl, he]; rfl
      have hrd2 := hrd.out
      rw [hdr] at hrd2
      have HRD := Lib.hid hrd2
      have TL := Lib.hid (fun w1 => Tryd.strings_TrimLeft_one ln 32 (by decide) w1)
      obtain ⟨W, hW⟩ : ∃ W : ByteArray, W = ⟨(Lib.trimLeftB ln.data.toList 32).toArray⟩ := ⟨_, rfl⟩
      have hWs : W.size ≤ ln.size := by rw [hW]; exact trim_le ln
      have hWd : W.data.toList = Lib.trimLeftB ln.data.toList 32 := by rw [hW]
      have HP := Lib.hid (fun w1 => Tryd.strings_CutPrefix W ⟨#[45, 32]⟩ w1)
      obtain ⟨sp, hsp⟩ : ∃ sp, sp = ln.size - W.size := ⟨_, rfl⟩
      have hspe : (ln.size : Int) - (W.size : Int) = (sp : Int) := by omega
      obtain ⟨d, hd⟩ : ∃ d, d = sp / 2 := ⟨_, rfl⟩
      have hde : (sp : Int) / 2 = (d : Int) := by omega
      have hdl : d ≤ s.size := by omega
      have hlo : lineOk ln.data.toList = if Lib.hasPrefix W.data.toList [45, 32] = true ∧ sp % 2 = 0 then some (d, W.data.toList.drop 2) else none := by
        unfold lineOk
        rw [hd, hsp, hWd, hW, trim_sz, Lib.size_eq ln]
      have HW := Lib.hid hW
      have HLO := Lib.hid hlo
      have hspl : sp ≤ 400000 := by omega
      have hW4 : W.size ≤ 400000 := by omega
      have hln4 : ln.size ≤ 400000 := by omega
      have hWS : W.size ≤ s.size := by omega
      have hd2 : d = sp / 2 := hd
      have HD2 := Lib.hid hd2
      have ik : (k : Int) < (n : Int) := by omega
      have ik0 : (0 : Int) ≤ (k : Int) := by omega
      have HC1 := Lib.hid hcell
      subst hA
      clear hx hdr hrd2 hrd hW hWd hsp hd hd2 hlo hc1
      cases hpf : Lib.hasPrefix W.data.toList [45, 32]
      case false =>
        have HN8 : Hid (olE s = 8 ∧ olL s = []) := olE_none hsz (HRD.out.bad (by rw [HLO.out, if_neg (by rw [hpf]; simp)]))
        have R := Lib.hid (HB1.out.trans (hbel.mono hz1w))
        clear hbel hown
        go_wp2_with fail
        refine (TL.out _).mono ?_
        rintro e wt ⟨rfl, hwt⟩
        rw [← HW.out, hwt]
        clear hwt
        go_wp2_with fail
        refine (HP.out _).mono ?_
        rintro e wp ⟨rfl, hwp⟩
        rw [hpf, hwp]
        clear hwp
        go_wp2_with fail
        go_ret2
        exact OutP.bad HN8.out rfl R.out
      case true =>
        have hW2 := pre_len hpf
        rw [← Lib.size_eq] at hW2
        obtain ⟨T, hT⟩ : ∃ T : ByteArray, T = ⟨(Lib.trimPrefix W.data.toList [45, 32]).toArray⟩ := ⟨_, rfl⟩
        have hTl : T = lnT (d, W.data.toList.drop 2) := by
          rw [hT]; unfold Lib.trimPrefix; rw [if_pos hpf]; rfl
        have hTz : T.size ≤ s.size := by
          rw [hTl, Lib.size_eq]
          show (W.data.toList.drop 2).length ≤ _
          rw [List.length_drop, ← Lib.size_eq]; omega
        have HT := Lib.hid hT
        have HTL := Lib.hid hTl
        clear hT hTl
        by_cases hev : sp % 2 = 0
        · have g1 : ((sp : Int) != 2 * (d : Int)) = false := by have := HD2.out; simp; omega
          have hyes : lineOk ln.data.toList = some (d, W.data.toList.drop 2) := by rw [HLO.out, if_pos ⟨hpf, hev⟩]
          have HY := Lib.hid hyes
          clear hyes hev
          by_cases hdp : q + 1 < (d : Int)
          · have HN8 : Hid (olE s = 8 ∧ olL s = []) := olE_none hsz (HRD.out.deep HY.out (by show lastD acc + 1 < ((d : Nat) : Int); rw [← HQ.out]; exact hdp))
            have R := Lib.hid (HB1.out.trans (hbel.mono hz1w))
            clear hbel hown
            go_wp2_with fail
            refine (TL.out _).mono ?_
            rintro e wt ⟨rfl, hwt⟩
            rw [← HW.out, hwt]
            clear hwt
            go_wp2_with fail
            refine (HP.out _).mono ?_
            rintro e wp ⟨rfl, hwp⟩
            rw [hpf, hwp]
            clear hwp
            go_wp2_with fail
            go_ret2
            exact OutP.bad HN8.out rfl R.out
          · have hnx := HRD.out.next HY.out (by show ¬ lastD acc + 1 < ((d : Nat) : Int); rw [← HQ.out]; exact hdp)
            have HNX := Lib.hid hnx
            have hcl := hown.lt
            have HCL := Lib.hid hcl
            clear hnx hcl
            go_wp2_with fail
            refine (TL.out _).mono ?_
            rintro e wt ⟨rfl, hwt⟩
            rw [← HW.out, hwt]
            clear hwt
            go_wp2_with fail
            refine (HP.out _).mono ?_
            rintro e wp ⟨rfl, hwp⟩
            rw [hpf, hwp, ← HT.out]
            clear hwp
            go_wp2_with (at_builtin; refine wpList_append_own_at _ rfl _ _ 22 rfl w1.heap.size 28 i0 lnZ 2 24 Tryd.underlying22 hi hz0' hz1 hz2 rfl (by decide) _ k _ rfl (hown.alloc _) ⟨wr.heap.size, 0, none⟩ 1 1 [.int .i64 d, .string T] rfl rfl (new_cells _ _ [.int .i64 d, .string T] _ (by simp)) (by rw [HTL.out]; exact ln_one (d, W.data.toList.drop 2)) (by unfold maxLen; omega) (by omega) (by simp; omega) ?_; intro v7 w7 hown7 hg7 _ _)
            have R : Hid (w7.ownsRow w1.heap.size 28 2 v7 (k + 1) (flatL (acc ++ [(d, W.data.toList.drop 2)])) ∧ Below w1.heap.size w1 w7) := by
              refine ⟨?_, (hbel.trans ((Below.refl _ _).alloc hzz _)).grown hg7 (by simp; omega) (fun g h => (HCL.out g h).1)⟩
              rw [HTL.out] at hown7
              rw [flatL_snoc]
              exact hown7
            have R2 : Hid (∀ x ∈ acc ++ [(d, W.data.toList.drop 2)], (lnT x).size ≤ s.size ∧ x.1 ≤ s.size) := by
              show ∀ x ∈ _, _
              intro x hx
              rcases List.mem_append.1 hx with hx | hx
              · exact HAX.out x hx
              · rw [List.mem_singleton] at hx
                subst hx
                exact ⟨by rw [← HTL.out]; exact hTz, hdl⟩
            clear hown7 hg7 hown hbel
            go_wp2_with fail
            go_roundg (n - (k + 1))
            case measure => omega
            case rel => exact ⟨k + 1, acc ++ [(d, W.data.toList.drop 2)], by omega, by rw [List.length_append, HAK.out]; rfl, by go_num, by rw [lastD_snoc], R.out.1, HNX, R2.out, R.out.2⟩
        · have g1 : ((sp : Int) != 2 * (d : Int)) = true := by have := HD2.out; simp; omega
          have HN8 : Hid (olE s = 8 ∧ olL s = []) := olE_none hsz (HRD.out.bad (by rw [HLO.out, if_neg (by rintro ⟨_, h⟩; exact hev h)]))
          have R := Lib.hid (HB1.out.trans (hbel.mono hz1w))
          clear hbel hown hev
          go_wp2_with fail
          refine (TL.out _).mono ?_
          rintro e wt ⟨rfl, hwt⟩
          rw [← HW.out, hwt]
          clear hwt
          go_wp2_with fail
          refine (HP.out _).mono ?_
          rintro e wp ⟨rfl, hwp⟩
          rw [hpf, hwp]
          clear hwp
          go_wp2_with fail
          go_ret2
          exact OutP.bad HN8.out rfl R.out
    · obtain ⟨wo, rfl⟩ : ∃ wo : World, wo = wr := ⟨_, rfl⟩
      obtain rfl : k = n := by omega
      have hdn := hrd.out
      rw [List.drop_eq_nil_of_le (by have := HN.out; omega)] at hdn
      have HD := Lib.hid (RdL.done hdn)
      obtain ⟨AC, hAC⟩ : ∃ AC, AC = acc := ⟨_, rfl⟩
      rw [← hAC] at HD hown HAX HAK
      have HR := Lib.hid (olE_some hsz HD.out)
      obtain ⟨A2, c2, rfl, hrds⟩ := own_reads hown
      have HRD := Lib.hid hrds
      have PL2 := Lib.hid (fun h => hrds.plain h (by omega))
      have ikk : ¬ (k : Int) < (k : Int) := by omega
      clear hdn hrd hAC hown hrds
      go_wp2_with fail
      go_loopg [74] k (fun gg s74 wr => ∃ j : Nat, j + gg = k ∧ s74 = .int .i64 j ∧ Hid (firstE AC = firstE (AC.drop j)) ∧ Below wo.heap.size wo wr)
      case atStart => exact ⟨0, by omega, rfl, rfl, Below.refl _ _⟩
      case round =>
        obtain ⟨j, hjg, rfl, hfe, hbk⟩ := hrel
        have hzk := hbk.size
        by_cases hj : j < k
        · obtain ⟨b1, o1, rfl, hb1, hc1⟩ := PL2.out (by omega)
          obtain ⟨x, hx⟩ : ∃ x, AC[j]? = some x := ⟨_, List.getElem?_eq_getElem (by have := HAK.out; omega)⟩
          obtain ⟨p0, p1⟩ := ln_at hc1 hx rfl hb1 hbk
          have hfx := firstE_drop hx
          rw [← hfe.out] at hfx
          have HFX := Lib.hid hfx
          have hsx := (HAX.out x (List.mem_of_getElem? hx)).1
          have ij : (j : Int) < (k : Int) := by omega
          have ij0 : (0 : Int) ≤ (j : Int) := by omega
          have HBK := Lib.hid (hbk.trans ((Below.refl _ _).alloc hzk (.cells #[.int .i64 x.1, .string (lnT x)] 28)))
          obtain ⟨E, hE⟩ : ∃ E, E = chkE (lnT x) := ⟨_, rfl⟩
          rw [← hE] at HFX
          have HE := Lib.hid hE
          clear hc1 hx hfx hbk hfe hE
          by_cases hz : E = 0
          · have g1 : (E == 0) = true := by simpa using hz
            have g2 : (E != 0) = false := by simpa using hz
            have HF2 := HFX.out
            rw [if_pos hz] at HF2
            have HF3 := Lib.hid HF2
            clear hz HF2
            go_wp2_with fail
            refine (textError_any (lnT x) _ (by omega)).mono ?_
            rintro e wz ⟨rfl, hwz⟩
            rw [← HE.out, ← hwz]
            clear hwz
            go_wp2_with fail
            go_roundg (k - (j + 1))
            case measure => omega
            case rel => exact ⟨j + 1, by omega, by go_num, HF3, HBK.out⟩
          · have g1 : (E == 0) = false := by simpa using hz
            have g2 : (E != 0) = true := by simpa using hz
            have HR2 : Hid (olE s = E ∧ olL s = []) := by
              have h2 := HFX.out
              rw [if_neg hz] at h2
              have h3 := HR.out
              rw [h2, if_neg hz, if_neg hz] at h3
              exact h3
            have R : Hid (Below w.heap.size w (wr.alloc (.cells #[.int .i64 x.1, .string (lnT x)] 28))) := HB1.out.trans ((hbel.trans (HBK.out.mono hzz)).mono hz1w)
            clear hz
            go_wp2_with fail
            refine (textError_any (lnT x) _ (by omega)).mono ?_
            rintro e wz ⟨rfl, hwz⟩
            rw [← HE.out, ← hwz]
            clear hwz
            go_wp2_with fail
            go_ret2
            exact OutP.bad HR2.out rfl R.out
        · obtain rfl : j = k := by omega
          have hf0 : firstE AC = 0 := by rw [hfe.out, List.drop_eq_nil_of_le (by have := HAK.out; omega)]; rfl
          have hres := HR.out
          rw [hf0, if_pos rfl, if_pos rfl, HAK.out] at hres
          have HRES := Lib.hid hres
          have R : Hid (Below w.heap.size w wr) := HB1.out.trans ((hbel.trans (hbk.mono hzz)).mono hz1w)
          have RR : Hid (Reads wr wr.heap.size 2 A2 j (flatL AC)) := (HRD.out.below hbk).more hbk.size
          clear hf0 hres hfe hbk hbel
          by_cases hbk : 2000 < j
          · have g1 : (2000 : Int) < (j : Int) := by omega
            have HRE2 := HRES.out
            rw [if_pos hbk, if_pos hbk] at HRE2
            have HRE3 := Lib.hid HRE2
            clear HRE2
            go_wp2_with fail
            go_ret2
            exact OutP.bad HRE3.out rfl R.out
          · have g1 : ¬ (2000 : Int) < (j : Int) := by omega
            have HRE2 := HRES.out
            rw [if_neg hbk, if_neg hbk] at HRE2
            have HRE3 := Lib.hid HRE2
            clear HRE2
            go_wp2_with fail
            go_ret2
            refine ⟨A2, c2, ?_, ?_, ?_, R.out⟩
            · rw [HRE3.out.1, HRE3.out.2, HAK.out]; rfl
            · rw [HRE3.out.2, HAK.out]; exact RR.out
            · rw [HRE3.out.2, HAK.out]; omega

set_option maxHeartbeats 2000000 in
set_option maxRecDepth 100000 in
theorem treeOutlineReads_any (s : ByteArray) (m : Int) (w : World) (hs : s.size ≤ 140737488351232) (hm : w.cell? ⟨0, 0, none⟩ = some (.int .i64 m)) (hz0 : 0 < w.heap.size) :
    Calls Tryd.prog 3 #[.string s] w fun e w' => e = .returned (.bool true) ∧ Below w.heap.size w w' := by
  have HM := Lib.hid hm
  have C1 := Lib.hid (readOutline_any s m w hs hm hz0)
  obtain ⟨E, hE⟩ : ∃ E, E = olE s := ⟨_, rfl⟩
  have HE := Lib.hid hE
  clear hE hm
  go_enter Tryd.func3, Tryd.ntmps3
  go_wp2_with fail
  refine C1.out.mono ?_
  rintro e w1 ⟨A1, c1, rfl, hr1, hl1, hb1⟩
  rw [← HE.out]
  have HB1 := Lib.hid hb1
  have HR1 := Lib.hid hr1
  have hm1 : w1.cell? ⟨0, 0, none⟩ = some (.int .i64 m) := (hb1.cell (p := ⟨0, 0, none⟩) hz0).trans HM.out
  have C2 := Lib.hid (routline_any s m w1 hs hm1)
  clear hb1 hr1 hm1
  go_wp2_with fail
  refine C2.out.mono ?_
  rintro e w2 ⟨A2, c2, rfl, hr2, hl2, hb2⟩
  rw [← HE.out]
  have HB2 := Lib.hid (HB1.out.trans (hb2.mono HB1.out.size))
  have C3 := Lib.hid (eqLines_any w2 (olL s) A1 A2 (olL s).length c1 c2 ((HR1.out.below hb2).more hb2.size) hr2 rfl (by omega))
  clear hb2 hr2
  go_wp2_with fail
  refine C3.out.mono ?_
  rintro e w3 ⟨rfl, hb3⟩
  have HB3 := Lib.hid (HB2.out.trans (hb3.mono HB2.out.size))
  clear hb3
  go_wp2_with fail
  go_ret
  exact ⟨rfl, HB3.out⟩
end Go.Proofs.YtbannbgokddfaaaDoor
