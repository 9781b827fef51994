/-
  DERIVED. The walk of day.Fill at a template whose fields have values: the template filled, or too large. Conditions: sizes; the table of powers of ten is laid. By an AI agent.
-/
import Derived.Test.YtghadhdmbcigpaaDoorTpFillMath
import Derived.Test.YtghadhdmbcigpaaDoorBldMore
namespace Go.Proofs.YtghadhdmbcigpaaDoor
open Go.RowKit

set_option maxHeartbeats 400000 in
theorem outsideD_no (n a b : Int) (w : World) (h : a ≤ n) (h' : n ≤ b) :
    Calls Tryd.prog 36 #[.int .i64 n, .int .i64 a, .int .i64 b] w fun e w' => e = .returned (.bool false) ∧ w = w' := by
  have h1 : decide (n < a) = false := by simp; omega
  have h2 : decide (b < n) = false := by simp; omega
  go_enter Tryd.func36, Tryd.ntmps36
  go_wp2
  go_ret
  exact ⟨by simp [h1, h2], rfl⟩

set_option maxHeartbeats 400000 in
theorem checkDay_any (d : Int) (w : World) (h0 : 0 ≤ d) (h1 : d ≤ 100000) :
    Calls Tryd.prog 14 #[.int .i64 d] w fun e w' => e = .returned (.int .i64 0) ∧ w = w' := by
  go_enter Tryd.func14, Tryd.ntmps14
  go_wp2_with fail
  refine (outsideD_no d 0 100000 _ h0 h1).mono ?_
  rintro e w1 ⟨rfl, rfl⟩
  go_wp2_with fail
  go_ret
  exact ⟨rfl, rfl⟩

/-- what Fill answers -/
def FillP (o : ByteArray) (w : World) (e : Ending) (w' : World) : Prop :=
  (e = .returned (.tuple #[.string ⟨#[]⟩, .int .i64 4]) ∨ e = .returned (.tuple #[.string o, .int .i64 0])) ∧ Below w.heap.size w w'

set_option maxHeartbeats 16000000 in
set_option maxRecDepth 100000 in
theorem fill_any (T : List Seg) (z s : ByteArray) (vs : List Pr) (A : Option Addr) (c n : Nat) (d : Int) (w : World) (B : Nat) (hs : s.size ≤ 4294967280) (hT : T.length ≤ 8) (he : s = tpl T z) (hok : ∀ x ∈ T, okS x) (hz : okZ z)
    (hr : Reads w B 2 A n (rowsV vs)) (hB : B ≤ w.heap.size) (hn : n = vs.length) (hl : n ≤ 20) (hnc : n ≤ c) (hvk : ∀ x ∈ vs, okN x.1) (hnd : (vs.map (·.1)).Nodup) (hfd : ∀ x ∈ T, ∃ y ∈ vs, isNm x.2 y = true)
    (hd0 : 0 ≤ d) (hd1 : d ≤ 100000) (hP : Pow w) (ho : (filled vs T z).size ≤ 4294967280) :
    Calls Tryd.prog 7 #[.string s, .slice A n c, .int .i64 d] w (FillP (filled vs T z) w) := by
  have hom := outM_pcs vs z T (fun x hx => (hok x hx).2.1)
  have hfp : ∀ x ∈ pcs T z, x.field.size = 0 ∨ ∃ y ∈ vs, isNm x.field y = true := by
    intro x hx
    clear he hok hom ho hT
    induction T with
    | nil =>
      rw [pcs, List.mem_singleton] at hx
      subst hx; exact .inl rfl
    | cons a r ih =>
      rw [pcs] at hx
      rcases List.mem_cons.1 hx with rfl | hx
      · exact .inl rfl
      · rcases List.mem_cons.1 hx with rfl | hx
        · exact .inr (hfd a (List.mem_cons_self))
        · exact ih (fun y hy => hfd y (List.mem_cons_of_mem _ hy)) hx
  have hoth : ∀ x ∈ pcs T z, x.other = ⟨#[]⟩ ∧ x.has = false := by
    intro x hx
    clear he hok hom ho hT hfd hfp
    induction T with
    | nil =>
      rw [pcs, List.mem_singleton] at hx
      subst hx; exact ⟨rfl, rfl⟩
    | cons a r ih =>
      rw [pcs] at hx
      rcases List.mem_cons.1 hx with rfl | hx
      · exact ⟨rfl, rfl⟩
      · rcases List.mem_cons.1 hx with rfl | hx
        · exact ⟨rfl, rfl⟩
        · exact ih hx
  have hpl : (pcs T z).length ≤ 17 := by rw [pcs_len]; omega
  have HRT := Lib.hid (readTemplate_any T z s w hs hT he hok hz)
  have HR := Lib.hid hr
  have HN := Lib.hid hn
  have HVK := Lib.hid hvk
  have HND := Lib.hid hnd
  have HP := Lib.hid hP
  obtain ⟨M, hM⟩ : ∃ M, M = pcs T z := ⟨_, rfl⟩
  obtain ⟨o, ho'⟩ : ∃ o, o = filled vs T z := ⟨_, rfl⟩
  rw [← hM, ← ho'] at hom
  rw [← hM] at hfp hoth hpl
  rw [← ho'] at ho ⊢
  unfold ReadP at HRT
  rw [← hM] at HRT
  have HOM := Lib.hid hom
  have HFP := Lib.hid hfp
  have HOT := Lib.hid hoth
  clear hr hn hvk hnd hP hM ho' hom hfp hoth he hok hz hfd
  go_enter Tryd.func7, Tryd.ntmps7
  go_wp2_with fail
  refine HRT.out.mono ?_
  rintro e w1 ⟨hb1, hres⟩
  have HB1 := Lib.hid hb1
  clear HRT
  rcases hres with ⟨_, rfl⟩ | ⟨_, A1, c1, rfl, hr1⟩
  · go_wp2_with fail
    go_ret2
    exact ⟨.inl rfl, HB1.out⟩
  have HR1 := Lib.hid hr1
  have HP1 := Lib.hid (HP.out.below hb1)
  obtain ⟨m, hm⟩ : ∃ m, m = M.length := ⟨_, rfl⟩
  rw [← hm] at hpl HR1 ⊢
  have HM := Lib.hid hm
  clear hr1 hb1 HP hm
  go_wp2_with fail
  refine (checkValues_any vs A c n w1 B (HR.out.below (HB1.out.mono hB)) (Nat.le_trans hB HB1.out.size) HN.out (by omega) hnc HVK.out HND.out).mono ?_
  rintro e w2 ⟨hres2, hb2⟩
  have HB2 := Lib.hid (HB1.out.trans (hb2.mono HB1.out.size))
  have HP2 := Lib.hid (HP1.out.below hb2)
  have HR2 := Lib.hid ((HR1.out.below hb2).more hb2.size)
  clear hb2 HP1 HR1 HVK HND
  rcases hres2 with rfl | rfl
  rotate_left
  · go_wp2_with fail
    go_ret2
    exact ⟨.inl rfl, HB2.out⟩
  go_wp2_with fail
  refine (checkDay_any d w2 hd0 hd1).mono ?_
  rintro e w3 ⟨rfl, rfl⟩
  go_wp2_with fail
  refine (own_any d w2 hd0 hd1 HP2.out).mono ?_
  rintro e w3 ⟨v3, n3, os, rfl, hown3, hn3, hn31, hn34, hb3⟩
  obtain ⟨A3, c3, rfl, hr3⟩ := own_reads hown3
  have HB3 := Lib.hid (HB2.out.trans (hb3.mono HB2.out.size))
  have HR3 := Lib.hid ((HR2.out.below hb3).more hb3.size)
  have HO3 := Lib.hid hr3
  have HN3 := Lib.hid hn3
  clear hb3 HP2 HR2 hown3 hr3 hn3
  go_wp2_with fail
  have t2 : ∀ t, (w3.alloc (.cells #[.slice A n c, .slice A3 n3 c3] t)).cell? ⟨w3.heap.size, 0, none⟩ = some (.slice A n c) ∧ (w3.alloc (.cells #[.slice A n c, .slice A3 n3 c3] t)).cell? ⟨w3.heap.size, 1, none⟩ = some (.slice A3 n3 c3) := fun t =>
    ⟨by rw [(Blk.new w3 t #[.slice A n c, .slice A3 n3 c3]).cell 0]; rfl, by rw [(Blk.new w3 t #[.slice A n c, .slice A3 n3 c3]).cell 1]; rfl⟩
  have q1 : Reads w3 w3.heap.size 2 A n (rowsV vs) := ((HR.out.below (HB3.out.mono hB)).more (Nat.le_trans hB HB3.out.size))
  refine (concat_any w3.heap.size A A3 n c n3 c3 vs os _ w3.heap.size (t2 _).1 (t2 _).2 (q1.alloc (Nat.le_refl _) _) (HO3.out.alloc (Nat.le_refl _) _) (by simp) (by simp) (by omega) (by omega)).mono ?_
  rintro e w4 ⟨A4, c4, rfl, hr4, hb4⟩
  clear t2 q1
  have hz34 : w3.heap.size ≤ w4.heap.size := by have := hb4.size; simp at this; omega
  have HB4 : Hid (Below w.heap.size w w4) := (HB3.out.alloc HB3.out.size _).trans (hb4.mono (by have := HB3.out.size; simp; omega))
  have HR4 : Hid (Reads w4 w4.heap.size 4 A1 m (rowsP M)) := ((HR3.out.alloc (Nat.le_refl _) _).below (hb4.mono (by simp))).more hz34
  have HA4 := Lib.hid hr4
  clear hb4 hr4 HR3 HO3 HB3 HR hz34
  obtain ⟨b, hb⟩ : ∃ b, b = w4.heap.size := ⟨_, rfl⟩
  have hwb : Bld b (b + 1) [] (w4.alloc (.cells #[.pointer none, .slice none 0 0] 49)) := Bld.fresh (by omega) (by rw [hb]; exact heap_alloc_new w4 _)
  have HBL := Lib.hid hwb
  have HBS := Lib.hid hb
  clear hwb hb
  have hbw : b ≤ w4.heap.size := Nat.le_of_eq HBS.out
  have hra : Reads (w4.alloc (.cells #[.pointer none, .slice none 0 0] 49)) b 4 A1 m (rowsP M) := by
    have := HR4.out.alloc (Nat.le_refl _) (.cells #[.pointer none, .slice none 0 0] 49)
    rwa [← HBS.out] at this
  have haa : Reads (w4.alloc (.cells #[.pointer none, .slice none 0 0] 49)) b 2 A4 (n + n3) (rowsV (vs ++ os)) := by
    have := HA4.out.alloc (Nat.le_refl _) (.cells #[.pointer none, .slice none 0 0] 49)
    rwa [← HBS.out] at this
  have HLA : Hid (n + n3 = (vs ++ os).length) := by show _ = _; rw [List.length_append, ← HN.out, ← HN3.out]
  obtain ⟨ab, aoff, rfl, hab, hac⟩ := haa.plain (by omega) (by decide)
  have hwbelow : Below w.heap.size w (w4.alloc (.cells #[.pointer none, .slice none 0 0] 49)) := HB4.out.alloc HB4.out.size _
  have HS5 : Hid ((w4.alloc (.cells #[.pointer none, .slice none 0 0] 49)).heap.size = b + 1) := by show _ = _; rw [HBS.out]; simp
  have hbl : w.heap.size ≤ b := by rw [HBS.out]; exact HB4.out.size
  go_wp2_with fail
  rw [← HBS.out]
  obtain ⟨WB, hWB⟩ : ∃ WB, WB = w4.alloc (.cells #[.pointer none, .slice none 0 0] 49) := ⟨_, rfl⟩
  rw [← hWB] at HBL hra hwbelow HS5 hac ⊢
  have HRA := Lib.hid hra
  have HWB := Lib.hid hwbelow
  have HAC := Lib.hid hac
  clear hra haa hwbelow hac hWB HR4 HA4 HB4 HBS hbw
  go_loopg [44] m (fun gg s44 wr => ∃ k : Nat, k + gg = m ∧ s44 = .int .i64 (k : Int) ∧ Hid (Bld b (b + 1) (Lib.strCells (outM vs (M.take k))) wr) ∧ Hid (Keep b (b + 1) WB wr) ∧ b + 1 ≤ wr.heap.size)
  case atStart => exact ⟨0, by omega, rfl, HBL.out, Keep.refl _ _ _, Nat.le_of_eq HS5.out.symm⟩
  case round =>
    clear HBL
    obtain ⟨k, hkg, rfl, hbld, hkeep, hwz⟩ := hrel
    by_cases hk : k < m
    · obtain ⟨x, hkM⟩ : ∃ x, M[k]? = some x := ⟨_, List.getElem?_eq_getElem (by have := HM.out; omega)⟩
      obtain ⟨pb, poff, rfl, hpb, hc⟩ := Reads.plain_at (by decide) pcV_len HRA.out HM.out hkM
      have c0 := (hkeep.out.cell (p := ⟨pb, poff + k * 4, none⟩) (by show pb < _; omega) (by show pb ≠ _; omega)).trans (hc 0 _ rfl)
      have c1 := (hkeep.out.cell (p := ⟨pb, poff + k * 4 + 1, none⟩) (by show pb < _; omega) (by show pb ≠ _; omega)).trans (hc 1 _ rfl)
      have c2 := (hkeep.out.cell (p := ⟨pb, poff + k * 4 + 2, none⟩) (by show pb < _; omega) (by show pb ≠ _; omega)).trans (hc 2 _ rfl)
      have c3 := (hkeep.out.cell (p := ⟨pb, poff + k * 4 + 3, none⟩) (by show pb < _; omega) (by show pb ≠ _; omega)).trans (hc 3 _ rfl)
      have hot := HOT.out x (List.mem_of_getElem? hkM)
      have hfp := HFP.out x (List.mem_of_getElem? hkM)
      rw [hot.1] at c2
      rw [hot.2] at c3
      have htk := outM_take vs M k x hkM
      have hsz : (outM vs (M.take (k + 1))).size ≤ o.size := by rw [← HOM.out]; exact outM_le vs M (k + 1)
      rw [htk, ByteArray.size_append] at hsz
      unfold ctr at htk hsz
      rw [ByteArray.size_append] at hsz
      have HTK := Lib.hid htk
      have HFX := Lib.hid hfp
      have HSZ := Lib.hid hsz
      have i0 : (0 : Int) ≤ (k : Int) := by omega
      have i1 : (k : Int) < (m : Int) := by omega
      clear hc hkM hot hfp htk hsz
      go_wp2_with fail
      have hbx : Blk (wr.alloc (.cells #[.string x.text, .string x.field, .string ⟨#[]⟩, .bool false] 51)) wr.heap.size 51 #[.string x.text, .string x.field, .string ⟨#[]⟩, .bool false] := Blk.new _ _ _
      refine (writeString_more b (b + 1) _ x.text _ (hbld.out.alloc hwz _) (by rw [Lib.strCells_length]; have := HSZ.out; omega) (by simp; omega) hbx (by decide) (by omega)).mono ?_
      rintro e w6 ⟨rfl, hbld6, hk6, hbx6⟩
      have hkeep6 : Keep b (b + 1) WB w6 := (hkeep.out.alloc (by omega) (by omega) _).trans hk6
      have hz6 : wr.heap.size + 1 ≤ w6.heap.size := by have := hk6.1.size; simpa using this
      have HBX6 := Lib.hid hbx6
      rw [← strCells_app] at hbld6
      have HBL6 := Lib.hid hbld6
      have HKP6 := Lib.hid hkeep6
      have d1 := hbx6.cell 1
      clear hbx hbld hkeep hbld6 hk6 hkeep6 hbx6 c0 c1 c2 c3
      by_cases he : x.field.size = 0
      · have e1 : x.field = ⟨#[]⟩ := empty_of he
        have htk := HTK.out
        rw [if_pos he, app_nil] at htk
        rw [e1] at d1
        have HT2 := Lib.hid htk
        clear htk
        go_wp2_with fail
        go_roundg (m - (k + 1))
        case measure => omega
        case rel => exact ⟨k + 1, by omega, by go_num, by rw [HT2.out]; exact HBL6, HKP6, by omega⟩
      · have e1 : x.field.toList.isEmpty = false := notEmpty_of (by omega)
        obtain ⟨i, v, hiv, hval, hidx⟩ := idx_found x.field vs os (by rcases HFX.out with h | h; exact absurd h he; exact h)
        rw [← HN.out, ← HN3.out] at hidx
        have HIDX := Lib.hid hidx
        have hiN : i < n := by rw [HN.out]; exact (List.getElem?_eq_some_iff.1 hiv).1
        have htk := HTK.out
        rw [if_neg he, hval, ← ByteArray.append_assoc] at htk
        have hsz := HSZ.out
        rw [if_neg he, hval] at hsz
        have HT2 := Lib.hid htk
        have HS2 := Lib.hid hsz
        have hvcell : WB.cell? ⟨ab, aoff + i * 2 + 1, none⟩ = some (.string v.2) := by
          have := HAC.out (i * 2 + 1) (.string v.2) (by unfold rowsV; rw [fm_get prV 2 prV_len (vs ++ os) i 1 v (by rw [List.getElem?_append_left (by rw [← HN.out]; exact hiN)]; exact hiv) (by decide)]; rfl)
          rwa [← Nat.add_assoc] at this
        have HVC := Lib.hid hvcell
        clear hidx htk hval hiv hvcell hsz
        have hcc : ∀ j, j < (vs ++ os).length → ∀ q u, (prV (vs ++ os)[j]!)[q]? = some u → w6.cell? ⟨ab, aoff + j * 2 + q, none⟩ = some u := by
          intro j hj q u hu
          rw [HKP6.out.cell (p := ⟨ab, aoff + j * 2 + q, none⟩) (by show ab < _; omega) (by show ab ≠ _; omega), Nat.add_assoc]
          refine HAC.out (j * 2 + q) u ?_
          unfold rowsV
          rw [fm_get prV 2 prV_len (vs ++ os) j q (vs ++ os)[j]! (by rw [List.getElem?_eq_getElem hj, getElem!_pos _ j hj]) (by rw [← prV_len (vs ++ os)[j]!]; exact (List.getElem?_eq_some_iff.1 hu).1)]
          exact hu
        have hpk : wr.heap.size < w6.heap.size := by omega
        have hab6 : ab < w6.heap.size := by omega
        have hn1000 : n + n3 ≤ 1000 := by omega
        have hle : n + n3 ≤ (vs ++ os).length := Nat.le_of_eq HLA.out
        have hix := index_any (vs ++ os) ab aoff (n + n3) c4 wr.heap.size x.field w6 hle hn1000 hab6 hcc d1 hpk
        rw [HIDX.out] at hix
        have HIX := Lib.hid hix
        clear hcc hpk hab6 hn1000 hle hix
        go_wp2_with fail
        refine HIX.out.mono ?_
        rintro e w7 ⟨rfl, hb7⟩
        clear HIX
        have hbld7 := HBL6.out.below hb7
        have hkeep7 : Keep b (b + 1) WB w7 := HKP6.out.trans (Keep.below hb7 (by omega) (by omega))
        have hbx7 := HBX6.out.below hb7 (by omega)
        have hz7 := hb7.size
        have vc := (hkeep7.cell (p := ⟨ab, aoff + i * 2 + 1, none⟩) (by show ab < _; omega) (by show ab ≠ _; omega)).trans HVC.out
        have HBL7 := Lib.hid hbld7
        have HKP7 := Lib.hid hkeep7
        have HBX7 := Lib.hid hbx7
        have f2 := hbx7.cell 2
        have f3 := hbx7.cell 3
        have j0 : (0 : Int) ≤ (i : Int) := by omega
        have j0' : ¬ (i : Int) < 0 := by omega
        have j1 : (i : Int) < (n : Int) + (n3 : Int) := by omega
        have j2 : (i : Int) < ((n + n3 : Nat) : Int) := by omega
        clear hb7 hbld7 hkeep7 hbx7 HBL6 HKP6 HBX6 d1
        by_cases hv : v.2.size = 0
        · have e2 : v.2 = ⟨#[]⟩ := empty_of hv
          have htk := HT2.out
          rw [e2, app_nil] at htk
          have HT3 := Lib.hid htk
          rw [e2] at vc
          clear htk
          go_wp2_with fail
          refine (writeString_any b (b + 1) _ ⟨#[]⟩ w7 HBL7.out (by rw [Lib.strCells_length, ByteArray.size_append]; have := HS2.out; show _ + 0 ≤ _; omega) (by omega)).mono ?_
          rintro e w8 ⟨rfl, hbld8, hk8⟩
          rw [← strCells_app, app_nil] at hbld8
          have HK8 := Lib.hid (HKP7.out.trans hk8)
          have hz8 := hk8.1.size
          have HB8 := Lib.hid hbld8
          clear hbld8 hk8
          go_wp2_with fail
          go_roundg (m - (k + 1))
          case measure => omega
          case rel => exact ⟨k + 1, by omega, by go_num, by rw [HT3.out]; exact HB8, HK8, by omega⟩
        · have e2 : v.2.toList.isEmpty = false := notEmpty_of (by omega)
          go_wp2_with fail
          refine (writeString_any b (b + 1) _ v.2 w7 HBL7.out (by rw [Lib.strCells_length, ByteArray.size_append]; have := HS2.out; omega) (by omega)).mono ?_
          rintro e w8 ⟨rfl, hbld8, hk8⟩
          rw [← strCells_app] at hbld8
          have HK8 := Lib.hid (HKP7.out.trans hk8)
          have hz8 := hk8.1.size
          have HB8 := Lib.hid hbld8
          clear hbld8 hk8
          go_wp2_with fail
          go_roundg (m - (k + 1))
          case measure => omega
          case rel => exact ⟨k + 1, by omega, by go_num, by rw [HT2.out]; exact HB8, HK8, by omega⟩
    · obtain rfl : k = m := by omega
      have hbo := hbld.out
      rw [List.take_of_length_le (by rw [← HM.out]; exact Nat.le_refl _), HOM.out] at hbo
      have HBO := Lib.hid hbo
      clear hbo hbld
      go_wp2_with fail
      refine (len_any b (b + 1) _ wr HBO.out).mono ?_
      rintro e w8 ⟨rfl, rfl⟩
      rw [Lib.strCells_length]
      by_cases hbig : 400000 < o.size
      · have i1 : (400000 : Int) < (o.size : Int) := by omega
        go_wp2_with fail
        go_ret2
        exact ⟨.inl rfl, HWB.out.trans (hkeep.out.1.mono hbl)⟩
      · have i1 : ¬ (400000 : Int) < (o.size : Int) := by omega
        go_wp2_with fail
        refine (string_any b (b + 1) o w8 HBO.out).mono ?_
        rintro e w9 ⟨rfl, hb9⟩
        go_wp2_with fail
        go_ret2
        exact ⟨.inr rfl, (HWB.out.trans (hkeep.out.1.mono hbl)).trans (hb9.mono hbl)⟩
end Go.Proofs.YtghadhdmbcigpaaDoor
