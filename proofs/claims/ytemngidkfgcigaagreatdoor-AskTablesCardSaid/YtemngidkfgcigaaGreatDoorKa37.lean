/-
  DERIVED. The walk of ask.Table. Conditions: sizes.
  By an AI agent.
-/
import Derived.Test.YtemngidkfgcigaaGreatDoorKa35
import Derived.Test.YtemngidkfgcigaaGreatDoorKa26
namespace Go.Proofs.YtemngidkfgcigaaGreatDoor
open Go.RowKit

set_option maxHeartbeats 400000 in
theorem clipT_any (A : Option Addr) (n c : Nat) (w : World) (hn : n ≤ c) (_h0 : A = none → n = 0 ∧ c = 0) :
    Calls Tryz.prog 23 #[.slice A n c] w fun e w' => e = .returned (.slice A n n) ∧ w' = w := by
  have i0 : (0 : Int) ≤ (n : Int) := by omega
  have i1 : (n : Int) ≤ (c : Int) := by omega
  go_enter Tryz.func23, Tryz.ntmps23
  go_wp2_with fail
  go_ret
  exact ⟨rfl, rfl⟩
theorem tb_info : (Tryz.prog.info? 38).map (fun i => (i.zero, i.size, i.bytes)) = some (some (.slice none 0 0), 1, 24) := by kernel_rfl
/-- what a table leaves -/
def TabP (er : Int) (tt : List (List Vl)) (w : World) (e : Ending) (w' : World) : Prop :=
  (er ≠ 0 ∧ e = .returned (.tuple #[.slice none 0 0, .int .i64 er]) ∨ er = 0 ∧ ∃ A n, e = .returned (.tuple #[.slice A n n, .int .i64 0]) ∧ RTab w' (fun b => w.heap.size ≤ b ∧ b < w'.heap.size) (.slice A n n) tt) ∧ Below w.heap.size w w'
theorem own_none {w : World} {A : Option Addr} {n c base size : Nat} {e : TypeId} {xs : List Value} (h : w.ownsRow base e size (.slice A n c) n xs) : A = none → n = 0 ∧ c = 0 := fun ha => by
  rcases h.2 with ⟨h, h0⟩ | ⟨g, cap, cur, h, _⟩
  · injection h with _ h1 h2
    exact ⟨h1, h2⟩
  · injection h with h; rw [ha] at h; cases h
set_option maxHeartbeats 8000000 in
set_option maxRecDepth 100000 in
/-- ask.Table where the base has an error, or where it is too large -/
theorem table_bad (l : List Bl) (f : Int → Option Int) (hf : DepOk l f) (A : Option Addr) (n c : Nat) (ids : List Int) (Ai : Option Addr) (ni ci : Nat) (cols : List ByteArray) (Ac : Option Addr) (nc cc : Nat) (w : World) (hb : RB w w.heap.size (.slice A n c) l)
    (hi : ni = ids.length) (hc : nc = cols.length) (hbad : baseE l f ≠ 0 ∨ 2000 < ids.length ∨ 10 < cols.length) :
    Calls Tryz.prog 6 #[.slice A n c, .slice Ai ni ci, .slice Ac nc cc] w fun e w' => e = .returned (.tuple #[.slice none 0 0, .int .i64 (tabE l f ids cols)]) ∧ Below w.heap.size w w' := by
  have HC := Lib.hid (treeCheck_any l f A n c w w.heap.size (Nat.le_refl _) hb hf)
  clear hb
  by_cases hE : baseE l f = 0
  · have hT : tabE l f ids cols = 4 := by
      unfold tabE
      rw [if_neg (fun h => h hE), if_pos (hbad.resolve_left fun h => h hE)]
    rw [hT]
    rw [hE] at HC
    by_cases h1 : 2000 < ids.length
    · have d1 : decide ((2000 : Int) < (ni : Int)) = true := decide_eq_true (by omega)
      clear hbad hE hT h1 hi hc
      go_enter Tryz.func6, Tryz.ntmps6
      go_wp2_with fail
      refine HC.out.mono ?_
      rintro e w1 ⟨rfl, hb1⟩
      have HB1 := Lib.hid hb1
      clear hb1
      go_wp2_with fail
      go_ret2
      exact ⟨rfl, HB1.out⟩
    · have d1 : decide ((2000 : Int) < (ni : Int)) = false := decide_eq_false (by omega)
      have d2 : decide ((10 : Int) < (nc : Int)) = true := decide_eq_true (by rcases hbad with h | h | h <;> omega)
      clear hbad hE hT h1 hi hc
      go_enter Tryz.func6, Tryz.ntmps6
      go_wp2_with fail
      refine HC.out.mono ?_
      rintro e w1 ⟨rfl, hb1⟩
      have HB1 := Lib.hid hb1
      clear hb1
      go_wp2_with fail
      go_ret2
      exact ⟨rfl, HB1.out⟩
  · have hT : tabE l f ids cols = baseE l f := by
      unfold tabE
      rw [if_pos hE]
    rw [hT]
    obtain ⟨er, her⟩ : ∃ er, er = baseE l f := ⟨_, rfl⟩
    rw [← her] at HC hE ⊢
    have h0' : (er != 0) = true := by simpa using hE
    clear her hE hbad hT hi hc
    go_enter Tryz.func6, Tryz.ntmps6
    go_wp2_with fail
    refine HC.out.mono ?_
    rintro e w1 ⟨rfl, hb1⟩
    have HB1 := Lib.hid hb1
    clear hb1
    go_wp2_with fail
    go_ret2
    exact ⟨rfl, HB1.out⟩
set_option maxHeartbeats 16000000 in
set_option maxRecDepth 100000 in
/-- ask.Table at a base without error -/
theorem table_good (l : List Bl) (f : Int → Option Int) (G : Good l f) (hE : baseE l f = 0) (A : Option Addr) (n c : Nat) (ids : List Int) (Ai : Option Addr) (ni ci : Nat) (cols : List ByteArray) (Ac : Option Addr) (nc cc : Nat) (w : World) (hb : RB w w.heap.size (.slice A n c) l)
    (hi : RIn w w.heap.size (.slice Ai ni ci) ids) (hc : RSs w w.heap.size (.slice Ac nc cc) cols) (h2000 : ids.length ≤ 2000) (h10 : cols.length ≤ 10) (htx : ∀ b ∈ l, b.text.size ≤ 1048576) :
    Calls Tryz.prog 6 #[.slice A n c, .slice Ai ni ci, .slice Ac nc cc] w (TabP (tabE l f ids cols) (ids.map (rowL l f cols)) w) := by
  have HC := Lib.hid (treeCheck_any l f A n c w w.heap.size (Nat.le_refl _) hb fun _ => G.dep)
  rw [hE] at HC
  obtain ⟨i0, hinf, hq0, hq1, hq2⟩ := info_parts val_info
  obtain ⟨t0, htinf, hr0, hr1, hr2⟩ := info_parts tb_info
  have HTE : Hid (tabE l f ids cols = if ids.all (plcd l) then (if cols.all isByL then 0 else 3) else 7) := by
    show tabE l f ids cols = _
    unfold tabE
    rw [if_neg (fun h => h hE), if_neg (by omega)]
  obtain ⟨er, her⟩ : ∃ er, er = tabE l f ids cols := ⟨_, rfl⟩
  rw [← her] at HTE ⊢
  obtain ⟨tt, htt⟩ : ∃ tt, tt = ids.map (rowL l f cols) := ⟨_, rfl⟩
  rw [← htt]
  have HTT := Lib.hid htt
  have HG := Lib.hid G
  have HI := Lib.hid hi
  have HCO := Lib.hid hc
  have HB := Lib.hid hb
  have HNI := Lib.hid hi.len
  have HNC := Lib.hid hc.len
  have HTX := Lib.hid htx
  have hni : ni ≤ 2000 := by have := hi.len.1; omega
  have hnc : nc ≤ 10 := by have := hc.len.1; omega
  have d1 : decide ((2000 : Int) < (ni : Int)) = false := decide_eq_false (by omega)
  have d2 : decide ((10 : Int) < (nc : Int)) = false := decide_eq_false (by omega)
  clear her htt hE G hb hi hc h2000 h10 htx
  go_enter Tryz.func6, Tryz.ntmps6
  go_wp2_with fail
  refine HC.out.mono ?_
  rintro e w1 ⟨rfl, hb1⟩
  have HB1 := Lib.hid hb1
  have HLK := Lib.hid (look_any l f HG.out A n c w1 ((HB.out.below hb1).more hb1.size))
  have HBX := Lib.hid ((HB.out.below hb1).more hb1.size)
  clear hb1
  go_wp2_with fail
  refine HLK.out.mono ?_
  rintro e w2 ⟨vb, g0, g1, g2, g3, na, fa, rfl, hv, hfa⟩
  have HV := Lib.hid hv
  have HFA := Lib.hid hfa
  have HB2 : Hid (Below w.heap.size w w2) := HB1.out.trans (hv.below.mono HB1.out.size)
  clear hv hfa HLK d1 d2
  go_wp2_with fail
  -- the ids are placed
  go_loopg [41] ni (fun gg s41 wr => ∃ k : Nat, k + gg = ni ∧ s41 = .int .i64 (k : Int) ∧ Hid (∀ (i : Nat) (x : Int), i < k → ids[i]? = some x → plcd l x = true) ∧ wr = w2)
  case atStart => exact ⟨0, by omega, rfl, (fun i x hi => absurd hi (by omega)), rfl⟩
  case round =>
  obtain ⟨k, hkg, rfl, hall, rfl⟩ := hrel
  by_cases hk : k < ni
  · obtain ⟨x, hx⟩ : ∃ x, ids[k]? = some x := ⟨_, List.getElem?_eq_getElem (by have := HNI.out.1; omega)⟩
    obtain ⟨b, off, rfl, hbb, hcl⟩ := HI.out.at_ hx
    have hxi := HI.out.i64 (List.mem_of_getElem? hx)
    have hcl' := (HB2.out.cell (p := ⟨b, off + k, none⟩) hbb).trans hcl
    obtain ⟨vv, kk, _, _⟩ := HV.out.ex
    obtain ⟨nd, _, hmp⟩ := HV.out.mp
    have k5 : wr.cell? ⟨vb, 3, none⟩ = some (.map (some g1)) := kk.cell 3
    have hlk := hmp.look_ok vw_elem Tryz.underlying3 Tryz.underlying52 hxi
    rw [plc_place HG.out] at hlk
    obtain ⟨q, hq⟩ : ∃ q, plcd l x = q := ⟨_, rfl⟩
    rw [hq] at hlk
    have HQ := Lib.hid hq
    have HX := Lib.hid hx
    have j0 : (0 : Int) ≤ (k : Int) := by omega
    have j1 : (k : Int) < (ni : Int) := by omega
    clear hx hbb hcl kk hmp hq hxi
    cases q
    · have HE7 : Hid (er = 7) := by
        show er = 7
        rw [HTE.out, if_neg]
        intro h
        have := List.all_eq_true.1 h x (List.mem_of_getElem? HX.out)
        rw [HQ.out] at this
        cases this
      go_wp2_with fail
      go_ret2
      exact ⟨.inl ⟨by rw [HE7.out]; decide, by rw [HE7.out]; rfl⟩, HB2.out⟩
    · go_wp2_with fail
      go_roundg (ni - (k + 1))
      case measure => omega
      case rel =>
        refine ⟨k + 1, by omega, by go_num, ?_, rfl⟩
        intro i y hi hy
        by_cases e : i = k
        · subst e
          obtain rfl := Option.some.inj (HX.out.symm.trans hy)
          exact HQ.out
        · exact hall.out i y (by omega) hy
  obtain rfl : ni = k := by omega
  have HALL : Hid (ids.all (plcd l) = true) := by
    show ids.all (plcd l) = true
    rw [List.all_eq_true]
    intro x hx
    obtain ⟨i, hi, e⟩ := List.mem_iff_getElem.1 hx
    exact hall.out i x (by have := HNI.out.1; omega) (by rw [List.getElem?_eq_getElem hi, e])
  have HTE2 : Hid (er = if cols.all isByL then 0 else 3) := by show er = _; rw [HTE.out, if_pos HALL.out]
  clear hall HTE
  go_wp2_with fail
  -- the columns are right
  go_loopg [59] nc (fun gg s59 wy => ∃ k : Nat, k + gg = nc ∧ s59 = .int .i64 (k : Int) ∧ Hid (∀ (i : Nat) (x : ByteArray), i < k → cols[i]? = some x → isByL x = true) ∧ wy = wr)
  case atStart => exact ⟨0, by omega, rfl, (fun i x hi => absurd hi (by omega)), rfl⟩
  case round =>
  obtain ⟨k, hkg, rfl, hall, rfl⟩ := hrel
  by_cases hk : k < nc
  · obtain ⟨x, hx⟩ : ∃ x, cols[k]? = some x := ⟨_, List.getElem?_eq_getElem (by have := HNC.out.1; omega)⟩
    obtain ⟨b, off, rfl, hbb, hcl⟩ := HCO.out.at_ hx
    have hcl' := (HB2.out.cell (p := ⟨b, off + k, none⟩) hbb).trans hcl
    have HBY := isBy_any x wr
    obtain ⟨q, hq⟩ : ∃ q, isByL x = q := ⟨_, rfl⟩
    rw [hq] at HBY
    have HBY' := Lib.hid HBY
    have HQ := Lib.hid hq
    have HX := Lib.hid hx
    have j0 : (0 : Int) ≤ (k : Int) := by omega
    have j1 : (k : Int) < (nc : Int) := by omega
    clear hx hbb hcl hq HBY
    go_wp2_with fail
    refine HBY'.out.mono ?_
    rintro e w3 ⟨rfl, rfl⟩
    cases q
    · have HE3 : Hid (er = 3) := by
        show er = 3
        rw [HTE2.out, if_neg]
        intro h
        have := List.all_eq_true.1 h x (List.mem_of_getElem? HX.out)
        rw [HQ.out] at this
        cases this
      go_wp2_with fail
      go_ret2
      exact ⟨.inl ⟨by rw [HE3.out]; decide, by rw [HE3.out]; rfl⟩, HB2.out⟩
    · go_wp2_with fail
      go_roundg (nc - (k + 1))
      case measure => omega
      case rel =>
        refine ⟨k + 1, by omega, by go_num, ?_, rfl⟩
        intro i y hi hy
        by_cases e : i = k
        · subst e
          obtain rfl := Option.some.inj (HX.out.symm.trans hy)
          exact HQ.out
        · exact hall.out i y (by omega) hy
  obtain rfl : nc = k := by omega
  have HE0 : Hid (er = 0) := by
    show er = 0
    rw [HTE2.out, if_pos]
    rw [List.all_eq_true]
    intro x hx
    obtain ⟨i, hi, e⟩ := List.mem_iff_getElem.1 hx
    exact hall.out i x (by have := HNC.out.1; omega) (by rw [List.getElem?_eq_getElem hi, e])
  clear hall HTE2
  obtain ⟨W2, rfl⟩ : ∃ W2, W2 = wr := ⟨_, rfl⟩
  have HO0 : Hid (OwnX tbV 1 38 NR W2 W2.heap.size (.slice none 0 0) []) := OwnX.start _ _
  have HZ2 := HB2.out.size
  go_wp2_with fail
  go_loopg [16, 69] ni (fun gg s16 s69 wr => ∃ (j : Nat) (v : Value) (M : List (List Vl × Value)), j + gg = ni ∧ v = s16 ∧ s69 = .int .i64 (j : Int) ∧ Hid (M.map Prod.fst = (ids.take j).map (rowL l f cols)) ∧ Hid (OwnX tbV 1 38 NR wr W2.heap.size v M) ∧ Hid (Below W2.heap.size W2 wr))
  case atStart => exact ⟨0, _, [], by omega, rfl, rfl, rfl, HO0, Below.refl _ _⟩
  case round =>
  obtain ⟨j, v, M, hjg, rfl, rfl, hM, hown, hbel⟩ := hrel
  obtain ⟨W3, rfl⟩ : ∃ W3, W3 = wr := ⟨_, rfl⟩
  have HML : Hid (M.length = j) := by
    show _ = _
    have := congrArg List.length hM.out
    rw [List.length_map, List.length_map, List.length_take] at this
    have := HNI.out.1
    omega
  by_cases hj : j < ni
  · obtain ⟨x, hx⟩ : ∃ x, ids[j]? = some x := ⟨_, List.getElem?_eq_getElem (by have := HNI.out.1; omega)⟩
    obtain ⟨b, off, rfl, hbb, hcl⟩ := HI.out.at_ hx
    have hxi := HI.out.i64 (List.mem_of_getElem? hx)
    have hcl' := ((HB2.out.trans (hbel.out.mono HZ2)).cell (p := ⟨b, off + j, none⟩) hbb).trans hcl
    have hxo : x ∈ ord l 41 0 := by
      have := List.all_eq_true.1 HALL.out x (List.mem_of_getElem? hx)
      exact of_decide_eq_true this
    obtain ⟨d, p, bb, hd, hd40, hlp, hbi, hpo, _⟩ := plc_blk HG.out hxo
    have HROW : Hid (rowL l f cols x = cols.map (cellV bb (dpI f x))) := rowL_of hpo hlp
    have HTK : Hid (ids.take (j + 1) = ids.take j ++ [x]) := by show _ = _; rw [List.take_add_one, hx]; rfl
    have HVO := Lib.hid fun (u : ByteArray) (W : World) (hW : Below W2.heap.size W2 W) => valueOf_any l x p bb u (dpI f x) W (HV.out.step hW) HBX.out hxi (by have := HFA.out p bb hlp; rw [hbi] at this; exact this) hlp hbi (plc_depth HG.out hxo) (HTX.out bb (List.mem_of_getElem? hlp))
    have HS0 : Hid (OwnX vlV 5 41 NV W3 W3.heap.size (.slice none 0 0) []) := OwnX.start _ _
    have HZ3 := hbel.out.size
    have j0 : (0 : Int) ≤ (j : Int) := by omega
    have j1 : (j : Int) < (ni : Int) := by omega
    obtain ⟨gv, hgv⟩ : ∃ gv, gv = fun u => cellV bb (dpI f x) u := ⟨_, rfl⟩
    have HGV : Hid (∀ u, cellV bb (dpI f x) u = gv u) := fun u => by rw [hgv]
    clear hx hbb hcl hxo hd hlp hbi hpo hxi hgv
    go_wp2_with fail
    go_loopg [19, 75] nc (fun gg s19 s75 wz => ∃ (k : Nat) (u : Value) (L : List (Vl × Value)), k + gg = nc ∧ u = s19 ∧ s75 = .int .i64 (k : Int) ∧ Hid (L.map Prod.fst = (cols.take k).map gv) ∧ Hid (OwnX vlV 5 41 NV wz W3.heap.size u L) ∧ Hid (Below W3.heap.size W3 wz))
    case atStart => exact ⟨0, _, [], by omega, rfl, rfl, rfl, HS0, Below.refl _ _⟩
    case round =>
    obtain ⟨k, u, L, hkg, rfl, rfl, hL, howk, hbek⟩ := hrel
    obtain ⟨W4, rfl⟩ : ∃ W4, W4 = wr := ⟨_, rfl⟩
    have HLL : Hid (L.length = k) := by
      show _ = _
      have := congrArg List.length hL.out
      rw [List.length_map, List.length_map, List.length_take] at this
      have := HNC.out.1
      omega
    by_cases hk : k < nc
    · obtain ⟨y, hy⟩ : ∃ y, cols[k]? = some y := ⟨_, List.getElem?_eq_getElem (by have := HNC.out.1; omega)⟩
      obtain ⟨bc, oc, rfl, hbc, hcc⟩ := HCO.out.at_ hy
      have hb24 : Below W2.heap.size W2 W4 := hbel.out.trans (hbek.out.mono HZ3)
      have hcc' := ((HB2.out.trans (hb24.mono HZ2)).cell (p := ⟨bc, oc + k, none⟩) hbc).trans hcc
      have HVY := Lib.hid (HVO.out y W4 hb24)
      have HLK : Hid ((cols.take (k + 1)).map gv = (cols.take k).map gv ++ [gv y]) := by show _ = _; rw [List.take_add_one, hy, List.map_append]; rfl
      have HGY : Hid (cellV bb (dpI f x) y = gv y) := HGV.out y
      have HZ4 := hbek.out.size
      have i0' : (0 : Int) ≤ (k : Int) := by omega
      have i1' : (k : Int) < (nc : Int) := by omega
      clear hy hbc hcc hb24
      go_wp2_with fail
      refine HVY.out.mono ?_
      rintro e w2 ⟨⟨A', n', c', rfl, hrv⟩, hb⟩
      rw [HGY.out]
      rw [HGY.out] at hrv
      obtain ⟨⟨kx, ix, tx, sx, lx⟩, hgy⟩ : ∃ g, gv y = g := ⟨_, rfl⟩
      rw [hgy] at hrv HLK ⊢
      clear hgy HGY HVY
      dsimp only [AV, Vl.kind, Vl.int_, Vl.to_, Vl.text, Vl.items] at hrv ⊢
      have HBw : Hid (Below W3.heap.size W3 w2) := hbek.out.trans (hb.mono HZ4)
      have hz2 : W4.heap.size ≤ w2.heap.size := hb.size
      have HO2 := Lib.hid (howk.out.below NV_ok hb)
      have HRV := Lib.hid hrv
      clear hb hrv
      obtain ⟨wa, hwa⟩ : ∃ wa, wa = w2.alloc (.cells #[.int .i64 kx, .int .i64 ix, .int .i64 tx, .string sx, .slice A' n' c'] 41) := ⟨_, rfl⟩
      have hal : Below w2.heap.size w2 wa := by rw [hwa]; exact (Below.refl _ _).alloc (Nat.le_refl _) _
      have q0 : Blk wa w2.heap.size 41 #[.int .i64 kx, .int .i64 ix, .int .i64 tx, .string sx, .slice A' n' c'] := by rw [hwa]; exact Blk.new _ _ _
      have hza : w2.heap.size < wa.heap.size := by rw [hwa]; simp
      have m0 := q0.cell 0
      have m1 := q0.cell 1
      have m2 := q0.cell 2
      have m3 := q0.cell 3
      have m4 := q0.cell 4
      have hal2 : Below wa.heap.size wa (wa.alloc (.cells #[.int .i64 kx, .int .i64 ix, .int .i64 tx, .string sx, .slice A' n' c'] 41)) := (Below.refl _ _).alloc (Nat.le_refl _) _
      have q2 : Blk (wa.alloc (.cells #[.int .i64 kx, .int .i64 ix, .int .i64 tx, .string sx, .slice A' n' c'] 41)) wa.heap.size 41 #[.int .i64 kx, .int .i64 ix, .int .i64 tx, .string sx, .slice A' n' c'] := Blk.new _ _ _
      have hal3 : Below w2.heap.size w2 (wa.alloc (.cells #[.int .i64 kx, .int .i64 ix, .int .i64 tx, .string sx, .slice A' n' c'] 41)) := hal.trans (hal2.mono (by omega))
      have HOC := Lib.hid (HO2.out.below NV_ok hal3)
      have HBC : Hid (Below W3.heap.size W3 (wa.alloc (.cells #[.int .i64 kx, .int .i64 ix, .int .i64 tx, .string sx, .slice A' n' c'] 41))) := HBw.out.trans (hal3.mono HBw.out.size)
      have HRC : Hid (RVX (wa.alloc (.cells #[.int .i64 kx, .int .i64 ix, .int .i64 tx, .string sx, .slice A' n' c'] 41)) (fun b => W4.heap.size ≤ b ∧ b < w2.heap.size) (.slice A' n' c') lx) := HRV.out.keep (fun p hp => hal3.cell hp.2)
      have HRD : Hid (Reads (wa.alloc (.cells #[.int .i64 kx, .int .i64 ix, .int .i64 tx, .string sx, .slice A' n' c'] 41)) (wa.heap.size + 1) 5 (some ⟨wa.heap.size, 0, none⟩) 1 (vlV (Vl.mk kx ix tx sx lx, .slice A' n' c'))) := Reads.blk q2 rfl
      have hkb : (L.length + 1) * 64 ≤ 140737488355328 := by have := HLL.out; omega
      have hkm : L.length + 1 ≤ maxLen := by have := HLL.out; unfold maxLen; omega
      have HSZ : Hid (w2.heap.size < (wa.alloc (.cells #[.int .i64 kx, .int .i64 ix, .int .i64 tx, .string sx, .slice A' n' c'] 41)).heap.size) := by show _ < _; simp; omega
      have HBASE : Hid (W3.heap.size ≤ (wa.alloc (.cells #[.int .i64 kx, .int .i64 ix, .int .i64 tx, .string sx, .slice A' n' c'] 41)).heap.size) := by show _ ≤ _; simp; omega
      have HWA := Lib.hid hwa
      have HBK4 := Lib.hid howk.out.blocks
      clear hwa hal q0 hal2 q2 hal3 howk HRV
      go_upto_region 29 with fail
      rw [← HWA.out]
      go_wp2_with (at_builtin; refine wpList_append_any _ rfl _ _ 38 rfl W3.heap.size 41 i0 vZ 5 64 Tryz.underlying38 hinf hq0 hq1 hq2 rfl (by decide) u L.length _ rfl HOC.out.own _ _ 1 1 _ rfl HRD.out (vlV_one _ ⟨_, _, _, rfl⟩) hkm hkb HBASE.out ?_)
      intro v' w3 hown3 hg3 hat3
      have HO3 : Hid (OwnX vlV 5 41 NV w3 W3.heap.size v' (L ++ [(Vl.mk kx ix tx sx lx, .slice A' n' c')])) := HOC.out.app NV_ok (S := fun b => W4.heap.size ≤ b ∧ b < w2.heap.size) HRC.out (fun b hb => ⟨by omega, by have := HSZ.out; omega, fun e => by have := (HBK4.out b e).2; omega⟩) hown3 hg3 (by rw [World.size_alloc]; exact hat3)
      have HB3 : Hid (Below W3.heap.size W3 w3) := HBC.out.grown hg3 HBC.out.size (fun g hg => (HOC.out.blocks g hg).1)
      have HL3 : Hid ((L ++ [(Vl.mk kx ix tx sx lx, Value.slice A' n' c')]).map Prod.fst = (cols.take (k + 1)).map gv) := by
        show _ = _
        rw [List.map_append, hL.out, HLK.out]; rfl
      clear hown3 hg3 hat3 m0 m1 m2 m3 m4
      go_wp2_with fail
      go_roundg (nc - (k + 1))
      case measure => omega
      case rel => exact ⟨k + 1, v', _, by omega, rfl, by go_num, HL3, HO3, HB3⟩
    · obtain rfl : nc = k := by omega
      obtain ⟨Ar, cr, hu, hcr, hrd⟩ := RdX.of_own howk.out.own
      have hown0 := howk.out.own
      rw [hu] at hown0
      have hnone := own_none hown0
      have HROW2 : Hid (L.map Prod.fst = rowL l f cols x) := by
        show _ = _
        rw [hL.out, HROW.out, List.take_of_length_le (by have := HNC.out.1; omega)]
        exact List.map_congr_left fun u _ => (HGV.out u).symm
      have HZ4 := hbek.out.size
      have hlb : L.length * 64 ≤ 140737488351232 := by have := HLL.out; omega
      have HRX : Hid (RVX W4 (fun b => W3.heap.size ≤ b ∧ b < W4.heap.size) (.slice Ar L.length L.length) (rowL l f cols x)) := by
        show RVX _ _ _ _
        rw [← HROW2.out]
        exact RVX.close rfl (Nat.le_refl _) hlb (hrd.weak fun b hb => ⟨hb.2.1, hb.2.2⟩) fun x hx => (howk.out.nest x hx).weak fun b hb => ⟨hb.1, hb.2.1⟩
      have HCL := Lib.hid (clipV_any Ar L.length cr W4 hcr hnone)
      have HU := Lib.hid hu
      obtain ⟨ln, hln⟩ : ∃ ln, ln = L.length := ⟨_, rfl⟩
      rw [← hln] at HRX HCL HU
      have hal : Below W4.heap.size W4 (W4.alloc (.cells #[.slice Ar ln ln] 38)) := (Below.refl _ _).alloc (Nat.le_refl _) _
      have HRC : Hid (RVX (W4.alloc (.cells #[.slice Ar ln ln] 38)) (fun b => W3.heap.size ≤ b ∧ b < W4.heap.size) (.slice Ar ln ln) (rowL l f cols x)) := HRX.out.keep (fun p hp => hal.cell hp.2)
      have HBC : Hid (Below W2.heap.size W2 (W4.alloc (.cells #[.slice Ar ln ln] 38))) := (hbel.out.trans (hbek.out.mono HZ3)).trans (hal.mono (by omega))
      have HOC := Lib.hid (hown.out.below NR_ok (hbek.out.trans (hal.mono HZ4)))
      have HRD : Hid (Reads (W4.alloc (.cells #[.slice Ar ln ln] 38)) (W4.heap.size + 1) 1 (some ⟨W4.heap.size, 0, none⟩) 1 (tbV (rowL l f cols x, .slice Ar ln ln))) := Reads.blk (Blk.new W4 38 #[.slice Ar ln ln]) rfl
      have hkb : (M.length + 1) * 24 ≤ 140737488355328 := by have := HML.out; omega
      have hkm : M.length + 1 ≤ maxLen := by have := HML.out; unfold maxLen; omega
      have HBASE : Hid (W2.heap.size ≤ (W4.alloc (.cells #[.slice Ar ln ln] 38)).heap.size) := by show _ ≤ _; simp; omega
      have HSZ : Hid (W4.heap.size < (W4.alloc (.cells #[.slice Ar ln ln] 38)).heap.size) := by show _ < _; simp
      have HBK3 := Lib.hid hown.out.blocks
      clear hcr hrd hnone hown0 howk hln hal HRX hL hu
      rw [HU.out]
      go_wp2_with fail
      refine HCL.out.mono ?_
      rintro e w4 ⟨rfl, rfl⟩
      go_wp2_with (at_builtin; refine wpList_append_any _ rfl _ _ 27 rfl W2.heap.size 38 t0 (.slice none 0 0) 1 24 Tryz.underlying27 htinf hr0 hr1 hr2 rfl (by decide) v M.length _ rfl HOC.out.own _ _ 1 1 _ rfl HRD.out (by intro u hu; simp only [tbV, List.mem_cons, List.not_mem_nil, or_false] at hu; subst hu; rfl) hkm hkb HBASE.out ?_)
      intro v' w3 hown3 hg3 hat3
      have HO3 : Hid (OwnX tbV 1 38 NR w3 W2.heap.size v' (M ++ [(rowL l f cols x, .slice Ar ln ln)])) := HOC.out.app NR_ok (S := fun b => W3.heap.size ≤ b ∧ b < w4.heap.size) HRC.out (fun b hb => ⟨by omega, by have := HSZ.out; omega, fun e => by have := (HBK3.out b e).2; omega⟩) hown3 hg3 (by rw [World.size_alloc]; exact hat3)
      have HB3 : Hid (Below W2.heap.size W2 w3) := HBC.out.grown hg3 HBC.out.size (fun g hg => (HOC.out.blocks g hg).1)
      have HM3 : Hid ((M ++ [(rowL l f cols x, Value.slice Ar ln ln)]).map Prod.fst = (ids.take (j + 1)).map (rowL l f cols)) := by
        show _ = _
        rw [List.map_append, hM.out, HTK.out, List.map_append]; rfl
      clear hown3 hg3 hat3
      go_wp2_with fail
      go_roundg (ni - (j + 1))
      case measure => omega
      case rel => exact ⟨j + 1, v', _, by omega, rfl, by go_num, HM3, HO3, HB3⟩
  · obtain rfl : ni = j := by omega
    obtain ⟨Ar, cr, hu, hcr, hrd⟩ := RdX.of_own hown.out.own
    have hown0 := hown.out.own
    rw [hu] at hown0
    have hnone := own_none hown0
    have HTT2 : Hid (M.map Prod.fst = tt) := by
      show _ = _
      rw [hM.out, HTT.out, List.take_of_length_le (by have := HNI.out.1; omega)]
    have HRT : Hid (RTab W3 (fun b => w.heap.size ≤ b ∧ b < W3.heap.size) (.slice Ar M.length M.length) tt) := ⟨Ar, M.length, M.length, M, HTT2.out, rfl, rfl, Nat.le_refl _, hrd.weak fun b hb => ⟨by omega, hb.2.2⟩, fun y hy => (hown.out.nest y hy).weak fun b hb => ⟨by omega, hb.2.1⟩⟩
    have HCL := Lib.hid (clipT_any Ar M.length cr W3 hcr hnone)
    have HU := Lib.hid hu
    have HBF : Hid (Below w.heap.size w W3) := HB2.out.trans (hbel.out.mono HZ2)
    obtain ⟨ln, hln⟩ : ∃ ln, ln = M.length := ⟨_, rfl⟩
    rw [← hln] at HRT HCL HU
    clear hcr hrd hnone hown0 hown hln hM hu
    rw [HU.out]
    go_wp2_with fail
    refine HCL.out.mono ?_
    rintro e w4 ⟨rfl, rfl⟩
    go_wp2_with fail
    go_ret2
    exact ⟨.inr ⟨HE0.out, Ar, ln, rfl, HRT.out⟩, HBF.out⟩
end Go.Proofs.YtemngidkfgcigaaGreatDoor
