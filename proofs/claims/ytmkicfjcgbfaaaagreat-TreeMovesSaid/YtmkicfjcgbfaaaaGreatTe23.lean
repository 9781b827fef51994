/-
  DERIVED. The walk of prop.CopyProps, its row as one of the call's own. Conditions: sizes.
  The walk of prop.without. Conditions: sizes.
  An append of one property to a row of the call's own that has room. Conditions: sizes.
  By an AI agent.
-/
import Derived.Test.YtmkicfjcgbfaaaaGreatTe19
namespace Go.Proofs.YtmkicfjcgbfaaaaGreat
open Go.RowKit

/-- what copying properties leaves -/
def CopyPO (l : List Pr) (w : World) (e : Ending) (w' : World) : Prop := (∃ (A : Option Addr) (L : List (Pr × Value)), e = .returned (.slice A L.length L.length) ∧ L.map Prod.fst = l ∧ RowP w' w.heap.size A L.length L ∧ ∀ x ∈ L, NP w' (fun b => w.heap.size ≤ b ∧ b < w'.heap.size ∧ A.map Addr.block ≠ some b) x) ∧ Below w.heap.size w w'
set_option maxRecDepth 100000 in
set_option maxHeartbeats 8000000 in
theorem copyPropsO_walk (M : List (Pr × Value)) (A : Option Addr) (n c : Nat) (w : World) (B : Nat) (hB : B ≤ w.heap.size) (h1 : Reads w B 6 A n (M.flatMap prV)) (hn : n = M.length) (hbig : n * 80 ≤ 140737488351232)
    (hs1 : ∀ x ∈ M, ∃ A n c, x.2 = .slice A n c)
    (hcl : ∀ x ∈ M, ∀ W, Below w.heap.size w W → Calls Tryz.prog 92 #[AV (x.1.val, x.2)] W (CopyR x.1.val W)) :
    Calls Tryz.prog 163 #[.slice A n c] w (CopyPO (M.map Prod.fst) w) := by
  obtain ⟨i0, hi, hq0, hq1, hq2⟩ := info_parts prop_info
  have H1 := Lib.hid h1
  have HN := Lib.hid hn
  have HC := Lib.hid hcl
  have S1 := Lib.hid hs1
  clear h1 hn hcl hs1
  have HS : Hid (OwnX prV 6 116 NP w w.heap.size (.slice none 0 0) []) := OwnX.start _ _
  go_enter Tryz.func163, Tryz.ntmps163
  go_wp2_with fail
  go_loopg [3, 8] n (fun gg s3 s8 wr => ∃ (k : Nat) (v : Value) (L : List (Pr × Value)), k + gg = n ∧ v = s3 ∧ s8 = .int .i64 (k : Int) ∧ Hid (L.map Prod.fst = (M.map Prod.fst).take k) ∧ Hid (OwnX prV 6 116 NP wr w.heap.size v L) ∧ Hid (Below w.heap.size w wr))
  case atStart => exact ⟨0, _, [], by omega, rfl, rfl, rfl, HS, Below.refl _ _⟩
  case round =>
    obtain ⟨k, v, L, hkg, rfl, rfl, hL, hown, hbel⟩ := hrel
    obtain ⟨W1, rfl⟩ : ∃ W1, W1 = wr := ⟨_, rfl⟩
    have hzr : w.heap.size ≤ W1.heap.size := hbel.out.size
    have HLL : Hid (L.length = k) := by
      show _ = _
      have := congrArg List.length hL.out
      rw [List.length_map, List.length_take, List.length_map, ← HN.out] at this
      omega
    by_cases hk : k < n
    · obtain ⟨y, hy⟩ : ∃ y, M[k]? = some y := ⟨_, List.getElem?_eq_getElem (by have := HN.out; omega)⟩
      obtain ⟨b, off, rfl, hbb, hc⟩ := H1.out.plain_at (by omega) prV_len HN.out hy
      have HLK : Hid ((M.map Prod.fst).take (k + 1) = (M.map Prod.fst).take k ++ [y.1]) := by
        show _ = _
        obtain ⟨hkk, e⟩ := List.getElem?_eq_some_iff.1 hy
        rw [List.take_succ_eq_append_getElem (by rw [List.length_map]; exact hkk), List.getElem_map, e]
      have HX := HC.out y (List.mem_of_getElem? hy)
      obtain ⟨⟨nm, ⟨kx, ix, tx, sx, lx⟩⟩, vx⟩ := y
      obtain ⟨Ax, nx, cx, rfl⟩ := S1.out _ (List.mem_of_getElem? hy)
      have g0 : W1.cell? ⟨b, off + k * 6, none⟩ = some (.string nm) := (hbel.out.cell (p := ⟨b, off + k * 6, none⟩) (by show b < _; omega)).trans (hc 0 _ rfl)
      have g1 : W1.cell? ⟨b, off + k * 6 + 1, none⟩ = some (.int .i64 kx) := (hbel.out.cell (p := ⟨b, off + k * 6 + 1, none⟩) (by show b < _; omega)).trans (hc 1 _ rfl)
      have g2 : W1.cell? ⟨b, off + k * 6 + 2, none⟩ = some (.int .i64 ix) := (hbel.out.cell (p := ⟨b, off + k * 6 + 2, none⟩) (by show b < _; omega)).trans (hc 2 _ rfl)
      have g3 : W1.cell? ⟨b, off + k * 6 + 3, none⟩ = some (.int .i64 tx) := (hbel.out.cell (p := ⟨b, off + k * 6 + 3, none⟩) (by show b < _; omega)).trans (hc 3 _ rfl)
      have g4 : W1.cell? ⟨b, off + k * 6 + 4, none⟩ = some (.string sx) := (hbel.out.cell (p := ⟨b, off + k * 6 + 4, none⟩) (by show b < _; omega)).trans (hc 4 _ rfl)
      have g5 : W1.cell? ⟨b, off + k * 6 + 5, none⟩ = some (.slice Ax nx cx) := (hbel.out.cell (p := ⟨b, off + k * 6 + 5, none⟩) (by show b < _; omega)).trans (hc 5 _ rfl)
      have j0 : (0 : Int) ≤ (k : Int) := by omega
      have j1 : (k : Int) < (n : Int) := by omega
      obtain ⟨wa, hwa⟩ : ∃ wa, wa = W1.alloc (.cells #[.string nm, .int .i64 kx, .int .i64 ix, .int .i64 tx, .string sx, .slice Ax nx cx] 116) := ⟨_, rfl⟩
      have hal : Below W1.heap.size W1 wa := by rw [hwa]; exact (Below.refl _ _).alloc (Nat.le_refl _) _
      have hza : W1.heap.size < wa.heap.size := by rw [hwa]; simp
      have q0 : Blk wa W1.heap.size 116 #[.string nm, .int .i64 kx, .int .i64 ix, .int .i64 tx, .string sx, .slice Ax nx cx] := by rw [hwa]; exact Blk.new _ _ _
      have d0 : wa.cell? ⟨W1.heap.size, 0, none⟩ = some (.string nm) := q0.cell 0
      have d1 : wa.cell? ⟨W1.heap.size, 1, none⟩ = some (.int .i64 kx) := q0.cell 1
      have d2 : wa.cell? ⟨W1.heap.size, 2, none⟩ = some (.int .i64 ix) := q0.cell 2
      have d3 : wa.cell? ⟨W1.heap.size, 3, none⟩ = some (.int .i64 tx) := q0.cell 3
      have d4 : wa.cell? ⟨W1.heap.size, 4, none⟩ = some (.string sx) := q0.cell 4
      have d5 : wa.cell? ⟨W1.heap.size, 5, none⟩ = some (.slice Ax nx cx) := q0.cell 5
      have HBA : Hid (Below w.heap.size w wa) := hbel.out.trans (hal.mono hbel.out.size)
      have HX' : Hid (∀ W, Below wa.heap.size wa W → Calls _ _ #[AV (Vl.mk kx ix tx sx lx, Value.slice Ax nx cx)] W _) := fun W hW => HX W (HBA.out.trans (hW.mono HBA.out.size))
      dsimp only [AV, Vl.kind, Vl.int_, Vl.to_, Vl.text] at HX'
      have HOA := Lib.hid (hown.out.below NP_ok hal)
      have HWA := Lib.hid hwa
      have hkb : (L.length + 1) * 80 ≤ 140737488355328 := by have := HLL.out; omega
      have hkm : L.length + 1 ≤ maxLen := by have := HLL.out; unfold maxLen; omega
      have hvw : ∀ g, v.ownBlock = some g → g < W1.heap.size := fun g hg => (hown.out.blocks g hg).2
      clear hy hc HX hwa hal q0
      go_upto_region 5 with fail
      rw [← HWA.out]
      clear g0 g1 g2 g3 g4 g5
      go_region_held3 (fun w' => w'.cell? ⟨W1.heap.size, 0, none⟩ = some (.string nm) ∧ w'.cell? ⟨W1.heap.size, 1, none⟩ = some (.int .i64 kx) ∧ w'.cell? ⟨W1.heap.size, 2, none⟩ = some (.int .i64 ix) ∧ w'.cell? ⟨W1.heap.size, 3, none⟩ = some (.int .i64 tx) ∧ w'.cell? ⟨W1.heap.size, 4, none⟩ = some (.string sx) ∧ w'.cell? ⟨W1.heap.size, 5, none⟩ = some (.slice Ax nx cx))
          (first | exact ⟨d0, d1, d2, d3, d4, d5⟩ | exact ⟨e0, e1, e2, e3, e4, e5⟩ | exact ⟨f0, f1, f2, f3, f4, f5⟩ | go_keep)
          (first | (go_at_call 92; refine (HX'.out wa.drew (Below.refl _ _).drew).mono ?_; rintro e w2 ⟨⟨A', n', c', rfl, hrv⟩, hb⟩; have hb : Below wa.heap.size wa w2 := (Below.refl wa.heap.size wa).drew.trans hb; have e0 := (hb.cell (p := ⟨W1.heap.size, 0, none⟩) hza).trans d0; have e1 := (hb.cell (p := ⟨W1.heap.size, 1, none⟩) hza).trans d1; have e2 := (hb.cell (p := ⟨W1.heap.size, 2, none⟩) hza).trans d2; have e3 := (hb.cell (p := ⟨W1.heap.size, 3, none⟩) hza).trans d3; have e4 := (hb.cell (p := ⟨W1.heap.size, 4, none⟩) hza).trans d4; have e5 := (hb.cell (p := ⟨W1.heap.size, 5, none⟩) hza).trans d5; have HBB := Lib.hid hb; have HRV := Lib.hid hrv; have HO2 := Lib.hid (HOA.out.below NP_ok hb); clear hb hrv; dsimp only [AV, Vl.kind, Vl.int_, Vl.to_, Vl.text]) | (refine step_append_any _ (by rfl) _ _ _ (by rfl) w.heap.size 116 i0 pZ 6 80 Tryz.underlying36 hi hq0 hq1 hq2 rfl (by decide) v L.length _ (by rfl) (HO2.out.own.alloc _) (w2.heap.size + 1) (some ⟨w2.heap.size, 0, none⟩) 1 1 (prV (⟨nm, Vl.mk kx ix tx sx lx⟩, Value.slice A' n' c')) (by rfl) (Reads.blk (Blk.new _ _ _) rfl) (prV_one _ ⟨_, _, _, rfl⟩) hkm hkb (by have := HBA.out.size; have := HBB.out.size; simp; omega) ?_; intro v' w3 hown3 hg3 hat3; have hkp : ∀ i, w3.cell? ⟨W1.heap.size, i, none⟩ = w2.cell? ⟨W1.heap.size, i, none⟩ := fun i => (World.cell?_of_block (hg3.block W1.heap.size (by have := HBB.out.size; simp; omega) (fun e => by have := hvw _ e.symm; omega))).trans (World.cell?_alloc_lt _ _ _ (by show W1.heap.size < w2.heap.size; have := HBB.out.size; omega)); have f0 := (hkp 0).trans e0; have f1 := (hkp 1).trans e1; have f2 := (hkp 2).trans e2; have f3 := (hkp 3).trans e3; have f4 := (hkp 4).trans e4; have f5 := (hkp 5).trans e5; clear hkp))
      have HO3 : Hid (OwnX prV 6 116 NP w3 w.heap.size v' (L ++ [(⟨nm, Vl.mk kx ix tx sx lx⟩, Value.slice A' n' c')])) := (HO2.out.below NP_ok ((Below.refl _ _).alloc (Nat.le_refl _) (.cells #[.string nm, .int .i64 kx, .int .i64 ix, .int .i64 tx, .string sx, .slice A' n' c'] 116))).app NP_ok (S := fun b => wa.heap.size ≤ b ∧ b < w2.heap.size) (HRV.out.keep fun p hp => World.cell?_alloc_lt _ _ _ hp.2) (fun b hb => ⟨by omega, by simp; omega, fun e => by have := hvw b e; omega⟩) hown3 hg3 hat3
      have HB3 : Hid (Below w.heap.size w w3) := ((HBA.out.trans (HBB.out.mono HBA.out.size)).alloc (by have := HBA.out.size; have := HBB.out.size; omega) _).grown hg3 (by have := HBA.out.size; have := HBB.out.size; simp; omega) (fun g hg => (hown.out.blocks g hg).1)
      have HL3 : Hid ((L ++ [((⟨nm, Vl.mk kx ix tx sx lx⟩ : Pr), Value.slice A' n' c')]).map Prod.fst = (M.map Prod.fst).take (k + 1)) := by
        show _ = _
        rw [List.map_append, hL.out, HLK.out]; rfl
      clear hown3 hg3 hat3 e0 e1 e2 e3 e4 e5
      go_wp2_with fail
      go_roundg (n - (k + 1))
      case measure => omega
      case rel => exact ⟨k + 1, v', _, by omega, rfl, by go_num, HL3, HO3, HB3⟩
    · obtain rfl : n = k := by omega
      obtain ⟨Ar, cr, rfl, hcr, hrd⟩ := RdX.of_own hown.out.own
      have HL' : Hid (L.map Prod.fst = M.map Prod.fst) := hL.out.trans (by rw [List.take_of_length_le (by rw [List.length_map, ← HN.out]; exact Nat.le_refl _)])
      obtain rfl : L.length = n := HLL.out
      have hnone : Ar = none → L.length = 0 ∧ cr = 0 := fun e => by
        rcases hown.out.own.2 with ⟨h, h0⟩ | ⟨g, cap, cur, h, _⟩
        · injection h with _ _ h2
          omega
        · injection h with h; rw [e] at h; cases h
      have HCL := Lib.hid fun W => clipP_any Ar L.length cr W hcr hnone
      have HRX : Hid (RowP W1 w.heap.size Ar L.length L) := by
        refine ⟨Nat.le_refl _, ?_⟩
        rcases hown.out.own.2 with ⟨h, h0⟩ | ⟨g, cap, cur, h, h2, h3, h4, h5, h6, h7⟩
        · injection h with ha h1 h2
          exact .inl ⟨ha, by omega⟩
        · injection h with h1 _ hc
          subst h1 hc
          refine .inr ⟨g, rfl, h2, fun k x hx j u hu => ?_, ⟨cur, h3, by omega⟩⟩
          have hk := (List.getElem?_eq_some_iff.1 hx).1
          have hj := (List.getElem?_eq_some_iff.1 hu).1
          rw [prV_len] at hj
          have h8 := fm_get prV 6 prV_len L k j x hx hj
          rw [Blk.cell (t := 116) (cs := cur) h3, ← hu, ← h8, ← h7, List.getElem?_take, if_pos (by omega)]; simp
      have HNX : Hid (∀ x ∈ L, NP W1 (fun b => w.heap.size ≤ b ∧ b < W1.heap.size ∧ Ar.map Addr.block ≠ some b) x) := fun x hx => by
        have := hown.out.nest x hx
        cases Ar <;> exact this
      clear hcr hrd hnone
      go_wp2_with fail
      refine (HCL.out _).mono ?_
      rintro e w4 ⟨rfl, rfl⟩
      go_wp2_with fail
      go_ret
      exact ⟨⟨Ar, L, rfl, HL'.out, HRX.out, HNX.out⟩, hbel.out⟩
/-- prop.CopyProps -/
theorem copyPropsO_any (A : Option Addr) (n c : Nat) (l : List Pr) (w : World) (B : Nat) (hB : B ≤ w.heap.size) (h : RPr w B (.slice A n c) l) :
    Calls Tryz.prog 163 #[.slice A n c] w (CopyPO l w) := by
  obtain ⟨A', n', c', M, rfl, e, h3, h4, h5, h6⟩ := h
  injection e with e1 e2 e3
  subst e1 e2 e3
  refine copyPropsO_walk M A n c w B hB h5 h3 h4.2 (fun z hz => (h6 z hz).slice) fun z hz W hW => ?_
  obtain ⟨d, hd⟩ := h6 z hz
  exact copyValue_any d (z.1.val, z.2) W B (Nat.le_trans hB hW.size) (hd.below (hW.mono hB))
end Go.Proofs.YtmkicfjcgbfaaaaGreat
namespace Go.Proofs.YtmkicfjcgbfaaaaGreat
open Go.RowKit

theorem RowP.reads {w : World} {base c : Nat} {A : Option Addr} {M : List (Pr × Value)} (h : RowP w base A c M) : Reads w w.heap.size 6 A M.length (M.flatMap prV) := by
  refine ⟨prs_cells M, fun hp => ?_⟩
  rcases h.2 with h0 | ⟨g, rfl, _, h3, h4⟩
  · have := h.1; omega
  · refine ⟨_, rfl, h4.lt, fun j u hu => ?_⟩
    have hj := (List.getElem?_eq_some_iff.1 hu).1
    rw [prs_cells] at hj
    obtain ⟨x, hx⟩ : ∃ x, M[j / 6]? = some x := ⟨_, List.getElem?_eq_getElem (by omega)⟩
    have h5 := fm_get prV 6 prV_len M (j / 6) (j % 6) x hx (by omega)
    rw [show j / 6 * 6 + j % 6 = j by omega, hu] at h5
    have := h3 _ x hx _ u h5.symm
    rw [show j / 6 * 6 + j % 6 = j by omega] at this
    rw [Addr.add_lit, Nat.zero_add]; exact this
theorem RowP.rpr {w : World} {base c : Nat} {A : Option Addr} {M : List (Pr × Value)} (h : RowP w base A c M) (hb : M.length * 80 ≤ 140737488351232) (hn : ∀ x ∈ M, NP w (fun b => base ≤ b ∧ b < w.heap.size ∧ A.map Addr.block ≠ some b) x) : RPr w w.heap.size (.slice A M.length c) (M.map Prod.fst) :=
  ⟨A, M.length, c, M, rfl, rfl, rfl, ⟨h.1, hb⟩, h.reads, fun x hx => (hn x hx).reads fun _b hb => hb.2.1⟩
/-- properties in a row of the call's own, what they lead to in other blocks of the call's own -/
structure OwnP (w : World) (base : Nat) (A : Option Addr) (c : Nat) (M : List (Pr × Value)) : Prop where
  row : RowP w base A c M
  nest : ∀ x ∈ M, NP w (fun b => base ≤ b ∧ b < w.heap.size ∧ A.map Addr.block ≠ some b) x
theorem OwnP.grown {w w' : World} {base c : Nat} {A : Option Addr} {M M' : List (Pr × Value)} (h : OwnP w base A c M) (hg : w.grownBy w' (A.map Addr.block)) (hr : RowP w' base A c M') (hm : ∀ x ∈ M', x ∈ M) : OwnP w' base A c M' :=
  ⟨hr, fun x hx => ((h.nest x (hm x hx)).keep fun p hp => World.cell?_of_block (hg.block p.block hp.2.1 fun e => hp.2.2 e.symm)).weak fun _b hb => ⟨hb.1, Nat.lt_of_lt_of_le hb.2.1 hg.size, hb.2.2⟩⟩
theorem keepP_map (M : List (Pr × Value)) (s : ByteArray) : (keepP M s).map Prod.fst = (M.map Prod.fst).filter fun p => !decide (p.name = s) := by
  unfold keepP; rw [List.filter_map]; rfl
/-- what without leaves -/
def WoR (l : List Pr) (s : ByteArray) (w : World) (e : Ending) (w' : World) : Prop := (∃ (A : Option Addr) (c : Nat) (M : List (Pr × Value)), e = .returned (.slice A M.length c) ∧ c = l.length ∧ M.map Prod.fst = (l.filter fun p => !decide (p.name = s)) ∧ OwnP w' w.heap.size A c M) ∧ Below w.heap.size w w'

set_option maxRecDepth 100000 in
set_option maxHeartbeats 1000000 in
/-- prop.without -/
theorem withoutP_any (A : Option Addr) (n c : Nat) (l : List Pr) (s : ByteArray) (w : World) (B : Nat) (hB : B ≤ w.heap.size) (h : RPr w B (.slice A n c) l) :
    Calls Tryz.prog 178 #[.slice A n c, .string s] w (WoR l s w) := by
  have hbig := h.len.2.2
  have hnl := Lib.hid h.len.1
  have HCP := Lib.hid (copyPropsO_any A n c l (w.alloc (.cells #[.string s] 9)) B (by simp; omega) (h.below ((Below.refl _ _).alloc hB _)))
  have HAL : Hid (Below w.heap.size w (w.alloc (.cells #[.string s] 9))) := (Below.refl _ _).alloc (Nat.le_refl _) _
  have HC0 : Hid ((w.alloc (.cells #[.string s] 9)).cell? ⟨w.heap.size, 0, none⟩ = some (.string s)) := (Blk.new w 9 #[.string s]).cell 0
  have hz : (w.alloc (.cells #[.string s] 9)).heap.size = w.heap.size + 1 := by simp
  clear h
  go_enter Tryz.func178, Tryz.ntmps178
  go_wp2_with fail
  refine HCP.out.mono ?_
  rintro e w1 ⟨⟨A1, L, rfl, hLl, hrow, hnest⟩, hb1⟩
  have hlen : L.length = l.length := by rw [← hLl, List.length_map]
  have HO1 : Hid (OwnP w1 _ A1 L.length L) := ⟨hrow, hnest⟩
  have HB1 : Hid (Below w.heap.size w w1) := HAL.out.trans (hb1.mono HAL.out.size)
  have hz1 := hb1.size
  have HDW := Lib.hid (delW_any L A1 L.length L.length w.heap.size (w.alloc (.cells #[.string s] 9)).heap.size s w1 hrow rfl (by rw [hlen, ← hnl.out]; exact hbig) hb1.size (by rw [hz]; omega)
    (by rw [hb1.cell (p := ⟨w.heap.size, 0, none⟩) (by rw [hz]; show w.heap.size < _; omega)]; exact HC0.out) (hrow.rpr (by rw [hlen, ← hnl.out]; exact hbig) hnest) (fun x hx => (hnest x hx).slice))
  have HLL := Lib.hid hLl
  have HLEN := Lib.hid hlen
  clear hrow hnest hb1 hLl hlen
  go_wp2_with fail
  refine HDW.out.mono ?_
  rintro e w2 ⟨rfl, hr2, hg2⟩
  have HO2 : Hid (OwnP w2 w.heap.size A1 L.length (keepP L s)) := by
    have h1 := HO1.out.grown hg2 hr2 fun x hx => (List.mem_filter.1 hx).1
    refine ⟨⟨h1.row.1, h1.row.2.imp id fun ⟨g, a, b, c, d⟩ => ⟨g, a, by omega, c, d⟩⟩, fun x hx => (h1.nest x hx).weak fun b hb => ⟨by omega, hb.2⟩⟩
  have HB2 : Hid (Below w.heap.size w w2) := by
    refine HB1.out.trans ⟨hg2.os, hg2.tape, hg2.output, hg2.size, fun k hk => hg2.block k (by have := HB1.out.size; omega) fun e => ?_⟩
    rcases HO1.out.row.2 with ⟨h0, _⟩ | ⟨g, h0, hg, _⟩
    · rw [h0] at e; cases e
    · rw [h0] at e; injection e with e; have e : k = g := e; rw [hz] at hg; omega
  clear hr2 hg2
  go_wp2_with fail
  go_ret
  exact ⟨⟨A1, L.length, keepP L s, rfl, HLEN.out, by rw [keepP_map, HLL.out], HO2.out⟩, HB2.out⟩
end Go.Proofs.YtmkicfjcgbfaaaaGreat
namespace Go.Proofs.YtmkicfjcgbfaaaaGreat
open Go.RowKit

/-- an append of one property where there is room -/
theorem run_appP_room (w : World) (g c base : Nat) (M : List (Pr × Value)) (hge : base ≤ g) (hR : CRp w g M) (hF : FRp w g c) (hl : M.length + 1 ≤ c) (ad : Addr) (x : Pr × Value) (hx1 : ∀ u ∈ prV x, u.oneCell' = true) (hx : ∀ j u, (prV x)[j]? = some u → w.cell? (ad.add j) = some u) :
    ∃ w', (∀ ty, (Builtin.append_ #[36, 36] ty #[.slice (some ⟨g, 0, none⟩) M.length c, .slice (some ad) 1 1]).run Tryz.prog w = .ok (.slice (some ⟨g, 0, none⟩) (M.length + 1) c) w') ∧ RowP w' base (some ⟨g, 0, none⟩) c (M ++ [x]) ∧ w.grownBy w' (some g) := by
  obtain ⟨i0, hi0, hz0, hz1, hz2⟩ := info_parts prop_info
  obtain ⟨cur, hb, hs⟩ := hF
  obtain ⟨R, hR1⟩ : ∃ R, R = cur.toList.take (M.length * 6) ++ prV x ++ cur.toList.drop (M.length * 6 + 6) := ⟨_, rfl⟩
  have hcl : cur.toList.length = cur.size := Array.length_toList
  have htk : cur.toList.take (M.length * 6) = M.flatMap prV := hR.take hb (by omega)
  have hRl : R.length = cur.size := by
    rw [hR1, List.length_append, List.length_append, List.length_take, List.length_drop, prV_len, hcl]; omega
  have hb' : Blk (w.setRow g R.toArray) g 116 R.toArray := setRow_heap w g _ _ _ _ hb
  refine ⟨w.setRow g R.toArray, fun ty => ?_, ⟨by simpa using hl, .inr ⟨g, rfl, hge, fun k y hy j u hu => ?_, ⟨_, hb', by rw [List.size_toArray, hRl]; exact hs⟩⟩⟩, ⟨rfl, rfl, rfl, by rw [setRow_size]; exact Nat.le_refl _, fun k hk hne => setRow_other _ _ _ _ (fun e => hne (by rw [e]))⟩⟩
  · have := run_append_room (P := Tryz.prog) (ty := ty) w 36 116 i0 Tryz.underlying36 hi0 g M.length c cur hb ad 1 1 (prV x) (by rw [prV_len, hz1]) hx hx1 hl (by rw [prV_len, hz1]; omega)
    rw [hz1, prV_len, ← hR1] at this
    exact this
  · have hj := (List.getElem?_eq_some_iff.1 hu).1
    rw [prV_len] at hj
    have hk := (List.getElem?_eq_some_iff.1 hy).1
    rw [List.length_append, List.length_singleton] at hk
    have h5 := fm_get prV 6 prV_len (M ++ [x]) k j y hy hj
    rw [hb'.cell, ← hu, ← h5, hR1, htk, List.flatMap_append, List.flatMap_singleton, List.getElem?_toArray, List.getElem?_append_left (by rw [List.length_append, prs_cells, prV_len]; omega)]
/-- properties in a new row -/
theorem rowP_new (w : World) (base G : Nat) (M : List (Pr × Value)) (z : Array Value) (hb : base ≤ w.heap.size) (hG : M.length ≤ G) (hz : z.size = (G - M.length) * 6) :
    RowP (w.drew.alloc (.cells ((M.flatMap prV).toArray ++ z) 116)) base (some ⟨w.heap.size, 0, none⟩) G M := by
  have hk : Blk (w.drew.alloc (.cells ((M.flatMap prV).toArray ++ z) 116)) w.heap.size 116 ((M.flatMap prV).toArray ++ z) := Blk.new w.drew _ _
  refine ⟨hG, .inr ⟨_, rfl, hb, fun k y hy j u hu => ?_, ⟨_, hk, by rw [Array.size_append, List.size_toArray, prs_cells, hz]; omega⟩⟩⟩
  have hj := (List.getElem?_eq_some_iff.1 hu).1
  rw [prV_len] at hj
  have hkl := (List.getElem?_eq_some_iff.1 hy).1
  have h5 := fm_get prV 6 prV_len M k j y hy hj
  rw [hk.cell, ← hu, ← h5, Array.getElem?_append_left (by rw [List.size_toArray, prs_cells]; omega), List.getElem?_toArray]
theorem run_appP_grow (w : World) (A : Option Addr) (c base : Nat) (M : List (Pr × Value)) (hb : base ≤ w.heap.size) (h : RowP w base A c M) (hl : c = M.length) (hm : M.length ≤ 1000) (ad : Addr) (x : Pr × Value) (hx : ∀ j u, (prV x)[j]? = some u → w.cell? (ad.add j) = some u) :
    ∃ (G : Nat) (w' : World), (∀ ty, (Builtin.append_ #[36, 36] ty #[.slice A M.length c, .slice (some ad) 1 1]).run Tryz.prog w = .ok (.slice (some ⟨w.heap.size, 0, none⟩) (M.length + 1) G) w') ∧ RowP w' base (some ⟨w.heap.size, 0, none⟩) G (M ++ [x]) ∧ w.grownBy w' none := by
  obtain ⟨i0, hi0, hz0, hz1, hz2⟩ := info_parts prop_info
  have hgr : ∀ cs, w.grownBy (w.drew.alloc (.cells cs 116)) none := fun cs => ⟨rfl, rfl, rfl, by simp, fun k hk _ => by
    show (w.heap.push _)[k]? = _
    rw [Array.getElem?_push, if_neg (by omega)]⟩
  have hzs : ∀ n, (Builtin.zeroCells pZ.cells n).size = n * 6 := fun n => by simp [Builtin.zeroCells, pZ, Value.cells]
  have hfl : (M ++ [x]).flatMap prV = M.flatMap prV ++ prV x := by rw [List.flatMap_append, List.flatMap_singleton]
  rcases h.2 with ⟨rfl, h0⟩ | ⟨g, rfl, hge, hR, hF⟩
  · subst h0
    obtain rfl : M = [] := List.eq_nil_of_length_eq_zero hl.symm
    refine ⟨grownCap w 1 0 116, _, fun ty => run_append_nil (P := Tryz.prog) w 36 ty 116 i0 pZ Tryz.underlying36 hi0 hz0 ad 1 1 (prV x) (by rw [prV_len, hz1]) hx (by omega) (by omega) (by rw [hz2]; omega), ?_, hgr _⟩
    have := rowP_new w base (grownCap w 1 0 116) ([] ++ [x]) (Builtin.zeroCells pZ.cells (grownCap w 1 0 116 - 1)) hb (grownCap_ge w _ _ _) (hzs _)
    rw [hfl] at this
    exact this
  · refine ⟨grownCap w (M.length + 1) c 116, _, fun ty => run_append_grow (P := Tryz.prog) w 36 ty 116 i0 pZ Tryz.underlying36 hi0 hz0 ⟨g, 0, none⟩ M.length c (M.flatMap prV) (by rw [prs_cells, hz1]) (fun j v hj => ?_) ad 1 1 (prV x) (by rw [prV_len, hz1]) hx (by omega) (by omega) (by rw [hz2]; exact growslice_fits (by omega) (by omega)), ?_, hgr _⟩
    · obtain ⟨a, e, _, hc⟩ := (h.reads.2 (by have := (List.getElem?_eq_some_iff.1 hj).1; rw [prs_cells] at this; omega))
      have e : a = ⟨g, 0, none⟩ := (Option.some.inj e).symm
      rw [← e]
      exact hc j v hj
    · have := rowP_new w base (grownCap w (M.length + 1) c 116) (M ++ [x]) (Builtin.zeroCells pZ.cells (grownCap w (M.length + 1) c 116 - (M.length + 1))) hb (by rw [List.length_append]; exact grownCap_ge w _ _ _) (by rw [hzs, List.length_append]; rfl)
      rw [hfl] at this
      simpa using this
end Go.Proofs.YtmkicfjcgbfaaaaGreat
