/-
  DERIVED. The walk of prop.CopyProps. Conditions: sizes.
  The walk of tree.copyBlock. Conditions: sizes.
  The walk of tree.copyBase: a base of the call's own. Conditions: sizes.
  By an AI agent.
-/
import Derived.Test.YtackphgnkdpgnaaGreatTj08
import Derived.Deep.RegionHeld3
import Derived.Test.YtackphgnkdpgnaaGreatTj10
import Derived.Test.YtackphgnkdpgnaaGreatTj07
import Derived.Test.YtackphgnkdpgnaaGreatTj11
import Derived.Laws.OwnMore
namespace Go.Proofs.YtackphgnkdpgnaaGreat
open Go.RowKit

set_option maxHeartbeats 400000 in
theorem clipP_any (A : Option Addr) (n c : Nat) (w : World) (hn : n ≤ c) (_h0 : A = none → n = 0 ∧ c = 0) :
    Calls Tryz.prog 91 #[.slice A n c] w fun e w' => e = .returned (.slice A n n) ∧ w' = w := by
  have i0 : (0 : Int) ≤ (n : Int) := by omega
  have i1 : (n : Int) ≤ (c : Int) := by omega
  go_enter Tryz.func91, Tryz.ntmps91
  go_wp2_with fail
  go_ret
  exact ⟨rfl, rfl⟩
def pZ : Value := .agg #[.string ⟨#[]⟩, .int .i64 0, .int .i64 0, .int .i64 0, .string ⟨#[]⟩, .slice none 0 0]
theorem prop_info : (Tryz.prog.info? 70).map (fun i => (i.zero, i.size, i.bytes)) = some (some pZ, 6, 80) := by kernel_rfl
theorem prV_one (x : Pr × Value) (hx : ∃ A n c, x.2 = .slice A n c) : ∀ u ∈ prV x, u.oneCell' = true := by
  intro u hu
  rcases List.mem_cons.1 hu with rfl | hu
  · rfl
  · exact vlV_one (x.1.val, x.2) hx u hu
/-- what copying properties leaves -/
def CopyPR (l : List Pr) (w : World) (e : Ending) (w' : World) : Prop := (∃ A n c, e = .returned (.slice A n c) ∧ RPrX w' (fun b => w.heap.size ≤ b ∧ b < w'.heap.size) (.slice A n c) l) ∧ Below w.heap.size w w'

set_option maxRecDepth 100000 in
set_option maxHeartbeats 8000000 in
theorem copyProps_walk (M : List (Pr × Value)) (A : Option Addr) (n c : Nat) (w : World) (B : Nat) (hB : B ≤ w.heap.size) (h1 : Reads w B 6 A n (M.flatMap prV)) (hn : n = M.length) (hbig : n * 80 ≤ 140737488351232)
    (hs1 : ∀ x ∈ M, ∃ A n c, x.2 = .slice A n c)
    (hcl : ∀ x ∈ M, ∀ W, Below w.heap.size w W → Calls Tryz.prog 50 #[AV (x.1.val, x.2)] W (CopyR x.1.val W)) :
    Calls Tryz.prog 72 #[.slice A n c] w (CopyPR (M.map Prod.fst) w) := by
  obtain ⟨i0, hi, hq0, hq1, hq2⟩ := info_parts prop_info
  have H1 := Lib.hid h1
  have HN := Lib.hid hn
  have HC := Lib.hid hcl
  have S1 := Lib.hid hs1
  clear h1 hn hcl hs1
  have HS : Hid (OwnX prV 6 70 NP w w.heap.size (.slice none 0 0) []) := OwnX.start _ _
  go_enter Tryz.func72, Tryz.ntmps72
  go_wp2_with fail
  go_loopg [3, 8] n (fun gg s3 s8 wr => ∃ (k : Nat) (v : Value) (L : List (Pr × Value)), k + gg = n ∧ v = s3 ∧ s8 = .int .i64 (k : Int) ∧ Hid (L.map Prod.fst = (M.map Prod.fst).take k) ∧ Hid (OwnX prV 6 70 NP wr w.heap.size v L) ∧ Hid (Below w.heap.size w wr))
  case atStart => exact ⟨0, _, [], by omega, rfl, rfl, rfl, HS, Below.refl _ _⟩
  case round =>
    obtain ⟨k, v, L, hkg, rfl, rfl, hL, hown, hbel⟩ := hrel
    obtain ⟨W1, rfl⟩ : ∃ W1, W1 = wr := ⟨_, rfl⟩
    have hzr : w.heap.size ≤ W1.heap.size := hbel.out.size
    have HLL : Hid (L.length = k) := by
      show _ = _
      have := congrArg List.length hL.out
      rw [List.length_map, List.length_take, List.length_map, ← HN.out] at this
      omega
    by_cases hk : k < n
    · obtain ⟨y, hy⟩ : ∃ y, M[k]? = some y := ⟨_, List.getElem?_eq_getElem (by have := HN.out; omega)⟩
      obtain ⟨b, off, rfl, hbb, hc⟩ := H1.out.plain_at (by omega) prV_len HN.out hy
      have HLK : Hid ((M.map Prod.fst).take (k + 1) = (M.map Prod.fst).take k ++ [y.1]) := by
        show _ = _
        obtain ⟨hkk, e⟩ := List.getElem?_eq_some_iff.1 hy
        rw [List.take_succ_eq_append_getElem (by rw [List.length_map]; exact hkk), List.getElem_map, e]
      have HX := HC.out y (List.mem_of_getElem? hy)
      obtain ⟨⟨nm, ⟨kx, ix, tx, sx, lx⟩⟩, vx⟩ := y
      obtain ⟨Ax, nx, cx, rfl⟩ := S1.out _ (List.mem_of_getElem? hy)
      have g0 : W1.cell? ⟨b, off + k * 6, none⟩ = some (.string nm) := (hbel.out.cell (p := ⟨b, off + k * 6, none⟩) (by show b < _; omega)).trans (hc 0 _ rfl)
      have g1 : W1.cell? ⟨b, off + k * 6 + 1, none⟩ = some (.int .i64 kx) := (hbel.out.cell (p := ⟨b, off + k * 6 + 1, none⟩) (by show b < _; omega)).trans (hc 1 _ rfl)
      have g2 : W1.cell? ⟨b, off + k * 6 + 2, none⟩ = some (.int .i64 ix) := (hbel.out.cell (p := ⟨b, off + k * 6 + 2, none⟩) (by show b < _; omega)).trans (hc 2 _ rfl)
      have g3 : W1.cell? ⟨b, off + k * 6 + 3, none⟩ = some (.int .i64 tx) := (hbel.out.cell (p := ⟨b, off + k * 6 + 3, none⟩) (by show b < _; omega)).trans (hc 3 _ rfl)
      have g4 : W1.cell? ⟨b, off + k * 6 + 4, none⟩ = some (.string sx) := (hbel.out.cell (p := ⟨b, off + k * 6 + 4, none⟩) (by show b < _; omega)).trans (hc 4 _ rfl)
      have g5 : W1.cell? ⟨b, off + k * 6 + 5, none⟩ = some (.slice Ax nx cx) := (hbel.out.cell (p := ⟨b, off + k * 6 + 5, none⟩) (by show b < _; omega)).trans (hc 5 _ rfl)
      have j0 : (0 : Int) ≤ (k : Int) := by omega
      have j1 : (k : Int) < (n : Int) := by omega
      obtain ⟨wa, hwa⟩ : ∃ wa, wa = W1.alloc (.cells #[.string nm, .int .i64 kx, .int .i64 ix, .int .i64 tx, .string sx, .slice Ax nx cx] 70) := ⟨_, rfl⟩
      have hal : Below W1.heap.size W1 wa := by rw [hwa]; exact (Below.refl _ _).alloc (Nat.le_refl _) _
      have hza : W1.heap.size < wa.heap.size := by rw [hwa]; simp
      have q0 : Blk wa W1.heap.size 70 #[.string nm, .int .i64 kx, .int .i64 ix, .int .i64 tx, .string sx, .slice Ax nx cx] := by rw [hwa]; exact Blk.new _ _ _
      have d0 : wa.cell? ⟨W1.heap.size, 0, none⟩ = some (.string nm) := q0.cell 0
      have d1 : wa.cell? ⟨W1.heap.size, 1, none⟩ = some (.int .i64 kx) := q0.cell 1
      have d2 : wa.cell? ⟨W1.heap.size, 2, none⟩ = some (.int .i64 ix) := q0.cell 2
      have d3 : wa.cell? ⟨W1.heap.size, 3, none⟩ = some (.int .i64 tx) := q0.cell 3
      have d4 : wa.cell? ⟨W1.heap.size, 4, none⟩ = some (.string sx) := q0.cell 4
      have d5 : wa.cell? ⟨W1.heap.size, 5, none⟩ = some (.slice Ax nx cx) := q0.cell 5
      have HBA : Hid (Below w.heap.size w wa) := hbel.out.trans (hal.mono hbel.out.size)
      have HX' : Hid (∀ W, Below wa.heap.size wa W → Calls _ _ #[AV (Vl.mk kx ix tx sx lx, Value.slice Ax nx cx)] W _) := fun W hW => HX W (HBA.out.trans (hW.mono HBA.out.size))
      dsimp only [AV, Vl.kind, Vl.int_, Vl.to_, Vl.text] at HX'
      have HOA := Lib.hid (hown.out.below NP_ok hal)
      have HWA := Lib.hid hwa
      have hkb : (L.length + 1) * 80 ≤ 140737488355328 := by have := HLL.out; omega
      have hkm : L.length + 1 ≤ maxLen := by have := HLL.out; unfold maxLen; omega
      have hvw : ∀ g, v.ownBlock = some g → g < W1.heap.size := fun g hg => (hown.out.blocks g hg).2
      clear hy hc HX hwa hal q0
      go_upto_region 5 with fail
      rw [← HWA.out]
      clear g0 g1 g2 g3 g4 g5
      go_region_held3 (fun w' => w'.cell? ⟨W1.heap.size, 0, none⟩ = some (.string nm) ∧ w'.cell? ⟨W1.heap.size, 1, none⟩ = some (.int .i64 kx) ∧ w'.cell? ⟨W1.heap.size, 2, none⟩ = some (.int .i64 ix) ∧ w'.cell? ⟨W1.heap.size, 3, none⟩ = some (.int .i64 tx) ∧ w'.cell? ⟨W1.heap.size, 4, none⟩ = some (.string sx) ∧ w'.cell? ⟨W1.heap.size, 5, none⟩ = some (.slice Ax nx cx))
          (first | exact ⟨d0, d1, d2, d3, d4, d5⟩ | exact ⟨e0, e1, e2, e3, e4, e5⟩ | exact ⟨f0, f1, f2, f3, f4, f5⟩ | go_keep)
          (first | (go_at_call 50; refine (HX'.out wa.drew (Below.refl _ _).drew).mono ?_; rintro e w2 ⟨⟨A', n', c', rfl, hrv⟩, hb⟩; have hb : Below wa.heap.size wa w2 := (Below.refl wa.heap.size wa).drew.trans hb; have e0 := (hb.cell (p := ⟨W1.heap.size, 0, none⟩) hza).trans d0; have e1 := (hb.cell (p := ⟨W1.heap.size, 1, none⟩) hza).trans d1; have e2 := (hb.cell (p := ⟨W1.heap.size, 2, none⟩) hza).trans d2; have e3 := (hb.cell (p := ⟨W1.heap.size, 3, none⟩) hza).trans d3; have e4 := (hb.cell (p := ⟨W1.heap.size, 4, none⟩) hza).trans d4; have e5 := (hb.cell (p := ⟨W1.heap.size, 5, none⟩) hza).trans d5; have HBB := Lib.hid hb; have HRV := Lib.hid hrv; have HO2 := Lib.hid (HOA.out.below NP_ok hb); clear hb hrv; dsimp only [AV, Vl.kind, Vl.int_, Vl.to_, Vl.text]) | (refine step_append_any _ (by rfl) _ _ _ (by rfl) w.heap.size 70 i0 pZ 6 80 Tryz.underlying43 hi hq0 hq1 hq2 rfl (by decide) v L.length _ (by rfl) (HO2.out.own.alloc _) (w2.heap.size + 1) (some ⟨w2.heap.size, 0, none⟩) 1 1 (prV (⟨nm, Vl.mk kx ix tx sx lx⟩, Value.slice A' n' c')) (by rfl) (Reads.blk (Blk.new _ _ _) rfl) (prV_one _ ⟨_, _, _, rfl⟩) hkm hkb (by have := HBA.out.size; have := HBB.out.size; simp; omega) ?_; intro v' w3 hown3 hg3 hat3; have hkp : ∀ i, w3.cell? ⟨W1.heap.size, i, none⟩ = w2.cell? ⟨W1.heap.size, i, none⟩ := fun i => (World.cell?_of_block (hg3.block W1.heap.size (by have := HBB.out.size; simp; omega) (fun e => by have := hvw _ e.symm; omega))).trans (World.cell?_alloc_lt _ _ _ (by show W1.heap.size < w2.heap.size; have := HBB.out.size; omega)); have f0 := (hkp 0).trans e0; have f1 := (hkp 1).trans e1; have f2 := (hkp 2).trans e2; have f3 := (hkp 3).trans e3; have f4 := (hkp 4).trans e4; have f5 := (hkp 5).trans e5; clear hkp))
      have HO3 : Hid (OwnX prV 6 70 NP w3 w.heap.size v' (L ++ [(⟨nm, Vl.mk kx ix tx sx lx⟩, Value.slice A' n' c')])) := (HO2.out.below NP_ok ((Below.refl _ _).alloc (Nat.le_refl _) (.cells #[.string nm, .int .i64 kx, .int .i64 ix, .int .i64 tx, .string sx, .slice A' n' c'] 70))).app NP_ok (S := fun b => wa.heap.size ≤ b ∧ b < w2.heap.size) (HRV.out.keep fun p hp => World.cell?_alloc_lt _ _ _ hp.2) (fun b hb => ⟨by omega, by simp; omega, fun e => by have := hvw b e; omega⟩) hown3 hg3 hat3
      have HB3 : Hid (Below w.heap.size w w3) := ((HBA.out.trans (HBB.out.mono HBA.out.size)).alloc (by have := HBA.out.size; have := HBB.out.size; omega) _).grown hg3 (by have := HBA.out.size; have := HBB.out.size; simp; omega) (fun g hg => (hown.out.blocks g hg).1)
      have HL3 : Hid ((L ++ [((⟨nm, Vl.mk kx ix tx sx lx⟩ : Pr), Value.slice A' n' c')]).map Prod.fst = (M.map Prod.fst).take (k + 1)) := by
        show _ = _
        rw [List.map_append, hL.out, HLK.out]; rfl
      clear hown3 hg3 hat3 e0 e1 e2 e3 e4 e5
      go_wp2_with fail
      go_roundg (n - (k + 1))
      case measure => omega
      case rel => exact ⟨k + 1, v', _, by omega, rfl, by go_num, HL3, HO3, HB3⟩
    · obtain rfl : n = k := by omega
      obtain ⟨Ar, cr, rfl, hcr, hrd⟩ := RdX.of_own hown.out.own
      have HL' : Hid (L.map Prod.fst = M.map Prod.fst) := hL.out.trans (by rw [List.take_of_length_le (by rw [List.length_map, ← HN.out]; exact Nat.le_refl _)])
      obtain rfl : L.length = n := HLL.out
      have hnone : Ar = none → L.length = 0 ∧ cr = 0 := fun e => by
        rcases hown.out.own.2 with ⟨h, h0⟩ | ⟨g, cap, cur, h, _⟩
        · injection h with _ _ h2
          omega
        · injection h with h; rw [e] at h; cases h
      have HCL := Lib.hid fun W => clipP_any Ar L.length cr W hcr hnone
      have HRX : Hid (RPrX W1 (fun b => w.heap.size ≤ b ∧ b < W1.heap.size) (.slice Ar L.length L.length) (M.map Prod.fst)) :=
        ⟨Ar, L.length, L.length, L, HL'.out, rfl, rfl, ⟨Nat.le_refl _, hbig⟩, hrd.weak fun b hb => ⟨hb.2.1, hb.2.2⟩, fun x hx => (hown.out.nest x hx).weak fun b hb => ⟨hb.1, hb.2.1⟩⟩
      clear hcr hrd hnone
      go_wp2_with fail
      refine (HCL.out _).mono ?_
      rintro e w4 ⟨rfl, rfl⟩
      go_wp2_with fail
      go_ret
      exact ⟨⟨Ar, L.length, L.length, rfl, HRX.out⟩, hbel.out⟩
/-- prop.CopyProps -/
theorem copyProps_any (A : Option Addr) (n c : Nat) (l : List Pr) (w : World) (B : Nat) (hB : B ≤ w.heap.size) (h : RPr w B (.slice A n c) l) :
    Calls Tryz.prog 72 #[.slice A n c] w (CopyPR l w) := by
  obtain ⟨A', n', c', M, rfl, e, h3, h4, h5, h6⟩ := h
  injection e with e1 e2 e3
  subst e1 e2 e3
  refine copyProps_walk M A n c w B hB h5 h3 h4.2 (fun z hz => (h6 z hz).slice) fun z hz W hW => ?_
  obtain ⟨d, hd⟩ := h6 z hz
  exact copyValue_any d (z.1.val, z.2) W B (Nat.le_trans hB hW.size) (hd.below (hW.mono hB))
end Go.Proofs.YtackphgnkdpgnaaGreat
namespace Go.Proofs.YtackphgnkdpgnaaGreat
open Go.RowKit

/-- what copying a block leaves -/
def CopyBR (x : Bl) (w : World) (e : Ending) (w' : World) : Prop := (∃ Kx nx cx Px mx ex, e = .returned (AB (x, .slice Kx nx cx, .slice Px mx ex)) ∧ RInX w' (fun b => w.heap.size ≤ b ∧ b < w'.heap.size) (.slice Kx nx cx) x.kids ∧ RPrX w' (fun b => w.heap.size ≤ b ∧ b < w'.heap.size) (.slice Px mx ex) x.props) ∧ Below w.heap.size w w'
set_option maxRecDepth 100000 in
set_option maxHeartbeats 4000000 in
/-- tree.copyBlock -/
theorem copyBlock_any (x : Bl) (Kx Px : Option Addr) (nx cx mx ex : Nat) (w : World) (B : Nat) (hB : B ≤ w.heap.size) (h1 : RIn w B (.slice Kx nx cx) x.kids) (h2 : RPr w B (.slice Px mx ex) x.props) :
    Calls Tryz.prog 44 #[AB (x, .slice Kx nx cx, .slice Px mx ex)] w (CopyBR x w) := by
  obtain ⟨wb, hwb⟩ : ∃ wb, wb = (w.alloc (.cells #[.int .i64 x.id, .int .i64 x.parent, .slice Kx nx cx, .string x.text, .slice Px mx ex] 45)).alloc (.cells #[.int .i64 0, .int .i64 0, .slice none 0 0, .string ⟨#[]⟩, .slice none 0 0] 45) := ⟨_, rfl⟩
  have hbb : Below w.heap.size w wb := by rw [hwb]; exact ((Below.refl _ _).alloc (Nat.le_refl _) _).alloc (by simp) _
  have p0 : Blk wb w.heap.size 45 #[.int .i64 x.id, .int .i64 x.parent, .slice Kx nx cx, .string x.text, .slice Px mx ex] := by rw [hwb]; exact (Blk.new w _ _).alloc _
  have p1 : Blk wb (w.heap.size + 1) 45 #[.int .i64 0, .int .i64 0, .slice none 0 0, .string ⟨#[]⟩, .slice none 0 0] := by
    rw [hwb]
    have h := Blk.new (w.alloc (.cells #[.int .i64 x.id, .int .i64 x.parent, .slice Kx nx cx, .string x.text, .slice Px mx ex] 45)) 45 #[.int .i64 0, .int .i64 0, .slice none 0 0, .string ⟨#[]⟩, .slice none 0 0]
    simpa only [World.size_alloc] using h
  have hzb : wb.heap.size = w.heap.size + 2 := by rw [hwb]; simp
  have HCK := Lib.hid (cloneI_any Kx nx cx x.kids wb B (h1.below (hbb.mono hB)))
  have HCP := Lib.hid fun W (hW : Below w.heap.size w W) => copyProps_any Px mx ex x.props W B (Nat.le_trans hB hW.size) (h2.below (hW.mono hB))
  have HBB := Lib.hid hbb
  have HWB := Lib.hid hwb
  have HZB := Lib.hid hzb
  have P0 := Lib.hid p0
  have P1 := Lib.hid p1
  have e2 : wb.cell? ⟨w.heap.size, 2, none⟩ = some (.slice Kx nx cx) := p0.cell 2
  clear h1 h2 hbb hwb hzb p0 p1
  dsimp only [AB]
  go_enter Tryz.func44, Tryz.ntmps44
  go_upto_region 1 with fail
  rw [← HWB.out]
  go_wp2_with fail
  refine HCK.out.mono ?_
  rintro e w1 ⟨⟨A1, n1, c1, rfl, hn1, _, hr1, hc1⟩, hb1⟩
  have HCL := Lib.hid (clipI_any A1 n1 c1 w1 hc1 hn1)
  have HB1 : Hid (Below w.heap.size w w1) := HBB.out.trans (hb1.mono HBB.out.size)
  have hz1 : w.heap.size + 2 ≤ w1.heap.size := by have := hb1.size; have := HZB.out; omega
  have q0 := P0.out.below hb1 (by have := HZB.out; omega)
  have q1 := P1.out.below hb1 (by have := HZB.out; omega)
  have HR1 : Hid (RInX w1 (fun b => w.heap.size + 2 ≤ b ∧ b < w1.heap.size) (.slice A1 n1 n1) x.kids) := hr1.weak fun b hb => ⟨by have := HZB.out; omega, hb.2⟩
  have Q0 := Lib.hid q0
  have Q1 := Lib.hid q1
  have k2 := q0.cell 2
  have f2 := q0.frozen 2
  clear hn1 hr1 hc1 hb1 q0 q1 e2
  go_wp2_with fail
  refine HCL.out.mono ?_
  rintro e w2 ⟨rfl, rfl⟩
  obtain ⟨w3, hw3⟩ : ∃ w3, w3 = w2.setCell ⟨w.heap.size, 2, none⟩ (.slice A1 n1 n1) := ⟨_, rfl⟩
  have r0 : Blk w3 w.heap.size 45 #[.int .i64 x.id, .int .i64 x.parent, .slice A1 n1 n1, .string x.text, .slice Px mx ex] := by rw [hw3]; exact Q0.out.set_ 2 _
  have r1 : Blk w3 (w.heap.size + 1) 45 #[.int .i64 0, .int .i64 0, .slice none 0 0, .string ⟨#[]⟩, .slice none 0 0] := by rw [hw3]; exact Q1.out.far (p := ⟨w.heap.size, 2, none⟩) (by show w.heap.size + 1 ≠ w.heap.size; omega) _
  have HB3 : Hid (Below w.heap.size w w3) := by rw [hw3]; exact HB1.out.setCell (p := ⟨w.heap.size, 2, none⟩) (Nat.le_refl _) _
  have hz3 : w3.heap.size = w2.heap.size := by rw [hw3]; simp [World.setCell]
  have HR3 : Hid (RInX w3 (fun b => w.heap.size + 2 ≤ b ∧ b < w3.heap.size) (.slice A1 n1 n1) x.kids) := by
    show RInX _ _ _ _
    rw [hz3]
    exact HR1.out.keep fun p hp => by rw [hw3]; exact World.cell?_setCell_other _ _ _ _ (by intro e; subst e; have := hp.1; simp at this; omega)
  have HCX := Lib.hid (HCP.out w3 HB3.out)
  have R0 := Lib.hid r0
  have R1 := Lib.hid r1
  have k4 := r0.cell 4
  have HW3 := Lib.hid hw3
  clear r0 r1 hw3
  go_upto_region 2 with fail
  rw [← HW3.out]
  clear k2 f2
  go_wp2_with fail
  refine HCX.out.mono ?_
  rintro e w4 ⟨⟨A4, n4, c4, rfl, hr4⟩, hb4⟩
  have hz4 : w3.heap.size ≤ w4.heap.size := hb4.size
  have hp0 := R0.out.below hb4 (by omega)
  have hp1 := R1.out.below hb4 (by omega)
  have HB4 : Hid (Below w.heap.size w w4) := HB3.out.trans (hb4.mono HB3.out.size)
  have HR4 : Hid (RInX w4 (fun b => w.heap.size + 2 ≤ b ∧ b < w4.heap.size) (.slice A1 n1 n1) x.kids) := (HR3.out.keep fun p hp => hb4.cell hp.2).weak fun b hb => ⟨hb.1, by omega⟩
  have HRP : Hid (RPrX w4 (fun b => w.heap.size + 2 ≤ b ∧ b < w4.heap.size) (.slice A4 n4 c4) x.props) := hr4.weak fun b hb => ⟨by omega, hb.2⟩
  have e0 := fun i => hp0.cell i
  have f0 := fun i => hp0.frozen i
  have e1 := fun i => hp1.cell i
  have f1 := fun i => hp1.frozen i
  have HP1 := Lib.hid hp1
  clear hr4 hb4 k4 hp0 hp1
  go_wp2_with fail
  have PF := (((((HP1.out.far (p := ⟨w.heap.size, 4, none⟩) (by show w.heap.size + 1 ≠ w.heap.size; omega) (.slice A4 n4 c4)).set_ 0 (.int .i64 x.id)).set_ 1 (.int .i64 x.parent)).set_ 2 (.slice A1 n1 n1)).set_ 3 (.string x.text)).set_ 4 (.slice A4 n4 c4)
  have HBF : Below w.heap.size w _ := (((((HB4.out.setCell (p := ⟨w.heap.size, 4, none⟩) (Nat.le_refl _) (.slice A4 n4 c4)).setCell (p := ⟨w.heap.size + 1, 0, none⟩) (Nat.le_succ _) (.int .i64 x.id)).setCell (p := ⟨w.heap.size + 1, 1, none⟩) (Nat.le_succ _) (.int .i64 x.parent)).setCell (p := ⟨w.heap.size + 1, 2, none⟩) (Nat.le_succ _) (.slice A1 n1 n1)).setCell (p := ⟨w.heap.size + 1, 3, none⟩) (Nat.le_succ _) (.string x.text)).setCell (p := ⟨w.heap.size + 1, 4, none⟩) (Nat.le_succ _) (.slice A4 n4 c4)
  obtain ⟨F, hF⟩ : ∃ F, F = ((((((w4.setCell ⟨w.heap.size, 4, none⟩ (.slice A4 n4 c4)).setCell ⟨w.heap.size + 1, 0, none⟩ (.int .i64 x.id)).setCell ⟨w.heap.size + 1, 1, none⟩ (.int .i64 x.parent)).setCell ⟨w.heap.size + 1, 2, none⟩ (.slice A1 n1 n1)).setCell ⟨w.heap.size + 1, 3, none⟩ (.string x.text)).setCell ⟨w.heap.size + 1, 4, none⟩ (.slice A4 n4 c4)) := ⟨_, rfl⟩
  rw [← hF] at PF HBF ⊢
  have hFk : ∀ p : Addr, w.heap.size + 2 ≤ p.block → F.cell? p = w4.cell? p := fun p h1 => by
    rw [hF]
    repeat rw [World.cell?_setCell_other _ _ p _ (by intro e; subst e; dsimp only at h1; omega)]
  have hFs : F.heap.size = w4.heap.size := by rw [hF]; simp [World.setCell]
  have r0 := PF.cell 0
  have r1 := PF.cell 1
  have r2 := PF.cell 2
  have r3 := PF.cell 3
  have r4 := PF.cell 4
  refine bodyPost_ret (v := AB (x, .slice A1 n1 n1, .slice A4 n4 c4)) (by simp [results, Tryz.results44, go_sem, r0, r1, r2, r3, r4, AB]) rfl ⟨⟨A1, n1, n1, A4, n4, c4, rfl, ?_, ?_⟩, HBF⟩
  · exact (HR4.out.keep (fun p hp => hFk p hp.1)).weak fun b hb => ⟨by omega, by rw [hFs]; exact hb.2⟩
  · exact (HRP.out.keep (fun p hp => hFk p hp.1)).weak fun b hb => ⟨by omega, by rw [hFs]; exact hb.2⟩
end Go.Proofs.YtackphgnkdpgnaaGreat
namespace Go.Proofs.YtackphgnkdpgnaaGreat
open Go.RowKit

section
variable {w : World} {g cap : Nat} {M : List BK}
theorem set_same {k : Nat} {x : BK} (hx : M[k]? = some x) : M.set k x = M := by
  obtain ⟨hk, rfl⟩ := List.getElem?_eq_some_iff.1 hx
  exact List.set_getElem_self hk
theorem size_put (w : World) (a : Addr) (u : Value) : (w.setCell a u).heap.size = w.heap.size := by simp [World.setCell]
/-- a block stored whole, with other kids' and properties' memory -/
theorem RowB.putKP (h : RowB w g cap M) {k : Nat} {x : BK} {kv pv : Value} (hx : M[k]? = some x) (hk : RInX w (fun b => b < w.heap.size ∧ b ≠ g) kv x.1.kids) (hp : RPrX w (fun b => b < w.heap.size ∧ b ≠ g) pv x.1.props) :
    RowB (((((w.setCell ⟨g, k * 5, none⟩ (.int .i64 x.1.id)).setCell ⟨g, k * 5 + 1, none⟩ (.int .i64 x.1.parent)).setCell ⟨g, k * 5 + 2, none⟩ kv).setCell ⟨g, k * 5 + 3, none⟩ (.string x.1.text)).setCell ⟨g, k * 5 + 4, none⟩ pv) g cap (M.set k (x.1, kv, pv)) := by
  have hm := List.mem_of_getElem? hx
  have hkl := (List.getElem?_eq_some_iff.1 hx).1
  have o : ∀ (w : World) (i : Nat) (u : Value) (p : Addr), p.block ≠ g → (w.setCell ⟨g, i, none⟩ u).cell? p = w.cell? p := fun w i u p hne => World.cell?_setCell_other _ _ p _ (by intro e; subst e; exact hne rfl)
  have s0 := h.store hx (j := 0) (y := x) (u := .int .i64 x.1.id) (by omega) rfl (h.nest x hm)
  rw [set_same hx] at s0
  have s1 := s0.store hx (j := 1) (y := x) (u := .int .i64 x.1.parent) (by omega) rfl (s0.nest x hm)
  rw [set_same hx] at s1
  have s2 := s1.store hx (j := 2) (y := (x.1, kv, x.2.2)) (u := kv) (by omega) rfl ⟨(hk.keep fun p hp => by rw [o _ _ _ _ hp.2, o _ _ _ _ hp.2]).weak fun b hb => ⟨by rw [size_put, size_put]; exact hb.1, hb.2⟩, (s1.nest x hm).2⟩
  have hx2 : (M.set k (x.1, kv, x.2.2))[k]? = some (x.1, kv, x.2.2) := by rw [List.getElem?_set, if_pos rfl, if_pos hkl]
  have s3 := s2.store hx2 (j := 3) (y := (x.1, kv, x.2.2)) (u := .string x.1.text) (by omega) rfl (s2.nest _ (List.mem_of_getElem? hx2))
  rw [set_same hx2] at s3
  have s4 := s3.store hx2 (j := 4) (y := (x.1, kv, pv)) (u := pv) (by omega) rfl ⟨(s3.nest _ (List.mem_of_getElem? hx2)).1, (hp.keep fun p hp => by rw [o _ _ _ _ hp.2, o _ _ _ _ hp.2, o _ _ _ _ hp.2, o _ _ _ _ hp.2]).weak fun b hb => ⟨by rw [size_put, size_put, size_put, size_put]; exact hb.1, hb.2⟩⟩
  rw [List.set_set] at s4
  exact s4
end

theorem blV_one (x : BK) (h1 : ∃ A n c, x.2.1 = .slice A n c) (h2 : ∃ A n c, x.2.2 = .slice A n c) : ∀ v ∈ blV x, v.oneCell' = true := by
  obtain ⟨x, k, p⟩ := x
  obtain ⟨A, n, c, rfl⟩ : ∃ A n c, k = .slice A n c := h1
  obtain ⟨A', n', c', rfl⟩ : ∃ A n c, p = .slice A n c := h2
  intro v hv
  simp only [blV, List.mem_cons, List.not_mem_nil, or_false] at hv
  rcases hv with rfl | rfl | rfl | rfl | rfl <;> rfl
/-- what copyBase leaves -/
def CopyBaseR (l : List Bl) (w : World) (e : Ending) (w' : World) : Prop := ∃ (g n : Nat) (M : List BK), e = .returned (.slice (some ⟨g, 0, none⟩) n n) ∧ M.length = n ∧ M.map Prod.fst = l ∧ w.heap.size ≤ g ∧ RowB w' g n M ∧ Below w.heap.size w w'
set_option maxRecDepth 100000 in
set_option maxHeartbeats 4000000 in
/-- tree.copyBase -/
theorem copyBase_any (l : List Bl) (A : Option Addr) (n c : Nat) (w : World) (B : Nat) (hB : B ≤ w.heap.size) (h : RB w B (.slice A n c) l) (hn0 : 0 < n) (hn1 : n ≤ 100000) :
    Calls Tryz.prog 20 #[.slice A n c] w (CopyBaseR l w) := by
  obtain ⟨A', n', c', M0, hM, e, hn, hnc, hr, hnest⟩ := h
  injection e with e1 e2 e3
  subst e1 e2 e3
  obtain ⟨i0, hi0, hz0, hz1, hz2⟩ := info_parts block_info
  obtain ⟨ad, rfl, hab, hcells⟩ := hr.2 hn0
  have hcl : (M0.flatMap blV).length = n * 5 := hr.1
  obtain ⟨mk, hmk0⟩ : ∃ mk, mk = madeCells bZ.cells (n * 5) := ⟨_, rfl⟩
  have hmks : mk.size = n * 5 := by rw [hmk0, size_madeCells]
  have hmk : (Instr.makeSlice 22 (.int .i64 (n : Int)) (.int .i64 (n : Int))).run Tryz.prog w = .ok (.slice (some ⟨w.heap.size, 0, none⟩) n n) (w.alloc (.cells mk 45)) := by
    have := run_make (P := Tryz.prog) w 22 45 i0 bZ Tryz.underlying22 hi0 hz0 .i64 .i64 n n (by omega) (Int.le_refl _) (by rw [hz2]; omega) (by omega)
    simp only [Int.toNat_natCast, hz1, ← hmk0] at this
    exact this
  obtain ⟨w1, hw1⟩ : ∃ w1, w1 = w.alloc (.cells mk 45) := ⟨_, rfl⟩
  have hb1 : Below w.heap.size w w1 := by rw [hw1]; exact (Below.refl _ _).alloc (Nat.le_refl _) _
  have hk1 : Blk w1 w.heap.size 45 mk := by rw [hw1]; exact Blk.new w _ _
  obtain ⟨g, hg⟩ : ∃ g, g = w.heap.size := ⟨_, rfl⟩
  rw [← hw1] at hmk
  rw [← hg] at hk1
  have hzz : (Tryz.prog.info? 45).map (·.size) = some 5 := by rw [hi0]; simp [hz1]
  obtain ⟨w2, hw2⟩ : ∃ w2, w2 = w1.setRow g (M0.flatMap blV).toArray := ⟨_, rfl⟩
  have hcp : ∀ ty, (Builtin.copy_ #[22, 22] ty #[.slice (some ⟨g, 0, none⟩) n n, .slice (some ad) n c]).run Tryz.prog w1 = .ok (goInt (Nat.min n n)) w2 := fun ty => by
    have := run_copy_rowN (P := Tryz.prog) w1 22 22 ty 45 g 0 n n ad n c 5 mk 45 (M0.flatMap blV) Tryz.underlying22 hzz hk1 (by rw [hcl]; show _ = min n n * 5; rw [Nat.min_self]) (fun j v hj => by
      rw [hb1.cell (by rw [block_of_add]; omega)]; exact hcells j v hj) (by rw [hcl, hmks]; omega) (fun v hv => by
      obtain ⟨x, hx, hv⟩ := List.mem_flatMap.1 hv
      exact blV_one x (by obtain ⟨A, n, c, e, _⟩ := (hnest x hx).1; exact ⟨A, n, c, e⟩) (hnest x hx).2.slice v hv)
    rw [hcl, List.take_zero, List.nil_append, List.drop_of_length_le (by rw [Array.length_toList, hmks]; omega), List.append_nil, ← hw2] at this
    exact this
  have hR2 : RowB w2 g n M0 := by
    refine ⟨⟨[], by rw [hw2, List.append_nil]; exact setRow_heap w1 g _ _ _ _ hk1, by rw [← hn]; rfl⟩, by unfold maxLen; omega, by omega, fun x hx => ?_⟩
    have hk : ∀ p : Addr, p.block < B → w2.cell? p = w.cell? p := fun p hp => by
      rw [hw2, cell_setRow_other _ _ _ _ (by omega)]; exact hb1.cell (by omega)
    have hsz : w2.heap.size = w1.heap.size := by rw [hw2, setRow_size]
    have hz : w.heap.size ≤ w1.heap.size := hb1.size
    exact ⟨((RInX.of (hnest x hx).1).keep hk).weak fun b hb => ⟨by omega, by omega⟩, ((RPrX.of (hnest x hx).2).keep hk).weak fun b hb => ⟨by omega, by omega⟩⟩
  have HR2 := Lib.hid hR2
  have HB2 : Hid (Below w.heap.size w w2) := by
    show Below _ _ _
    rw [hw2]
    exact ⟨hb1.os, hb1.tape, hb1.output, by rw [setRow_size]; exact hb1.size, fun k hk => (setRow_other _ _ _ _ (by omega)).trans (hb1.block k hk)⟩
  have HML := Lib.hid hM
  have HN := Lib.hid hn
  have HG := Lib.hid hg
  have HGE : Hid (w.heap.size ≤ g) := by show _ ≤ _; omega
  clear hR2 hw2 hk1 hb1 hmks hmk0 hcl hr hnest hcells hM hn hzz hi0 hz0 hz1 hz2 hab
  go_enter Tryz.func20, Tryz.ntmps20
  rw [hg] at hcp
  clear hg hw1
  go_upto_region 2 with fail
  go_wp2_with (at_builtin; refine wpList_copy_runI _ rfl _ _ 22 22 rfl _ _ rfl rfl (hcp _) ?_)
  obtain ⟨gg0, hgg0⟩ : ∃ gg0, gg0 = w.heap.size := ⟨_, rfl⟩
  have HGG := Lib.hid hgg0
  rw [← hgg0]
  clear hgg0 hcp hmk
  go_loopg [13] n (fun gg s13 wr => ∃ (k : Nat) (M : List BK), k + gg = n ∧ s13 = .int .i64 (k : Int) ∧ Hid (M.length = n) ∧ Hid (M.map Prod.fst = l) ∧ Hid (RowB wr gg0 n M) ∧ Hid (Below w.heap.size w wr))
  case atStart => exact ⟨0, M0, by omega, rfl, HN.out.symm, HML, by rw [HGG.out, ← HG.out]; exact HR2, HB2⟩
  case round =>
    obtain ⟨k, M, hkg, rfl, hml, hmm, hrow, hbel⟩ := hrel
    have hgw := hrow.out.lt
    by_cases hk : k < n
    · obtain ⟨⟨x, xk, xp⟩, hx⟩ : ∃ x, M[k]? = some x := ⟨_, List.getElem?_eq_getElem (by have := hml.out; omega)⟩
      have hns := hrow.out.nest _ (List.mem_of_getElem? hx)
      obtain ⟨hnk, hnp⟩ := hns
      obtain ⟨Kx, nx, cx, rfl⟩ : ∃ A n c, xk = .slice A n c := by
        obtain ⟨A, n, c, e, _⟩ := hnk
        exact ⟨A, n, c, e⟩
      obtain ⟨Px, mx, ex, rfl⟩ : ∃ A n c, xp = .slice A n c := (hnp.reads (B := wr.heap.size) fun b hb => hb.1).slice
      have HCB := Lib.hid (copyBlock_any x Kx Px nx cx mx ex wr wr.heap.size (Nat.le_refl _) (hnk.reads fun b hb => hb.1) (hnp.reads fun b hb => hb.1))
      dsimp only [AB] at HCB
      have HX := Lib.hid hx
      have c0 : wr.cell? ⟨gg0, k * 5, none⟩ = some (.int .i64 x.id) := hrow.out.cell (i := 0) hx rfl
      have c1 : wr.cell? ⟨gg0, k * 5 + 1, none⟩ = some (.int .i64 x.parent) := hrow.out.cell hx rfl
      have c2 : wr.cell? ⟨gg0, k * 5 + 2, none⟩ = some (.slice Kx nx cx) := hrow.out.cell hx rfl
      have c3 : wr.cell? ⟨gg0, k * 5 + 3, none⟩ = some (.string x.text) := hrow.out.cell hx rfl
      have c4 : wr.cell? ⟨gg0, k * 5 + 4, none⟩ = some (.slice Px mx ex) := hrow.out.cell hx rfl
      have j0 : (0 : Int) ≤ (k : Int) := by omega
      have j1 : (k : Int) < (n : Int) := by omega
      clear hx hnk hnp
      go_wp2_with fail
      refine HCB.out.mono ?_
      rintro e w3 ⟨⟨K', n', c', P', m', e', rfl, hk', hp'⟩, hb3⟩
      dsimp only [AB]
      have HR3 := Lib.hid (hrow.out.below hb3)
      have HB3 : Hid (Below w.heap.size w w3) := hbel.out.trans (hb3.mono hbel.out.size)
      have HK3 : Hid (RInX w3 (fun b => b < w3.heap.size ∧ b ≠ gg0) (.slice K' n' c') x.kids) := hk'.weak fun b hb => ⟨hb.2, by omega⟩
      have HP3 : Hid (RPrX w3 (fun b => b < w3.heap.size ∧ b ≠ gg0) (.slice P' m' e') x.props) := hp'.weak fun b hb => ⟨hb.2, by omega⟩
      clear hb3 hk' hp' c0 c1 c2 c3 c4
      have c0 : w3.cell? ⟨gg0, k * 5, none⟩ = some (.int .i64 x.id) := HR3.out.cell (i := 0) HX.out rfl
      have c1 : w3.cell? ⟨gg0, k * 5 + 1, none⟩ = some (.int .i64 x.parent) := HR3.out.cell HX.out rfl
      have c2 : w3.cell? ⟨gg0, k * 5 + 2, none⟩ = some (.slice Kx nx cx) := HR3.out.cell HX.out rfl
      have c3 : w3.cell? ⟨gg0, k * 5 + 3, none⟩ = some (.string x.text) := HR3.out.cell HX.out rfl
      have c4 : w3.cell? ⟨gg0, k * 5 + 4, none⟩ = some (.slice Px mx ex) := HR3.out.cell HX.out rfl
      have f0 := HR3.out.frozen (k * 5)
      have f1 := HR3.out.frozen (k * 5 + 1)
      have f2 := HR3.out.frozen (k * 5 + 2)
      have f3 := HR3.out.frozen (k * 5 + 3)
      have f4 := HR3.out.frozen (k * 5 + 4)
      go_wp2_with fail
      go_roundg (n - (k + 1))
      case measure => omega
      case rel =>
        have hge : w.heap.size ≤ gg0 := by rw [HGG.out]; exact Nat.le_refl _
        have hC := HR3.out.putKP HX.out HK3.out HP3.out
        dsimp only at hC
        have hD := ((((HB3.out.setCell (p := ⟨gg0, k * 5, none⟩) hge (.int .i64 x.id)).setCell (p := ⟨gg0, k * 5 + 1, none⟩) hge (.int .i64 x.parent)).setCell (p := ⟨gg0, k * 5 + 2, none⟩) hge (.slice K' n' c')).setCell (p := ⟨gg0, k * 5 + 3, none⟩) hge (.string x.text)).setCell (p := ⟨gg0, k * 5 + 4, none⟩) hge (.slice P' m' e')
        have hA : (M.set k (x, Value.slice K' n' c', Value.slice P' m' e')).length = n := by rw [List.length_set]; exact hml.out
        have hE : (M.set k (x, Value.slice K' n' c', Value.slice P' m' e')).map Prod.fst = l := by
          rw [← hmm.out, List.map_set]
          obtain ⟨hkk, hke⟩ := List.getElem?_eq_some_iff.1 HX.out
          refine List.ext_getElem? fun i => ?_
          rw [List.getElem?_set]
          split
          · rename_i e
            subst e
            rw [if_pos (by rw [List.length_map]; exact hkk), List.getElem?_map, HX.out]; rfl
          · rfl
        have HA := Lib.hid hA
        have HC := Lib.hid hC
        have HD := Lib.hid hD
        have HE := Lib.hid hE
        have hs : k + 1 + (n - (k + 1)) = n := by omega
        have hv : Value.int .i64 ((k : Int) + 1) = Value.int .i64 ((k + 1 : Nat) : Int) := by go_num
        exact ⟨k + 1, _, hs, hv, HA, HE, HC, HD⟩
    · obtain rfl : n = k := by omega
      go_wp2_with fail
      go_ret
      exact ⟨gg0, n, M, rfl, hml.out, hmm.out, by rw [HGG.out]; exact Nat.le_refl _, hrow.out, hbel.out⟩
end Go.Proofs.YtackphgnkdpgnaaGreat
