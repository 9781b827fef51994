/-
  DERIVED. The walk of prop.Get. Conditions: sizes.
  The walk of prop.CopyProps. Conditions: sizes.
  prop.with's closure: properties by their names. Conditions: none.
  By an AI agent.
-/
import Derived.Test.YtmkicfjcgbfaaaaGreatDoorTc09
import Derived.Deep.RegionHeld3
import Derived.Test.YtmkicfjcgbfaaaaGreatDoorTc02
namespace Go.Proofs.YtmkicfjcgbfaaaaGreatDoor
open Go.RowKit

/-- the value of no property -/
def zV : Vl := .mk 0 0 0 ⟨#[]⟩ []
/-- the value of the first property with a name, or an empty one -/
def getP (l : List Pr) (s : ByteArray) : Vl := if nmOf l s < 0 then zV else ((l[(nmOf l s).toNat]?).map Pr.val).getD zV
/-- what prop.Get leaves -/
def GetPR (l : List Pr) (s : ByteArray) (w : World) (e : Ending) (w' : World) : Prop := (∃ A n c, e = .returned (.tuple #[AV (getP l s, .slice A n c), .bool (decide (0 ≤ nmOf l s))]) ∧ RVX w' (fun b => w.heap.size ≤ b ∧ b < w'.heap.size) (.slice A n c) (getP l s).items) ∧ Below w.heap.size w w'
theorem RVX.nil (w : World) (S : Nat → Prop) : RVX w S (.slice none 0 0) [] := ⟨0, rfl, none, 0, rfl⟩

set_option maxRecDepth 100000 in
set_option maxHeartbeats 4000000 in
/-- prop.Get -/
theorem getP_any (l : List Pr) (A : Option Addr) (n c : Nat) (s : ByteArray) (w : World) (B : Nat) (hB : B ≤ w.heap.size) (h : RPr w B (.slice A n c) l) :
    Calls Tryz.prog 86 #[.slice A n c, .string s] w (GetPR l s w) := by
  obtain ⟨wb, hwb⟩ : ∃ wb, wb = w.alloc (.cells #[.int .i64 0, .int .i64 0, .int .i64 0, .string ⟨#[]⟩, .slice none 0 0] 65) := ⟨_, rfl⟩
  have hbb : Below w.heap.size w wb := by rw [hwb]; exact (Below.refl _ _).alloc (Nat.le_refl _) _
  have p1 : Blk wb w.heap.size 65 #[.int .i64 0, .int .i64 0, .int .i64 0, .string ⟨#[]⟩, .slice none 0 0] := by rw [hwb]; exact Blk.new w _ _
  have hzb : wb.heap.size = w.heap.size + 1 := by rw [hwb]; simp
  have HIX := find_any l A n c s wb B (Nat.le_trans hB hbb.size) (h.below (hbb.mono hB))
  have HBB := Lib.hid hbb
  have HWB := Lib.hid hwb
  have HZB := Lib.hid hzb
  have P1 := Lib.hid p1
  rcases nmOf_spec l s with ⟨hp, hq1⟩ | ⟨p, x, hp, hlp, hq1⟩
  · clear hq1
    have hg : getP l s = zV := if_pos (by omega)
    rw [hp] at HIX
    have HX := Lib.hid HIX
    have hfin : ∀ w', Below w.heap.size w w' → GetPR l s w (.returned (.tuple #[.agg #[.int .i64 0, .int .i64 0, .int .i64 0, .string ⟨#[]⟩, .slice none 0 0], .bool false])) w' := fun w' hb => by
      unfold GetPR
      rw [hg, hp]
      exact ⟨⟨none, 0, 0, rfl, RVX.nil _ _⟩, hb⟩
    have HF := Lib.hid hfin
    clear h hbb hwb hzb p1 HIX hp hg hfin
    go_enter Tryz.func86, Tryz.ntmps86
    go_upto_region 1 with fail
    rw [← HWB.out]
    go_wp2_with fail
    refine HX.out.mono ?_
    rintro e w1 ⟨rfl, hb1⟩
    have HB1 : Hid (Below w.heap.size w w1) := HBB.out.trans (hb1.mono HBB.out.size)
    have hp1 := P1.out.below hb1 (by have := HZB.out; omega)
    have e1 := fun i => hp1.cell i
    have f1 := fun i => hp1.frozen i
    have HP1 := Lib.hid hp1
    clear hb1 hp1
    go_wp2_with fail
    have PF := ((((HP1.out.set_ 0 (.int .i64 0)).set_ 1 (.int .i64 0)).set_ 2 (.int .i64 0)).set_ 3 (.string ⟨#[]⟩)).set_ 4 (.slice none 0 0)
    have HBF : Below w.heap.size w _ := (((((HB1.out.setCell (p := ⟨w.heap.size, 0, none⟩) (Nat.le_refl _) (.int .i64 0)).setCell (p := ⟨w.heap.size, 1, none⟩) (Nat.le_refl _) (.int .i64 0)).setCell (p := ⟨w.heap.size, 2, none⟩) (Nat.le_refl _) (.int .i64 0)).setCell (p := ⟨w.heap.size, 3, none⟩) (Nat.le_refl _) (.string ⟨#[]⟩)).setCell (p := ⟨w.heap.size, 4, none⟩) (Nat.le_refl _) (.slice none 0 0))
    have r0 := PF.cell 0
    have r1 := PF.cell 1
    have r2 := PF.cell 2
    have r3 := PF.cell 3
    have r4 := PF.cell 4
    exact bodyPost_ret (v := .tuple #[.agg #[.int .i64 0, .int .i64 0, .int .i64 0, .string ⟨#[]⟩, .slice none 0 0], .bool false]) (by simp [results, Tryz.results86, go_sem, r0, r1, r2, r3, r4]) rfl (HF.out _ HBF)
  · clear hq1
    have hg : getP l s = x.val := by unfold getP; rw [if_neg (by omega), hp, Int.toNat_natCast, hlp]; rfl
    have hpn : p < n := by have := (List.getElem?_eq_some_iff.1 hlp).1; have := h.len.1; omega
    obtain ⟨b, off, Av, nv, cv, rfl, hbb2, g0, g1, g2, g3, g4, g5, d, hV⟩ := h.at_ hlp
    rw [hp] at HIX
    have HX := Lib.hid HIX
    have HCB := Lib.hid fun W (hW : Below w.heap.size w W) => copyValue_any d (x.val, .slice Av nv cv) W B (Nat.le_trans hB hW.size) (hV.below (hW.mono hB))
    dsimp only [AV] at HCB
    have hfin : ∀ A' n' c' w', RVX w' (fun b => w.heap.size ≤ b ∧ b < w'.heap.size) (.slice A' n' c') x.val.items → Below w.heap.size w w' → GetPR l s w (.returned (.tuple #[AV (x.val, .slice A' n' c'), .bool true])) w' := fun A' n' c' w' h1 hb => by
      unfold GetPR
      rw [hg, hp, decide_eq_true (by omega : (0 : Int) ≤ (p : Int))]
      exact ⟨⟨A', n', c', rfl, h1⟩, hb⟩
    have HF := Lib.hid hfin
    have y0 : (0 : Int) ≤ (p : Int) := by omega
    have y1 : (p : Int) < (n : Int) := by omega
    clear h hbb hwb hzb p1 HIX hp hg hlp hV hfin
    go_enter Tryz.func86, Tryz.ntmps86
    go_upto_region 1 with fail
    rw [← HWB.out]
    go_wp2_with fail
    refine HX.out.mono ?_
    rintro e w1 ⟨rfl, hb1⟩
    have HB1 : Hid (Below w.heap.size w w1) := HBB.out.trans (hb1.mono HBB.out.size)
    have hz1 : w.heap.size + 1 ≤ w1.heap.size := by have := HZB.out; have := hb1.size; omega
    have HP1 := Lib.hid (P1.out.below hb1 (by have := HZB.out; omega))
    have c1 := (HB1.out.cell (p := ⟨b, off + p * 6 + 1, none⟩) (by show b < _; omega)).trans g1
    have c2 := (HB1.out.cell (p := ⟨b, off + p * 6 + 2, none⟩) (by show b < _; omega)).trans g2
    have c3 := (HB1.out.cell (p := ⟨b, off + p * 6 + 3, none⟩) (by show b < _; omega)).trans g3
    have c4 := (HB1.out.cell (p := ⟨b, off + p * 6 + 4, none⟩) (by show b < _; omega)).trans g4
    have c5 := (HB1.out.cell (p := ⟨b, off + p * 6 + 5, none⟩) (by show b < _; omega)).trans g5
    have HCX := Lib.hid (HCB.out w1 HB1.out)
    clear hb1 g0 g1 g2 g3 g4 g5
    go_wp2_with fail
    with_reducible refine HCX.out.mono ?_
    rintro e w2 ⟨⟨A', n', c', rfl, hr1⟩, hb2⟩
    dsimp only [AV]
    have HB2 : Hid (Below w.heap.size w w2) := HB1.out.trans (hb2.mono HB1.out.size)
    have hp2 := HP1.out.below hb2 (by omega)
    have e1 := fun i => hp2.cell i
    have f1 := fun i => hp2.frozen i
    have HP2 := Lib.hid hp2
    have HR1 := Lib.hid hr1
    clear hb2 hp2 hr1 c1 c2 c3 c4 c5
    go_wp2_with fail
    have PF := ((((HP2.out.set_ 0 (.int .i64 x.val.kind)).set_ 1 (.int .i64 x.val.int_)).set_ 2 (.int .i64 x.val.to_)).set_ 3 (.string x.val.text)).set_ 4 (.slice A' n' c')
    have HBF : Below w.heap.size w _ := (((((HB2.out.setCell (p := ⟨w.heap.size, 0, none⟩) (Nat.le_refl _) (.int .i64 x.val.kind)).setCell (p := ⟨w.heap.size, 1, none⟩) (Nat.le_refl _) (.int .i64 x.val.int_)).setCell (p := ⟨w.heap.size, 2, none⟩) (Nat.le_refl _) (.int .i64 x.val.to_)).setCell (p := ⟨w.heap.size, 3, none⟩) (Nat.le_refl _) (.string x.val.text)).setCell (p := ⟨w.heap.size, 4, none⟩) (Nat.le_refl _) (.slice A' n' c'))
    obtain ⟨F, hF⟩ : ∃ F, F = ((((w2.setCell ⟨w.heap.size, 0, none⟩ (.int .i64 x.val.kind)).setCell ⟨w.heap.size, 1, none⟩ (.int .i64 x.val.int_)).setCell ⟨w.heap.size, 2, none⟩ (.int .i64 x.val.to_)).setCell ⟨w.heap.size, 3, none⟩ (.string x.val.text)).setCell ⟨w.heap.size, 4, none⟩ (.slice A' n' c') := ⟨_, rfl⟩
    rw [← hF] at PF HBF ⊢
    have hFk : ∀ p : Addr, w.heap.size + 1 ≤ p.block → F.cell? p = w2.cell? p := fun p h1 => by
      rw [hF]
      repeat rw [World.cell?_setCell_other _ _ p _ (by intro e; subst e; dsimp only at h1; omega)]
    have hFs : F.heap.size = w2.heap.size := by rw [hF]; simp [World.setCell]
    have r0 := PF.cell 0
    have r1 := PF.cell 1
    have r2 := PF.cell 2
    have r3 := PF.cell 3
    have r4 := PF.cell 4
    refine bodyPost_ret (v := .tuple #[AV (x.val, .slice A' n' c'), .bool true]) (by simp [results, Tryz.results86, go_sem, r0, r1, r2, r3, r4, AV]) rfl (HF.out _ _ _ _ ?_ HBF)
    exact (HR1.out.keep (fun p hp => hFk p (by omega))).weak fun b hb => ⟨by omega, by rw [hFs]; exact hb.2⟩
end Go.Proofs.YtmkicfjcgbfaaaaGreatDoor
namespace Go.Proofs.YtmkicfjcgbfaaaaGreatDoor
open Go.RowKit

set_option maxHeartbeats 400000 in
theorem clipP_any (A : Option Addr) (n c : Nat) (w : World) (hn : n ≤ c) (_h0 : A = none → n = 0 ∧ c = 0) :
    Calls Tryz.prog 95 #[.slice A n c] w fun e w' => e = .returned (.slice A n n) ∧ w' = w := by
  have i0 : (0 : Int) ≤ (n : Int) := by omega
  have i1 : (n : Int) ≤ (c : Int) := by omega
  go_enter Tryz.func95, Tryz.ntmps95
  go_wp2_with fail
  go_ret
  exact ⟨rfl, rfl⟩
def pZ : Value := .agg #[.string ⟨#[]⟩, .int .i64 0, .int .i64 0, .int .i64 0, .string ⟨#[]⟩, .slice none 0 0]
theorem prop_info : (Tryz.prog.info? 129).map (fun i => (i.zero, i.size, i.bytes)) = some (some pZ, 6, 80) := by kernel_rfl
theorem prV_one (x : Pr × Value) (hx : ∃ A n c, x.2 = .slice A n c) : ∀ u ∈ prV x, u.oneCell' = true := by
  intro u hu
  rcases List.mem_cons.1 hu with rfl | hu
  · rfl
  · exact vlV_one (x.1.val, x.2) hx u hu
/-- what copying properties leaves -/
def CopyPR (l : List Pr) (w : World) (e : Ending) (w' : World) : Prop := (∃ A n c, e = .returned (.slice A n c) ∧ RPrX w' (fun b => w.heap.size ≤ b ∧ b < w'.heap.size) (.slice A n c) l) ∧ Below w.heap.size w w'

set_option maxRecDepth 100000 in
set_option maxHeartbeats 8000000 in
theorem copyProps_walk (M : List (Pr × Value)) (A : Option Addr) (n c : Nat) (w : World) (B : Nat) (hB : B ≤ w.heap.size) (h1 : Reads w B 6 A n (M.flatMap prV)) (hn : n = M.length) (hbig : n * 80 ≤ 140737488351232)
    (hs1 : ∀ x ∈ M, ∃ A n c, x.2 = .slice A n c)
    (hcl : ∀ x ∈ M, ∀ W, Below w.heap.size w W → Calls Tryz.prog 94 #[AV (x.1.val, x.2)] W (CopyR x.1.val W)) :
    Calls Tryz.prog 73 #[.slice A n c] w (CopyPR (M.map Prod.fst) w) := by
  obtain ⟨i0, hi, hq0, hq1, hq2⟩ := info_parts prop_info
  have H1 := Lib.hid h1
  have HN := Lib.hid hn
  have HC := Lib.hid hcl
  have S1 := Lib.hid hs1
  clear h1 hn hcl hs1
  have HS : Hid (OwnX prV 6 129 NP w w.heap.size (.slice none 0 0) []) := OwnX.start _ _
  go_enter Tryz.func73, Tryz.ntmps73
  go_wp2_with fail
  go_loopg [3, 8] n (fun gg s3 s8 wr => ∃ (k : Nat) (v : Value) (L : List (Pr × Value)), k + gg = n ∧ v = s3 ∧ s8 = .int .i64 (k : Int) ∧ Hid (L.map Prod.fst = (M.map Prod.fst).take k) ∧ Hid (OwnX prV 6 129 NP wr w.heap.size v L) ∧ Hid (Below w.heap.size w wr))
  case atStart => exact ⟨0, _, [], by omega, rfl, rfl, rfl, HS, Below.refl _ _⟩
  case round =>
    obtain ⟨k, v, L, hkg, rfl, rfl, hL, hown, hbel⟩ := hrel
    obtain ⟨W1, rfl⟩ : ∃ W1, W1 = wr := ⟨_, rfl⟩
    have hzr : w.heap.size ≤ W1.heap.size := hbel.out.size
    have HLL : Hid (L.length = k) := by
      show _ = _
      have := congrArg List.length hL.out
      rw [List.length_map, List.length_take, List.length_map, ← HN.out] at this
      omega
    by_cases hk : k < n
    · obtain ⟨y, hy⟩ : ∃ y, M[k]? = some y := ⟨_, List.getElem?_eq_getElem (by have := HN.out; omega)⟩
      obtain ⟨b, off, rfl, hbb, hc⟩ := H1.out.plain_at (by omega) prV_len HN.out hy
      have HLK : Hid ((M.map Prod.fst).take (k + 1) = (M.map Prod.fst).take k ++ [y.1]) := by
        show _ = _
        obtain ⟨hkk, e⟩ := List.getElem?_eq_some_iff.1 hy
        rw [List.take_succ_eq_append_getElem (by rw [List.length_map]; exact hkk), List.getElem_map, e]
      have HX := HC.out y (List.mem_of_getElem? hy)
      obtain ⟨⟨nm, ⟨kx, ix, tx, sx, lx⟩⟩, vx⟩ := y
      obtain ⟨Ax, nx, cx, rfl⟩ := S1.out _ (List.mem_of_getElem? hy)
      have g0 : W1.cell? ⟨b, off + k * 6, none⟩ = some (.string nm) := (hbel.out.cell (p := ⟨b, off + k * 6, none⟩) (by show b < _; omega)).trans (hc 0 _ rfl)
      have g1 : W1.cell? ⟨b, off + k * 6 + 1, none⟩ = some (.int .i64 kx) := (hbel.out.cell (p := ⟨b, off + k * 6 + 1, none⟩) (by show b < _; omega)).trans (hc 1 _ rfl)
      have g2 : W1.cell? ⟨b, off + k * 6 + 2, none⟩ = some (.int .i64 ix) := (hbel.out.cell (p := ⟨b, off + k * 6 + 2, none⟩) (by show b < _; omega)).trans (hc 2 _ rfl)
      have g3 : W1.cell? ⟨b, off + k * 6 + 3, none⟩ = some (.int .i64 tx) := (hbel.out.cell (p := ⟨b, off + k * 6 + 3, none⟩) (by show b < _; omega)).trans (hc 3 _ rfl)
      have g4 : W1.cell? ⟨b, off + k * 6 + 4, none⟩ = some (.string sx) := (hbel.out.cell (p := ⟨b, off + k * 6 + 4, none⟩) (by show b < _; omega)).trans (hc 4 _ rfl)
      have g5 : W1.cell? ⟨b, off + k * 6 + 5, none⟩ = some (.slice Ax nx cx) := (hbel.out.cell (p := ⟨b, off + k * 6 + 5, none⟩) (by show b < _; omega)).trans (hc 5 _ rfl)
      have j0 : (0 : Int) ≤ (k : Int) := by omega
      have j1 : (k : Int) < (n : Int) := by omega
      obtain ⟨wa, hwa⟩ : ∃ wa, wa = W1.alloc (.cells #[.string nm, .int .i64 kx, .int .i64 ix, .int .i64 tx, .string sx, .slice Ax nx cx] 129) := ⟨_, rfl⟩
      have hal : Below W1.heap.size W1 wa := by rw [hwa]; exact (Below.refl _ _).alloc (Nat.le_refl _) _
      have hza : W1.heap.size < wa.heap.size := by rw [hwa]; simp
      have q0 : Blk wa W1.heap.size 129 #[.string nm, .int .i64 kx, .int .i64 ix, .int .i64 tx, .string sx, .slice Ax nx cx] := by rw [hwa]; exact Blk.new _ _ _
      have d0 : wa.cell? ⟨W1.heap.size, 0, none⟩ = some (.string nm) := q0.cell 0
      have d1 : wa.cell? ⟨W1.heap.size, 1, none⟩ = some (.int .i64 kx) := q0.cell 1
      have d2 : wa.cell? ⟨W1.heap.size, 2, none⟩ = some (.int .i64 ix) := q0.cell 2
      have d3 : wa.cell? ⟨W1.heap.size, 3, none⟩ = some (.int .i64 tx) := q0.cell 3
      have d4 : wa.cell? ⟨W1.heap.size, 4, none⟩ = some (.string sx) := q0.cell 4
      have d5 : wa.cell? ⟨W1.heap.size, 5, none⟩ = some (.slice Ax nx cx) := q0.cell 5
      have HBA : Hid (Below w.heap.size w wa) := hbel.out.trans (hal.mono hbel.out.size)
      have HX' : Hid (∀ W, Below wa.heap.size wa W → Calls _ _ #[AV (Vl.mk kx ix tx sx lx, Value.slice Ax nx cx)] W _) := fun W hW => HX W (HBA.out.trans (hW.mono HBA.out.size))
      dsimp only [AV, Vl.kind, Vl.int_, Vl.to_, Vl.text] at HX'
      have HOA := Lib.hid (hown.out.below NP_ok hal)
      have HWA := Lib.hid hwa
      have hkb : (L.length + 1) * 80 ≤ 140737488355328 := by have := HLL.out; omega
      have hkm : L.length + 1 ≤ maxLen := by have := HLL.out; unfold maxLen; omega
      have hvw : ∀ g, v.ownBlock = some g → g < W1.heap.size := fun g hg => (hown.out.blocks g hg).2
      clear hy hc HX hwa hal q0
      go_upto_region 5 with fail
      rw [← HWA.out]
      clear g0 g1 g2 g3 g4 g5
      go_region_held3 (fun w' => w'.cell? ⟨W1.heap.size, 0, none⟩ = some (.string nm) ∧ w'.cell? ⟨W1.heap.size, 1, none⟩ = some (.int .i64 kx) ∧ w'.cell? ⟨W1.heap.size, 2, none⟩ = some (.int .i64 ix) ∧ w'.cell? ⟨W1.heap.size, 3, none⟩ = some (.int .i64 tx) ∧ w'.cell? ⟨W1.heap.size, 4, none⟩ = some (.string sx) ∧ w'.cell? ⟨W1.heap.size, 5, none⟩ = some (.slice Ax nx cx))
          (first | exact ⟨d0, d1, d2, d3, d4, d5⟩ | exact ⟨e0, e1, e2, e3, e4, e5⟩ | exact ⟨f0, f1, f2, f3, f4, f5⟩ | go_keep)
          (first | (go_at_call 94; refine (HX'.out wa.drew (Below.refl _ _).drew).mono ?_; rintro e w2 ⟨⟨A', n', c', rfl, hrv⟩, hb⟩; have hb : Below wa.heap.size wa w2 := (Below.refl wa.heap.size wa).drew.trans hb; have e0 := (hb.cell (p := ⟨W1.heap.size, 0, none⟩) hza).trans d0; have e1 := (hb.cell (p := ⟨W1.heap.size, 1, none⟩) hza).trans d1; have e2 := (hb.cell (p := ⟨W1.heap.size, 2, none⟩) hza).trans d2; have e3 := (hb.cell (p := ⟨W1.heap.size, 3, none⟩) hza).trans d3; have e4 := (hb.cell (p := ⟨W1.heap.size, 4, none⟩) hza).trans d4; have e5 := (hb.cell (p := ⟨W1.heap.size, 5, none⟩) hza).trans d5; have HBB := Lib.hid hb; have HRV := Lib.hid hrv; have HO2 := Lib.hid (HOA.out.below NP_ok hb); clear hb hrv; dsimp only [AV, Vl.kind, Vl.int_, Vl.to_, Vl.text]) | (refine step_append_any _ (by rfl) _ _ _ (by rfl) w.heap.size 129 i0 pZ 6 80 Tryz.underlying50 hi hq0 hq1 hq2 rfl (by decide) v L.length _ (by rfl) (HO2.out.own.alloc _) (w2.heap.size + 1) (some ⟨w2.heap.size, 0, none⟩) 1 1 (prV (⟨nm, Vl.mk kx ix tx sx lx⟩, Value.slice A' n' c')) (by rfl) (Reads.blk (Blk.new _ _ _) rfl) (prV_one _ ⟨_, _, _, rfl⟩) hkm hkb (by have := HBA.out.size; have := HBB.out.size; simp; omega) ?_; intro v' w3 hown3 hg3 hat3; have hkp : ∀ i, w3.cell? ⟨W1.heap.size, i, none⟩ = w2.cell? ⟨W1.heap.size, i, none⟩ := fun i => (World.cell?_of_block (hg3.block W1.heap.size (by have := HBB.out.size; simp; omega) (fun e => by have := hvw _ e.symm; omega))).trans (World.cell?_alloc_lt _ _ _ (by show W1.heap.size < w2.heap.size; have := HBB.out.size; omega)); have f0 := (hkp 0).trans e0; have f1 := (hkp 1).trans e1; have f2 := (hkp 2).trans e2; have f3 := (hkp 3).trans e3; have f4 := (hkp 4).trans e4; have f5 := (hkp 5).trans e5; clear hkp))
      have HO3 : Hid (OwnX prV 6 129 NP w3 w.heap.size v' (L ++ [(⟨nm, Vl.mk kx ix tx sx lx⟩, Value.slice A' n' c')])) := (HO2.out.below NP_ok ((Below.refl _ _).alloc (Nat.le_refl _) (.cells #[.string nm, .int .i64 kx, .int .i64 ix, .int .i64 tx, .string sx, .slice A' n' c'] 129))).app NP_ok (S := fun b => wa.heap.size ≤ b ∧ b < w2.heap.size) (HRV.out.keep fun p hp => World.cell?_alloc_lt _ _ _ hp.2) (fun b hb => ⟨by omega, by simp; omega, fun e => by have := hvw b e; omega⟩) hown3 hg3 hat3
      have HB3 : Hid (Below w.heap.size w w3) := ((HBA.out.trans (HBB.out.mono HBA.out.size)).alloc (by have := HBA.out.size; have := HBB.out.size; omega) _).grown hg3 (by have := HBA.out.size; have := HBB.out.size; simp; omega) (fun g hg => (hown.out.blocks g hg).1)
      have HL3 : Hid ((L ++ [((⟨nm, Vl.mk kx ix tx sx lx⟩ : Pr), Value.slice A' n' c')]).map Prod.fst = (M.map Prod.fst).take (k + 1)) := by
        show _ = _
        rw [List.map_append, hL.out, HLK.out]; rfl
      clear hown3 hg3 hat3 e0 e1 e2 e3 e4 e5
      go_wp2_with fail
      go_roundg (n - (k + 1))
      case measure => omega
      case rel => exact ⟨k + 1, v', _, by omega, rfl, by go_num, HL3, HO3, HB3⟩
    · obtain rfl : n = k := by omega
      obtain ⟨Ar, cr, rfl, hcr, hrd⟩ := RdX.of_own hown.out.own
      have HL' : Hid (L.map Prod.fst = M.map Prod.fst) := hL.out.trans (by rw [List.take_of_length_le (by rw [List.length_map, ← HN.out]; exact Nat.le_refl _)])
      obtain rfl : L.length = n := HLL.out
      have hnone : Ar = none → L.length = 0 ∧ cr = 0 := fun e => by
        rcases hown.out.own.2 with ⟨h, h0⟩ | ⟨g, cap, cur, h, _⟩
        · injection h with _ _ h2
          omega
        · injection h with h; rw [e] at h; cases h
      have HCL := Lib.hid fun W => clipP_any Ar L.length cr W hcr hnone
      have HRX : Hid (RPrX W1 (fun b => w.heap.size ≤ b ∧ b < W1.heap.size) (.slice Ar L.length L.length) (M.map Prod.fst)) :=
        ⟨Ar, L.length, L.length, L, HL'.out, rfl, rfl, ⟨Nat.le_refl _, hbig⟩, hrd.weak fun b hb => ⟨hb.2.1, hb.2.2⟩, fun x hx => (hown.out.nest x hx).weak fun b hb => ⟨hb.1, hb.2.1⟩⟩
      clear hcr hrd hnone
      go_wp2_with fail
      refine (HCL.out _).mono ?_
      rintro e w4 ⟨rfl, rfl⟩
      go_wp2_with fail
      go_ret
      exact ⟨⟨Ar, L.length, L.length, rfl, HRX.out⟩, hbel.out⟩
/-- prop.CopyProps -/
theorem copyProps_any (A : Option Addr) (n c : Nat) (l : List Pr) (w : World) (B : Nat) (hB : B ≤ w.heap.size) (h : RPr w B (.slice A n c) l) :
    Calls Tryz.prog 73 #[.slice A n c] w (CopyPR l w) := by
  obtain ⟨A', n', c', M, rfl, e, h3, h4, h5, h6⟩ := h
  injection e with e1 e2 e3
  subst e1 e2 e3
  refine copyProps_walk M A n c w B hB h5 h3 h4.2 (fun z hz => (h6 z hz).slice) fun z hz W hW => ?_
  obtain ⟨d, hd⟩ := h6 z hz
  exact copyValue_any d (z.1.val, z.2) W B (Nat.le_trans hB hW.size) (hd.below (hW.mono hB))
end Go.Proofs.YtmkicfjcgbfaaaaGreatDoor
namespace Go.Proofs
open Go.Shelf Go.RowKit Go.Lib Go.Sort
namespace YtmkicfjcgbfaaaaGreatDoor
/-- a property, its items' slice told apart -/
abbrev SPr := Pr × (Option Addr × Nat × Nat)
instance : Inhabited SPr := ⟨(⟨⟨#[]⟩, Vl.mk 0 0 0 ⟨#[]⟩ []⟩, none, 0, 0)⟩
def spP (x : SPr) : Pr × Value := (x.1, .slice x.2.1 x.2.2.1 x.2.2.2)
def spV (x : SPr) : List Value := prV (spP x)
theorem sp_one (x : SPr) : ∀ v ∈ spV x, v.oneCell' = true := prV_one (spP x) ⟨_, _, _, rfl⟩
def cfS (x y : SPr) : Int := Lib.compareBytes x.1.name.data.toList y.1.name.data.toList
set_option maxHeartbeats 1000000 in
theorem with1_any (x y : SPr) (W : World) : Calls Tryz.prog 113 #[.agg (spV x).toArray, .agg (spV y).toArray] W fun e w' => e = .returned (.int .i64 (cfS x y)) ∧ ∃ q os', w' = grow (W.drewN q) os' := by
  have hcon := fun W' => Any.strings_Compare Tryz.lays106 x.1.name y.1.name W'
  change ∀ W', Calls Tryz.prog 114 _ _ _ at hcon
  unfold cfS spV prV vlV spP
  generalize Lib.compareBytes x.1.name.data.toList y.1.name.data.toList = r at hcon ⊢
  go_enter Tryz.func113, Tryz.ntmps113
  go_wp2_with (go_at_call 114; refine (hcon _).mono ?_; rintro e w' ⟨rfl, rfl⟩)
  go_ret
  exact ⟨rfl, 0, _, by rw [alloc_eq_grow, alloc_eq_grow, grow_grow]; rfl⟩
theorem ltS (x y : SPr) : ltOf cfS x y = bl x.1.name y.1.name := by
  unfold ltOf cfS
  rw [← tl_data, ← tl_data, Bool.eq_iff_iff, bl_lt]
  simp [cmpB_neg]
theorem swoS : SWO (ltOf cfS) where
  irrefl x := by rw [ltS]; exact bl_irrefl _
  trans x y z h1 h2 := by rw [ltS] at *; exact bl_trans h1 h2
  ntrans x y z h1 h2 := by
    rw [ltS] at *
    cases h : bl x.1.name z.1.name
    · rfl
    · exfalso
      cases h3 : bl z.1.name y.1.name
      · have e := bl_tri h3 h2
        rw [e, h1] at h; cases h
      · have := bl_trans h h3; rw [h1] at this; cases this
theorem cmpLaysS (blk off size : Nat) (w : World) : CmpLays Tryz.prog 113 #[] spV 6 cfS blk off size w :=
  fun _ _ _ _ x y => with1_any x y _
end YtmkicfjcgbfaaaaGreatDoor
end Go.Proofs
