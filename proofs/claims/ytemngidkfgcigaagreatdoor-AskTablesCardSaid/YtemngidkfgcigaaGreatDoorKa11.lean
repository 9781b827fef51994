/-
  DERIVED. The walks of slices.Clip at values and of prop.CopyValue. Conditions: sizes.
  The walks of prop.find, prop.Get, prop.same and florkeep2.sameProps' closure. Conditions: sizes.
  By an AI agent.
-/
import Derived.Test.YtemngidkfgcigaaGreatDoorKa09
import Derived.Deep.DeepCutAuto
import Derived.Test.YtemngidkfgcigaaGreatDoorKa07
import Derived.Deep.LoopGhost
import Derived.Deep.RegionHeld3
namespace Go.Proofs.YtemngidkfgcigaaGreatDoor
open Go.RowKit

set_option maxHeartbeats 400000 in
theorem clipV_any (A : Option Addr) (n c : Nat) (w : World) (hn : n ≤ c) (_h0 : A = none → n = 0 ∧ c = 0) :
    Calls Tryz.prog 22 #[.slice A n c] w fun e w' => e = .returned (.slice A n n) ∧ w' = w := by
  have i0 : (0 : Int) ≤ (n : Int) := by omega
  have i1 : (n : Int) ≤ (c : Int) := by omega
  go_enter Tryz.func22, Tryz.ntmps22
  go_wp2_with fail
  go_ret
  exact ⟨rfl, rfl⟩
def vZ : Value := .agg #[.int .i64 0, .int .i64 0, .int .i64 0, .string ⟨#[]⟩, .slice none 0 0]
theorem val_info : (Tryz.prog.info? 41).map (fun i => (i.zero, i.size, i.bytes)) = some (some vZ, 5, 64) := by kernel_rfl
/-- what copying a value leaves -/
def CopyR (x : Vl) (w : World) (e : Ending) (w' : World) : Prop := (∃ A n c, e = .returned (AV (x, .slice A n c)) ∧ RVX w' (fun b => w.heap.size ≤ b ∧ b < w'.heap.size) (.slice A n c) x.items) ∧ Below w.heap.size w w'
set_option maxRecDepth 100000 in
set_option maxHeartbeats 4000000 in
theorem copyVal_walk (x : Vl × Value) (M : List (Vl × Value)) (A : Option Addr) (n c : Nat) (w : World) (B : Nat) (hB : B ≤ w.heap.size) (hx : x.2 = .slice A n c) (hl : M.map Prod.fst = x.1.items) (h1 : Reads w B 5 A n (M.flatMap vlV)) (hn : n = M.length) (hbig : n * 64 ≤ 140737488351232)
    (hs1 : ∀ x ∈ M, ∃ A n c, x.2 = .slice A n c)
    (hcl : ∀ x ∈ M, ∀ W, Below w.heap.size w W → Calls Tryz.prog 46 #[AV x] W (CopyR x.1 W)) :
    Calls Tryz.prog 46 #[AV x] w (CopyR x.1 w) := by
  obtain ⟨i0, hi, hq0, hq1, hq2⟩ := info_parts val_info
  obtain ⟨⟨k0, i, t, s, l⟩, v⟩ := x
  obtain rfl : v = _ := hx
  obtain rfl : _ = l := hl
  have H1 := Lib.hid h1
  have HN := Lib.hid hn
  have HC := Lib.hid hcl
  have S1 := Lib.hid hs1
  clear h1 hn hcl hs1
  dsimp only [AV, Vl.kind, Vl.int_, Vl.to_, Vl.text]
  obtain ⟨wb, hwb⟩ : ∃ wb, wb = (w.alloc (.cells #[.int .i64 k0, .int .i64 i, .int .i64 t, .string s, .slice A n c] 41)).alloc (.cells #[.int .i64 0, .int .i64 0, .int .i64 0, .string ⟨#[]⟩, .slice none 0 0] 41) := ⟨_, rfl⟩
  have p0 : Blk wb w.heap.size 41 #[.int .i64 k0, .int .i64 i, .int .i64 t, .string s, .slice A n c] := by rw [hwb]; exact (Blk.new w _ _).alloc _
  have p1 : Blk wb (w.heap.size + 1) 41 #[.int .i64 0, .int .i64 0, .int .i64 0, .string ⟨#[]⟩, .slice none 0 0] := by
    rw [hwb]
    have h := Blk.new (w.alloc (.cells #[.int .i64 k0, .int .i64 i, .int .i64 t, .string s, .slice A n c] 41)) 41 #[.int .i64 0, .int .i64 0, .int .i64 0, .string ⟨#[]⟩, .slice none 0 0]
    simpa only [World.size_alloc] using h
  have HWB0 : Hid (Below w.heap.size w wb) := by rw [hwb]; exact ((Below.refl _ _).alloc (Nat.le_refl _) _).alloc (by simp) _
  have hzb : wb.heap.size = w.heap.size + 2 := by rw [hwb]; simp
  have m4 : wb.cell? ⟨w.heap.size, 4, none⟩ = some (.slice A n c) := p0.cell 4
  have P0 := Lib.hid p0
  have P1 := Lib.hid p1
  have HWB := Lib.hid hwb
  have HZB := Lib.hid hzb
  have HS : Hid (OwnX vlV 5 41 NV wb (w.heap.size + 2) (.slice none 0 0) []) := OwnX.start _ _
  clear p0 p1 hwb hzb
  go_enter Tryz.func46, Tryz.ntmps46
  go_upto_region 2 with fail
  rw [← HWB.out]
  go_wp2_with fail
  go_loopg [3, 9] n (fun gg s3 s9 wr => ∃ (k : Nat) (v : Value) (L : List (Vl × Value)), k + gg = n ∧ v = s3 ∧ s9 = .int .i64 (k : Int) ∧ Hid (L.map Prod.fst = (M.map Prod.fst).take k) ∧ Hid (OwnX vlV 5 41 NV wr (w.heap.size + 2) v L) ∧ Hid (Below w.heap.size w wr) ∧ Hid (Blk wr w.heap.size 41 #[.int .i64 k0, .int .i64 i, .int .i64 t, .string s, .slice A n c]) ∧ Hid (Blk wr (w.heap.size + 1) 41 #[.int .i64 0, .int .i64 0, .int .i64 0, .string ⟨#[]⟩, .slice none 0 0]))
  case atStart => exact ⟨0, _, [], by omega, rfl, rfl, rfl, HS, HWB0, P0, P1⟩
  case round =>
    obtain ⟨k, v, L, hkg, rfl, rfl, hL, hown, hbel, hp0, hp1⟩ := hrel
    obtain ⟨W1, rfl⟩ : ∃ W1, W1 = wr := ⟨_, rfl⟩
    have hzr : w.heap.size + 1 < W1.heap.size := hp1.out.lt
    have HLL : Hid (L.length = k) := by
      show _ = _
      have := congrArg List.length hL.out
      rw [List.length_map, List.length_take, List.length_map, ← HN.out] at this
      omega
    by_cases hk : k < n
    · obtain ⟨y, hy⟩ : ∃ y, M[k]? = some y := ⟨_, List.getElem?_eq_getElem (by have := HN.out; omega)⟩
      obtain ⟨b, off, rfl, hbb, hc⟩ := H1.out.plain_at (by omega) vlV_len HN.out hy
      have HLK : Hid ((M.map Prod.fst).take (k + 1) = (M.map Prod.fst).take k ++ [y.1]) := by
        show _ = _
        obtain ⟨hkk, e⟩ := List.getElem?_eq_some_iff.1 hy
        rw [List.take_succ_eq_append_getElem (by rw [List.length_map]; exact hkk), List.getElem_map, e]
      have HX := HC.out y (List.mem_of_getElem? hy)
      obtain ⟨⟨kx, ix, tx, sx, lx⟩, vx⟩ := y
      obtain ⟨Ax, nx, cx, rfl⟩ := S1.out _ (List.mem_of_getElem? hy)
      have g0 : W1.cell? ⟨b, off + k * 5, none⟩ = some (.int .i64 kx) := (hbel.out.cell (p := ⟨b, off + k * 5, none⟩) (by show b < _; omega)).trans (hc 0 _ rfl)
      have g1 : W1.cell? ⟨b, off + k * 5 + 1, none⟩ = some (.int .i64 ix) := (hbel.out.cell (p := ⟨b, off + k * 5 + 1, none⟩) (by show b < _; omega)).trans (hc 1 _ rfl)
      have g2 : W1.cell? ⟨b, off + k * 5 + 2, none⟩ = some (.int .i64 tx) := (hbel.out.cell (p := ⟨b, off + k * 5 + 2, none⟩) (by show b < _; omega)).trans (hc 2 _ rfl)
      have g3 : W1.cell? ⟨b, off + k * 5 + 3, none⟩ = some (.string sx) := (hbel.out.cell (p := ⟨b, off + k * 5 + 3, none⟩) (by show b < _; omega)).trans (hc 3 _ rfl)
      have g4 : W1.cell? ⟨b, off + k * 5 + 4, none⟩ = some (.slice Ax nx cx) := (hbel.out.cell (p := ⟨b, off + k * 5 + 4, none⟩) (by show b < _; omega)).trans (hc 4 _ rfl)
      have j0 : (0 : Int) ≤ (k : Int) := by omega
      have j1 : (k : Int) < (n : Int) := by omega
      obtain ⟨wa, hwa⟩ : ∃ wa, wa = W1.alloc (.cells #[.int .i64 kx, .int .i64 ix, .int .i64 tx, .string sx, .slice Ax nx cx] 41) := ⟨_, rfl⟩
      have hal : Below W1.heap.size W1 wa := by rw [hwa]; exact (Below.refl _ _).alloc (Nat.le_refl _) _
      have hza : W1.heap.size < wa.heap.size := by rw [hwa]; simp
      have q0 : Blk wa W1.heap.size 41 #[.int .i64 kx, .int .i64 ix, .int .i64 tx, .string sx, .slice Ax nx cx] := by rw [hwa]; exact Blk.new _ _ _
      have d0 : wa.cell? ⟨W1.heap.size, 0, none⟩ = some (.int .i64 kx) := q0.cell 0
      have d1 : wa.cell? ⟨W1.heap.size, 1, none⟩ = some (.int .i64 ix) := q0.cell 1
      have d2 : wa.cell? ⟨W1.heap.size, 2, none⟩ = some (.int .i64 tx) := q0.cell 2
      have d3 : wa.cell? ⟨W1.heap.size, 3, none⟩ = some (.string sx) := q0.cell 3
      have d4 : wa.cell? ⟨W1.heap.size, 4, none⟩ = some (.slice Ax nx cx) := q0.cell 4
      have HBA : Hid (Below w.heap.size w wa) := hbel.out.trans (hal.mono hbel.out.size)
      have HX' := Lib.hid (HX wa HBA.out)
      dsimp only [AV, Vl.kind, Vl.int_, Vl.to_, Vl.text] at HX'
      have HOA := Lib.hid (hown.out.below NV_ok hal)
      have HP0A := Lib.hid (hp0.out.below hal (by omega))
      have HP1A := Lib.hid (hp1.out.below hal (by omega))
      have HWA := Lib.hid hwa
      clear hy hc HX hwa hal q0
      go_upto_region 5 with fail
      rw [← HWA.out]
      clear g0 g1 g2 g3 g4
      go_upto_region 5 with fail
      go_wp2_with fail
      refine HX'.out.mono ?_
      rintro e w2 ⟨⟨A', n', c', rfl, hrv⟩, hb⟩
      dsimp only [AV, Vl.kind, Vl.int_, Vl.to_, Vl.text]
      have HB2 : Hid (Below w.heap.size w w2) := HBA.out.trans (hb.mono HBA.out.size)
      have hz2 : wa.heap.size ≤ w2.heap.size := hb.size
      have HO2 := HOA.out.below NV_ok hb
      have HRV := Lib.hid hrv
      have HP02 := Lib.hid (HP0A.out.below hb (by omega))
      have HP12 := Lib.hid (HP1A.out.below hb (by omega))
      have hvb := HOA.out.blocks
      clear hb hrv
      have hal : Below w2.heap.size w2 (w2.alloc (.cells #[.int .i64 kx, .int .i64 ix, .int .i64 tx, .string sx, .slice A' n' c'] 41)) := (Below.refl _ _).alloc (Nat.le_refl _) _
      have q0 : Blk (w2.alloc (.cells #[.int .i64 kx, .int .i64 ix, .int .i64 tx, .string sx, .slice A' n' c'] 41)) w2.heap.size 41 #[.int .i64 kx, .int .i64 ix, .int .i64 tx, .string sx, .slice A' n' c'] := Blk.new _ _ _
      have HOC := Lib.hid (HO2.below NV_ok hal)
      have HBC : Hid (Below w.heap.size w (w2.alloc (.cells #[.int .i64 kx, .int .i64 ix, .int .i64 tx, .string sx, .slice A' n' c'] 41))) := HB2.out.trans (hal.mono HB2.out.size)
      have HRC : Hid (RVX (w2.alloc (.cells #[.int .i64 kx, .int .i64 ix, .int .i64 tx, .string sx, .slice A' n' c'] 41)) (fun b => wa.heap.size ≤ b ∧ b < w2.heap.size) (.slice A' n' c') lx) := HRV.out.keep (fun p hp => hal.cell hp.2)
      have HP0C := Lib.hid (HP02.out.below hal (by omega))
      have HP1C := Lib.hid (HP12.out.below hal (by omega))
      have HRD : Hid (Reads (w2.alloc (.cells #[.int .i64 kx, .int .i64 ix, .int .i64 tx, .string sx, .slice A' n' c'] 41)) (w2.heap.size + 1) 5 (some ⟨w2.heap.size, 0, none⟩) 1 (vlV (Vl.mk kx ix tx sx lx, .slice A' n' c'))) := Reads.blk q0 rfl
      have hkb : (L.length + 1) * 64 ≤ 140737488355328 := by have := HLL.out; omega
      have hkm : L.length + 1 ≤ maxLen := by have := HLL.out; unfold maxLen; omega
      have hbase : w.heap.size + 2 ≤ (w2.alloc (.cells #[.int .i64 kx, .int .i64 ix, .int .i64 tx, .string sx, .slice A' n' c'] 41)).heap.size := by simp; omega
      have hsz : w2.heap.size < (w2.alloc (.cells #[.int .i64 kx, .int .i64 ix, .int .i64 tx, .string sx, .slice A' n' c'] 41)).heap.size := by simp
      have HSZ := Lib.hid hsz
      have HBASE := Lib.hid hbase
      clear hal q0 HO2 hvb hsz hbase
      go_wp2_with (at_builtin; refine wpList_append_any _ rfl _ _ 38 rfl (w.heap.size + 2) 41 i0 vZ 5 64 Tryz.underlying38 hi hq0 hq1 hq2 rfl (by decide) v L.length _ rfl HOC.out.own _ _ 1 1 _ rfl HRD.out (vlV_one _ ⟨_, _, _, rfl⟩) hkm hkb HBASE.out ?_)
      intro v' w3 hown3 hg3 hat3
      have HO3 : Hid (OwnX vlV 5 41 NV w3 (w.heap.size + 2) v' (L ++ [(Vl.mk kx ix tx sx lx, .slice A' n' c')])) := HOC.out.app NV_ok (S := fun b => wa.heap.size ≤ b ∧ b < w2.heap.size) HRC.out (fun b hb => ⟨by omega, by have := HSZ.out; omega, fun e => by have := (HOA.out.blocks b e).2; omega⟩) hown3 hg3 (by rw [World.size_alloc]; exact hat3)
      have hvb : ∀ g, v.ownBlock = some g → w.heap.size + 2 ≤ g := fun g hg => (HOC.out.blocks g hg).1
      have HB3 : Hid (Below w.heap.size w w3) := HBC.out.grown hg3 HBC.out.size (fun g hg => by have := hvb g hg; omega)
      have HP03 := Lib.hid (HP0C.out.grown hg3 (fun e => by have := hvb _ e.symm; omega))
      have HP13 := Lib.hid (HP1C.out.grown hg3 (fun e => by have := hvb _ e.symm; omega))
      have HL3 : Hid ((L ++ [(Vl.mk kx ix tx sx lx, Value.slice A' n' c')]).map Prod.fst = (M.map Prod.fst).take (k + 1)) := by
        show _ = _
        rw [List.map_append, hL.out, HLK.out]; rfl
      clear hown3 hg3 hat3 hvb
      go_wp2_with fail
      go_roundg (n - (k + 1))
      case measure => omega
      case rel => exact ⟨k + 1, v', _, by omega, rfl, by go_num, HL3, HO3, HB3, HP03, HP13⟩
    · obtain rfl : n = k := by omega
      obtain ⟨Ar, cr, rfl, hcr, hrd⟩ := RdX.of_own hown.out.own
      have HL' : Hid (L.map Prod.fst = M.map Prod.fst) := hL.out.trans (by rw [List.take_of_length_le (by rw [List.length_map, ← HN.out]; exact Nat.le_refl _)])
      obtain rfl : L.length = n := HLL.out
      have hnone : Ar = none → L.length = 0 ∧ cr = 0 := fun e => by
        rcases hown.out.own.2 with ⟨h, h0⟩ | ⟨g, cap, cur, h, _⟩
        · injection h with _ _ h2
          omega
        · injection h with h; rw [e] at h; cases h
      have HCL := Lib.hid fun W => clipV_any Ar L.length cr W hcr hnone
      have HRX : Hid (RVX W1 (fun b => w.heap.size ≤ b ∧ b < W1.heap.size ∧ b ≠ w.heap.size ∧ b ≠ w.heap.size + 1) (.slice Ar L.length L.length) (M.map Prod.fst)) := by
        show RVX _ _ _ _
        rw [← HL'.out]
        refine RVX.close rfl (Nat.le_refl _) hbig (hrd.weak fun b hb => ⟨by omega, hb.2.2, by omega, by omega⟩) fun x hx => (hown.out.nest x hx).weak fun b hb => ⟨by omega, hb.2.1, by omega, by omega⟩
      clear hcr hrd hnone
      have e0 := fun i => hp0.out.cell i
      have f0 := fun i => hp0.out.frozen i
      have e1 := fun i => hp1.out.cell i
      have f1 := fun i => hp1.out.frozen i
      go_wp2_with fail
      refine (HCL.out _).mono ?_
      rintro e w4 ⟨rfl, rfl⟩
      go_wp2_with fail
      have PF := (((((hp1.out.far (p := ⟨w.heap.size, 4, none⟩) (by show w.heap.size + 1 ≠ w.heap.size; omega) (.slice Ar L.length L.length)).set_ 0 (.int .i64 k0)).set_ 1 (.int .i64 i)).set_ 2 (.int .i64 t)).set_ 3 (.string s)).set_ 4 (.slice Ar L.length L.length)
      have HBF : Below w.heap.size w _ := (((((hbel.out.setCell (p := ⟨w.heap.size, 4, none⟩) (Nat.le_refl _) (.slice Ar L.length L.length)).setCell (p := ⟨w.heap.size + 1, 0, none⟩) (Nat.le_succ _) (.int .i64 k0)).setCell (p := ⟨w.heap.size + 1, 1, none⟩) (Nat.le_succ _) (.int .i64 i)).setCell (p := ⟨w.heap.size + 1, 2, none⟩) (Nat.le_succ _) (.int .i64 t)).setCell (p := ⟨w.heap.size + 1, 3, none⟩) (Nat.le_succ _) (.string s)).setCell (p := ⟨w.heap.size + 1, 4, none⟩) (Nat.le_succ _) (.slice Ar L.length L.length)
      obtain ⟨F, hF⟩ : ∃ F, F = ((((((w4.setCell ⟨w.heap.size, 4, none⟩ (.slice Ar L.length L.length)).setCell ⟨w.heap.size + 1, 0, none⟩ (.int .i64 k0)).setCell ⟨w.heap.size + 1, 1, none⟩ (.int .i64 i)).setCell ⟨w.heap.size + 1, 2, none⟩ (.int .i64 t)).setCell ⟨w.heap.size + 1, 3, none⟩ (.string s)).setCell ⟨w.heap.size + 1, 4, none⟩ (.slice Ar L.length L.length)) := ⟨_, rfl⟩
      rw [← hF] at PF HBF ⊢
      have hFk : ∀ p : Addr, p.block ≠ w.heap.size → p.block ≠ w.heap.size + 1 → F.cell? p = w4.cell? p := fun p h1 h2 => by
        rw [hF]
        repeat rw [World.cell?_setCell_other _ _ p _ (by intro e; subst e; first | exact h1 rfl | exact h2 rfl)]
      have hFs : F.heap.size = w4.heap.size := by rw [hF]; simp [World.setCell]
      have r0 := PF.cell 0
      have r1 := PF.cell 1
      have r2 := PF.cell 2
      have r3 := PF.cell 3
      have r4 := PF.cell 4
      refine bodyPost_ret (v := AV (.mk k0 i t s (M.map Prod.fst), .slice Ar L.length L.length)) (by simp [results, Tryz.results46, go_sem, r0, r1, r2, r3, r4, AV, Vl.kind, Vl.int_, Vl.to_, Vl.text]) rfl ⟨⟨Ar, L.length, L.length, rfl, ?_⟩, HBF⟩
      exact (HRX.out.keep (fun p hp => hFk p hp.2.2.1 hp.2.2.2)).weak fun b hb => ⟨hb.1, by rw [hFs]; exact hb.2.1⟩
/-- prop.CopyValue -/
theorem copyValue_any : ∀ (d : Nat) (x : Vl × Value) (w : World) (B : Nat), B ≤ w.heap.size → RVd w B d x.2 x.1.items →
    Calls Tryz.prog 46 #[AV x] w (CopyR x.1 w)
  | 0, x, w, B, hB, hx => by
    obtain ⟨A, n, c, M, h1, h2, h3, h4, h5, h6⟩ := hx.deeper
    have e : M = [] := by rw [← List.map_eq_nil_iff, h1]; exact hx.1
    exact copyVal_walk x M A n c w B hB h2 h1 h5 h3 h4.2 (fun z hz => (RV.slice ⟨_, h6 z hz⟩)) (fun z hz => by rw [e] at hz; cases hz)
  | d + 1, x, w, B, hB, ⟨A, n, c, M, h1, h2, h3, h4, h5, h6⟩ =>
    copyVal_walk x M A n c w B hB h2 h1 h5 h3 h4.2 (fun z hz => (RV.slice ⟨_, h6 z hz⟩)) (fun z hz W hW => copyValue_any d z W B (Nat.le_trans hB hW.size) ((h6 z hz).below (hW.mono hB)))
end Go.Proofs.YtemngidkfgcigaaGreatDoor
namespace Go.Proofs.YtemngidkfgcigaaGreatDoor
open Go.RowKit

/-- the place of the first property with a name -/
def nmFrom : List Pr → ByteArray → Nat → Int
  | [], _, _ => -1
  | x :: l, s, k => if x.name = s then (k : Int) else nmFrom l s (k + 1)
def nmOf (l : List Pr) (s : ByteArray) : Int := nmFrom l s 0
theorem nmFrom_at {l : List Pr} {k : Nat} {x : Pr} (h : l[k]? = some x) (s : ByteArray) : nmFrom (l.drop k) s k = if x.name = s then (k : Int) else nmFrom (l.drop (k + 1)) s (k + 1) := by
  obtain ⟨hk, rfl⟩ := List.getElem?_eq_some_iff.1 h
  rw [List.drop_eq_getElem_cons hk, nmFrom]
theorem nmFrom_spec : ∀ (l : List Pr) (s : ByteArray) (k : Nat), (nmFrom l s k = -1 ∧ ∀ x ∈ l, x.name ≠ s) ∨ ∃ (i : Nat) (x : Pr), nmFrom l s k = ((k + i : Nat) : Int) ∧ l[i]? = some x ∧ x.name = s
  | [], _, _ => .inl ⟨by rw [nmFrom], by simp⟩
  | x :: l, s, k => by
    rw [nmFrom]
    by_cases h : x.name = s
    · rw [if_pos h]; exact .inr ⟨0, x, rfl, rfl, h⟩
    · rw [if_neg h]
      rcases nmFrom_spec l s (k + 1) with ⟨h1, h2⟩ | ⟨i, y, h1, h2, h3⟩
      · exact .inl ⟨h1, fun y hy => by
          rcases List.mem_cons.1 hy with rfl | hy
          · exact h
          · exact h2 y hy⟩
      · exact .inr ⟨i + 1, y, by rw [h1]; congr 1; omega, by simpa using h2, h3⟩
theorem nmOf_spec (l : List Pr) (s : ByteArray) : (nmOf l s = -1 ∧ ∀ x ∈ l, x.name ≠ s) ∨ ∃ (i : Nat) (x : Pr), nmOf l s = (i : Int) ∧ l[i]? = some x ∧ x.name = s := by
  rcases nmFrom_spec l s 0 with h | ⟨i, x, h1, h2⟩
  · exact .inl h
  · exact .inr ⟨i, x, by rw [nmOf, h1]; congr 1; omega, h2⟩

set_option maxHeartbeats 400000 in
theorem find1_any (x : Pr) (u : Value) (P : Nat) (s : ByteArray) (w : World) (hP : P < w.heap.size) (hc : w.cell? ⟨P, 0, none⟩ = some (.string s)) :
    Calls Tryz.prog 60 #[AP (x, u), .pointer (some ⟨P, 0, none⟩)] w fun e w' => e = .returned (.bool (decide (x.name = s))) ∧ Below w.heap.size w w' := by
  rw [dec_toList]
  have hc' : ∀ o, (w.alloc o).cell? ⟨P, 0, none⟩ = some (.string s) := fun o => (World.cell?_alloc_lt _ _ _ hP).trans hc
  dsimp only [AP]
  go_enter Tryz.func60, Tryz.ntmps60
  go_wp2_with fail
  go_ret
  exact ⟨rfl, (Below.refl _ _).alloc (Nat.le_refl _) _⟩

set_option maxHeartbeats 2000000 in
theorem indexP_any (l : List Pr) (A : Option Addr) (n c P : Nat) (s : ByteArray) (w : World) (B : Nat) (hB : B ≤ w.heap.size) (hP : P < w.heap.size) (hPc : w.cell? ⟨P, 0, none⟩ = some (.string s)) (h : RPr w B (.slice A n c) l) :
    Calls Tryz.prog 59 #[.slice A n c, .func (.func 60) #[] #[.pointer (some ⟨P, 0, none⟩)]] w fun e w' => e = .returned (.int .i64 (nmOf l s)) ∧ Below w.heap.size w w' := by
  obtain ⟨V, hV⟩ : ∃ V, V = nmOf l s := ⟨_, rfl⟩
  rw [← hV]
  have HV : Hid (V = nmFrom (l.drop 0) s 0) := hV
  have HN := Lib.hid h.len
  have H := Lib.hid h
  have HPC := Lib.hid hPc
  clear h hV hPc
  go_enter Tryz.func59, Tryz.ntmps59
  go_wp2_with fail
  go_loopg [8] n (fun gg s8 wr => ∃ k : Nat, k + gg = n ∧ s8 = .int .i64 (k : Int) ∧ Hid (V = nmFrom (l.drop k) s k) ∧ Hid (Below w.heap.size w wr))
  case atStart => exact ⟨0, by omega, rfl, HV, Below.refl _ _⟩
  case round =>
    obtain ⟨k, hkg, rfl, hno, hbel⟩ := hrel
    have hbg : n * 80 ≤ 140737488351232 := HN.out.2.2
    by_cases hk : k < n
    · obtain ⟨x, hx⟩ : ∃ x, l[k]? = some x := ⟨_, List.getElem?_eq_getElem (by have := HN.out.1; omega)⟩
      obtain ⟨b, off, Av, nv, cv, rfl, hbb, g0, g1, g2, g3, g4, g5, _⟩ := (H.out.below (hbel.out.mono hB)).at_ hx
      have hst := hno.out.trans (nmFrom_at hx s)
      have HX := Lib.hid (find1_any x (.slice Av nv cv) P s wr (Nat.lt_of_lt_of_le hP hbel.out.size) ((hbel.out.cell (p := ⟨P, 0, none⟩) hP).trans HPC.out))
      dsimp only [AP] at HX
      have j0 : (0 : Int) ≤ (k : Int) := by omega
      have j1 : (k : Int) < (n : Int) := by omega
      clear hx
      obtain ⟨q, hq⟩ : ∃ q, decide (x.name = s) = q := ⟨_, rfl⟩
      rw [hq] at HX
      cases q
      · have HS := Lib.hid (hst.trans (if_neg (of_decide_eq_false hq)))
        clear hst hq
        go_wp2_with fail
        refine HX.out.mono ?_
        rintro e w2 ⟨rfl, hb⟩
        have HB2 : Hid (Below w.heap.size w w2) := hbel.out.trans (hb.mono hbel.out.size)
        clear hb
        go_wp2_with fail
        go_roundg (n - (k + 1))
        case measure => omega
        case rel => exact ⟨k + 1, by omega, by go_num, HS, HB2⟩
      · have HS := Lib.hid (hst.trans (if_pos (of_decide_eq_true hq)))
        clear hst hq
        go_wp2_with fail
        refine HX.out.mono ?_
        rintro e w2 ⟨rfl, hb⟩
        have HB2 : Hid (Below w.heap.size w w2) := hbel.out.trans (hb.mono hbel.out.size)
        clear hb
        go_wp2_with fail
        go_ret
        exact ⟨by rw [HS.out]; rfl, HB2.out⟩
    · obtain rfl : n = k := by omega
      have HZ : Hid (V = -1) := hno.out.trans (by rw [List.drop_of_length_le (by rw [← HN.out.1]; exact Nat.le_refl _)]; rfl)
      go_wp2_with fail
      go_ret
      exact ⟨by rw [HZ.out]; rfl, hbel.out⟩
set_option maxHeartbeats 400000 in
theorem find_any (l : List Pr) (A : Option Addr) (n c : Nat) (s : ByteArray) (w : World) (B : Nat) (hB : B ≤ w.heap.size) (h : RPr w B (.slice A n c) l) :
    Calls Tryz.prog 45 #[.slice A n c, .string s] w fun e w' => e = .returned (.int .i64 (nmOf l s)) ∧ Below w.heap.size w w' := by
  have HX := Lib.hid (indexP_any l A n c w.heap.size s (w.alloc (.cells #[.string s] 9)) B (by simp; omega) (by simp) ((Blk.new w 9 #[.string s]).cell 0) (h.below ((Below.refl _ _).alloc hB _)))
  go_enter Tryz.func45, Tryz.ntmps45
  go_wp2_with fail
  refine HX.out.mono ?_
  rintro e w2 ⟨rfl, hb⟩
  go_wp2_with fail
  go_ret
  exact ⟨rfl, ((Below.refl _ _).alloc (Nat.le_refl _) _).trans (hb.mono (by simp))⟩
end Go.Proofs.YtemngidkfgcigaaGreatDoor
