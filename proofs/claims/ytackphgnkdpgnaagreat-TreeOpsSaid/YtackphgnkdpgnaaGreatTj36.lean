/-
  DERIVED. The walk of prop.Put where there is no error. Conditions: sizes.
  By an AI agent.
-/
import Derived.Test.YtackphgnkdpgnaaGreatTj35
namespace Go.Proofs.YtackphgnkdpgnaaGreat
open Go.RowKit

/-- what Put leaves -/
def PutR (l : List Pr) (w : World) (e : Ending) (w' : World) : Prop := (∃ A n c, e = .returned (.tuple #[.slice A n c, .int .i64 0]) ∧ RPrX w' (fun b => w.heap.size ≤ b ∧ b < w'.heap.size) (.slice A n c) l) ∧ Below w.heap.size w w'

set_option maxRecDepth 100000 in
set_option maxHeartbeats 4000000 in
/-- prop.Put without an error -/
theorem put_ok (A : Option Addr) (n c : Nat) (l : List Pr) (s : ByteArray) (v : Vl) (Av : Option Addr) (nv cv : Nat) (w : World) (B : Nat) (hB : B ≤ w.heap.size) (h : RPr w B (.slice A n c) l) (hcp : cpErr l = 0) (hv : RV w B (.slice Av nv cv) v.items) (hs : nmErr s = 0) (hve : vErr v = 0) (hl : (setPr l s v).length ≤ 20) :
    Calls Tryz.prog 65 #[.slice A n c, .string s, AV (v, .slice Av nv cv)] w (PutR (setPr l s v) w) := by
  obtain ⟨wb, hwb⟩ : ∃ wb, wb = w.alloc (.cells #[.int .i64 v.kind, .int .i64 v.int_, .int .i64 v.to_, .string v.text, .slice Av nv cv] 30) := ⟨_, rfl⟩
  have HWB0 : Hid (Below w.heap.size w wb) := by rw [hwb]; exact (Below.refl _ _).alloc (Nat.le_refl _) _
  have P0 : Hid (Blk wb w.heap.size 30 #[.int .i64 v.kind, .int .i64 v.int_, .int .i64 v.to_, .string v.text, .slice Av nv cv]) := by rw [hwb]; exact Blk.new _ _ _
  have HP := Lib.hid fun W (hW : Below w.heap.size w W) => checkProps_any (.slice A n c) l W B (Nat.le_trans hB hW.size) (h.below (hW.mono hB))
  have HNM := Lib.hid fun W => checkName_any s W
  have HWI := Lib.hid fun W (hW : Below w.heap.size w W) => with_any A n c l s v Av nv cv W B (Nat.le_trans hB hW.size) (h.below (hW.mono hB)) hcp (hv.below (hW.mono hB))
  obtain ⟨dv, hdv⟩ := hv
  have HCV := Lib.hid fun W (hW : Below w.heap.size w W) => checkValue_any dv (v, .slice Av nv cv) W B (Nat.le_trans hB hW.size) (hdv.below (hW.mono hB))
  rw [hcp] at HP
  rw [hs] at HNM
  dsimp only at HCV
  rw [hve] at HCV
  have HWB := Lib.hid hwb
  have HL := Lib.hid hl
  dsimp only [AV] at HCV HWI ⊢
  clear h hcp hdv hwb hs hve hl
  go_enter Tryz.func65, Tryz.ntmps65
  go_upto_region 1 with fail
  rw [← HWB.out]
  go_wp2_with fail
  refine (HP.out wb HWB0.out).mono ?_
  rintro e w1 ⟨rfl, hb1⟩
  have HB1 : Hid (Below w.heap.size w w1) := HWB0.out.trans (hb1.mono HWB0.out.size)
  have P1 := Lib.hid (P0.out.below hb1 P0.out.lt)
  clear hb1
  go_wp2_with fail
  refine (HNM.out w1).mono ?_
  rintro e w2 ⟨rfl, hw2⟩
  rw [hw2]
  clear hw2
  have e0 := P1.out.cell 0
  have e1 := P1.out.cell 1
  have e2 := P1.out.cell 2
  have e3 := P1.out.cell 3
  have e4 := P1.out.cell 4
  go_wp2_with fail
  refine (HCV.out w1 HB1.out).mono ?_
  rintro e w3 ⟨rfl, hb3⟩
  have HB3 : Hid (Below w.heap.size w w3) := HB1.out.trans (hb3.mono HB1.out.size)
  have P3 := Lib.hid (P1.out.below hb3 P1.out.lt)
  clear hb3 e0 e1 e2 e3 e4
  have e0 := P3.out.cell 0
  have e1 := P3.out.cell 1
  have e2 := P3.out.cell 2
  have e3 := P3.out.cell 3
  have e4 := P3.out.cell 4
  go_wp2_with fail
  refine (HWI.out w3 HB3.out).mono ?_
  rintro e w4 ⟨⟨A4, n4, c4, rfl, hrx⟩, hb4⟩
  have HB4 : Hid (Below w.heap.size w w4) := HB3.out.trans (hb4.mono HB3.out.size)
  have hz3 := HB3.out.size
  have HRX : Hid (RPrX w4 (fun b => w.heap.size ≤ b ∧ b < w4.heap.size) (.slice A4 n4 c4) (setPr l s v)) := hrx.weak fun b hb => ⟨by omega, hb.2⟩
  have hn4 : n4 ≤ 20 := by
    have h1 := (hrx.reads (B := w4.heap.size) fun b hb => hb.2).len.1
    have := HL.out
    omega
  clear hrx hb4 e0 e1 e2 e3 e4
  go_wp2_with fail
  go_ret2
  exact ⟨⟨A4, n4, c4, rfl, HRX.out⟩, HB4.out⟩
end Go.Proofs.YtackphgnkdpgnaaGreat
