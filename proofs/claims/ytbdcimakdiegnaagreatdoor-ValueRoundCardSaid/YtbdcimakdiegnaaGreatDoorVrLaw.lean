/-
  DERIVED. The walk of the law ValueRound. Conditions: tables are laid. By an AI agent.
-/
import Derived.Test.YtbdcimakdiegnaaGreatDoorRvRead
import Derived.Test.YtbdcimakdiegnaaGreatDoorVa17
import Derived.Test.YtbdcimakdiegnaaGreatDoorVa10
import Derived.Test.YtbdcimakdiegnaaGreatDoorVa01
namespace Go.Proofs.YtbdcimakdiegnaaGreatDoor
open Go.RowKit

set_option maxHeartbeats 2000000 in
set_option maxRecDepth 100000 in
theorem valueLaw (x : Vl) (A : Option Addr) (n c : Nat) (m : Int) (w : World) (B : Nat) (hB : B ≤ w.heap.size) (hx : RV w B (.slice A n c) x.items) (hE : En m w) :
    Calls Tryz.prog 3 #[AV (x, .slice A n c)] w fun e w' => e = .returned (.bool true) ∧ Below w.heap.size w w' := by
  obtain ⟨X, hX⟩ : ∃ X, X = w.alloc (.cells #[.int .i64 x.kind, .int .i64 x.int_, .int .i64 x.to_, .string x.text, .slice A n c] 24) := ⟨_, rfl⟩
  have hBX : Below w.heap.size w X := by rw [hX]; exact (Below.refl _ _).alloc (Nat.le_refl _) _
  have hKX : Blk X w.heap.size 24 #[.int .i64 x.kind, .int .i64 x.int_, .int .i64 x.to_, .string x.text, .slice A n c] := by rw [hX]; exact Blk.new _ _ _
  have hEX : En m X := hE.below hBX
  have hxX : RV X B (.slice A n c) x.items := hx.below (hBX.mono hB)
  have TX := Lib.hid (text_any x A n c X B (Nat.le_trans hB hBX.size) hxX hEX.pow)
  have AW := Lib.hid (awakeProp_any X)
  have HX := Lib.hid hX
  have HBX := Lib.hid hBX
  have HKX := Lib.hid hKX
  have HEX := Lib.hid hEX
  have HXX := Lib.hid hxX
  have hzX : w.heap.size < X.heap.size := hKX.lt
  have hBX2 : B ≤ X.heap.size := Nat.le_trans hB hBX.size
  unfold TxP txS at TX
  clear hX hBX hKX hEX hxX hx hE
  by_cases hv : vErr x = 0
  · have hrd := rdV_wr hv
    rw [if_pos hv, hv] at TX
    obtain ⟨S, hS⟩ : ∃ S, S = wrV x := ⟨_, rfl⟩
    rw [← hS] at TX
    have hSt : tx x = S.data.toList := by rw [hS]; rfl
    rw [hSt] at hrd
    have HRD := Lib.hid hrd
    have HS := Lib.hid hS
    have HVE := Lib.hid hv
    clear hv hrd hS hSt
    obtain ⟨k, i, t, s, l⟩ := x
    dsimp only [AV, Vl.kind, Vl.int_, Vl.to_, Vl.text, Vl.items] at TX HX HKX HXX ⊢
    have b0 := fun i => HKX.out.cell i
    go_enter Tryz.func3, Tryz.ntmps3
    go_upto_region 1 with fail
    rw [← HX.out]
    go_wp2_with fail
    refine AW.out.mono ?_
    rintro e w1 ⟨rfl, rfl⟩
    go_wp2_with fail
    refine TX.out.mono ?_
    rintro e w2 ⟨rfl, hz2, b2⟩
    have HB2 := Lib.hid (HBX.out.trans (b2.mono (by omega)))
    have HK2 := Lib.hid (HKX.out.below b2 hzX)
    have HE2 := Lib.hid (HEX.out.below b2)
    have HX2 := Lib.hid (HXX.out.below (b2.mono hBX2))
    have hzz2 := b2.size
    have hrd2 : rdV S.data.toList = (Vl.mk k i t s l, 0) := by
      rw [HRD.out, if_neg (by rw [← Lib.size_eq]; omega)]
    have RD := read_any S m w2 HE2.out
    rw [hrd2] at RD
    have RD := Lib.hid RD
    have j1 : ¬ (400000 : Int) < (S.size : Int) := by omega
    clear b2 b0 hrd2
    go_wp2_with fail
    refine RD.out.mono ?_
    rintro e w3 ⟨⟨⟨k', i', t', s', l'⟩, vx⟩, rfl, hyx, m3, b3⟩
    obtain ⟨A3, n3, c3, rfl⟩ := m3.slice
    dsimp only at hyx
    injection hyx with q1 q2 q3 q4 q5
    subst q1 q2 q3 q4 q5
    dsimp only [AV, Vl.kind, Vl.int_, Vl.to_, Vl.text, Vl.items] at m3 ⊢
    obtain ⟨W, hW⟩ : ∃ W, W = w3.alloc (.cells #[.int .i64 k', .int .i64 i', .int .i64 t', .string s', .slice A3 n3 c3] 24) := ⟨_, rfl⟩
    have bW : Below w3.heap.size w3 W := by rw [hW]; exact (Below.refl _ _).alloc (Nat.le_refl _) _
    have HKV : Hid (Blk W w3.heap.size 24 #[.int .i64 k', .int .i64 i', .int .i64 t', .string s', .slice A3 n3 c3]) := by
      rw [hW]; exact Blk.new _ _ _
    have hb3z := b3.size
    have b2W : Below w2.heap.size w2 W := b3.trans (bW.mono hb3z)
    have HB4 := Lib.hid (HB2.out.trans (b2W.mono (by omega)))
    have HK4 := Lib.hid (HK2.out.below b2W HK2.out.lt)
    have HE4 := Lib.hid (HE2.out.below b2W)
    have hzW := HKV.out.lt
    have hx4 : RV W W.heap.size (.slice A n c) l' := (HX2.out.below (b2W.mono (by omega))).more (by omega)
    have hy4 : RV W W.heap.size (.slice A3 n3 c3) l' := (m3.reads (B := w3.heap.size) (fun b hb => hb.2)).below bW |>.more (by omega)
    have T4 := text_any (.mk k' i' t' s' l') A3 n3 c3 W W.heap.size (Nat.le_refl _) hy4 HE4.out.pow
    unfold TxP txS at T4
    rw [if_pos HVE.out, HVE.out, ← HS.out] at T4
    have T4 := Lib.hid T4
    have CM : Hid (∀ W', Below W.heap.size W W' → Calls Tryz.prog 9 #[AV (.mk k' i' t' s' l', .slice A n c), AV (.mk k' i' t' s' l', .slice A3 n3 c3)] W' fun e w' => e = .returned (.int .i64 0) ∧ Below W'.heap.size W' w') := fun W' hW' => by
      have := compare_any (.mk k' i' t' s' l', .slice A n c) (.mk k' i' t' s' l', .slice A3 n3 c3) W' W.heap.size hW'.size (hx4.below hW') (hy4.below hW')
      rw [cmpP_refl] at this
      exact this
    have HW := Lib.hid hW
    dsimp only [AV, Vl.kind, Vl.int_, Vl.to_, Vl.text] at T4 CM
    clear m3 b3 bW b2W hW hx4 hy4 RD
    go_upto_region 7 with fail
    rw [← HW.out]
    have v4 := fun i => HKV.out.cell i
    go_wp2_with fail
    refine T4.out.mono ?_
    rintro e w5 ⟨rfl, _hz5, b5⟩
    have HB5 := Lib.hid (HB4.out.trans (b5.mono HB4.out.size))
    have HK5 := Lib.hid (HK4.out.below b5 HK4.out.lt)
    have HV5 := Lib.hid (HKV.out.below b5 HKV.out.lt)
    have CM5 := Lib.hid (CM.out w5 b5)
    clear b5 v4
    have b6 := fun i => HK5.out.cell i
    have v6 := fun i => HV5.out.cell i
    go_wp2_with fail
    refine CM5.out.mono ?_
    rintro e w6 ⟨rfl, h6⟩
    have HB6 := Lib.hid (HB5.out.trans (h6.mono HB5.out.size))
    clear h6
    go_wp2_with fail
    go_ret
    exact ⟨rfl, HB6.out⟩
  · rw [if_neg hv] at TX
    obtain ⟨V, hV⟩ : ∃ V, V = vErr x := ⟨_, rfl⟩
    rw [← hV] at TX hv
    have k1 : (V != 0) = true := bne_iff_ne.2 hv
    clear hv hV
    obtain ⟨k, i, t, s, l⟩ := x
    dsimp only [AV, Vl.kind, Vl.int_, Vl.to_, Vl.text, Vl.items] at TX HX HKX HXX ⊢
    have b0 := fun i => HKX.out.cell i
    go_enter Tryz.func3, Tryz.ntmps3
    go_upto_region 1 with fail
    rw [← HX.out]
    go_wp2_with fail
    refine AW.out.mono ?_
    rintro e w1 ⟨rfl, rfl⟩
    go_wp2_with fail
    refine TX.out.mono ?_
    rintro e w2 ⟨rfl, hz2, b2⟩
    have HB2 := Lib.hid (HBX.out.trans (b2.mono (by omega)))
    clear b2
    go_wp2_with fail
    go_ret
    exact ⟨rfl, HB2.out⟩
end Go.Proofs.YtbdcimakdiegnaaGreatDoor
