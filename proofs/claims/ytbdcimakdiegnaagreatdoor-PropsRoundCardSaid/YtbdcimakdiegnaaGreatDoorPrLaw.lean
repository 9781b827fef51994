/-
  DERIVED. The walk of the law PropsRound. Conditions: tables are laid. By an AI agent.
-/
import Derived.Test.YtbdcimakdiegnaaGreatDoorPrText
import Derived.Test.YtbdcimakdiegnaaGreatDoorPrRead
import Derived.Test.YtbdcimakdiegnaaGreatDoorVa01
namespace Go.Proofs.YtbdcimakdiegnaaGreatDoor
open Go.RowKit

set_option maxHeartbeats 2000000 in
set_option maxRecDepth 100000 in
theorem propsLaw (l : List Pr) (A : Option Addr) (n c : Nat) (m : Int) (w : World) (B : Nat) (hB : B ≤ w.heap.size) (hx : RPr w B (.slice A n c) l) (hE : En m w) :
    Calls Tryz.prog 4 #[.slice A n c] w fun e w' => e = .returned (.bool true) ∧ Below w.heap.size w w' := by
  have AW := Lib.hid (awakeProp_any w)
  have TX := propsText_any l A n c w B hB hx hE.pow
  have HE := Lib.hid hE
  have HX := Lib.hid hx
  clear hx hE
  by_cases hl : cpErr l = 0
  · have hR : ptR l = ptS l := if_pos hl
    rw [hR, hl] at TX
    by_cases hb : 400000 < (ptS l).size
    · have HRD := Lib.hid fun W => readProps_big (ptS l) W hb
      have TX := Lib.hid TX
      have j1 : (400000 : Int) < ((ptS l).size : Int) := by omega
      clear hb hR hl
      generalize ptS l = S at TX HRD j1
      go_enter Tryz.func4, Tryz.ntmps4
      go_wp2_with fail
      refine AW.out.mono ?_
      rintro e w1 ⟨rfl, rfl⟩
      go_wp2_with fail
      refine TX.out.mono ?_
      rintro e w2 ⟨rfl, hb2⟩
      have HB2 := Lib.hid hb2
      clear hb2
      go_wp2_with fail
      refine (HRD.out _).mono ?_
      rintro e w3 ⟨rfl, rfl⟩
      go_wp2_with fail
      go_ret
      exact ⟨rfl, HB2.out⟩
    · have HRD := Lib.hid fun W hW => readProps_any l m W hl (by omega) hW
      have TX := Lib.hid TX
      have j1 : ¬ (400000 : Int) < ((ptS l).size : Int) := by omega
      have HT2 : Hid (∀ A' n' c' W, RPr W W.heap.size (.slice A' n' c') l → Pow W → Calls Tryz.prog 10 #[.slice A' n' c'] W fun e w' => e = .returned (.tuple #[.string (ptS l), .int .i64 0]) ∧ Below W.heap.size W w') := fun A' n' c' W h hP => by
        have := propsText_any l A' n' c' W W.heap.size (Nat.le_refl _) h hP
        rw [hR, hl] at this
        exact this
      clear hb hR hl
      generalize ptS l = S at TX HRD j1 HT2
      go_enter Tryz.func4, Tryz.ntmps4
      go_wp2_with fail
      refine AW.out.mono ?_
      rintro e w1 ⟨rfl, rfl⟩
      go_wp2_with fail
      refine TX.out.mono ?_
      rintro e w2 ⟨rfl, hb2⟩
      have HB2 := Lib.hid hb2
      have HE2 := Lib.hid (HE.out.below hb2)
      clear hb2
      go_wp2_with fail
      refine (HRD.out _ HE2.out).mono ?_
      rintro e w3 ⟨⟨A', n', c', rfl, hr⟩, hb3⟩
      have HT3 := Lib.hid (HT2.out A' n' c' w3 (hr.reads fun b hb => hb.2) (HE2.out.below hb3).pow)
      have HB3 := Lib.hid (HB2.out.trans (hb3.mono HB2.out.size))
      clear hb3 hr HT2 HRD
      go_wp2_with fail
      refine HT3.out.mono ?_
      rintro e w4 ⟨rfl, hb4⟩
      have HB4 := Lib.hid (HB3.out.trans (hb4.mono HB3.out.size))
      clear hb4
      go_wp2_with fail
      go_ret
      exact ⟨rfl, HB4.out⟩
  · have hR : ptR l = ⟨#[]⟩ := if_neg hl
    rw [hR] at TX
    have TX := Lib.hid TX
    obtain ⟨E, hE⟩ : ∃ E, E = cpErr l := ⟨_, rfl⟩
    rw [← hE] at TX hl
    have k1 : (E != 0) = true := bne_iff_ne.2 hl
    clear hE hl hR
    go_enter Tryz.func4, Tryz.ntmps4
    go_wp2_with fail
    refine AW.out.mono ?_
    rintro e w1 ⟨rfl, rfl⟩
    go_wp2_with fail
    refine TX.out.mono ?_
    rintro e w2 ⟨rfl, hb2⟩
    have HB2 := Lib.hid hb2
    clear hb2
    go_wp2_with fail
    go_ret
    exact ⟨rfl, HB2.out⟩
end Go.Proofs.YtbdcimakdiegnaaGreatDoor
