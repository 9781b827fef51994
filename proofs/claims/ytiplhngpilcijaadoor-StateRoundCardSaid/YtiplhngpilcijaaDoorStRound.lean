/-
  DERIVED. The walk of the law StateRound. Conditions: the table of powers lies; the library's own bound holds some number. By an AI agent.
-/
import Derived.Test.YtiplhngpilcijaaDoorStRead
import Derived.Laws.StructEq
namespace Go.Proofs.YtiplhngpilcijaaDoor
open Go.RowKit

@[go_sem] theorem eqState (x0 x1 x2 x3 x4 x5 x6 x7 x8 : Int) (w : World) : (binOp .eql 23 (.agg #[.int .i64 x0, .int .i64 x1, .int .i64 x2, .int .i64 x3, .int .i64 x4, .int .i64 x5, .int .i64 x6, .int .i64 x7, .int .i64 x8]) (.agg #[.int .i64 x0, .int .i64 x1, .int .i64 x2, .int .i64 x3, .int .i64 x4, .int .i64 x5, .int .i64 x6, .int .i64 x7, .int .i64 x8])).run Tryd.prog w = .ok (.bool true) w := by
  have u3 := Tryd.underlying3
  have a3 := Tryd.isAgg3
  have z3 := Tryd.sizeOf3
  have hS : Tryd.prog.underlying 23 = some (.struct (Tryd.prog.fieldsOf 23)) := by kernel_rfl
  have hp : Tryd.prog.stoodInHeld 23 = false := by kernel_rfl
  rw [run_eql_struct, show (10000 : Nat) = 9999 + 1 from rfl, run_equalIn_agg w 9999 23 _ _ hS hp]
  simp only [Program.fieldsOf, Tryd.underlying23]
  go_simp

set_option maxHeartbeats 4000000 in
set_option maxRecDepth 100000 in
theorem stateRound_any (x0 x1 x2 x3 x4 x5 x6 x7 x8 m : Int) (w : World) (hm : w.cell? ⟨1, 0, none⟩ = some (.int .i64 m)) (hP : Pow w) :
    Calls Tryd.prog 3 #[stV x0 x1 x2 x3 x4 x5 x6 x7 x8] w fun e w' => e = .returned (.bool true) ∧ Below w.heap.size w w' := by
  have ST := Lib.hid (fun w hP => stateText_any x0 x1 x2 x3 x4 x5 x6 x7 x8 w hP)
  have RS := Lib.hid (fun h0 w hm hP => readState_any x0 x1 x2 x3 x4 x5 x6 x7 x8 m h0 w hm hP)
  have EQ := Lib.hid (fun w => eqState x0 x1 x2 x3 x4 x5 x6 x7 x8 w)
  have hg : Tryd.prog.eqGuardType Tryd.prog.depth 23 = false := by kernel_rfl
  obtain ⟨E, hE⟩ : ∃ E, E = csE x0 x1 x2 x3 x4 x5 x6 x7 x8 := ⟨_, rfl⟩
  obtain ⟨S, hS⟩ : ∃ S, S = stT [x0, x1, x2, x3, x4, x5, x6, x7, x8] := ⟨_, rfl⟩
  rw [← hE, ← hS] at ST
  rw [← hE, ← hS] at RS
  rw [show stV x0 x1 x2 x3 x4 x5 x6 x7 x8 = .agg #[.int .i64 x0, .int .i64 x1, .int .i64 x2, .int .i64 x3, .int .i64 x4, .int .i64 x5, .int .i64 x6, .int .i64 x7, .int .i64 x8] from rfl] at ST RS ⊢
  have HPW := Lib.hid hP
  have HM := Lib.hid hm
  have hlt := World.block_lt_of_cell? _ _ hm
  have HLT := Lib.hid hlt
  clear hE hS hP hm hlt
  by_cases h0 : E = 0
  case neg =>
    have g1 : (E == 0) = false := by simpa using h0
    have g2 : (E != 0) = true := by simpa using h0
    simp only [if_neg h0] at ST
    clear h0 RS EQ
    go_enter Tryd.func3, Tryd.ntmps3
    go_wp2_with fail
    refine (awakeCard_any _).mono ?_
    rintro e w1 ⟨rfl, hb1⟩
    have R1 : Hid (Below w.heap.size w w1) := ((Below.refl _ _).alloc (Nat.le_refl _) _).trans (hb1.mono (by simp))
    have d0 := hb1.cell (p := ⟨w.heap.size, 0, none⟩) (by simp <;> omega)
    have d1 := hb1.cell (p := ⟨w.heap.size, 1, none⟩) (by simp <;> omega)
    have d2 := hb1.cell (p := ⟨w.heap.size, 2, none⟩) (by simp <;> omega)
    have d3 := hb1.cell (p := ⟨w.heap.size, 3, none⟩) (by simp <;> omega)
    have d4 := hb1.cell (p := ⟨w.heap.size, 4, none⟩) (by simp <;> omega)
    have d5 := hb1.cell (p := ⟨w.heap.size, 5, none⟩) (by simp <;> omega)
    have d6 := hb1.cell (p := ⟨w.heap.size, 6, none⟩) (by simp <;> omega)
    have d7 := hb1.cell (p := ⟨w.heap.size, 7, none⟩) (by simp <;> omega)
    have d8 := hb1.cell (p := ⟨w.heap.size, 8, none⟩) (by simp <;> omega)
    clear hb1
    go_wp2_with fail
    refine (ST.out _ (HPW.out.below R1.out)).mono ?_
    rintro e w2 ⟨rfl, hb2⟩
    have R2 := Lib.hid (R1.out.trans (hb2.mono R1.out.size))
    clear hb2
    go_wp2_with fail
    go_ret
    exact ⟨rfl, R2.out⟩
  subst h0
  simp only [if_pos] at ST
  have RS0 := RS.out rfl
  clear RS
  have RS := Lib.hid RS0
  clear RS0
  go_enter Tryd.func3, Tryd.ntmps3
  go_wp2_with fail
  refine (awakeCard_any _).mono ?_
  rintro e w1 ⟨rfl, hb1⟩
  have R1 : Hid (Below w.heap.size w w1) := ((Below.refl _ _).alloc (Nat.le_refl _) _).trans (hb1.mono (by simp))
  have d0 := hb1.cell (p := ⟨w.heap.size, 0, none⟩) (by simp <;> omega)
  have d1 := hb1.cell (p := ⟨w.heap.size, 1, none⟩) (by simp <;> omega)
  have d2 := hb1.cell (p := ⟨w.heap.size, 2, none⟩) (by simp <;> omega)
  have d3 := hb1.cell (p := ⟨w.heap.size, 3, none⟩) (by simp <;> omega)
  have d4 := hb1.cell (p := ⟨w.heap.size, 4, none⟩) (by simp <;> omega)
  have d5 := hb1.cell (p := ⟨w.heap.size, 5, none⟩) (by simp <;> omega)
  have d6 := hb1.cell (p := ⟨w.heap.size, 6, none⟩) (by simp <;> omega)
  have d7 := hb1.cell (p := ⟨w.heap.size, 7, none⟩) (by simp <;> omega)
  have d8 := hb1.cell (p := ⟨w.heap.size, 8, none⟩) (by simp <;> omega)
  have HB1 := Lib.hid hb1
  clear hb1
  go_wp2_with fail
  refine (ST.out _ (HPW.out.below R1.out)).mono ?_
  rintro e w2 ⟨rfl, hb2⟩
  have R2 := Lib.hid (R1.out.trans (hb2.mono R1.out.size))
  have HB2 := Lib.hid (HB1.out.trans (hb2.mono HB1.out.size))
  clear hb2 d0 d1 d2 d3 d4 d5 d6 d7 d8
  go_wp2_with fail
  refine (RS.out _ ((R2.out.cell HLT.out).trans HM.out) (HPW.out.below R2.out)).mono ?_
  rintro e w3 ⟨rfl, hb3⟩
  have R3 := Lib.hid (R2.out.trans (hb3.mono R2.out.size))
  have hb40 := HB2.out.trans (hb3.mono HB2.out.size)
  have hb4 := hb40.alloc hb40.size (.cells #[.int .i64 x0, .int .i64 x1, .int .i64 x2, .int .i64 x3, .int .i64 x4, .int .i64 x5, .int .i64 x6, .int .i64 x7, .int .i64 x8] 23)
  have hz4 := hb40.size
  simp only [World.size_alloc] at hz4
  have hlt4 : w.heap.size < w3.heap.size := hz4
  have hne4 : ¬ w.heap.size = w3.heap.size := by omega
  have d0 := hb4.cell (p := ⟨w.heap.size, 0, none⟩) (by simp <;> omega)
  have d1 := hb4.cell (p := ⟨w.heap.size, 1, none⟩) (by simp <;> omega)
  have d2 := hb4.cell (p := ⟨w.heap.size, 2, none⟩) (by simp <;> omega)
  have d3 := hb4.cell (p := ⟨w.heap.size, 3, none⟩) (by simp <;> omega)
  have d4 := hb4.cell (p := ⟨w.heap.size, 4, none⟩) (by simp <;> omega)
  have d5 := hb4.cell (p := ⟨w.heap.size, 5, none⟩) (by simp <;> omega)
  have d6 := hb4.cell (p := ⟨w.heap.size, 6, none⟩) (by simp <;> omega)
  have d7 := hb4.cell (p := ⟨w.heap.size, 7, none⟩) (by simp <;> omega)
  have d8 := hb4.cell (p := ⟨w.heap.size, 8, none⟩) (by simp <;> omega)
  clear hb3 hb4 hb40
  clear EQ
  go_wp2_with fail
  trace_state
  go_ret
  exact ⟨rfl, R3.out.alloc R3.out.size _⟩
end Go.Proofs.YtiplhngpilcijaaDoor
