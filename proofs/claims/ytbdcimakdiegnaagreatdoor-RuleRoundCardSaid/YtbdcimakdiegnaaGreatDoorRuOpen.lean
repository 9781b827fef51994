/-
  DERIVED. A rule that came in as an argument, opened. Conditions: none. By an AI agent.
-/
import Derived.Test.YtbdcimakdiegnaaGreatDoorVa09
import Derived.Test.YtbdcimakdiegnaaGreatDoorRuMath
import Derived.Test.YtbdcimakdiegnaaGreatDoorRuChk2
namespace Go.Proofs.YtbdcimakdiegnaaGreatDoor
open Go.ChangeShapes Go.WideShapes Go.ChangeAt Go.RowKit Go.Joins

theorem cells_of_ints : Tryz.prog.cellsOf 38 = 1 := by kernel_rfl
theorem cellsRu : Tryz.prog.cellsOf 40 = 9 := by kernel_rfl
section
variable {H : Type} {enc : TypeId × Value → H} {W : World}
theorem ints_flatR : ∀ M : List Int, M.map (Value.int .i64) = M.flatMap fun x => [Value.int .i64 x]
  | [] => rfl
  | x :: M => by rw [List.map_cons, List.flatMap_cons, ints_flatR M]; rfl
set_option maxRecDepth 100000 in
theorem ints_openR {fuel : Nat} {u : Value} {y : DataW H × List MemPlace} (h : DataW.trod enc Tryz.prog W 0 (fun _ => true) true fuel 38 [u] = some y) (hp : ∀ x ∈ y.2, x.block < W.heap.size) (hfit : Fits Tryz.prog 38 y.1) : ∃ ks, RIn W W.heap.size u ks := by
  obtain ⟨A, len, cap, M, rfl, h1, h2, h3, h4⟩ := open_list (en := fun x : Int => [Value.int .i64 x]) (Q := fun _ x => I64 x) Tryz.underlying38 cells_of_int (by omega) (show _ = 8 by kernel_rfl) (fun _ => rfl)
    (fun m cs z hm htr hz hft => by
      obtain ⟨k, e0, rfl, hk⟩ := DataW.trod_int Tryz.underlying3 htr
      exact ⟨k, e0.symm, i64_bounds hk⟩) h hp hfit
  exact ⟨M, A, len, cap, rfl, h1, h2, by rw [ints_flatR M]; exact h3, fun x hx => by
    obtain ⟨m, _, hq⟩ := h4 x hx
    exact hq⟩

set_option maxRecDepth 100000 in
theorem rule_open (fuel : Nat) (cs : List Value) (x : DataW H × List MemPlace)
    (h : DataW.trod enc Tryz.prog W 0 (fun _ => true) true fuel 40 cs = some x) (hp : ∀ y ∈ x.2, y.block < W.heap.size) (hfit : Fits Tryz.prog 40 x.1) : ∃ (r : Rl) (a b c : Value), (RuC r a b c).toList = cs ∧ RIn W W.heap.size a r.wk ∧ RIn W W.heap.size b r.ds ∧ RIn W W.heap.size c r.skip := by
  obtain ⟨xs, n, rfl, rfl, hlen, hxl, hf⟩ := DataW.trod_struct Tryz.underlying40 h
  rw [cellsRu] at hlen
  match cs, hlen with
  | [u0, u1, u2, u3, u4, u5, u6, u7, u8], _ =>
    match xs, hxl with
    | [y0, y1, y2, y3, y4, y5, y6, y7, y8], _ =>
      have g0 : DataW.trod enc Tryz.prog W 0 (fun _ => true) true n 3 (([u0, u1, u2, u3, u4, u5, u6, u7, u8].drop 0).take (Tryz.prog.cellsOf 3)) = some y0 := hf 0 _ rfl
      have g1 : DataW.trod enc Tryz.prog W 0 (fun _ => true) true n 3 (([u0, u1, u2, u3, u4, u5, u6, u7, u8].drop 1).take (Tryz.prog.cellsOf 3)) = some y1 := hf 1 _ rfl
      have g2 : DataW.trod enc Tryz.prog W 0 (fun _ => true) true n 3 (([u0, u1, u2, u3, u4, u5, u6, u7, u8].drop 2).take (Tryz.prog.cellsOf 3)) = some y2 := hf 2 _ rfl
      have g3 : DataW.trod enc Tryz.prog W 0 (fun _ => true) true n 3 (([u0, u1, u2, u3, u4, u5, u6, u7, u8].drop 3).take (Tryz.prog.cellsOf 3)) = some y3 := hf 3 _ rfl
      have g4 : DataW.trod enc Tryz.prog W 0 (fun _ => true) true n 3 (([u0, u1, u2, u3, u4, u5, u6, u7, u8].drop 4).take (Tryz.prog.cellsOf 3)) = some y4 := hf 4 _ rfl
      have g5 : DataW.trod enc Tryz.prog W 0 (fun _ => true) true n 38 (([u0, u1, u2, u3, u4, u5, u6, u7, u8].drop 5).take (Tryz.prog.cellsOf 38)) = some y5 := hf 5 _ rfl
      have g6 : DataW.trod enc Tryz.prog W 0 (fun _ => true) true n 38 (([u0, u1, u2, u3, u4, u5, u6, u7, u8].drop 6).take (Tryz.prog.cellsOf 38)) = some y6 := hf 6 _ rfl
      have g7 : DataW.trod enc Tryz.prog W 0 (fun _ => true) true n 3 (([u0, u1, u2, u3, u4, u5, u6, u7, u8].drop 7).take (Tryz.prog.cellsOf 3)) = some y7 := hf 7 _ rfl
      have g8 : DataW.trod enc Tryz.prog W 0 (fun _ => true) true n 38 (([u0, u1, u2, u3, u4, u5, u6, u7, u8].drop 8).take (Tryz.prog.cellsOf 38)) = some y8 := hf 8 _ rfl
      rw [cells_of_int] at g0 g1 g2 g3 g4 g7
      rw [cells_of_ints] at g5 g6 g8
      change DataW.trod enc Tryz.prog W 0 (fun _ => true) true n 3 [u0] = some y0 at g0
      change DataW.trod enc Tryz.prog W 0 (fun _ => true) true n 3 [u1] = some y1 at g1
      change DataW.trod enc Tryz.prog W 0 (fun _ => true) true n 3 [u2] = some y2 at g2
      change DataW.trod enc Tryz.prog W 0 (fun _ => true) true n 3 [u3] = some y3 at g3
      change DataW.trod enc Tryz.prog W 0 (fun _ => true) true n 3 [u4] = some y4 at g4
      change DataW.trod enc Tryz.prog W 0 (fun _ => true) true n 38 [u5] = some y5 at g5
      change DataW.trod enc Tryz.prog W 0 (fun _ => true) true n 38 [u6] = some y6 at g6
      change DataW.trod enc Tryz.prog W 0 (fun _ => true) true n 3 [u7] = some y7 at g7
      change DataW.trod enc Tryz.prog W 0 (fun _ => true) true n 38 [u8] = some y8 at g8
      obtain ⟨k0, e0, rfl, _⟩ := DataW.trod_int Tryz.underlying3 g0
      obtain ⟨k1, e1, rfl, _⟩ := DataW.trod_int Tryz.underlying3 g1
      obtain ⟨k2, e2, rfl, _⟩ := DataW.trod_int Tryz.underlying3 g2
      obtain ⟨k3, e3, rfl, _⟩ := DataW.trod_int Tryz.underlying3 g3
      obtain ⟨k4, e4, rfl, _⟩ := DataW.trod_int Tryz.underlying3 g4
      obtain ⟨k7, e7, rfl, _⟩ := DataW.trod_int Tryz.underlying3 g7
      simp at e0 e1 e2 e3 e4 e7
      subst e0 e1 e2 e3 e4 e7
      obtain ⟨ws, h5⟩ := ints_openR g5 (fun y hy => hp y (by simp [hy])) (hfit.part Tryz.underlying40 (j := 5) rfl rfl)
      obtain ⟨ds, h6⟩ := ints_openR g6 (fun y hy => hp y (by simp [hy])) (hfit.part Tryz.underlying40 (j := 6) rfl rfl)
      obtain ⟨ss, h8⟩ := ints_openR g8 (fun y hy => hp y (by simp [hy])) (hfit.part Tryz.underlying40 (j := 8) rfl rfl)
      exact ⟨⟨k0, k1, k2, k3, k4, ws, ds, k7, ss⟩, u5, u6, u8, rfl, h5, h6, h8⟩

set_option maxRecDepth 100000 in
/-- a rule that came in -/
theorem rule_arg {r : Reach} {b0 : Nat} {v : Value} {d : DataW H} {p : List MemPlace} (hv : Value.okWide Tryz.prog W r b0 40 v) (h : DataW.Trod enc Tryz.prog W 0 (fun _ => true) true 40 v d p) (hp : ∀ x ∈ p, x.block < W.heap.size) (hfit : Fits Tryz.prog 40 d) :
    ∃ (q : Rl) (A1 A2 A3 : Option Addr) (n1 c1 n2 c2 n3 c3 : Nat), v = RuV q (.slice A1 n1 c1) (.slice A2 n2 c2) (.slice A3 n3 c3) ∧ RIn W W.heap.size (.slice A1 n1 c1) q.wk ∧ RIn W W.heap.size (.slice A2 n2 c2) q.ds ∧ RIn W W.heap.size (.slice A3 n3 c3) q.skip := by
  obtain ⟨cs, rfl, _⟩ := okWide_struct Tryz.underlying40 hv
  obtain ⟨fuel, hf⟩ := h
  obtain ⟨q, a, b, c, hx, h1, h2, h3⟩ := rule_open fuel _ _ hf hp hfit
  obtain ⟨A1, n1, c1, rfl⟩ := h1.slice
  obtain ⟨A2, n2, c2, rfl⟩ := h2.slice
  obtain ⟨A3, n3, c3, rfl⟩ := h3.slice
  refine ⟨q, A1, A2, A3, n1, c1, n2, c2, n3, c3, ?_, h1, h2, h3⟩
  have e2 : cs = RuC q (.slice A1 n1 c1) (.slice A2 n2 c2) (.slice A3 n3 c3) := by
    apply Array.ext'
    exact hx.symm
  rw [e2]
  rfl
end
end Go.Proofs.YtbdcimakdiegnaaGreatDoor
