/-
  DERIVED. A copy's operations that came in, in memory. Conditions: none. By an AI agent.
-/
import Derived.Test.YtinllchioeldbaaGreatDoorBsOpenV
import Derived.Test.YtinllchioeldbaaGreatDoorCa10
namespace Go.Proofs.YtinllchioeldbaaGreatDoor
open Go.ChangeShapes Go.WideShapes Go.RowKit

theorem cellsSt : Tryz.prog.cellsOf 23 = 2 := by kernel_rfl
theorem cellsSp : Tryz.prog.cellsOf 27 = 3 := by kernel_rfl
theorem cells_of_sps : Tryz.prog.cellsOf 28 = 1 := by kernel_rfl
theorem cellsCo : Tryz.prog.cellsOf 33 = 17 := by kernel_rfl

section
variable {H : Type} {enc : TypeId × Value → H} {W : World}
set_option maxRecDepth 100000 in
theorem stamp_open (fuel : Nat) (cs : List Value) (x : DataW H × List MemPlace)
    (h : DataW.trod enc Tryz.prog W 0 (fun _ => true) true fuel 23 cs = some x) (hp : ∀ y ∈ x.2, y.block < W.heap.size) (hfit : Fits Tryz.prog 23 x.1) : ∃ s : Stp, cs = [.int .i64 s.time, .int .i64 s.cp] ∧ STI s := by
  obtain ⟨xs, n, rfl, rfl, hlen, hxl, hf⟩ := DataW.trod_struct Tryz.underlying23 h
  rw [cellsSt] at hlen
  match cs, hlen with
  | [u0, u1], _ =>
    match xs, hxl with
    | [y0, y1], _ =>
      have g0 : DataW.trod enc Tryz.prog W 0 (fun _ => true) true n 3 (([u0, u1].drop 0).take (Tryz.prog.cellsOf 3)) = some y0 := hf 0 _ rfl
      rw [cells_of_int] at g0
      change DataW.trod enc Tryz.prog W 0 (fun _ => true) true n 3 [u0] = some y0 at g0
      have g1 : DataW.trod enc Tryz.prog W 0 (fun _ => true) true n 3 (([u0, u1].drop 1).take (Tryz.prog.cellsOf 3)) = some y1 := hf 1 _ rfl
      rw [cells_of_int] at g1
      change DataW.trod enc Tryz.prog W 0 (fun _ => true) true n 3 [u1] = some y1 at g1
      obtain ⟨a, e0, rfl, h0⟩ := DataW.trod_int Tryz.underlying3 g0
      obtain ⟨b, e1, rfl, h1⟩ := DataW.trod_int Tryz.underlying3 g1
      simp at e0 e1
      subst e0 e1
      exact ⟨⟨a, b⟩, rfl, i64_bounds h0, i64_bounds h1⟩
set_option maxRecDepth 100000 in
theorem spot_open (fuel : Nat) (cs : List Value) (x : DataW H × List MemPlace)
    (h : DataW.trod enc Tryz.prog W 0 (fun _ => true) true fuel 27 cs = some x) (hp : ∀ y ∈ x.2, y.block < W.heap.size) (hfit : Fits Tryz.prog 27 x.1) : ∃ s : Spt, spV s = cs ∧ SPI s := by
  obtain ⟨xs, n, rfl, rfl, hlen, hxl, hf⟩ := DataW.trod_struct Tryz.underlying27 h
  rw [cellsSp] at hlen
  match cs, hlen with
  | [u0, u1, u2], _ =>
    match xs, hxl with
    | [y0, y1], _ =>
      have g0 : DataW.trod enc Tryz.prog W 0 (fun _ => true) true n 23 (([u0, u1, u2].drop 0).take (Tryz.prog.cellsOf 23)) = some y0 := hf 0 _ rfl
      rw [cellsSt] at g0
      change DataW.trod enc Tryz.prog W 0 (fun _ => true) true n 23 [u0, u1] = some y0 at g0
      have g1 : DataW.trod enc Tryz.prog W 0 (fun _ => true) true n 3 (([u0, u1, u2].drop 2).take (Tryz.prog.cellsOf 3)) = some y1 := hf 1 _ rfl
      rw [cells_of_int] at g1
      change DataW.trod enc Tryz.prog W 0 (fun _ => true) true n 3 [u2] = some y1 at g1
      obtain ⟨s, e0, h0⟩ := stamp_open n _ y0 g0 (fun y hy => hp y (by simp [hy])) (hfit.part Tryz.underlying27 (j := 0) rfl rfl)
      obtain ⟨b, e1, rfl, h1⟩ := DataW.trod_int Tryz.underlying3 g1
      simp at e0 e1
      obtain ⟨rfl, rfl⟩ := e0
      subst e1
      exact ⟨⟨s, b⟩, rfl, h0, i64_bounds h1⟩
set_option maxRecDepth 100000 in
theorem cop_open (fuel : Nat) (cs : List Value) (x : DataW H × List MemPlace)
    (h : DataW.trod enc Tryz.prog W 0 (fun _ => true) true fuel 33 cs = some x) (hp : ∀ y ∈ x.2, y.block < W.heap.size) (hfit : Fits Tryz.prog 33 x.1) : ∃ o : COm, coV o = cs ∧ RC1 W W.heap.size o := by
  obtain ⟨xs, n, rfl, rfl, hlen, hxl, hf⟩ := DataW.trod_struct Tryz.underlying33 h
  rw [cellsCo] at hlen
  match cs, hlen with
  | [u0, u1, u2, u3, u4, u5, u6, u7, u8, u9, u10, u11, u12, u13, u14, u15, u16], _ =>
    match xs, hxl with
    | [y0, y1, y2, y3, y4, y5, y6, y7, y8, y9], _ =>
      have g0 : DataW.trod enc Tryz.prog W 0 (fun _ => true) true n 23 (([u0, u1, u2, u3, u4, u5, u6, u7, u8, u9, u10, u11, u12, u13, u14, u15, u16].drop 0).take (Tryz.prog.cellsOf 23)) = some y0 := hf 0 _ rfl
      rw [cellsSt] at g0
      change DataW.trod enc Tryz.prog W 0 (fun _ => true) true n 23 [u0, u1] = some y0 at g0
      have g1 : DataW.trod enc Tryz.prog W 0 (fun _ => true) true n 3 (([u0, u1, u2, u3, u4, u5, u6, u7, u8, u9, u10, u11, u12, u13, u14, u15, u16].drop 2).take (Tryz.prog.cellsOf 3)) = some y1 := hf 1 _ rfl
      rw [cells_of_int] at g1
      change DataW.trod enc Tryz.prog W 0 (fun _ => true) true n 3 [u2] = some y1 at g1
      have g2 : DataW.trod enc Tryz.prog W 0 (fun _ => true) true n 3 (([u0, u1, u2, u3, u4, u5, u6, u7, u8, u9, u10, u11, u12, u13, u14, u15, u16].drop 3).take (Tryz.prog.cellsOf 3)) = some y2 := hf 2 _ rfl
      rw [cells_of_int] at g2
      change DataW.trod enc Tryz.prog W 0 (fun _ => true) true n 3 [u3] = some y2 at g2
      have g3 : DataW.trod enc Tryz.prog W 0 (fun _ => true) true n 3 (([u0, u1, u2, u3, u4, u5, u6, u7, u8, u9, u10, u11, u12, u13, u14, u15, u16].drop 4).take (Tryz.prog.cellsOf 3)) = some y3 := hf 3 _ rfl
      rw [cells_of_int] at g3
      change DataW.trod enc Tryz.prog W 0 (fun _ => true) true n 3 [u4] = some y3 at g3
      have g4 : DataW.trod enc Tryz.prog W 0 (fun _ => true) true n 3 (([u0, u1, u2, u3, u4, u5, u6, u7, u8, u9, u10, u11, u12, u13, u14, u15, u16].drop 5).take (Tryz.prog.cellsOf 3)) = some y4 := hf 4 _ rfl
      rw [cells_of_int] at g4
      change DataW.trod enc Tryz.prog W 0 (fun _ => true) true n 3 [u5] = some y4 at g4
      have g5 : DataW.trod enc Tryz.prog W 0 (fun _ => true) true n 27 (([u0, u1, u2, u3, u4, u5, u6, u7, u8, u9, u10, u11, u12, u13, u14, u15, u16].drop 6).take (Tryz.prog.cellsOf 27)) = some y5 := hf 5 _ rfl
      rw [cellsSp] at g5
      change DataW.trod enc Tryz.prog W 0 (fun _ => true) true n 27 [u6, u7, u8] = some y5 at g5
      have g6 : DataW.trod enc Tryz.prog W 0 (fun _ => true) true n 9 (([u0, u1, u2, u3, u4, u5, u6, u7, u8, u9, u10, u11, u12, u13, u14, u15, u16].drop 9).take (Tryz.prog.cellsOf 9)) = some y6 := hf 6 _ rfl
      rw [cells_of_str] at g6
      change DataW.trod enc Tryz.prog W 0 (fun _ => true) true n 9 [u9] = some y6 at g6
      have g7 : DataW.trod enc Tryz.prog W 0 (fun _ => true) true n 28 (([u0, u1, u2, u3, u4, u5, u6, u7, u8, u9, u10, u11, u12, u13, u14, u15, u16].drop 10).take (Tryz.prog.cellsOf 28)) = some y7 := hf 7 _ rfl
      rw [cells_of_sps] at g7
      change DataW.trod enc Tryz.prog W 0 (fun _ => true) true n 28 [u10] = some y7 at g7
      have g8 : DataW.trod enc Tryz.prog W 0 (fun _ => true) true n 9 (([u0, u1, u2, u3, u4, u5, u6, u7, u8, u9, u10, u11, u12, u13, u14, u15, u16].drop 11).take (Tryz.prog.cellsOf 9)) = some y8 := hf 8 _ rfl
      rw [cells_of_str] at g8
      change DataW.trod enc Tryz.prog W 0 (fun _ => true) true n 9 [u11] = some y8 at g8
      have g9 : DataW.trod enc Tryz.prog W 0 (fun _ => true) true n 31 (([u0, u1, u2, u3, u4, u5, u6, u7, u8, u9, u10, u11, u12, u13, u14, u15, u16].drop 12).take (Tryz.prog.cellsOf 31)) = some y9 := hf 9 _ rfl
      rw [cellsV] at g9
      change DataW.trod enc Tryz.prog W 0 (fun _ => true) true n 31 [u12, u13, u14, u15, u16] = some y9 at g9
      obtain ⟨st, e0, h0⟩ := stamp_open n _ y0 g0 (fun y hy => hp y (by simp [hy])) (hfit.part Tryz.underlying33 (j := 0) rfl rfl)
      obtain ⟨kk, e1, rfl, h1⟩ := DataW.trod_int Tryz.underlying3 g1
      obtain ⟨id, e2, rfl, h2⟩ := DataW.trod_int Tryz.underlying3 g2
      obtain ⟨pa, e3, rfl, h3⟩ := DataW.trod_int Tryz.underlying3 g3
      obtain ⟨le, e4, rfl, h4⟩ := DataW.trod_int Tryz.underlying3 g4
      obtain ⟨af, e5, h5⟩ := spot_open n _ y5 g5 (fun y hy => hp y (by simp [hy])) (hfit.part Tryz.underlying33 (j := 5) rfl rfl)
      obtain ⟨oc, e6, rfl, _⟩ := DataW.trod_string Tryz.underlying9 g6
      obtain ⟨A, len, cap, M, rfl, s1, s2, s3, s4⟩ := open_list (en := spV) (Q := fun _ x => SPI x) Tryz.underlying28 cellsSp (by omega) (show _ = 24 by kernel_rfl) spV_len
        (fun m cs z hm htr hz hft => spot_open m cs z htr hz hft) g7 (fun y hy => hp y (by simp [hy])) (hfit.part Tryz.underlying33 (j := 7) rfl rfl)
      obtain ⟨nm, e8, rfl, _⟩ := DataW.trod_string Tryz.underlying9 g8
      obtain ⟨v, hv, hq⟩ := val_open n _ y9 g9 (fun y hy => hp y (by simp [hy])) (hfit.part Tryz.underlying33 (j := 9) rfl rfl)
      simp at e0 e1 e2 e3 e4 e6 e8
      obtain ⟨rfl, rfl⟩ := e0
      subst e1 e2 e3 e4 e6 e8
      have hs : oc.size ≤ 140737488351232 := (hfit.part Tryz.underlying33 (j := 6) rfl rfl).string
      refine ⟨⟨⟨st, kk, id, pa, le, af, oc, M, nm, v.1⟩, .slice A len cap, v.2⟩, ?_, ⟨A, len, cap, rfl, s1, s2, s3, fun x hx => ?_⟩, ⟨n, hq⟩, h0, i64_bounds h1, i64_bounds h2, i64_bounds h3, i64_bounds h4, h5, hs⟩
      · unfold spV at e5
        unfold vlV at hv
        simp at e5 hv
        obtain ⟨rfl, rfl, rfl⟩ := e5
        obtain ⟨rfl, rfl, rfl, rfl, rfl⟩ := hv
        rfl
      · obtain ⟨m, _, hq⟩ := s4 x hx
        exact hq
set_option maxRecDepth 100000 in
/-- operations that came in -/
theorem cops_open {u : Value} {d : DataW H} {p : List MemPlace} {r : Reach} {b0 : Nat} (hv : Value.okWide Tryz.prog W r b0 24 u) (h : DataW.Trod enc Tryz.prog W 0 (fun _ => true) true 24 u d p) (hp : ∀ x ∈ p, x.block < W.heap.size) (hfit : Fits Tryz.prog 24 d) :
    ∃ A n c, ∃ l, u = .slice A n c ∧ RCs W W.heap.size u l := by
  obtain ⟨a0, n0, c0, rfl⟩ := okWide_slice Tryz.underlying24 hv
  obtain ⟨fuel, hf⟩ := h
  obtain ⟨A, len, cap, M, e, h1, h2, h3, h4⟩ := open_list (en := coV) (Q := fun _ x => RC1 W W.heap.size x) Tryz.underlying24 cellsCo (by omega) (show _ = 192 by kernel_rfl) coV_len
    (fun m cs z hm htr hz hft => cop_open m cs z htr hz hft) hf hp hfit
  exact ⟨a0, n0, c0, M.map COm.op, rfl, A, len, cap, M, rfl, e, h1, h2, h3, fun x hx => by
    obtain ⟨m, _, hq⟩ := h4 x hx
    exact hq⟩
end
end Go.Proofs.YtinllchioeldbaaGreatDoor
