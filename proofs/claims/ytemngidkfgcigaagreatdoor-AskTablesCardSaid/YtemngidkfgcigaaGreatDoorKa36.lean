/-
  DERIVED. The walk of florref1.token, at every place. Conditions: a place in the text.
  A base, ids, columns and groups that came in, in memory. Conditions: none.
  By an AI agent.
-/
import Derived.Test.YtemngidkfgcigaaGreatDoorKa33
import Derived.Test.YtemngidkfgcigaaGreatDoorKa34
import Derived.Test.YtemngidkfgcigaaGreatDoorKa32
import Derived.Test.YtemngidkfgcigaaGreatDoorKa35
import Derived.Test.YtemngidkfgcigaaGreatDoorKa09
namespace Go.Proofs.YtemngidkfgcigaaGreatDoor
open Go.RowKit

theorem tok_plain {s T : ByteArray} {a : Nat} (L : Tl s a T) (h0 : ¬ (bt T 0 = 92 ∧ punB (bt T 1) = true)) (h1 : bt T 0 ≠ 96) (h2 : ¬ (bt T 0 = 91 ∧ bt T 1 = 91)) (h3 : ¬ (bt T 0 = 40 ∧ bt T 1 = 40)) (h4 : bt T 0 ≠ 35) (h5 : ¬ (bt T 0 = 42 ∧ bt T 1 = 42)) : tokA s a = plainAt a := by
  have e0 := L.bt 0
  have e1 := L.bt 1
  rw [Nat.add_zero] at e0
  rw [e0] at h0 h1 h2 h3 h4 h5
  rw [e1] at h0 h2 h3 h5
  refine tokA_none (fun j hj => ?_)
  cases e : tokK j s a with
  | none => rfl
  | some y =>
    exfalso
    match j, hj with
    | 0, _ =>
      have e : tokE s a = some y := e
      unfold tokE at e; split at e
      · rename_i c; exact h0 c
      · cases e
    | 1, _ => exact h1 (tokC_byte e)
    | 2, _ => have e : tokL s a = some y := e; exact h2 ⟨(tokL_inv e).b0, (tokL_inv e).b1⟩
    | 3, _ =>
      have e : tokR s a = some y := e
      unfold tokR at e; dsimp only at e; split at e
      · rename_i c; exact h3 ⟨c.1, c.2.1⟩
      · cases e
    | 4, _ =>
      have e : tokT s a = some y := e
      unfold tokT at e; dsimp only at e; split at e
      · rename_i c; exact h4 c.1
      · cases e
    | 5, _ =>
      have e : tokB s a = some y := e
      unfold tokB at e; split at e
      · rename_i c; exact h5 c
      · cases e

theorem rtoken_any (s : ByteArray) (a : Nat) (w : World) (hs : s.size ≤ 4294967280) (ha : a < s.size) :
    Calls Tryz.prog 58 #[.string s, .int .i64 a] w fun e w' => e = .returned (rtV s a) ∧ Below w.heap.size w w' := by
  have L : Tl s a (s.extract a s.size) := ⟨rfl, ha⟩
  generalize s.extract a s.size = T at L
  have hz := L.z
  by_cases h1 : bt T 0 = 96
  · by_cases c : upto (isC 96) T 1 < T.size ∧ 1 < upto (isC 96) T 1
    · exact rtok_code s T a w hs L h1 c.1 c.2
    · exact rtok_nocode s T a w hs L h1 c
  by_cases h2 : bt T 0 = 91 ∧ bt T 1 = 91
  · exact rtok_link s T a w hs L h2.1 h2.2
  by_cases h3 : bt T 0 = 40 ∧ bt T 1 = 40
  · exact rtok_ref s T a w hs L h3.1 h3.2
  by_cases h4 : bt T 0 = 35
  · exact rtok_tag s T a w hs L h4
  by_cases h5 : bt T 0 = 42 ∧ bt T 1 = 42
  · exact rtok_bold s T a w hs L h5.1 h5.2
  by_cases h0 : bt T 0 = 92
  · by_cases h6 : punB (bt T 1) = true
    · have : 1 < T.size := bt_in (by
        have := bt_lo T 1
        by_cases g : 0 ≤ bt T 1
        · exact g
        · rw [show bt T 1 = -1 by omega] at h6; cases h6)
      exact rtok_esc s T a w hs L h0 this h6
    · refine rtok_noesc s T a w hs L (by simpa using h0) ?_ h1 h2 h3 h4 h5 (tok_plain L (fun c => h6 c.2) h1 h2 h3 h4 h5)
      by_cases g : 1 < T.size
      · exact .inr ⟨g, by rw [← bt_at g]; simpa using h6⟩
      · exact .inl (by omega)
  · exact rtok_rest s T a w hs L (notBeq h0) h1 h2 h3 h4 h5 (tok_plain L (fun c => h0 c.1) h1 h2 h3 h4 h5)
end Go.Proofs.YtemngidkfgcigaaGreatDoor
namespace Go.Proofs.YtemngidkfgcigaaGreatDoor
open Go.ChangeShapes Go.WideShapes Go.RowKit

theorem cellsGp : Tryz.prog.cellsOf 46 = 6 := by kernel_rfl
section
variable {H : Type} {enc : TypeId × Value → H} {W : World}
theorem strs_flat : ∀ M : List ByteArray, M.map Value.string = M.flatMap fun x => [Value.string x]
  | [] => rfl
  | x :: M => by rw [List.map_cons, List.flatMap_cons, strs_flat M]; rfl
set_option maxRecDepth 100000 in
/-- strings that came in -/
theorem strs_arg {u : Value} {d : DataW H} {p : List MemPlace} {r : Reach} {b0 : Nat} (hv : Value.okWide Tryz.prog W r b0 24 u) (h : DataW.Trod enc Tryz.prog W 0 (fun _ => true) true 24 u d p) (hp : ∀ x ∈ p, x.block < W.heap.size) (hfit : Fits Tryz.prog 24 d) :
    ∃ A n c, ∃ l, u = .slice A n c ∧ RSs W W.heap.size u l := by
  obtain ⟨a0, n0, c0, rfl⟩ := okWide_slice Tryz.underlying24 hv
  obtain ⟨fuel, hf⟩ := h
  obtain ⟨A, len, cap, M, e, h1, h2, h3, _⟩ := open_list (en := fun x : ByteArray => [Value.string x]) (Q := fun _ _ => True) Tryz.underlying24 cells_of_str (by omega) (show _ = 16 by kernel_rfl) (fun _ => rfl)
    (fun m cs z hm htr hz hft => by
      obtain ⟨s, e0, rfl, _⟩ := DataW.trod_string Tryz.underlying9 htr
      exact ⟨s, e0.symm, trivial⟩) hf hp hfit
  exact ⟨a0, n0, c0, M, rfl, A, len, cap, e, h1, h2, by rw [strs_flat M]; exact h3⟩
set_option maxRecDepth 100000 in
/-- ids that came in -/
theorem ids_arg {u : Value} {d : DataW H} {p : List MemPlace} {r : Reach} {b0 : Nat} (hv : Value.okWide Tryz.prog W r b0 23 u) (h : DataW.Trod enc Tryz.prog W 0 (fun _ => true) true 23 u d p) (hp : ∀ x ∈ p, x.block < W.heap.size) (hfit : Fits Tryz.prog 23 d) :
    ∃ A n c, ∃ l, u = .slice A n c ∧ RIn W W.heap.size u l := by
  obtain ⟨a0, n0, c0, rfl⟩ := okWide_slice Tryz.underlying23 hv
  obtain ⟨fuel, hf⟩ := h
  obtain ⟨ks, hk⟩ := ints_open hf hp hfit
  exact ⟨a0, n0, c0, ks, rfl, hk⟩
set_option maxRecDepth 100000 in
theorem group_open (fuel : Nat) (cs : List Value) (x : DataW H × List MemPlace)
    (h : DataW.trod enc Tryz.prog W 0 (fun _ => true) true fuel 46 cs = some x) (hp : ∀ y ∈ x.2, y.block < W.heap.size) (hfit : Fits Tryz.prog 46 x.1) : ∃ g : Gp × Value × Value, gpV g = cs ∧ RV W W.heap.size g.2.1 g.1.val.items ∧ RIn W W.heap.size g.2.2 g.1.ids := by
  obtain ⟨xs, n, rfl, rfl, hlen, hxl, hf⟩ := DataW.trod_struct Tryz.underlying46 h
  rw [cellsGp] at hlen
  match cs, hlen with
  | [u0, u1, u2, u3, u4, u5], _ =>
    match xs, hxl with
    | [y0, y1], _ =>
      have g0 : DataW.trod enc Tryz.prog W 0 (fun _ => true) true n 41 (([u0, u1, u2, u3, u4, u5].drop 0).take (Tryz.prog.cellsOf 41)) = some y0 := hf 0 _ rfl
      rw [cellsV] at g0
      change DataW.trod enc Tryz.prog W 0 (fun _ => true) true n 41 [u0, u1, u2, u3, u4] = some y0 at g0
      have g1 : DataW.trod enc Tryz.prog W 0 (fun _ => true) true n 23 (([u0, u1, u2, u3, u4, u5].drop 5).take (Tryz.prog.cellsOf 23)) = some y1 := hf 1 _ rfl
      rw [cells_of_ints] at g1
      change DataW.trod enc Tryz.prog W 0 (fun _ => true) true n 23 [u5] = some y1 at g1
      obtain ⟨⟨v, vi⟩, hv, hr⟩ := val_open n _ y0 g0 (fun y hy => hp y (by simp [hy])) (hfit.part Tryz.underlying46 (j := 0) rfl rfl)
      obtain ⟨ks, hk⟩ := ints_open g1 (fun y hy => hp y (by simp [hy])) (hfit.part Tryz.underlying46 (j := 1) rfl rfl)
      refine ⟨(⟨v, ks⟩, vi, u5), ?_, ⟨n, hr⟩, hk⟩
      show vlV (v, vi) ++ [u5] = _
      rw [hv]; rfl
set_option maxRecDepth 100000 in
/-- groups that came in -/
theorem groups_arg {u : Value} {d : DataW H} {p : List MemPlace} {r : Reach} {b0 : Nat} (hv : Value.okWide Tryz.prog W r b0 25 u) (h : DataW.Trod enc Tryz.prog W 0 (fun _ => true) true 25 u d p) (hp : ∀ x ∈ p, x.block < W.heap.size) (hfit : Fits Tryz.prog 25 d) :
    ∃ A n c, ∃ l, u = .slice A n c ∧ RGp W W.heap.size u l := by
  obtain ⟨a0, n0, c0, rfl⟩ := okWide_slice Tryz.underlying25 hv
  obtain ⟨fuel, hf⟩ := h
  obtain ⟨A, len, cap, M, e, h1, h2, h3, h4⟩ := open_list (en := gpV) (Q := fun _ x => RV W W.heap.size x.2.1 x.1.val.items ∧ RIn W W.heap.size x.2.2 x.1.ids) Tryz.underlying25 cellsGp (by omega) (show _ = 88 by kernel_rfl) gpV_len
    (fun m cs z hm htr hz hft => group_open m cs z htr hz hft) hf hp hfit
  exact ⟨a0, n0, c0, M.map Prod.fst, rfl, A, len, cap, M, rfl, e, h1, h2, h3, fun x hx => by
    obtain ⟨m, _, hq⟩ := h4 x hx
    exact hq⟩
end
end Go.Proofs.YtemngidkfgcigaaGreatDoor
