/-
  DERIVED. A base that came in: its blocks, numbers, properties and values in memory. Conditions: none.
  A slice of structs that came in: its cells, row by row. Conditions: none.
  The walk of the reference's OutlineOf. Conditions: sizes.
  The walks of slices.ContainsFunc at blocks and of the closure of TreeMoves. Conditions: sizes.
  By an AI agent.
-/
import Derived.Test.YtmkicfjcgbfaaaaGreatTg20
import Derived.Test.YtmkicfjcgbfaaaaGreatTg08
import Derived.Deep.Slices
import Derived.Deep.Fields
import Derived.ChangeSame
import Derived.Test.YtmkicfjcgbfaaaaGreatTh05
import Derived.Test.YtmkicfjcgbfaaaaGreatTh01
import Derived.Test.YtmkicfjcgbfaaaaGreatTg19
import Derived.Test.YtmkicfjcgbfaaaaGreatTg41
namespace Go.Proofs.YtmkicfjcgbfaaaaGreat
open Go.ChangeShapes Go.WideShapes Go.RowKit

theorem cellsB : Tryz.prog.cellsOf 38 = 5 := by kernel_rfl
theorem cells_of_ints : Tryz.prog.cellsOf 34 = 1 := by kernel_rfl

section
variable {H : Type} {enc : TypeId × Value → H} {W : World}
theorem ints_flat : ∀ M : List Int, M.map (Value.int .i64) = M.flatMap fun x => [Value.int .i64 x]
  | [] => rfl
  | x :: M => by rw [List.map_cons, List.flatMap_cons, ints_flat M]; rfl
set_option maxRecDepth 100000 in
theorem ints_open {fuel : Nat} {u : Value} {y : DataW H × List MemPlace} (h : DataW.trod enc Tryz.prog W 0 (fun _ => true) true fuel 34 [u] = some y) (hp : ∀ x ∈ y.2, x.block < W.heap.size) (hfit : Fits Tryz.prog 34 y.1) : ∃ ks, RIn W W.heap.size u ks := by
  obtain ⟨A, len, cap, M, rfl, h1, h2, h3, h4⟩ := open_list (en := fun x : Int => [Value.int .i64 x]) (Q := fun _ x => I64 x) Tryz.underlying34 cells_of_int (by omega) (show _ = 8 by kernel_rfl) (fun _ => rfl)
    (fun m cs z hm htr hz hft => by
      obtain ⟨k, e0, rfl, hk⟩ := DataW.trod_int Tryz.underlying3 htr
      exact ⟨k, e0.symm, i64_bounds hk⟩) h hp hfit
  exact ⟨M, A, len, cap, rfl, h1, h2, by rw [show M.map (Value.int .i64) = M.flatMap fun x => [Value.int .i64 x] from ints_flat M]; exact h3, fun x hx => by
    obtain ⟨m, _, hq⟩ := h4 x hx
    exact hq⟩

set_option maxRecDepth 100000 in
theorem block_open (fuel : Nat) (cs : List Value) (x : DataW H × List MemPlace)
    (h : DataW.trod enc Tryz.prog W 0 (fun _ => true) true fuel 38 cs = some x) (hp : ∀ y ∈ x.2, y.block < W.heap.size) (hfit : Fits Tryz.prog 38 x.1) : ∃ b : Bl × Value × Value, blV b = cs ∧ RIn W W.heap.size b.2.1 b.1.kids ∧ RPr W W.heap.size b.2.2 b.1.props := by
  obtain ⟨xs, n, rfl, rfl, hlen, hxl, hf⟩ := DataW.trod_struct Tryz.underlying38 h
  rw [cellsB] at hlen
  match cs, hlen with
  | [u0, u1, u2, u3, u4], _ =>
    match xs, hxl with
    | [y0, y1, y2, y3, y4], _ =>
      have g0 : DataW.trod enc Tryz.prog W 0 (fun _ => true) true n 3 (([u0, u1, u2, u3, u4].drop 0).take (Tryz.prog.cellsOf 3)) = some y0 := hf 0 _ rfl
      have g1 : DataW.trod enc Tryz.prog W 0 (fun _ => true) true n 3 (([u0, u1, u2, u3, u4].drop 1).take (Tryz.prog.cellsOf 3)) = some y1 := hf 1 _ rfl
      have g2 : DataW.trod enc Tryz.prog W 0 (fun _ => true) true n 34 (([u0, u1, u2, u3, u4].drop 2).take (Tryz.prog.cellsOf 34)) = some y2 := hf 2 _ rfl
      have g3 : DataW.trod enc Tryz.prog W 0 (fun _ => true) true n 9 (([u0, u1, u2, u3, u4].drop 3).take (Tryz.prog.cellsOf 9)) = some y3 := hf 3 _ rfl
      have g4 : DataW.trod enc Tryz.prog W 0 (fun _ => true) true n 36 (([u0, u1, u2, u3, u4].drop 4).take (Tryz.prog.cellsOf 36)) = some y4 := hf 4 _ rfl
      rw [cells_of_int] at g0 g1
      rw [cells_of_ints] at g2
      rw [cells_of_str] at g3
      rw [cells_of_props] at g4
      change DataW.trod enc Tryz.prog W 0 (fun _ => true) true n 3 [u0] = some y0 at g0
      change DataW.trod enc Tryz.prog W 0 (fun _ => true) true n 3 [u1] = some y1 at g1
      change DataW.trod enc Tryz.prog W 0 (fun _ => true) true n 34 [u2] = some y2 at g2
      change DataW.trod enc Tryz.prog W 0 (fun _ => true) true n 9 [u3] = some y3 at g3
      change DataW.trod enc Tryz.prog W 0 (fun _ => true) true n 36 [u4] = some y4 at g4
      obtain ⟨k, e0, rfl, _⟩ := DataW.trod_int Tryz.underlying3 g0
      obtain ⟨i, e1, rfl, _⟩ := DataW.trod_int Tryz.underlying3 g1
      obtain ⟨s, e3, rfl, _⟩ := DataW.trod_string Tryz.underlying9 g3
      simp at e0 e1 e3
      subst e0 e1 e3
      obtain ⟨ks, hk⟩ := ints_open g2 (fun y hy => hp y (by simp [hy])) (hfit.part Tryz.underlying38 (j := 2) rfl rfl)
      obtain ⟨ps, hq⟩ := props_open g4 (fun y hy => hp y (by simp [hy])) (hfit.part Tryz.underlying38 (j := 4) rfl rfl)
      exact ⟨(⟨k, i, ks, s, ps⟩, u2, u4), rfl, hk, hq⟩

set_option maxRecDepth 100000 in
/-- a base that came in -/
theorem base_open {u : Value} {d : DataW H} {p : List MemPlace} {r : Reach} {b0 : Nat} (hv : Value.okWide Tryz.prog W r b0 22 u) (h : DataW.Trod enc Tryz.prog W 0 (fun _ => true) true 22 u d p) (hp : ∀ x ∈ p, x.block < W.heap.size) (hfit : Fits Tryz.prog 22 d) :
    ∃ A n c, ∃ l, u = .slice A n c ∧ RB W W.heap.size u l := by
  obtain ⟨a0, n0, c0, rfl⟩ := okWide_slice Tryz.underlying22 hv
  obtain ⟨fuel, hf⟩ := h
  obtain ⟨A, len, cap, M, e, h1, h2, h3, h4⟩ := open_list (en := blV) (Q := fun _ x => RIn W W.heap.size x.2.1 x.1.kids ∧ RPr W W.heap.size x.2.2 x.1.props) Tryz.underlying22 cellsB (by omega) (show _ = 80 by kernel_rfl) blV_len
    (fun m cs z hm htr hz hft => block_open m cs z htr hz hft) hf hp hfit
  exact ⟨a0, n0, c0, M.map Prod.fst, rfl, A, len, cap, M, rfl, e, h1, h2, h3, fun x hx => by
    obtain ⟨m, _, hq⟩ := h4 x hx
    exact hq⟩
end
end Go.Proofs.YtmkicfjcgbfaaaaGreat
namespace Go.Proofs.YtmkicfjcgbfaaaaGreat
open Go.ChangeShapes Go.WideShapes Go.Deep Go.RowKit

section
variable {H : Type} {enc : TypeId × Value → H} {P : Program} {w : World} {base : Nat} {spare : Nat → Bool} {held : Bool}
theorem open_slice_fields {t e : TypeId} {fs : Array Field} {fuel : Nat} {cs : List Value} {x : DataW H × List MemPlace} (ht : P.underlying t = some (.slice e)) (he : P.underlying e = some (.struct fs))
    (hone : oneCellFields P fs = true) (hC : P.cellsOf e = fs.size) (h : DataW.trod enc P w base spare held fuel t cs = some x) :
    (cs = [.slice none 0 0] ∧ x = (.nil, [])) ∨
    ∃ (a : Addr) (len cap m : Nat) (D : Nat → DataW H) (Pl : Nat → List MemPlace), cs = [.slice (some a) len cap] ∧ base ≤ a.block ∧ len ≤ cap ∧ cap ≤ maxLen ∧ m = (if spare a.block then cap else len) ∧
      x = (.slice ((List.range len).map D) ((List.range (m - len)).map fun j => D (len + j)), MemPlace.row a (m * fs.size) ++ (List.range m).flatMap Pl) ∧
      ∀ i, i < m → ∃ (ys : List (DataW H × List MemPlace)) (n : Nat), D i = .agg (ys.map (·.1)) ∧ Pl i = ys.flatMap (·.2) ∧ ys.length = fs.size ∧
        ∀ (j : Nat) (f : Field), fs[j]? = some f → ∃ (v : Value) (y : DataW H × List MemPlace), w.cell? (a.add (i * fs.size + j)) = some v ∧ ys[j]? = some y ∧ DataW.trod enc P w base spare held n f.type [v] = some y := by
  rcases open_slice ht h with h0 | ⟨a, len, cap, m, n, D, Pl, hcs, hb, hl, hm, hmm, hx, hi⟩
  · exact .inl h0
  · refine .inr ⟨a, len, cap, m, D, Pl, hcs, hb, hl, hm, hmm, by rw [hC] at hx; exact hx, fun i him => ?_⟩
    obtain ⟨cs', hc, ht'⟩ := hi i him
    rw [hC] at hc
    obtain ⟨ys, n', hn', hy, hlen, hyl, hf⟩ := DataW.trod_struct he ht'
    obtain ⟨_, hcl, hat⟩ := World.cells?_some hc
    simp only [Prod.mk.injEq] at hy
    refine ⟨ys, n', hy.1, hy.2, hyl, fun j f hj => ?_⟩
    obtain ⟨ho, hk⟩ := hone_of hone j f hj
    have hjl : j < fs.size := (Array.getElem?_eq_some_iff.1 hj).1
    have hcell := hat j hjl
    have hv : cs'[j]? = some (cs'[j]'(by omega)) := List.getElem?_eq_getElem (by omega)
    have h1 := hf j f hj
    rw [ho, hk] at h1
    have hone' : (cs'.drop j).take 1 = [cs'[j]'(by omega)] := by
      rw [List.drop_eq_getElem_cons (by omega)]
      rfl
    rw [hone'] at h1
    have hys : ys[j]? = some (ys[j]'(by omega)) := List.getElem?_eq_getElem (by omega)
    refine ⟨_, _, ?_, hys, h1.trans hys⟩
    rw [← Go.Deep.add_add, hcell, hv]
end

end Go.Proofs.YtmkicfjcgbfaaaaGreat
namespace Go.Proofs.YtmkicfjcgbfaaaaGreat
open Go.RowKit

theorem strs_info : (Tryz.prog.info? 9).map (fun i => (i.zero, i.size, i.bytes)) = some (some (.string ⟨#[]⟩), 1, 16) := by kernel_rfl
set_option maxRecDepth 100000 in
set_option maxHeartbeats 8000000 in
/-- the reference's OutlineOf -/
theorem outlineOf_any (l : List Bl) (f : Int → Option Int) (G : Good l f) (A : Option Addr) (n c : Nat) (id : Int) (d : Nat) (hD : Dp l id d) (w : World) (h : RB w w.heap.size (.slice A n c) l) :
    Calls Tryz.prog 54 #[.slice A n c, .int .i64 id] w fun e w' => e = .returned (.string (catA (olS l f d (ord l (41 - d) id)))) ∧ Below w.heap.size w w' := by
  obtain ⟨s0, hsi, hs0, hs1, hs2⟩ := info_parts strs_info
  have h40 := G.low' id d hD
  have HPA := Lib.hid fun W (hW : Below w.heap.size w W) => pathOf_any l G.kids A n c w.heap.size d id W hD h40 hW.size (h.below hW)
  have HBE := Lib.hid fun W (hW : Below w.heap.size w W) => orderOf_any l G.kids G.low' A n c w.heap.size (41 - d) id d W hD (by omega) hW.size (h.below hW)
  have HPK := Lib.hid fun (k : Int) (j : Nat) (hk : Dp l k j) W (hW : Below w.heap.size w W) => pathOf_any l G.kids A n c w.heap.size j k W hk (G.low' k j hk) hW.size (h.below hW)
  have HIX := Lib.hid fun (k : Int) W (hW : Below w.heap.size w W) => at_any l A n c k W w.heap.size hW.size (h.below hW)
  have HU := Lib.hid fun k hk => G.under (f := f) hD (k := k) hk
  obtain ⟨L, hL⟩ : ∃ L, L = ord l (41 - d) id := ⟨_, rfl⟩
  have hLs : L.length ≤ 2000 := by have := ord_short G.kids (41 - d) hD; have := G.kids.short; rw [hL]; omega
  have hn8 : n ≤ 2000 := by have := G.kids.short; have := h.len.1; omega
  rw [← hL] at HBE HU ⊢
  unfold IntsR at HBE HPA HPK
  have HH := Lib.hid h
  have hsz : (catA (olS l f d L)).size ≤ 2000 * 70000 := by
    refine Nat.le_trans (catA_size _ 70000 fun x hx => ?_) ?_
    · unfold olS at hx
      obtain ⟨y, hy, rfl⟩ := List.mem_map.1 hx
      obtain ⟨p, b, hu⟩ := HU.out y hy
      rw [olB_size, hu.blk]
      have := hu.txt; have := hu.le
      omega
    · have h1 : (olS l f d L).length ≤ 2000 := by unfold olS; rw [List.length_map]; omega
      exact Nat.mul_le_mul_right _ h1
  have HSZ := Lib.hid hsz
  have h40' : d ≤ 40 := h40
  have ww1 : IntKind.i64.wrap ((d : Int) + 1) = (d : Int) + 1 := IntWalk.i64_in _ (by omega)
  have HPL := Lib.hid (pth_len (l := l) d id)
  clear hsz hL hD h G h40
  go_enter Tryz.func54, Tryz.ntmps54
  go_wp2_with fail
  refine (HPA.out w (Below.refl _ _)).mono ?_
  rintro e w2 ⟨⟨A2, n2, c2, rfl, _, hr2, _, _⟩, hb2⟩
  have HB2 : Hid (Below w.heap.size w w2) := hb2
  obtain rfl : n2 = d := by
    have := (hr2.reads (B := w2.heap.size) fun b hb => hb.2).len.1
    rw [HPL.out] at this
    exact this
  clear hb2 hr2
  go_wp2_with fail
  refine (HBE.out w2 HB2.out).mono ?_
  rintro e w3 ⟨⟨A3, n3, c3, rfl, _, hr3, _, _⟩, hb3⟩
  have HB3 : Hid (Below w.heap.size w w3) := HB2.out.trans (hb3.mono HB2.out.size)
  have HR3 := Lib.hid (hr3.reads (B := w3.heap.size) fun b hb => hb.2)
  have HN3 : Hid (n3 = L.length) := HR3.out.len.1
  have hn3 : n3 ≤ 2000 := by have := HN3.out; omega
  have hzw : w.heap.size ≤ w3.heap.size := HB3.out.size
  clear hb3 hr3
  go_wp2_with fail
  go_loopg [5, 18] n3 (fun gg s5 s18 wr => ∃ (k : Nat) (v : Value), k + gg = n3 ∧ v = s5 ∧ s18 = .int .i64 (k : Int) ∧ Hid (wr.ownsRow w3.heap.size 9 1 v k (((olS l f n2 L).take k).map .string)) ∧ Hid (Below w3.heap.size w3 wr))
  case atStart => exact ⟨0, _, by omega, rfl, rfl, World.ownsRow_nil _ _ _ _, Below.refl _ _⟩
  case round =>
    obtain ⟨k, v, hkg, rfl, rfl, hown, hkeep⟩ := hrel
    obtain ⟨W1, rfl⟩ : ∃ W1, W1 = wr := ⟨_, rfl⟩
    have hz1 : w3.heap.size ≤ W1.heap.size := hkeep.out.size
    have HBW : Hid (Below w.heap.size w W1) := HB3.out.trans (hkeep.out.mono hzw)
    by_cases hk : k < n3
    · obtain ⟨x, hx⟩ : ∃ x, L[k]? = some x := ⟨_, List.getElem?_eq_getElem (by have := HN3.out; omega)⟩
      obtain ⟨p, y, hu⟩ := HU.out x (List.mem_of_getElem? hx)
      have HTK : Hid ((olS l f n2 L).take (k + 1) = (olS l f n2 L).take k ++ [olB (dOf f x - (n2 + 1)) y.text]) := by
        show _ = _
        unfold olS
        rw [List.take_add_one, List.getElem?_map, hx, ← hu.blk]; rfl
      obtain ⟨cb, co, rfl, hcb, hcc⟩ := HR3.out.at_ hx
      have c0 : W1.cell? ⟨cb, co + k, none⟩ = some (.int .i64 x) := (hkeep.out.cell (p := ⟨cb, co + k, none⟩) hcb).trans hcc
      have k0 : (0 : Int) ≤ (k : Int) := by omega
      have k1 : (k : Int) < (n3 : Int) := by omega
      have HPX := Lib.hid (HPK.out x (dOf f x) hu.dp)
      have HPLX := Lib.hid (pth_len (l := l) (dOf f x) x)
      have HIXX := Lib.hid (HIX.out x)
      rw [hu.pos] at HIXX
      obtain ⟨j, hj⟩ : ∃ j, j = dOf f x := ⟨_, rfl⟩
      have hj1 : n2 + 1 ≤ j := by rw [hj]; exact hu.gt
      have hj2 : j ≤ 40 := by rw [hj]; exact hu.le
      rw [← hj] at HPX HPLX HTK
      have hpn : p < n := by have := (List.getElem?_eq_some_iff.1 hu.at_).1; have := HH.out.len.1; omega
      obtain ⟨yb, yo, _, _, _, _, _, _, rfl, hyb, _, _, _, g3, _⟩ := HH.out.at_ hu.at_
      have HT : Hid (y.text.size ≤ 65536) := hu.txt
      have G3 := Lib.hid g3
      have p0 : (0 : Int) ≤ (p : Int) := by omega
      have p1 : (p : Int) < (n : Int) := by omega
      obtain ⟨ty, hty⟩ : ∃ ty, ty = y.text := ⟨_, rfl⟩
      rw [← hty] at HTK HT G3
      have hty8 : ty.size ≤ 65536 := HT.out
      obtain ⟨m, hm⟩ : ∃ m : Nat, m = j - (n2 + 1) := ⟨_, rfl⟩
      have hwm : IntKind.i64.wrap ((j : Int) - ((n2 : Int) + 1)) = (m : Int) := by rw [IntWalk.i64_in _ (by omega)]; omega
      have hm40 : m ≤ 40 := by omega
      rw [← hm] at HTK
      have HRP := Lib.hid fun W => Tryz.strings_Repeat ⟨#[32, 32]⟩ m W (by omega) (by show 2 * m ≤ _; omega)
      have hind : (⟨(Lib.repeatL (⟨#[32, 32]⟩ : ByteArray).data.toList m).toArray⟩ : ByteArray) = indB m := rfl
      rw [hind] at HRP
      have his : (indB m).size ≤ 80 := by rw [indB_size]; omega
      obtain ⟨I, hI⟩ : ∃ I, I = indB m := ⟨_, rfl⟩
      have HTK2 : Hid ((olS l f n2 L).take (k + 1) = (olS l f n2 L).take k ++ [I ++ ⟨#[45, 32]⟩ ++ ty ++ ⟨#[10]⟩]) := by
        show _ = _
        rw [HTK.out, hI]; rfl
      rw [← hI] at HRP his
      have hq1 : (I ++ ⟨#[45, 32]⟩).size ≤ 82 := by rw [ByteArray.size_append]; show _ + 2 ≤ _; omega
      have hq2 : (I ++ ⟨#[45, 32]⟩ ++ ty).size ≤ 66000 := by rw [ByteArray.size_append]; omega
      have hq3 : (I ++ ⟨#[45, 32]⟩ ++ ty ++ ⟨#[10]⟩).size ≤ 66001 := by rw [ByteArray.size_append]; show _ + 1 ≤ _; omega
      clear hx hu hcc hj g3 hty hm hind hI HTK
      go_wp2_with fail
      refine (HPX.out W1 HBW.out).mono ?_
      rintro e w4 ⟨⟨A4, n4, c4, rfl, _, hr4, _, _⟩, hb4⟩
      have HB4 : Hid (Below w.heap.size w w4) := HBW.out.trans (hb4.mono HBW.out.size)
      have HO4 := Lib.hid (own_below hown.out hb4)
      have HK4 : Hid (Below w3.heap.size w3 w4) := hkeep.out.trans (hb4.mono hz1)
      obtain rfl : n4 = j := by
        have := (hr4.reads (B := w4.heap.size) fun b hb => hb.2).len.1
        rw [HPLX.out] at this
        exact this
      clear hb4 hr4 c0
      go_wp2_with fail
      refine (HRP.out w4).mono ?_
      rintro e w5 ⟨rfl, hb5⟩
      have HB5 : Hid (Below w.heap.size w w5) := HB4.out.trans (hb5.mono HB4.out.size)
      have HO5 := Lib.hid (own_below HO4.out hb5)
      have HK5 : Hid (Below w3.heap.size w3 w5) := HK4.out.trans (hb5.mono HK4.out.size)
      clear hb5
      go_wp2_with fail
      refine (HIXX.out w5 HB5.out).mono ?_
      rintro e w6 ⟨rfl, hb6⟩
      have HB6 : Hid (Below w.heap.size w w6) := HB5.out.trans (hb6.mono HB5.out.size)
      have HK6 : Hid (Below w3.heap.size w3 w6) := HK5.out.trans (hb6.mono HK5.out.size)
      have hz6 : w3.heap.size ≤ w6.heap.size := HK6.out.size
      have c3 : w6.cell? ⟨yb, yo + p * 5 + 3, none⟩ = some (.string ty) := (HB6.out.cell (p := ⟨yb, yo + p * 5 + 3, none⟩) (by show yb < _; omega)).trans G3.out
      obtain ⟨O, hO⟩ : ∃ O, O = Obj.cells #[.string (I ++ ⟨#[45, 32]⟩ ++ ty ++ ⟨#[10]⟩)] 9 := ⟨_, rfl⟩
      have HO7 := Lib.hid ((own_below HO5.out hb6).alloc O)
      have HRD : Hid (Reads (w6.alloc O) (w6.heap.size + 1) 1 (some ⟨w6.heap.size, 0, none⟩) 1 [.string (I ++ ⟨#[45, 32]⟩ ++ ty ++ ⟨#[10]⟩)]) := by
        rw [hO]
        exact ⟨rfl, fun _ => ⟨_, rfl, by simp, row_new _ _ [.string (I ++ ⟨#[45, 32]⟩ ++ ty ++ ⟨#[10]⟩)] _ rfl⟩⟩
      have hone : ∀ u ∈ [Value.string (I ++ ⟨#[45, 32]⟩ ++ ty ++ ⟨#[10]⟩)], u.oneCell' = true := fun u hu => by cases List.mem_singleton.1 hu; rfl
      have hk5 : k ≤ 2000 := by omega
      rw [hO] at HO7 HRD
      clear hb6 hO
      go_wp2_with (at_builtin; refine wpList_append_any _ rfl _ _ 139 rfl w3.heap.size 9 s0 (.string ⟨#[]⟩) 1 16 Tryz.underlying139 hsi hs0 hs1 hs2 rfl (by decide) v k _ rfl HO7.out (w6.heap.size + 1) (some ⟨w6.heap.size, 0, none⟩) 1 1 [.string (I ++ ⟨#[45, 32]⟩ ++ ty ++ ⟨#[10]⟩)] rfl HRD.out hone (by unfold maxLen; omega) (by omega) (by simp; omega) ?_; intro v7 w7 hown7 hg7 hat7)
      have HO8 : Hid (w7.ownsRow w3.heap.size 9 1 v7 (k + 1) (((olS l f n2 L).take (k + 1)).map .string)) := by
        show World.ownsRow _ _ _ _ _ _ _
        rw [HTK2.out, List.map_append]; exact hown7
      have HK8 : Hid (Below w3.heap.size w3 w7) := (HK6.out.alloc hz6 _).grown hg7 (by simp; omega) (fun g h => (own_block_lt HO7.out g h).1)
      clear hown7 hg7 hat7 c3
      go_wp2_with fail
      go_roundg (n3 - (k + 1))
      case measure => omega
      case rel => exact ⟨k + 1, v7, by omega, rfl, by go_num, HO8, HK8⟩
    · obtain rfl : k = n3 := by omega
      have hfin : (olS l f n2 L).take k = olS l f n2 L := List.take_of_length_le (by unfold olS; rw [List.length_map, HN3.out]; exact Nat.le_refl _)
      have hof := hown.out
      rw [hfin] at hof
      have hlen : (olS l f n2 L).length = k := by unfold olS; rw [List.length_map, HN3.out]
      have HJ : ∃ A' c', v = .slice A' k c' ∧ Hid (Calls Tryz.prog 118 #[.slice A' k c', .string ⟨#[]⟩] W1 fun e w' => e = .returned (.string (catA (olS l f n2 L))) ∧ Below W1.heap.size W1 w') := by
        rcases hof.2 with ⟨e, h0⟩ | ⟨g, cap, cur, e, hb, hh, hle, _⟩
        · refine ⟨none, 0, by rw [e, h0], ?_⟩
          subst h0
          have hnil : olS l f n2 L = [] := List.eq_nil_of_length_eq_zero hlen
          rw [hnil]
          exact (Tryz.strings_Join_none none 0 ⟨#[]⟩ W1).mono fun e w' h => ⟨h.1, by rw [h.2]; exact Below.refl _ _⟩
        · refine ⟨_, cap, e, ?_⟩
          have hgl := (own_block_lt hof g (by rw [e]; rfl)).2
          have hJ := Tryz.strings_Join g 0 cap (olS l f n2 L) ⟨#[]⟩ W1 (fun j x hx => by
            have hh := hof.cells (g := g) (by rw [e]; rfl) j (.string x) (by rw [List.getElem?_map, hx]; rfl)
            rw [Addr.add_lit] at hh
            exact hh) hgl (by omega) (by omega) (by
              have := HSZ.out
              have h2 : (catA (olS l f n2 L)).size = (Lib.join ((olS l f n2 L).map (·.data.toList)) ((⟨#[]⟩ : ByteArray).data.toList)).length := by
                show Array.size _ = _
                rw [List.size_toArray]
              omega)
          rw [hlen] at hJ
          exact hJ
      obtain ⟨A', c', rfl, HJ⟩ := HJ
      clear hfin hof hlen
      go_wp2_with fail
      refine HJ.out.mono ?_
      rintro e w4 ⟨rfl, hb4⟩
      have HB4 : Hid (Below w.heap.size w w4) := HBW.out.trans (hb4.mono HBW.out.size)
      clear hb4
      go_wp2_with fail
      go_ret
      exact ⟨rfl, HB4.out⟩
end Go.Proofs.YtmkicfjcgbfaaaaGreat
namespace Go.Proofs.YtmkicfjcgbfaaaaGreat
open Go.RowKit

set_option maxHeartbeats 1000000 in
/-- slices.ContainsFunc at blocks, with a closure that looks for an id -/
theorem containsF_any (g : Nat) (hg : IdCl g) (hent : ∀ args w, (callFunc g args).run Tryz.prog w = .ok (.enter g args) w) (l : List Bl) (A : Option Addr) (n c P : Nat) (id : Int) (w : World) (B : Nat) (hB : B ≤ w.heap.size) (hP : P < w.heap.size) (hPc : w.cell? ⟨P, 0, none⟩ = some (.int .i64 id)) (h : RB w B (.slice A n c) l) :
    Calls Tryz.prog 47 #[.slice A n c, .func (.func g) #[] #[.pointer (some ⟨P, 0, none⟩)]] w fun e w' => e = .returned (.bool (decide (0 ≤ posOf l id))) ∧ Below w.heap.size w w' := by
  have HIX := Lib.hid (indexF_any g hg hent l A n c P id w B hB hP hPc h)
  obtain ⟨q, hq⟩ : ∃ q, q = posOf l id := ⟨_, rfl⟩
  rw [← hq] at HIX ⊢
  clear hq h hPc hg hent
  go_enter Tryz.func47, Tryz.ntmps47
  go_wp2_with fail
  refine HIX.out.mono ?_
  rintro e w1 ⟨rfl, hb⟩
  have HB := Lib.hid hb
  clear hb
  go_wp2_with fail
  go_ret
  exact ⟨rfl, HB.out⟩
end Go.Proofs.YtmkicfjcgbfaaaaGreat
