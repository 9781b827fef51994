/-
  DERIVED. Lines that came in, in memory, no larger than their bulk. Conditions: none.
  The walks of tree.Graft and the reference's GraftOf where they refuse. Conditions: sizes.
  By an AI agent.
-/
import Derived.Test.YtmkicfjcgbfaaaaGreatTh06
import Derived.Test.YtmkicfjcgbfaaaaGreatTg20
import Derived.Test.YtmkicfjcgbfaaaaGreatTh03
import Derived.Test.YtmkicfjcgbfaaaaGreatTh04
import Derived.Test.YtmkicfjcgbfaaaaGreatTh07
namespace Go.Proofs.YtmkicfjcgbfaaaaGreat
open Go.ChangeShapes Go.WideShapes Go.Deep Go.RowKit

theorem bulkAll_app {H : Type} : ∀ (a b : List (DataW H)), Rows.uptoBulkAll (a ++ b) = Rows.uptoBulkAll a + Rows.uptoBulkAll b
  | [], b => by simp [Rows.uptoBulkAll]
  | x :: a, b => by rw [List.cons_append, Rows.uptoBulkAll, Rows.uptoBulkAll, bulkAll_app a b]; omega
theorem build {H α : Type} (R : Nat → α → Prop) (wt : α → Nat) (D : Nat → DataW H) : ∀ n, (∀ i, i < n → ∃ x, R i x ∧ wt x ≤ Rows.uptoBulk (D i)) → ∃ M : List α, M.length = n ∧ (∀ i x, M[i]? = some x → R i x) ∧ (M.map wt).sum ≤ Rows.uptoBulkAll ((List.range n).map D)
  | 0, _ => ⟨[], rfl, fun i x h => by simp at h, by simp [Rows.uptoBulkAll]⟩
  | n + 1, h => by
    obtain ⟨M, h1, h2, h3⟩ := build R wt D n (fun i hi => h i (by omega))
    obtain ⟨x, hx, hw⟩ := h n (by omega)
    refine ⟨M ++ [x], by simp [h1], fun i y hy => ?_, ?_⟩
    · rcases Nat.lt_or_ge i M.length with hi | hi
      · rw [List.getElem?_append_left hi] at hy; exact h2 i y hy
      · rw [List.getElem?_append_right hi] at hy
        have h0 : i - M.length = 0 := by
          have := (List.getElem?_eq_some_iff.1 hy).1
          simp at this; omega
        rw [h0] at hy
        obtain rfl : x = y := by simpa using hy
        obtain rfl : i = n := by omega
        exact hx
    · rw [List.range_succ, List.map_append, List.map_append, bulkAll_app, List.sum_append]
      simp [Rows.uptoBulkAll]
      omega
section
variable {H : Type} {enc : TypeId × Value → H} {P : Program} {W : World}
/-- a slice of structs of two one-cell fields that was read -/
theorem open_rows {α : Type} {en : α → List Value} {Q : α → Prop} {wt : α → Nat} {t e : TypeId} {f0 f1 : Field} {fuel : Nat} {u : Value} {d : DataW H} {p : List MemPlace} (ht : P.underlying t = some (.slice e)) (he : P.underlying e = some (.struct #[f0, f1]))
    (hone : oneCellFields P #[f0, f1] = true) (hC : P.cellsOf e = 2) (hen : ∀ x, (en x).length = 2)
    (hrow : ∀ (n : Nat) (v0 v1 : Value) (y0 y1 : DataW H × List MemPlace), DataW.trod enc P W 0 (fun _ => true) true n f0.type [v0] = some y0 → DataW.trod enc P W 0 (fun _ => true) true n f1.type [v1] = some y1 → (∀ x ∈ y0.2, x.block < W.heap.size) → (∀ x ∈ y1.2, x.block < W.heap.size) → ∃ x, en x = [v0, v1] ∧ wt x ≤ Rows.uptoBulk y0.1 + Rows.uptoBulk y1.1 + 1 ∧ Q x)
    (h : DataW.trod enc P W 0 (fun _ => true) true fuel t [u] = some (d, p)) (hp : ∀ x ∈ p, x.block < W.heap.size) :
    ∃ A n c, ∃ M : List α, u = .slice A n c ∧ n = M.length ∧ n ≤ c ∧ Reads W W.heap.size 2 A n (M.flatMap en) ∧ (∀ x ∈ M, Q x) ∧ (M.map wt).sum + 1 ≤ Rows.uptoBulk d := by
  rcases open_slice_fields ht he hone hC h with ⟨hcs, hx⟩ | ⟨a, len, cap, m, D, Pl, hcs, _, hl, hm, hmm, hx, hi⟩
  · simp only [Prod.mk.injEq] at hx
    obtain ⟨rfl, rfl⟩ := hx
    obtain rfl : u = .slice none 0 0 := by simpa using hcs
    exact ⟨none, 0, 0, [], rfl, rfl, Nat.le_refl _, Reads.none_, by simp, by simp [Rows.uptoBulk]⟩
  · simp only [if_true] at hmm
    simp only [Prod.mk.injEq] at hx
    obtain ⟨rfl, rfl⟩ := hx
    obtain rfl : u = .slice (some a) len cap := by simpa using hcs
    obtain ⟨M, h1, h2, h3⟩ := build (α := α) (fun i x => (∀ j w, (en x)[j]? = some w → W.cell? (a.add (i * 2 + j)) = some w) ∧ Q x) wt D len (fun i hil => by
      obtain ⟨ys, n, hD, hPl, hyl, hg⟩ := hi i (by omega)
      obtain ⟨v0, y0, c0, e0, t0⟩ := hg 0 f0 rfl
      obtain ⟨v1, y1, c1, e1, t1⟩ := hg 1 f1 rfl
      have hpl : ∀ y ∈ ys, ∀ x ∈ y.2, x.block < W.heap.size := fun y hy x hx => hp x (List.mem_append_right _ (List.mem_flatMap.2 ⟨i, List.mem_range.2 (by omega), by rw [hPl]; exact List.mem_flatMap.2 ⟨y, hy, hx⟩⟩))
      obtain ⟨x, hx, hw, hq⟩ := hrow n v0 v1 y0 y1 t0 t1 (hpl y0 (List.mem_of_getElem? e0)) (hpl y1 (List.mem_of_getElem? e1))
      have hys : ys = [y0, y1] := by
        have hyl2 : ys.length = 2 := hyl
        match ys, hyl2 with
        | [a0, a1], _ =>
          simp at e0 e1
          rw [e0, e1]
      refine ⟨x, ⟨fun j w hj => ?_, hq⟩, ?_⟩
      · rw [hx] at hj
        rcases j with _ | _ | j
        · obtain rfl : v0 = w := by simpa using hj
          exact c0
        · obtain rfl : v1 = w := by simpa using hj
          exact c1
        · simp at hj
      · rw [hD, hys]
        simp only [List.map_cons, List.map_nil, Rows.uptoBulk, Rows.uptoBulkAll]
        omega)
    refine ⟨some a, len, cap, M, rfl, h1.symm, hl, ⟨by rw [fm_len hen, h1], fun hn => ⟨a, rfl, ?_, fun k w hk => ?_⟩⟩, fun x hx => ?_, by rw [Rows.uptoBulk]; omega⟩
    · exact hp (.cell a.block a.off) (List.mem_append_left _ (MemPlace.mem_row.2 ⟨0, by show 0 < m * 2; omega, by simp⟩))
    · have hkl := (List.getElem?_eq_some_iff.1 hk).1
      rw [fm_len hen] at hkl
      obtain ⟨x, hx⟩ : ∃ x, M[k / 2]? = some x := ⟨_, List.getElem?_eq_getElem (by omega)⟩
      have hkk : k / 2 * 2 + k % 2 = k := by omega
      have h4 := fm_get en 2 hen M (k / 2) (k % 2) x hx (by omega)
      rw [hkk, hk] at h4
      have h5 := (h2 _ x hx).1 (k % 2) w h4.symm
      rw [hkk] at h5
      exact h5
    · obtain ⟨i, hi', rfl⟩ := List.mem_iff_getElem.1 hx
      exact (h2 i _ (List.getElem?_eq_getElem hi')).2
end
section
variable {H : Type} {enc : TypeId × Value → H} {W : World}
set_option maxRecDepth 100000 in
theorem lines_open {u : Value} {d : DataW H} {p : List MemPlace} {r : Reach} {b0 : Nat} (hv : Value.okWide Tryz.prog W r b0 78 u) (h : DataW.Trod enc Tryz.prog W 0 (fun _ => true) true 78 u d p) (hp : ∀ x ∈ p, x.block < W.heap.size) (hb : Rows.uptoBulk d ≤ 1048576) :
    ∃ A n c, ∃ ls, u = .slice A n c ∧ RLn W W.heap.size u ls := by
  obtain ⟨a0, n0, c0, rfl⟩ := okWide_slice Tryz.underlying78 hv
  obtain ⟨fuel, hf⟩ := h
  obtain ⟨A, n, c, M, e, h1, h2, h3, h4, h5⟩ := open_rows (en := lnV) (Q := fun x : Int × ByteArray => I64 x.1) (wt := fun x => x.2.size + 1) Tryz.underlying78 Tryz.underlying138 (by kernel_rfl) (by kernel_rfl) (fun _ => rfl)
    (fun n v0 v1 y0 y1 t0 t1 _ _ => by
      obtain ⟨k, e0, rfl, hk⟩ := DataW.trod_int Tryz.underlying3 t0
      obtain ⟨s, e1, rfl, _⟩ := DataW.trod_string Tryz.underlying9 t1
      simp at e0 e1
      subst e0 e1
      exact ⟨(k, s), rfl, by
        simp only [Rows.uptoBulk]
        have e : s.data.toList.length = s.size := rfl
        omega, i64_bounds hk⟩) hf hp
  injection e with e1 e2 e3
  subst e1 e2 e3
  have hlen : ∀ L : List (Int × ByteArray), L.length ≤ (L.map fun x => x.2.size + 1).sum := by
    intro L
    induction L with
    | nil => exact Nat.le_refl _
    | cons a L ih => rw [List.map_cons, List.sum_cons, List.length_cons]; omega
  have hmem : ∀ L : List (Int × ByteArray), ∀ x ∈ L, x.2.size ≤ (L.map fun x => x.2.size + 1).sum := by
    intro L
    induction L with
    | nil => intro x hx; cases hx
    | cons a L ih =>
      intro x hx
      rw [List.map_cons, List.sum_cons]
      rcases List.mem_cons.1 hx with rfl | hx
      · omega
      · have := ih x hx; omega
  have hl := hlen M
  exact ⟨a0, n0, c0, M, rfl, a0, n0, c0, rfl, h1, h2, by omega, h3, fun x hx => ⟨h4 x hx, by have := hmem M x hx; omega⟩⟩
end
end Go.Proofs.YtmkicfjcgbfaaaaGreat
namespace Go.Proofs.YtmkicfjcgbfaaaaGreat
open Go.RowKit

set_option maxRecDepth 100000 in
set_option maxHeartbeats 4000000 in
theorem graft_bad (l : List Bl) (f : Int → Option Int) (hf : DepOk l f) (A : Option Addr) (n c : Nat) (id pl : Int) (hid : I64 id) (lv : Value) (w : World) (h : RB w w.heap.size (.slice A n c) l) (hne : ciE l f id ≠ 0) :
    Calls Tryz.prog 51 #[.slice A n c, .int .i64 id, .int .i64 pl, lv] w (ManyR [] (ciE l f id) w) := by
  have HC := Lib.hid (checkId_any l f A n c id hid w w.heap.size (Nat.le_refl _) h hf)
  obtain ⟨er, her⟩ : ∃ er, er = ciE l f id := ⟨_, rfl⟩
  rw [← her] at HC hne ⊢
  have h0' : (er != 0) = true := by simpa using hne
  have HNE := Lib.hid hne
  clear her hne h hid
  go_enter Tryz.func51, Tryz.ntmps51
  go_wp2_with fail
  refine HC.out.mono ?_
  rintro e w1 ⟨rfl, hb1⟩
  have HB1 := Lib.hid hb1
  clear hb1
  go_wp2_with fail
  go_ret2
  exact ⟨⟨_, _, _, rfl, .inr ⟨HNE.out, rfl, rfl, rfl⟩⟩, HB1.out⟩
set_option maxRecDepth 100000 in
set_option maxHeartbeats 4000000 in
theorem graftOf_none (l : List Bl) (A : Option Addr) (n c : Nat) (id pl : Int) (lv : Value) (w : World) (h : RB w w.heap.size (.slice A n c) l) (hne : posOf l id < 0) :
    Calls Tryz.prog 52 #[.slice A n c, .int .i64 id, .int .i64 pl, lv] w (ManyR [] 7 w) := by
  have HC := Lib.hid (at_any l A n c id w w.heap.size (Nat.le_refl _) h)
  obtain ⟨er, her⟩ : ∃ er, er = posOf l id := ⟨_, rfl⟩
  rw [← her] at HC hne
  clear her h
  go_enter Tryz.func52, Tryz.ntmps52
  go_wp2_with fail
  refine HC.out.mono ?_
  rintro e w1 ⟨rfl, hb1⟩
  have HB1 := Lib.hid hb1
  clear hb1
  go_wp2_with fail
  go_ret2
  exact ⟨⟨_, _, _, rfl, .inr ⟨by decide, rfl, rfl, rfl⟩⟩, HB1.out⟩
set_option maxRecDepth 100000 in
set_option maxHeartbeats 4000000 in
theorem graft_low (l : List Bl) (f : Int → Option Int) (G : Good l f) (A : Option Addr) (n c : Nat) (id pl : Int) (hid : I64 id) (lv : Value) (w : World) (h : RB w w.heap.size (.slice A n c) l) (p : Nat) (x : Bl) (hx : l[p]? = some x) (hxi : x.id = id) (hlow : pl < 0) :
    Calls Tryz.prog 51 #[.slice A n c, .int .i64 id, .int .i64 pl, lv] w (ManyR [] 2 w) := by
  have hpos := posOf_of G.kids.rise hx
  rw [hxi] at hpos
  have hpn : p < n := by have := (List.getElem?_eq_some_iff.1 hx).1; have := h.len.1; omega
  have hn8 : n ≤ 2000 := by have := G.kids.short; have := h.len.1; omega
  have HC := Lib.hid (checkId_any l f A n c id hid w w.heap.size (Nat.le_refl _) h fun _ => G.dep)
  rw [show ciE l f id = 0 by unfold ciE; rw [if_neg (fun e => e G.clean), if_neg (by omega)]] at HC
  have HIX := Lib.hid fun W (hW : Below w.heap.size w W) => index_any l A n c id W w.heap.size hW.size (h.below hW) G.kids.rise G.kids.ids hid
  rw [hpos] at HIX
  obtain ⟨b, off, Kx, nkx, ckx, _, _, _, rfl, hbb, _, _, g2, _, _, hKx, _⟩ := h.at_ hx
  have hnk : nkx = x.kids.length := hKx.len.1
  have G2 := Lib.hid g2
  have p0 : (0 : Int) ≤ (p : Int) := by omega
  have p1 : (p : Int) < (n : Int) := by omega
  have hnp : ¬ (p : Int) < 0 := by omega
  clear h hx hxi hpos g2 hKx hnk G
  go_enter Tryz.func51, Tryz.ntmps51
  go_wp2_with fail
  refine HC.out.mono ?_
  rintro e w1 ⟨rfl, hb1⟩
  have HB1 := Lib.hid hb1
  clear hb1
  go_wp2_with fail
  go_ret2
  exact ⟨⟨_, _, _, rfl, .inr ⟨by decide, rfl, rfl, rfl⟩⟩, HB1.out⟩
set_option maxRecDepth 100000 in
set_option maxHeartbeats 4000000 in
theorem graft_high (l : List Bl) (f : Int → Option Int) (G : Good l f) (A : Option Addr) (n c : Nat) (id pl : Int) (hid : I64 id) (lv : Value) (w : World) (h : RB w w.heap.size (.slice A n c) l) (p : Nat) (x : Bl) (hx : l[p]? = some x) (hxi : x.id = id) (hlow : ¬ pl < 0) (hhigh : (x.kids.length : Int) < pl) :
    Calls Tryz.prog 51 #[.slice A n c, .int .i64 id, .int .i64 pl, lv] w (ManyR [] 2 w) := by
  have hpos := posOf_of G.kids.rise hx
  rw [hxi] at hpos
  have hpn : p < n := by have := (List.getElem?_eq_some_iff.1 hx).1; have := h.len.1; omega
  have hn8 : n ≤ 2000 := by have := G.kids.short; have := h.len.1; omega
  have HC := Lib.hid (checkId_any l f A n c id hid w w.heap.size (Nat.le_refl _) h fun _ => G.dep)
  rw [show ciE l f id = 0 by unfold ciE; rw [if_neg (fun e => e G.clean), if_neg (by omega)]] at HC
  have HIX := Lib.hid fun W (hW : Below w.heap.size w W) => index_any l A n c id W w.heap.size hW.size (h.below hW) G.kids.rise G.kids.ids hid
  rw [hpos] at HIX
  obtain ⟨b, off, Kx, nkx, ckx, _, _, _, rfl, hbb, _, _, g2, _, _, hKx, _⟩ := h.at_ hx
  have hnk : nkx = x.kids.length := hKx.len.1
  rw [← hnk] at hhigh
  have G2 := Lib.hid g2
  have p0 : (0 : Int) ≤ (p : Int) := by omega
  have p1 : (p : Int) < (n : Int) := by omega
  have hnp : ¬ (p : Int) < 0 := by omega
  clear h hx hxi hpos g2 hKx hnk G
  go_enter Tryz.func51, Tryz.ntmps51
  go_wp2_with fail
  refine HC.out.mono ?_
  rintro e w1 ⟨rfl, hb1⟩
  have HB1 := Lib.hid hb1
  clear hb1
  go_wp2_with fail
  refine (HIX.out w1 HB1.out).mono ?_
  rintro e w2 ⟨rfl, hb2⟩
  have HB2 : Hid (Below w.heap.size w w2) := HB1.out.trans (hb2.mono HB1.out.size)
  have k2 : w2.cell? ⟨b, off + p * 5 + 2, none⟩ = _ := (HB2.out.cell (p := ⟨b, off + p * 5 + 2, none⟩) (by show b < _; omega)).trans G2.out
  clear hb2
  go_wp2_with fail
  go_ret2
  exact ⟨⟨_, _, _, rfl, .inr ⟨by decide, rfl, rfl, rfl⟩⟩, HB2.out⟩
set_option maxRecDepth 100000 in
set_option maxHeartbeats 4000000 in
theorem graftOf_low (l : List Bl) (f : Int → Option Int) (G : Good l f) (A : Option Addr) (n c : Nat) (id pl : Int) (_ : I64 id) (lv : Value) (w : World) (h : RB w w.heap.size (.slice A n c) l) (p : Nat) (x : Bl) (hx : l[p]? = some x) (hxi : x.id = id) (hlow : pl < 0) :
    Calls Tryz.prog 52 #[.slice A n c, .int .i64 id, .int .i64 pl, lv] w (ManyR [] 2 w) := by
  have hpos := posOf_of G.kids.rise hx
  rw [hxi] at hpos
  have hpn : p < n := by have := (List.getElem?_eq_some_iff.1 hx).1; have := h.len.1; omega
  have hn8 : n ≤ 2000 := by have := G.kids.short; have := h.len.1; omega
  have HIX := Lib.hid fun W (hW : Below w.heap.size w W) => at_any l A n c id W w.heap.size hW.size (h.below hW)
  rw [hpos] at HIX
  obtain ⟨b, off, Kx, nkx, ckx, _, _, _, rfl, hbb, _, _, g2, _, _, hKx, _⟩ := h.at_ hx
  have hnk : nkx = x.kids.length := hKx.len.1
  have G2 := Lib.hid g2
  have p0 : (0 : Int) ≤ (p : Int) := by omega
  have p1 : (p : Int) < (n : Int) := by omega
  have hnp : ¬ (p : Int) < 0 := by omega
  clear h hx hxi hpos g2 hKx hnk G
  go_enter Tryz.func52, Tryz.ntmps52
  go_wp2_with fail
  refine (HIX.out w (Below.refl _ _)).mono ?_
  rintro e w2 ⟨rfl, hb2⟩
  have HB2 : Hid (Below w.heap.size w w2) := hb2
  have k2 : w2.cell? ⟨b, off + p * 5 + 2, none⟩ = _ := (HB2.out.cell (p := ⟨b, off + p * 5 + 2, none⟩) (by show b < _; omega)).trans G2.out
  clear hb2
  go_wp2_with fail
  go_ret2
  exact ⟨⟨_, _, _, rfl, .inr ⟨by decide, rfl, rfl, rfl⟩⟩, HB2.out⟩
set_option maxRecDepth 100000 in
set_option maxHeartbeats 4000000 in
theorem graftOf_high (l : List Bl) (f : Int → Option Int) (G : Good l f) (A : Option Addr) (n c : Nat) (id pl : Int) (_ : I64 id) (lv : Value) (w : World) (h : RB w w.heap.size (.slice A n c) l) (p : Nat) (x : Bl) (hx : l[p]? = some x) (hxi : x.id = id) (hlow : ¬ pl < 0) (hhigh : (x.kids.length : Int) < pl) :
    Calls Tryz.prog 52 #[.slice A n c, .int .i64 id, .int .i64 pl, lv] w (ManyR [] 2 w) := by
  have hpos := posOf_of G.kids.rise hx
  rw [hxi] at hpos
  have hpn : p < n := by have := (List.getElem?_eq_some_iff.1 hx).1; have := h.len.1; omega
  have hn8 : n ≤ 2000 := by have := G.kids.short; have := h.len.1; omega
  have HIX := Lib.hid fun W (hW : Below w.heap.size w W) => at_any l A n c id W w.heap.size hW.size (h.below hW)
  rw [hpos] at HIX
  obtain ⟨b, off, Kx, nkx, ckx, _, _, _, rfl, hbb, _, _, g2, _, _, hKx, _⟩ := h.at_ hx
  have hnk : nkx = x.kids.length := hKx.len.1
  rw [← hnk] at hhigh
  have G2 := Lib.hid g2
  have p0 : (0 : Int) ≤ (p : Int) := by omega
  have p1 : (p : Int) < (n : Int) := by omega
  have hnp : ¬ (p : Int) < 0 := by omega
  clear h hx hxi hpos g2 hKx hnk G
  go_enter Tryz.func52, Tryz.ntmps52
  go_wp2_with fail
  refine (HIX.out w (Below.refl _ _)).mono ?_
  rintro e w2 ⟨rfl, hb2⟩
  have HB2 : Hid (Below w.heap.size w w2) := hb2
  have k2 : w2.cell? ⟨b, off + p * 5 + 2, none⟩ = _ := (HB2.out.cell (p := ⟨b, off + p * 5 + 2, none⟩) (by show b < _; omega)).trans G2.out
  clear hb2
  go_wp2_with fail
  go_ret2
  exact ⟨⟨_, _, _, rfl, .inr ⟨by decide, rfl, rfl, rfl⟩⟩, HB2.out⟩
end Go.Proofs.YtmkicfjcgbfaaaaGreat
