/-
  DERIVED. The walk of a history's Do. Conditions: sizes.
  The walks of a history's Undo, Redo and At. Conditions: sizes.
  The walk of tree.Inverse. Conditions: sizes.
  DERIVED: THE SHELF's CONTRACTS AT THIS DUMP, IN PLAIN WORDS (tools/lay-plain.mjs out of 'TryShelf.lean', which tools/lay-shelf.mjs wrote): THE SAME DECLARATIONS UNDER THE SAME NAMES: 'import', 'namespace', 'open', 'def', 'theorem' AND NOTHING ELSE: no command of the shelf's: FOR A HAND-IN. Each laying: the table of numbers ('.._ren') and one theorem, a field a fact of the dump's own or the kernel's comparison; each contract: ONE APPLICATION.
  Slices of ints: what Equal says. Conditions: sizes.
  Same properties, blocks, bases: the plain law. Conditions: none.
  By an AI agent.
-/
import Derived.Test.YtmkicfjcgbfaaaaGreatTb06
import Derived.Test.YtmkicfjcgbfaaaaGreatTb03
import Derived.Test.YtmkicfjcgbfaaaaGreatTb04
import Derived.Test.YtmkicfjcgbfaaaaGreatTb02
import Derived.Test.YtmkicfjcgbfaaaaGreatTa22
import Derived.Test.YtmkicfjcgbfaaaaGreatTa10
import Derived.Shelf.Slices.Equal
import Derived.Shelf.Slices.Cells
import Derived.Shelf.Slices.Empties2
import Derived.Test.YtmkicfjcgbfaaaaGreatProg
import Derived.Test.YtmkicfjcgbfaaaaGreatTa02
import Derived.Test.YtmkicfjcgbfaaaaGreatTa07
namespace Go.Proofs.YtmkicfjcgbfaaaaGreat
open Go.RowKit

/-- what Do leaves -/
def Do1R (gh : Nat) (lf : List Bl) (os : List Opn) (d : Nat) (o : Opn) (er : Int) (w : World) (e : Ending) (w' : World) : Prop :=
  (er ≠ 0 ∧ e = .returned (.int .i64 er) ∧ Below w.heap.size w w') ∨ (er = 0 ∧ e = .returned (.int .i64 0) ∧ ∃ gn', HistM w' gh gn' lf (os.take d ++ [o]) (d + 1) ∧ w.heap.size ≤ gn' ∧ Kept (fun b => b = gh) w w')
set_option maxRecDepth 100000 in
set_option maxHeartbeats 4000000 in
/-- the method Do -/
theorem do_any (w : World) (gh gn : Nat) (lf : List Bl) (os : List Opn) (d : Nat) (h : HistM w gh gn lf os d) (hd : d < 5000) (f : Int → Option Int) (G : Good (applL lf (os.take d)) f) (o : Opn) (hoi : OI o) (Av : Option Addr) (nv cv : Nat) (hv : RVX w (fun b => b < w.heap.size ∧ b ≠ gh) (.slice Av nv cv) o.val.items) :
    Calls Tryz.prog 23 #[.pointer (some ⟨gh, 0, none⟩), AO (o, .slice Av nv cv)] w (Do1R gh lf os d o (opErr (applL lf (os.take d)) f o) w) := by
  obtain ⟨wb, hwb⟩ : ∃ wb, wb = (w.alloc (.cells (opC o (.slice Av nv cv)) 31)).alloc (.cells (opC o (.slice Av nv cv)) 31) := ⟨_, rfl⟩
  have hb0 : Below w.heap.size w (w.alloc (.cells (opC o (.slice Av nv cv)) 31)) := (Below.refl _ _).alloc (Nat.le_refl _) _
  have hbb : Below w.heap.size w wb := by rw [hwb]; exact hb0.alloc hb0.size _
  have hz : wb.heap.size = w.heap.size + 2 := by rw [hwb]; simp
  have P0 : Hid (Blk (w.alloc (.cells (opC o (.slice Av nv cv)) 31)) w.heap.size 31 (opC o (.slice Av nv cv))) := Blk.new _ _ _
  have P1 : Blk wb (w.heap.size + 1) 31 (opV (o, .slice Av nv cv)).toArray := by
    rw [hwb]
    have := Blk.new (w.alloc (.cells (opC o (.slice Av nv cv)) 31)) 31 (opC o (.slice Av nv cv))
    have h2 : (w.alloc (.cells (opC o (.slice Av nv cv)) 31)).heap.size = w.heap.size + 1 := by simp
    rw [h2] at this
    exact this
  have hgh := h.lt.1
  have hros : ROsX wb (fun b => b < wb.heap.size ∧ b ≠ gh) (.slice (some ⟨w.heap.size + 1, 0, none⟩) 1 1) [o] := ROsX.one P1 ⟨by omega, by omega⟩ ((hv.keep fun p hp => hbb.cell hp.1).weak fun b hb => ⟨by have := hb.1; omega, hb.2⟩) hoi
  have hgood := h.good
  have HDA : Hid (Calls Tryz.prog 24 #[.pointer (some ⟨gh, 0, none⟩), .slice (some ⟨w.heap.size + 1, 0, none⟩) 1 1] wb (Do1R gh lf os d o (opErr (applL lf (os.take d)) f o) w)) := by
    refine (doAll_any wb gh gn lf os d (h.below hbb) [o] _ 1 1 hros (by show d + 1 ≤ 5000; omega)).mono ?_
    rintro e w' (⟨k, er, h1, ⟨o2, f2, h2, h3, h4, h5⟩, rfl, h6⟩ | ⟨h1, rfl, ⟨h2, _⟩ | ⟨_, _, gn', h2, h3, h4⟩⟩)
    · obtain rfl : k = 0 := by
        have := (List.getElem?_eq_some_iff.1 h2).1
        simpa using this
      obtain rfl : o = o2 := by simpa using h2
      have h3 : Good (applL lf (os.take d)) f2 := h3
      have h4 : opErr (applL lf (os.take d)) f2 o = er := h4
      rw [G.uniq h3, h4]
      exact .inl ⟨h5, rfl, hbb.trans (h6.mono hbb.size)⟩
    · cases h2
    · obtain ⟨f2, h5, h6⟩ := h1 0 o rfl
      have h5 : Good (applL lf (os.take d)) f2 := h5
      have h6 : opErr (applL lf (os.take d)) f2 o = 0 := h6
      rw [G.uniq h5, h6]
      exact .inr ⟨rfl, rfl, gn', h2, by omega, (Kept.of hbb).trans h4 fun _ _ e => e⟩
  obtain ⟨er, her⟩ : ∃ er, er = opErr (applL lf (os.take d)) f o := ⟨_, rfl⟩
  rw [← her] at HDA ⊢
  have HWB := Lib.hid hwb
  dsimp only [AO, opC] at HWB P0 ⊢
  have e0 := fun i => P0.out.cell i
  clear hwb hb0 hbb hz P1 hros hgood hv her h G hgh
  go_enter Tryz.func23, Tryz.ntmps23
  go_upto_region 1 with fail
  go_wp2_with (rw [← HWB.out]; refine HDA.out.mono ?_)
  rintro e w2 (⟨h1, rfl, h2⟩ | ⟨h1, rfl, h2⟩)
  · have H1 := Lib.hid h1
    have H2 := Lib.hid h2
    clear h1 h2
    go_wp2_with fail
    go_ret
    exact .inl ⟨H1.out, rfl, H2.out⟩
  · have H1 := Lib.hid h1
    have H2 := Lib.hid h2
    clear h1 h2
    go_wp2_with fail
    go_ret
    exact .inr ⟨H1.out, rfl, H2.out⟩
end Go.Proofs.YtmkicfjcgbfaaaaGreat
namespace Go.Proofs.YtmkicfjcgbfaaaaGreat
open Go.RowKit

set_option maxRecDepth 100000 in
set_option maxHeartbeats 2000000 in
/-- the method Undo where nothing is done -/
theorem undo_no (w : World) (gh gn : Nat) (lf : List Bl) (os : List Opn) (h : HistM w gh gn lf os 0) :
    Calls Tryz.prog 19 #[.pointer (some ⟨gh, 0, none⟩)] w fun e w' => e = .returned (.bool false) ∧ w' = w := by
  obtain ⟨_, ⟨Af, nf, cf, Ao, no, co, nn, cn, M, h1, _⟩, _, _, _⟩ := h
  have c2 : w.cell? ⟨gh, 2, none⟩ = some (.int .i64 0) := h1.cell 2
  clear h1
  go_enter Tryz.func19, Tryz.ntmps19
  go_wp2_with fail
  go_ret
  exact ⟨rfl, rfl⟩
set_option maxRecDepth 100000 in
set_option maxHeartbeats 2000000 in
/-- the method Undo -/
theorem undo_any (w : World) (gh gn : Nat) (lf : List Bl) (os : List Opn) (d : Nat) (h : HistM w gh gn lf os (d + 1)) :
    Calls Tryz.prog 19 #[.pointer (some ⟨gh, 0, none⟩)] w (BackR gh lf os d (.bool true) w) := by
  have HW := Lib.hid (rewind_any w gh gn lf os (d + 1) d h (by have := h.le; omega))
  have hb : d + 1 ≤ 2305843009213693951 := by
    have hle := h.le
    obtain ⟨_, ⟨Af, nf, cf, Ao, no, co, nn, cn, M, h1, _, h3, _⟩, _, _, _⟩ := h
    have hno := (h3.reads (B := w.heap.size) fun b hb => hb.1).len
    omega
  obtain ⟨_, ⟨Af, nf, cf, Ao, no, co, nn, cn, M, h1, _⟩, _, _, _⟩ := h
  have c2 : w.cell? ⟨gh, 2, none⟩ = some (.int .i64 ((d : Int) + 1)) := h1.cell 2
  have hd : ((d : Int) + 1 == 0) = false := by
    have : ¬ ((d : Int) + 1 = 0) := by omega
    simpa using this
  have hd1 : (d : Int) + 1 - 1 = (d : Int) := by omega
  clear h1
  go_enter Tryz.func19, Tryz.ntmps19
  go_wp2_with fail
  refine HW.out.mono ?_
  rintro e w1 ⟨gn', rfl, hh⟩
  have HH := Lib.hid hh
  clear hh
  go_wp2_with fail
  go_ret
  exact ⟨gn', rfl, HH.out⟩
set_option maxRecDepth 100000 in
set_option maxHeartbeats 2000000 in
/-- the method Redo where nothing is undone -/
theorem redo_no (w : World) (gh gn : Nat) (lf : List Bl) (os : List Opn) (d : Nat) (h : HistM w gh gn lf os d) (hd : d = os.length) :
    Calls Tryz.prog 20 #[.pointer (some ⟨gh, 0, none⟩)] w fun e w' => e = .returned (.bool false) ∧ Below w.heap.size w w' := by
  obtain ⟨_, ⟨Af, nf, cf, Ao, no, co, nn, cn, M, h1, _, h3, _⟩, _, _, _⟩ := h
  have hno := (h3.reads (B := w.heap.size) fun b hb => hb.1).len
  have hn : no = d := hno.1.trans hd.symm
  subst hn
  have c1 : w.cell? ⟨gh, 1, none⟩ = some (.slice Ao no co) := h1.cell 1
  have c2 : w.cell? ⟨gh, 2, none⟩ = some (.int .i64 (no : Int)) := h1.cell 2
  clear h1 h3 hno hd
  go_enter Tryz.func20, Tryz.ntmps20
  go_upto_region 1 with fail
  go_quiet (fail)
  go_wp2_with fail
  go_ret
  exact ⟨rfl, bdrew (Below.refl _ _) nq⟩
/-- what a step on leaves -/
def OnR (gh gn : Nat) (lf : List Bl) (os : List Opn) (n : Nat) (v : Value) (w : World) (e : Ending) (w' : World) : Prop := ∃ gn', e = .returned v ∧ HistM w' gh gn' lf os n ∧ (gn' = gn ∨ w.heap.size ≤ gn') ∧ Kept (fun b => b = gh ∨ b = gn) w w'
set_option maxRecDepth 100000 in
set_option maxHeartbeats 8000000 in
/-- the method Redo -/
theorem redo_any (w : World) (gh gn : Nat) (lf : List Bl) (os : List Opn) (d : Nat) (h : HistM w gh gn lf os d) (hd : d < os.length) :
    Calls Tryz.prog 20 #[.pointer (some ⟨gh, 0, none⟩)] w (OnR gh gn lf os (d + 1) (.bool true) w) := by
  have H := Lib.hid h
  have hgl := h.lt
  have hne0 := h.ne
  have hok := h.ok
  obtain ⟨_, ⟨Af, nf, cf, Ao, no, co, nn, cn, M, h1, h2, h3, hml, hmm, hrow⟩, _, _, _⟩ := h
  have hno := (h3.reads (B := w.heap.size) fun b hb => hb.1).len
  have hn : no = os.length := hno.1
  have hnb : no * 144 ≤ 140737488351232 := hno.2.2
  have hnc : no ≤ co := hno.2.1
  obtain ⟨o, hko⟩ : ∃ o, os[d]? = some o := ⟨_, List.getElem?_eq_getElem hd⟩
  obtain ⟨b, off, Av, nv, cv, rfl, hSb, hc, hrv, hoi⟩ := h3.at_ (B := w.heap.size) (fun b hb => hb.1) hko
  have hSN : applL lf (os.take (d + 1)) = applied (applL lf (os.take d)) o := applL_snoc hko
  obtain ⟨f, G, he⟩ := hok d o hko
  -- the call of done, wherever the operation's box lies
  have HDN : Hid (∀ (W : World) (blk : Nat), Below w.heap.size w W → w.heap.size ≤ blk → Blk W blk 31 (opC o (.slice Av nv cv)) →
      Calls Tryz.prog 61 #[.slice (some ⟨gn, 0, none⟩) nn cn, .slice (some ⟨blk, 0, none⟩) 1 1] W fun e w' => ∃ (g' cap' n' : Nat) (M' : List BK), e = .returned (.slice (some ⟨g', 0, none⟩) n' cap') ∧ (M'.length = n' ∧ M'.map Prod.fst = applL lf (os.take (d + 1)) ∧ RowS (fun b => b ≠ gh) w' g' cap' M' ∧ (g' = gn ∨ w.heap.size ≤ g')) ∧ Kept (fun b => b = gn) w w') := by
    intro W blk hW hblk hk
    have hzz := hW.size
    have hgl1 := hgl.1
    have hgl2 := hgl.2
    refine (doneS_any W (S := fun b => b ≠ gh) (fun b hb => by omega) gn cn nn M (applL lf (os.take d)) [o] (hrow.below hW) hml hmm _ 1 1 (ROsX.one (u := .slice Av nv cv) hk ⟨hk.lt, by omega⟩ ((hrv.keep fun p hp => hW.cell hp.1).weak fun b hb => ⟨by have := hb.1; omega, hb.2.2⟩) hoi) (OkAll.one G he)).mono ?_
    rintro e w' ⟨g', cap', n', M', rfl, q1, q2, q3, q4, q5⟩
    refine ⟨g', cap', n', M', rfl, ⟨q1, by rw [hSN]; exact q2, q3, ?_⟩, ?_⟩
    · rcases q5 with e | e
      · exact .inl e
      · exact .inr (by omega)
    · exact ⟨q4.os.trans hW.os, q4.tape.trans hW.tape, q4.output.trans hW.output, Nat.le_trans hzz q4.size, fun i hi hn => (q4.block i (by omega) fun e => hn (Option.some.inj e)).trans (hW.block i hi)⟩
  have HFIN : Hid (∀ (W : World) (g' cap' n' : Nat) (M' : List BK), M'.length = n' ∧ M'.map Prod.fst = applL lf (os.take (d + 1)) ∧ RowS (fun b => b ≠ gh) W g' cap' M' ∧ (g' = gn ∨ w.heap.size ≤ g') → Kept (fun b => b = gn) w W → OnR gh gn lf os (d + 1) (.bool true) w (.returned (.bool true)) ((W.setCell ⟨gh, 3, none⟩ (.slice (some ⟨g', 0, none⟩) n' cap')).setCell ⟨gh, 2, none⟩ (.int .i64 ((d : Int) + 1)))) := by
    intro W g' cap' n' M' ⟨q1, q2, q3, q4⟩ hW
    have hgh := hgl.1
    have hne : g' ≠ gh := by
      rcases q4 with e | e
      · rw [e]; exact hne0
      · omega
    have hzz := hW.size
    have hzs : ((W.setCell ⟨gh, 3, none⟩ (.slice (some ⟨g', 0, none⟩) n' cap')).setCell ⟨gh, 2, none⟩ (.int .i64 ((d : Int) + 1))).heap.size = W.heap.size := by simp [World.setCell]
    have hfr : ∀ b, b ≠ gh → ((W.setCell ⟨gh, 3, none⟩ (.slice (some ⟨g', 0, none⟩) n' cap')).setCell ⟨gh, 2, none⟩ (.int .i64 ((d : Int) + 1))).heap[b]? = W.heap[b]? := fun b hb => (Below.heap_setCell _ _ _ b hb).trans (Below.heap_setCell W _ _ b hb)
    have P1 := hW.blk h1 hne0.symm
    have hblk := (P1.set_ 3 (.slice (some ⟨g', 0, none⟩) n' cap')).set_ 2 (.int .i64 ((d : Int) + 1))
    refine ⟨g', rfl, H.out.turn h2 h3 (by omega) (by omega) (fun b hb => (hfr b hb.2.1).trans (hW.block b hb.1 hb.2.2)) hblk q1 q2 (q3.keep (fun b hb => hfr b ?_) (by omega)) q4, q4, ?_⟩
    · rcases hb with e | e
      · rw [e]; exact hne
      · exact e.2
    · exact ⟨hW.os, hW.tape, hW.output, by omega, fun b hb hb2 => (hfr b fun e => hb2 (.inl e)).trans (hW.block b hb fun e => hb2 (.inr e))⟩
  have HWK : Hid (∀ W, Kept (fun b => b = gn) w W → (∀ i, W.cell? ⟨gh, i, none⟩ = (#[.slice Af nf cf, .slice (some ⟨b, off, none⟩) no co, .int .i64 (d : Int), .slice (some ⟨gn, 0, none⟩) nn cn] : Array Value)[i]?) ∧ ∀ i, W.frozen? ⟨gh, i, none⟩ = false) := fun W hW => by
    have P1 := hW.blk h1 hne0.symm
    exact ⟨fun i => P1.cell i, fun i => P1.frozen i⟩
  have HOP : Hid (∀ W, Below w.heap.size w W → ∀ i u, (opV (o, .slice Av nv cv))[i]? = some u → W.cell? ⟨b, off + d * 13 + i, none⟩ = some u) := fun W hW i u hu => by
    rw [hW.cell (p := ⟨b, off + d * 13 + i, none⟩) hSb.1]; exact hc i u hu
  obtain ⟨e0, ef⟩ := HWK.out w (Kept.of (Below.refl _ _))
  have c1 := e0 1
  have c2 := e0 2
  have HGL : Hid (gh < w.heap.size) := hgl.1
  have hdn : d < no := by omega
  have hd0 : (0 : Int) ≤ (d : Int) := by omega
  have hd1 : (d : Int) < (no : Int) := by omega
  have hdl : d ≤ 9000000000000000 := by omega
  have hde : ((d : Int) == (no : Int)) = false := by
    have : ¬ ((d : Int) = (no : Int)) := by omega
    simpa using this
  obtain ⟨ok, oi, op, oa, of, ot, ox, on, ⟨vk, vi, vt, vs, vl⟩⟩ := o
  dsimp only [opC, Vl.kind, Vl.int_, Vl.to_, Vl.text] at HDN
  clear h1 h2 h3 hml hmm hrow hno hn hnb hnc hok hko hSb hc hrv hoi hSN G he e0 ef hgl hne0 hd
  go_enter Tryz.func20, Tryz.ntmps20
  go_upto_region 1 with fail
  go_quiet (fail)
  obtain ⟨wq, hwq⟩ : ∃ wq, wq = w.drewN nq := ⟨_, rfl⟩
  have HBQ : Hid (Below w.heap.size w wq) := by rw [hwq]; exact bdrew (Below.refl _ _) nq
  have hqs : w.heap.size ≤ wq.heap.size := HBQ.out.size
  rw [← hwq]
  clear c1 c2 hwq
  obtain ⟨e0, ef⟩ := HWK.out wq (Kept.of HBQ.out)
  have c1 := e0 1
  have c2 := e0 2
  have c3 := e0 3
  have hc := HOP.out wq HBQ.out
  have g0 : wq.cell? ⟨b, off + d * 13, none⟩ = some (.int .i64 ok) := hc 0 _ rfl
  have g1 : wq.cell? ⟨b, off + d * 13 + 1, none⟩ = some (.int .i64 oi) := hc 1 _ rfl
  have g2 : wq.cell? ⟨b, off + d * 13 + 2, none⟩ = some (.int .i64 op) := hc 2 _ rfl
  have g3 : wq.cell? ⟨b, off + d * 13 + 3, none⟩ = some (.int .i64 oa) := hc 3 _ rfl
  have g4 : wq.cell? ⟨b, off + d * 13 + 4, none⟩ = some (.int .i64 of) := hc 4 _ rfl
  have g5 : wq.cell? ⟨b, off + d * 13 + 5, none⟩ = some (.int .i64 ot) := hc 5 _ rfl
  have g6 : wq.cell? ⟨b, off + d * 13 + 6, none⟩ = some (.string ox) := hc 6 _ rfl
  have g7 : wq.cell? ⟨b, off + d * 13 + 7, none⟩ = some (.string on) := hc 7 _ rfl
  have g8 : wq.cell? ⟨b, off + d * 13 + 8, none⟩ = some (.int .i64 vk) := hc 8 _ rfl
  have g9 : wq.cell? ⟨b, off + d * 13 + 9, none⟩ = some (.int .i64 vi) := hc 9 _ rfl
  have g10 : wq.cell? ⟨b, off + d * 13 + 10, none⟩ = some (.int .i64 vt) := hc 10 _ rfl
  have g11 : wq.cell? ⟨b, off + d * 13 + 11, none⟩ = some (.string vs) := hc 11 _ rfl
  have g12 : wq.cell? ⟨b, off + d * 13 + 12, none⟩ = some (.slice Av nv cv) := hc 12 _ rfl
  have HBA : Hid (Below w.heap.size w (wq.alloc (.cells #[.int .i64 ok, .int .i64 oi, .int .i64 op, .int .i64 oa, .int .i64 of, .int .i64 ot, .string ox, .string on, .int .i64 vk, .int .i64 vi, .int .i64 vt, .string vs, .slice Av nv cv] 31))) := HBQ.out.alloc hqs _
  have PBA : Hid (Blk (wq.alloc (.cells #[.int .i64 ok, .int .i64 oi, .int .i64 op, .int .i64 oa, .int .i64 of, .int .i64 ot, .string ox, .string on, .int .i64 vk, .int .i64 vi, .int .i64 vt, .string vs, .slice Av nv cv] 31)) wq.heap.size 31 #[.int .i64 ok, .int .i64 oi, .int .i64 op, .int .i64 oa, .int .i64 of, .int .i64 ot, .string ox, .string on, .int .i64 vk, .int .i64 vi, .int .i64 vt, .string vs, .slice Av nv cv]) := Blk.new _ _ _
  have hag : ∀ (o : Obj) (i : Nat), (wq.alloc o).cell? ⟨gh, i, none⟩ = wq.cell? ⟨gh, i, none⟩ := fun o i => World.cell?_alloc_lt _ _ _ (by have := HGL.out; show gh < _; omega)
  clear e0 hc
  go_upto_region 3 with fail
  go_region_with (go_at_call 61; refine (HDN.out _ wq.heap.size (by first | exact HBA.out | exact HBA.out.drew) hqs (by first | exact PBA.out | exact PBA.out.drew)).mono ?_; rintro e w4 ⟨g4', cap4, n4, M4, rfl, hh4, hb4⟩; have HH4 := Lib.hid hh4; have HB4 := Lib.hid hb4; obtain ⟨e0, ef⟩ := HWK.out w4 HB4.out; have d2 := e0 2; have d3 := e0 3; have k2 := ef 2; have k3 := ef 3; clear e0 ef hh4 hb4)
  all_goals
    go_wp2_with fail
    go_ret
    exact HFIN.out _ _ _ _ _ HH4.out HB4.out
set_option maxRecDepth 100000 in
set_option maxHeartbeats 2000000 in
/-- the method At at a place that there is not -/
theorem at_no (w : World) (gh gn : Nat) (lf : List Bl) (os : List Opn) (d : Nat) (h : HistM w gh gn lf os d) (n : Int) (hn : n < 0 ∨ (d : Int) < n) :
    Calls Tryz.prog 30 #[.pointer (some ⟨gh, 0, none⟩), .int .i64 n] w fun e w' => e = .returned (.tuple #[.slice none 0 0, .int .i64 2]) ∧ Below w.heap.size w w' := by
  obtain ⟨_, ⟨Af, nf, cf, Ao, no, co, nn, cn, M, h1, _⟩, _, _, _⟩ := h
  have c2 : w.cell? ⟨gh, 2, none⟩ = some (.int .i64 (d : Int)) := h1.cell 2
  clear h1
  by_cases h0 : n < 0
  · clear hn
    go_enter Tryz.func30, Tryz.ntmps30
    go_wp2_with fail
    go_ret2
    exact ⟨rfl, Below.refl _ _⟩
  · have h1 : (d : Int) < n := by omega
    have h0' : 0 ≤ n := by omega
    clear hn h0
    go_enter Tryz.func30, Tryz.ntmps30
    go_wp2_with fail
    go_ret2
    exact ⟨rfl, Below.refl _ _⟩
end Go.Proofs.YtmkicfjcgbfaaaaGreat
namespace Go.Proofs.YtmkicfjcgbfaaaaGreat
open Go.RowKit

/-- tree.inverse -/
theorem inverse_any (l : List Bl) (f : Int → Option Int) (G : Good l f) (A : Option Addr) (n c : Nat) (o : Opn) (Av : Option Addr) (nv cv : Nat) (w : World) (B : Nat) (hB : B ≤ w.heap.size) (h : RB w B (.slice A n c) l) (hoi : OI o) (he : opErr l f o = 0) :
    Calls Tryz.prog 94 #[.slice A n c, AO (o, .slice Av nv cv)] w (InvR (invO l o) w) := by
  cases G.op_facts he with
  | ins hk => exact inverse_one l _ o hk Av nv cv w
  | rem hk => exact inverse_k2 l f G A n c o hk Av nv cv w B hB h hoi he
  | mov hk => exact inverse_k3 l f G A n c o hk Av nv cv w B hB h hoi he
  | edit hk => exact inverse_k4 l f G A n c o hk Av nv cv w B hB h hoi he
  | set hk => exact inverse_k5 l f G A n c o hk Av nv cv w B hB h hoi he

set_option maxRecDepth 100000 in
set_option maxHeartbeats 8000000 in
/-- tree.Inverse at a base with an error -/
theorem inverseTop_bad (l : List Bl) (f : Int → Option Int) (hf : DepOk l f) (A : Option Addr) (n c : Nat) (o : Opn) (Av : Option Addr) (nv cv : Nat) (w : World) (B : Nat) (hB : B ≤ w.heap.size) (h : RB w B (.slice A n c) l) (hoi : OI o) (hv : RV w B (.slice Av nv cv) o.val.items) (hne : baseE l f ≠ 0) :
    Calls Tryz.prog 34 #[.slice A n c, AO (o, .slice Av nv cv)] w (InvR (zO, baseE l f) w) := by
  obtain ⟨ok, oi, op, oa, of, ot, ox, on, ⟨vk, vi, vt, vs, vl⟩⟩ := o
  obtain ⟨wb, hwb⟩ : ∃ wb, wb = (w.alloc (.cells #[.int .i64 ok, .int .i64 oi, .int .i64 op, .int .i64 oa, .int .i64 of, .int .i64 ot, .string ox, .string on, .int .i64 vk, .int .i64 vi, .int .i64 vt, .string vs, .slice Av nv cv] 31)).alloc (.cells #[.int .i64 0, .int .i64 0, .int .i64 0, .int .i64 0, .int .i64 0, .int .i64 0, .string ⟨#[]⟩, .string ⟨#[]⟩, .int .i64 0, .int .i64 0, .int .i64 0, .string ⟨#[]⟩, .slice none 0 0] 31) := ⟨_, rfl⟩
  have HB0 : Hid (Below w.heap.size w wb) := by rw [hwb]; exact ((Below.refl _ _).alloc (Nat.le_refl _) _).alloc (by simp) _
  have P0 : Hid (Blk wb w.heap.size 31 #[.int .i64 ok, .int .i64 oi, .int .i64 op, .int .i64 oa, .int .i64 of, .int .i64 ot, .string ox, .string on, .int .i64 vk, .int .i64 vi, .int .i64 vt, .string vs, .slice Av nv cv]) := by rw [hwb]; exact (Blk.new _ _ _).alloc _
  have R0 : Hid (Blk wb (w.heap.size + 1) 31 #[.int .i64 0, .int .i64 0, .int .i64 0, .int .i64 0, .int .i64 0, .int .i64 0, .string ⟨#[]⟩, .string ⟨#[]⟩, .int .i64 0, .int .i64 0, .int .i64 0, .string ⟨#[]⟩, .slice none 0 0]) := by
    show Blk _ _ _ _
    rw [hwb]
    have h := Blk.new (w.alloc (.cells #[.int .i64 ok, .int .i64 oi, .int .i64 op, .int .i64 oa, .int .i64 of, .int .i64 ot, .string ox, .string on, .int .i64 vk, .int .i64 vi, .int .i64 vt, .string vs, .slice Av nv cv] 31)) 31 #[.int .i64 0, .int .i64 0, .int .i64 0, .int .i64 0, .int .i64 0, .int .i64 0, .string ⟨#[]⟩, .string ⟨#[]⟩, .int .i64 0, .int .i64 0, .int .i64 0, .string ⟨#[]⟩, .slice none 0 0]
    simpa only [World.size_alloc] using h
  have hg1 : w.heap.size ≤ w.heap.size + 1 := Nat.le_succ _
  have HWB := Lib.hid hwb
  have HC := Lib.hid (treeCheck_any l f A n c wb B (Nat.le_trans hB HB0.out.size) (h.below (HB0.out.mono hB)) hf)
  obtain ⟨er, her⟩ : ∃ er, er = baseE l f := ⟨_, rfl⟩
  rw [← her] at HC hne ⊢
  have h0' : (er != 0) = true := by simpa using hne
  dsimp only [AO, Vl.kind, Vl.int_, Vl.to_, Vl.text]
  clear her hne h hwb hoi hv
  go_enter Tryz.func34, Tryz.ntmps34
  go_upto_region 1 with fail
  rw [← HWB.out]
  go_wp2_with fail
  refine HC.out.mono ?_
  rintro e w1 ⟨rfl, hb1⟩
  have HB1 : Hid (Below w.heap.size w w1) := HB0.out.trans (hb1.mono HB0.out.size)
  have R1 := Lib.hid (R0.out.below hb1 R0.out.lt)
  clear hb1
  have rd := fun i => R1.out.cell i
  have fd := fun i => R1.out.frozen i
  go_wp2_with fail
  have PF := putO_blk (.int .i64 0) (.int .i64 0) (.int .i64 0) (.int .i64 0) (.int .i64 0) (.int .i64 0) (.string ⟨#[]⟩) (.string ⟨#[]⟩) (.int .i64 0) (.int .i64 0) (.int .i64 0) (.string ⟨#[]⟩) (.slice none 0 0) R1.out rfl
  have HBF := putO_below (.int .i64 0) (.int .i64 0) (.int .i64 0) (.int .i64 0) (.int .i64 0) (.int .i64 0) (.string ⟨#[]⟩) (.string ⟨#[]⟩) (.int .i64 0) (.int .i64 0) (.int .i64 0) (.string ⟨#[]⟩) (.slice none 0 0) HB1.out hg1
  obtain ⟨wf, hF⟩ : ∃ wf, wf = putO w1 (w.heap.size + 1) (.int .i64 0) (.int .i64 0) (.int .i64 0) (.int .i64 0) (.int .i64 0) (.int .i64 0) (.string ⟨#[]⟩) (.string ⟨#[]⟩) (.int .i64 0) (.int .i64 0) (.int .i64 0) (.string ⟨#[]⟩) (.slice none 0 0) := ⟨_, rfl⟩
  rw [← hF] at PF HBF
  unfold putO at hF
  rw [← hF]
  obtain ⟨r0, r1, r2, r3, r4, r5, r6, r7, r8, r9, r10, r11, r12⟩ := op_cells PF
  skip
  exact bodyPost_ret (v := .tuple #[AO (zO, .slice none 0 0), .int .i64 er]) (by simp [results, Tryz.results34, go_sem, r0, r1, r2, r3, r4, r5, r6, r7, r8, r9, r10, r11, r12, AO, zO, zV, Vl.kind, Vl.int_, Vl.to_, Vl.text]) rfl ⟨⟨none, 0, 0, rfl, RVX.nil _ _⟩, HBF⟩

set_option maxRecDepth 100000 in
set_option maxHeartbeats 8000000 in
/-- tree.Inverse where the operation is refused -/
theorem inverseTop_no (l : List Bl) (f : Int → Option Int) (G : Good l f) (A : Option Addr) (n c : Nat) (o : Opn) (Av : Option Addr) (nv cv : Nat) (w : World) (B : Nat) (hB : B ≤ w.heap.size) (h : RB w B (.slice A n c) l) (hoi : OI o) (hv : RV w B (.slice Av nv cv) o.val.items) (hne : opErr l f o ≠ 0) :
    Calls Tryz.prog 34 #[.slice A n c, AO (o, .slice Av nv cv)] w (InvR (zO, opErr l f o) w) := by
  have HCO := Lib.hid fun W (hW : Below w.heap.size w W) => checkOp_any l f G A n c o Av nv cv W B (Nat.le_trans hB hW.size) (h.below (hW.mono hB)) hoi (hv.below (hW.mono hB))
  obtain ⟨er, her⟩ : ∃ er, er = opErr l f o := ⟨_, rfl⟩
  rw [← her] at HCO hne ⊢
  have h0' : (er != 0) = true := by simpa using hne
  obtain ⟨ok, oi, op, oa, of, ot, ox, on, ⟨vk, vi, vt, vs, vl⟩⟩ := o
  obtain ⟨wb, hwb⟩ : ∃ wb, wb = (w.alloc (.cells #[.int .i64 ok, .int .i64 oi, .int .i64 op, .int .i64 oa, .int .i64 of, .int .i64 ot, .string ox, .string on, .int .i64 vk, .int .i64 vi, .int .i64 vt, .string vs, .slice Av nv cv] 31)).alloc (.cells #[.int .i64 0, .int .i64 0, .int .i64 0, .int .i64 0, .int .i64 0, .int .i64 0, .string ⟨#[]⟩, .string ⟨#[]⟩, .int .i64 0, .int .i64 0, .int .i64 0, .string ⟨#[]⟩, .slice none 0 0] 31) := ⟨_, rfl⟩
  have HB0 : Hid (Below w.heap.size w wb) := by rw [hwb]; exact ((Below.refl _ _).alloc (Nat.le_refl _) _).alloc (by simp) _
  have P0 : Hid (Blk wb w.heap.size 31 #[.int .i64 ok, .int .i64 oi, .int .i64 op, .int .i64 oa, .int .i64 of, .int .i64 ot, .string ox, .string on, .int .i64 vk, .int .i64 vi, .int .i64 vt, .string vs, .slice Av nv cv]) := by rw [hwb]; exact (Blk.new _ _ _).alloc _
  have R0 : Hid (Blk wb (w.heap.size + 1) 31 #[.int .i64 0, .int .i64 0, .int .i64 0, .int .i64 0, .int .i64 0, .int .i64 0, .string ⟨#[]⟩, .string ⟨#[]⟩, .int .i64 0, .int .i64 0, .int .i64 0, .string ⟨#[]⟩, .slice none 0 0]) := by
    show Blk _ _ _ _
    rw [hwb]
    have h := Blk.new (w.alloc (.cells #[.int .i64 ok, .int .i64 oi, .int .i64 op, .int .i64 oa, .int .i64 of, .int .i64 ot, .string ox, .string on, .int .i64 vk, .int .i64 vi, .int .i64 vt, .string vs, .slice Av nv cv] 31)) 31 #[.int .i64 0, .int .i64 0, .int .i64 0, .int .i64 0, .int .i64 0, .int .i64 0, .string ⟨#[]⟩, .string ⟨#[]⟩, .int .i64 0, .int .i64 0, .int .i64 0, .string ⟨#[]⟩, .slice none 0 0]
    simpa only [World.size_alloc] using h
  have hg1 : w.heap.size ≤ w.heap.size + 1 := Nat.le_succ _
  have HWB := Lib.hid hwb
  have HC := Lib.hid (treeCheck_any l f A n c wb B (Nat.le_trans hB HB0.out.size) (h.below (HB0.out.mono hB)) fun _ => G.dep)
  rw [G.clean] at HC
  dsimp only [AO, Vl.kind, Vl.int_, Vl.to_, Vl.text] at HCO ⊢
  clear her hne h hwb hoi hv
  go_enter Tryz.func34, Tryz.ntmps34
  go_upto_region 1 with fail
  rw [← HWB.out]
  go_wp2_with fail
  refine HC.out.mono ?_
  rintro e w1 ⟨rfl, hb1⟩
  have HB1 : Hid (Below w.heap.size w w1) := HB0.out.trans (hb1.mono HB0.out.size)
  have R1 := Lib.hid (R0.out.below hb1 R0.out.lt)
  have P1 := Lib.hid (P0.out.below hb1 P0.out.lt)
  clear hb1
  have e0 := fun i => P1.out.cell i
  go_wp2_with fail
  refine (HCO.out w1 HB1.out).mono ?_
  rintro e w2 ⟨rfl, hb2⟩
  have HB2 : Hid (Below w.heap.size w w2) := HB1.out.trans (hb2.mono HB1.out.size)
  have R2 := Lib.hid (R1.out.below hb2 R1.out.lt)
  clear hb2 e0
  have rd := fun i => R2.out.cell i
  have fd := fun i => R2.out.frozen i
  go_wp2_with fail
  have PF := putO_blk (.int .i64 0) (.int .i64 0) (.int .i64 0) (.int .i64 0) (.int .i64 0) (.int .i64 0) (.string ⟨#[]⟩) (.string ⟨#[]⟩) (.int .i64 0) (.int .i64 0) (.int .i64 0) (.string ⟨#[]⟩) (.slice none 0 0) R2.out rfl
  have HBF := putO_below (.int .i64 0) (.int .i64 0) (.int .i64 0) (.int .i64 0) (.int .i64 0) (.int .i64 0) (.string ⟨#[]⟩) (.string ⟨#[]⟩) (.int .i64 0) (.int .i64 0) (.int .i64 0) (.string ⟨#[]⟩) (.slice none 0 0) HB2.out hg1
  obtain ⟨wf, hF⟩ : ∃ wf, wf = putO w2 (w.heap.size + 1) (.int .i64 0) (.int .i64 0) (.int .i64 0) (.int .i64 0) (.int .i64 0) (.int .i64 0) (.string ⟨#[]⟩) (.string ⟨#[]⟩) (.int .i64 0) (.int .i64 0) (.int .i64 0) (.string ⟨#[]⟩) (.slice none 0 0) := ⟨_, rfl⟩
  rw [← hF] at PF HBF
  unfold putO at hF
  rw [← hF]
  obtain ⟨r0, r1, r2, r3, r4, r5, r6, r7, r8, r9, r10, r11, r12⟩ := op_cells PF
  skip
  exact bodyPost_ret (v := .tuple #[AO (zO, .slice none 0 0), .int .i64 er]) (by simp [results, Tryz.results34, go_sem, r0, r1, r2, r3, r4, r5, r6, r7, r8, r9, r10, r11, r12, AO, zO, zV, Vl.kind, Vl.int_, Vl.to_, Vl.text]) rfl ⟨⟨none, 0, 0, rfl, RVX.nil _ _⟩, HBF⟩

set_option maxRecDepth 100000 in
set_option maxHeartbeats 8000000 in
/-- tree.Inverse without an error -/
theorem inverseTop_any (l : List Bl) (f : Int → Option Int) (G : Good l f) (A : Option Addr) (n c : Nat) (o : Opn) (Av : Option Addr) (nv cv : Nat) (w : World) (B : Nat) (hB : B ≤ w.heap.size) (h : RB w B (.slice A n c) l) (hoi : OI o) (hv : RV w B (.slice Av nv cv) o.val.items) (h0 : opErr l f o = 0) :
    Calls Tryz.prog 34 #[.slice A n c, AO (o, .slice Av nv cv)] w (InvR (invO l o) w) := by
  have HCO := Lib.hid fun W (hW : Below w.heap.size w W) => checkOp_any l f G A n c o Av nv cv W B (Nat.le_trans hB hW.size) (h.below (hW.mono hB)) hoi (hv.below (hW.mono hB))
  rw [h0] at HCO
  have HIN := Lib.hid fun W (hW : Below w.heap.size w W) => inverse_any l f G A n c o Av nv cv W B (Nat.le_trans hB hW.size) (h.below (hW.mono hB)) hoi h0
  obtain ⟨IV, hIV⟩ : ∃ IV, IV = invO l o := ⟨_, rfl⟩
  rw [← hIV] at HIN ⊢
  obtain ⟨ok, oi, op, oa, of, ot, ox, on, ⟨vk, vi, vt, vs, vl⟩⟩ := o
  obtain ⟨wb, hwb⟩ : ∃ wb, wb = (w.alloc (.cells #[.int .i64 ok, .int .i64 oi, .int .i64 op, .int .i64 oa, .int .i64 of, .int .i64 ot, .string ox, .string on, .int .i64 vk, .int .i64 vi, .int .i64 vt, .string vs, .slice Av nv cv] 31)).alloc (.cells #[.int .i64 0, .int .i64 0, .int .i64 0, .int .i64 0, .int .i64 0, .int .i64 0, .string ⟨#[]⟩, .string ⟨#[]⟩, .int .i64 0, .int .i64 0, .int .i64 0, .string ⟨#[]⟩, .slice none 0 0] 31) := ⟨_, rfl⟩
  have HB0 : Hid (Below w.heap.size w wb) := by rw [hwb]; exact ((Below.refl _ _).alloc (Nat.le_refl _) _).alloc (by simp) _
  have P0 : Hid (Blk wb w.heap.size 31 #[.int .i64 ok, .int .i64 oi, .int .i64 op, .int .i64 oa, .int .i64 of, .int .i64 ot, .string ox, .string on, .int .i64 vk, .int .i64 vi, .int .i64 vt, .string vs, .slice Av nv cv]) := by rw [hwb]; exact (Blk.new _ _ _).alloc _
  have R0 : Hid (Blk wb (w.heap.size + 1) 31 #[.int .i64 0, .int .i64 0, .int .i64 0, .int .i64 0, .int .i64 0, .int .i64 0, .string ⟨#[]⟩, .string ⟨#[]⟩, .int .i64 0, .int .i64 0, .int .i64 0, .string ⟨#[]⟩, .slice none 0 0]) := by
    show Blk _ _ _ _
    rw [hwb]
    have h := Blk.new (w.alloc (.cells #[.int .i64 ok, .int .i64 oi, .int .i64 op, .int .i64 oa, .int .i64 of, .int .i64 ot, .string ox, .string on, .int .i64 vk, .int .i64 vi, .int .i64 vt, .string vs, .slice Av nv cv] 31)) 31 #[.int .i64 0, .int .i64 0, .int .i64 0, .int .i64 0, .int .i64 0, .int .i64 0, .string ⟨#[]⟩, .string ⟨#[]⟩, .int .i64 0, .int .i64 0, .int .i64 0, .string ⟨#[]⟩, .slice none 0 0]
    simpa only [World.size_alloc] using h
  have hg1 : w.heap.size ≤ w.heap.size + 1 := Nat.le_succ _
  have HWB := Lib.hid hwb
  have HC := Lib.hid (treeCheck_any l f A n c wb B (Nat.le_trans hB HB0.out.size) (h.below (HB0.out.mono hB)) fun _ => G.dep)
  rw [G.clean] at HC
  obtain ⟨⟨ik, ii, ip, ia, if_, it, ix, im, ⟨jk, ji, jt, js, jl⟩⟩, ie⟩ := IV
  unfold InvR at HIN
  dsimp only [AO, Vl.kind, Vl.int_, Vl.to_, Vl.text, Vl.items] at HCO HIN ⊢
  clear h hwb hoi hv h0 hIV
  go_enter Tryz.func34, Tryz.ntmps34
  go_upto_region 1 with fail
  rw [← HWB.out]
  go_wp2_with fail
  refine HC.out.mono ?_
  rintro e w1 ⟨rfl, hb1⟩
  have HB1 : Hid (Below w.heap.size w w1) := HB0.out.trans (hb1.mono HB0.out.size)
  have R1 := Lib.hid (R0.out.below hb1 R0.out.lt)
  have P1 := Lib.hid (P0.out.below hb1 P0.out.lt)
  clear hb1
  have e0 := fun i => P1.out.cell i
  go_wp2_with fail
  refine (HCO.out w1 HB1.out).mono ?_
  rintro e w2 ⟨rfl, hb2⟩
  have HB2 : Hid (Below w.heap.size w w2) := HB1.out.trans (hb2.mono HB1.out.size)
  have R2 := Lib.hid (R1.out.below hb2 R1.out.lt)
  have P2 := Lib.hid (P1.out.below hb2 P1.out.lt)
  clear hb2 e0
  have e0 := fun i => P2.out.cell i
  go_wp2_with fail
  refine (HIN.out w2 HB2.out).mono ?_
  rintro e w3 ⟨⟨A3, n3, c3, rfl, hrv⟩, hb3⟩
  have HB3 : Hid (Below w.heap.size w w3) := HB2.out.trans (hb3.mono HB2.out.size)
  have R3 := Lib.hid (R2.out.below hb3 R2.out.lt)
  have HRV := Lib.hid hrv
  clear hb3 e0 hrv
  have rd := fun i => R3.out.cell i
  have fd := fun i => R3.out.frozen i
  go_wp2_with fail
  have PF := putO_blk (.int .i64 ik) (.int .i64 ii) (.int .i64 ip) (.int .i64 ia) (.int .i64 if_) (.int .i64 it) (.string ix) (.string im) (.int .i64 jk) (.int .i64 ji) (.int .i64 jt) (.string js) (.slice A3 n3 c3) R3.out rfl
  have HBF := putO_below (.int .i64 ik) (.int .i64 ii) (.int .i64 ip) (.int .i64 ia) (.int .i64 if_) (.int .i64 it) (.string ix) (.string im) (.int .i64 jk) (.int .i64 ji) (.int .i64 jt) (.string js) (.slice A3 n3 c3) HB3.out hg1
  obtain ⟨wf, hF⟩ : ∃ wf, wf = putO w3 (w.heap.size + 1) (.int .i64 ik) (.int .i64 ii) (.int .i64 ip) (.int .i64 ia) (.int .i64 if_) (.int .i64 it) (.string ix) (.string im) (.int .i64 jk) (.int .i64 ji) (.int .i64 jt) (.string js) (.slice A3 n3 c3) := ⟨_, rfl⟩
  rw [← hF] at PF HBF
  have hzf : wf.heap.size = w3.heap.size := by rw [hF, putO_size]
  have HRZ : Hid (RVX wf (fun b => w.heap.size ≤ b ∧ b < wf.heap.size) (.slice A3 n3 c3) jl) := by
    show RVX _ _ _ _
    rw [hzf]
    have hz2 := R2.out.lt
    exact (HRV.out.keep (w' := wf) fun p hp => by rw [hF]; exact putO_cell _ _ _ _ _ _ _ _ _ _ _ _ _ _ _ p (by have := hp.1; omega)).weak fun b hb => ⟨by have := hb.1; omega, hb.2⟩
  unfold putO at hF
  rw [← hF]
  obtain ⟨r0, r1, r2, r3, r4, r5, r6, r7, r8, r9, r10, r11, r12⟩ := op_cells PF
  skip
  exact bodyPost_ret (v := .tuple #[AO (⟨ik, ii, ip, ia, if_, it, ix, im, ⟨jk, ji, jt, js, jl⟩⟩, .slice A3 n3 c3), .int .i64 ie]) (by simp [results, Tryz.results34, go_sem, r0, r1, r2, r3, r4, r5, r6, r7, r8, r9, r10, r11, r12, AO, Vl.kind, Vl.int_, Vl.to_, Vl.text]) rfl ⟨⟨A3, n3, c3, rfl, HRZ.out⟩, HBF⟩
end Go.Proofs.YtmkicfjcgbfaaaaGreat
namespace Go.Proofs
open Go.Shelf
def Tryz.lays111_ren : Go.Shelf.Ren := ⟨fun | 111 => 99 | n => n, fun | 28 => 34 | 3 => 3 | 4 => 4 | 0 => 0 | n => n, fun | n => n⟩
theorem Tryz.lays111 : Go.Proofs.Lays.n111 Tryz.prog Tryz.lays111_ren := {
  mixed := by kernel_rfl
  f111 := Tryz.func99.trans (congrArg some (by kernel_rfl))
  t0 := Tryz.underlying0
  a0 := Tryz.isAgg0
  z0 := Tryz.sizeOf0
  v0 := Tryz.zeroValue0
  t3 := Tryz.underlying3
  a3 := Tryz.isAgg3
  z3 := Tryz.sizeOf3
  v3 := Tryz.zeroValue3
  t4 := Tryz.underlying4
  a4 := Tryz.isAgg4
  z4 := Tryz.sizeOf4
  v4 := Tryz.zeroValue4
  t28 := Tryz.underlying34
  a28 := Tryz.isAgg34
  z28 := Tryz.sizeOf34
  v28 := Tryz.zeroValue34 }
open Go.RowKit Go.Lib in
theorem Tryz.slices_Equal_int (b1 o1 n c b2 o2 m d : Nat) (xs ys : List Int) (w : World) (hx : n ≤ xs.length) (hy : m ≤ ys.length) (hbig : n ≤ 9223372036854775807) (hbig2 : m ≤ 9223372036854775807) (hc1 : ∀ j, j < xs.length → w.cell? ⟨b1, o1 + j, none⟩ = some (.int .i64 (xs.getD j 0))) (hc2 : ∀ j, j < ys.length → w.cell? ⟨b2, o2 + j, none⟩ = some (.int .i64 (ys.getD j 0))) :
    Calls Tryz.prog 99 #[.slice (some ⟨b1, o1, none⟩) n c, .slice (some ⟨b2, o2, none⟩) m d] w fun e w' => e = .returned (.bool (xs.take n == ys.take m)) ∧ ∃ q, w' = w.drewN q := Any.slices_Equal_int Tryz.lays111 b1 o1 n c b2 o2 m d xs ys w hx hy hbig hbig2 hc1 hc2
open Go.RowKit Go.Lib in
theorem Tryz.slices_Equal_int_empty (a1 a2 : Option Addr) (c m d : Nat) (w : World) (hbig2 : m ≤ 9223372036854775807) :
    Calls Tryz.prog 99 #[.slice a1 0 c, .slice a2 m d] w fun e w' => e = .returned (.bool (decide (m = 0))) ∧ w' = w := Any.slices_Equal_int_empty Tryz.lays111 a1 a2 c m d w hbig2
open Go.RowKit Go.Lib in
theorem Tryz.slices_Equal_int_lens (a1 a2 : Option Addr) (n c m d : Nat) (w : World) (hnm : n ≠ m) :
    Calls Tryz.prog 99 #[.slice a1 n c, .slice a2 m d] w fun e w' => e = .returned (.bool false) ∧ w' = w := Any.slices_Equal_int_lens Tryz.lays111 a1 a2 n c m d w hnm
end Go.Proofs
namespace Go.Proofs.YtmkicfjcgbfaaaaGreat
open Go.RowKit

theorem equalI_any (A A' : Option Addr) (n c n' c' : Nat) (l m : List Int) (w : World) (B : Nat) (h : RIn w B (.slice A n c) l) (h' : RIn w B (.slice A' n' c') m) :
    Calls Tryz.prog 99 #[.slice A n c, .slice A' n' c'] w fun e w' => e = .returned (.bool (l == m)) ∧ ∃ q, w' = w.drewN q := by
  have hn := h.len
  have hn' := h'.len
  by_cases hl : n = n'
  · subst hl
    rcases Nat.eq_zero_or_pos n with g | g
    · subst g
      have e1 : l = [] := List.eq_nil_of_length_eq_zero hn.1.symm
      have e2 : m = [] := List.eq_nil_of_length_eq_zero hn'.1.symm
      subst e1 e2
      refine (Tryz.slices_Equal_int_empty A A' c 0 c' w (by omega)).mono ?_
      rintro e w' ⟨rfl, rfl⟩
      exact ⟨rfl, 0, rfl⟩
    · obtain ⟨b, off, e, _, _⟩ := h.reads.plain g (by omega)
      obtain ⟨b', off', e', _, _⟩ := h'.reads.plain g (by omega)
      subst e e'
      refine (Tryz.slices_Equal_int b off n c b' off' n c' l m w (by omega) (by omega) (by omega) (by omega) h.getD h'.getD).mono ?_
      rintro e w' ⟨rfl, hq⟩
      rw [List.take_of_length_le (by omega), List.take_of_length_le (by omega)]
      exact ⟨rfl, hq⟩
  · refine (Tryz.slices_Equal_int_lens A A' n c n' c' w hl).mono ?_
    rintro e w' ⟨rfl, rfl⟩
    have : (l == m) = false := by
      rw [beq_eq_false_iff_ne]
      intro e
      rw [e] at hn
      omega
    rw [this]
    exact ⟨rfl, 0, rfl⟩
end Go.Proofs.YtmkicfjcgbfaaaaGreat
namespace Go.Proofs.YtmkicfjcgbfaaaaGreat
open Go.RowKit

/-- two lists alike, element by element -/
def eqL {α β : Type} (f : α → β → Bool) : List α → List β → Bool
  | [], [] => true
  | a :: l, b :: m => f a b && eqL f l m
  | _, _ => false
section
variable {α β : Type} {f : α → β → Bool}
theorem eqL_len : ∀ {l : List α} {m : List β}, eqL f l m = true → l.length = m.length
  | [], [], _ => rfl
  | a :: l, b :: m, h => by
    rw [eqL, Bool.and_eq_true] at h
    simp only [List.length_cons, eqL_len h.2]
  | [], b :: m, h => by simp [eqL] at h
  | a :: l, [], h => by simp [eqL] at h
theorem eqL_at : ∀ {l : List α} {m : List β} {k : Nat} {x : α} {y : β}, eqL f l m = true → l[k]? = some x → m[k]? = some y → f x y = true
  | [], _, k, _, _, _, h1, _ => by simp at h1
  | _ :: _, [], k, _, _, _, _, h2 => by simp at h2
  | a :: l, b :: m, 0, x, y, h, h1, h2 => by
    rw [eqL, Bool.and_eq_true] at h
    obtain rfl : a = x := by simpa using h1
    obtain rfl : b = y := by simpa using h2
    exact h.1
  | a :: l, b :: m, k + 1, x, y, h, h1, h2 => by
    rw [eqL, Bool.and_eq_true] at h
    exact eqL_at h.2 (by simpa using h1) (by simpa using h2)
theorem eqL_of : ∀ {l : List α} {m : List β}, l.length = m.length → (∀ (k : Nat) (x : α) (y : β), l[k]? = some x → m[k]? = some y → f x y = true) → eqL f l m = true
  | [], [], _, _ => by rw [eqL]
  | a :: l, b :: m, h, H => by
    rw [eqL, Bool.and_eq_true]
    exact ⟨H 0 a b rfl rfl, eqL_of (by simpa using h) fun k x y h1 h2 => H (k + 1) x y (by rw [List.getElem?_cons_succ]; exact h1) (by rw [List.getElem?_cons_succ]; exact h2)⟩
  | [], b :: m, h, _ => by simp at h
  | a :: l, [], h, _ => by simp at h
theorem eqL_refl {f : α → α → Bool} (hf : ∀ x, f x x = true) (l : List α) : eqL f l l = true :=
  eqL_of rfl fun k x y h1 h2 => by
    rw [h1] at h2
    rw [← Option.some.inj h2]; exact hf x
end
def samePr (x y : Pr) : Bool := (x.name.toList == y.name.toList) && sameV x.val y.val
def samePs : List Pr → List Pr → Bool := eqL samePr
def sameB (x y : Bl) : Bool := (x.id == y.id) && (x.parent == y.parent) && (x.text.toList == y.text.toList) && (x.kids == y.kids) && samePs x.props y.props
def sameBs : List Bl → List Bl → Bool := eqL sameB
theorem samePs_refl (l : List Pr) : samePs l l = true := eqL_refl (fun x => by unfold samePr; rw [beq_self_eq_true, sameV_refl]; rfl) l
theorem sameB_refl (x : Bl) : sameB x x = true := by unfold sameB; rw [beq_self_eq_true, beq_self_eq_true, beq_self_eq_true, beq_self_eq_true, samePs_refl]; rfl
theorem sameBs_refl (l : List Bl) : sameBs l l = true := eqL_refl sameB_refl l
end Go.Proofs.YtmkicfjcgbfaaaaGreat
