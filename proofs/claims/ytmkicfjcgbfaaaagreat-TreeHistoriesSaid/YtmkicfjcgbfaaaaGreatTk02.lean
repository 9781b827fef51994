/-
  DERIVED. The walks of a history's Undo, Redo and At. Conditions: sizes.
  The walk of a history's At. Conditions: sizes.
  What stands between two deeds of a history: the bases and the operations that the law keeps beside it. Conditions: none.
  By an AI agent.
-/
import Derived.Test.YtmkicfjcgbfaaaaGreatTg40
import Derived.Test.YtmkicfjcgbfaaaaGreatTk01
import Derived.Test.YtmkicfjcgbfaaaaGreatTg45
namespace Go.Proofs.YtmkicfjcgbfaaaaGreat
open Go.RowKit

set_option maxRecDepth 100000 in
set_option maxHeartbeats 2000000 in
/-- the method Undo where nothing is done -/
theorem undo_no (w : World) (gh gn : Nat) (lf : List Bl) (os : List Opn) (h : HistM w gh gn lf os 0) :
    Calls Tryz.prog 19 #[.pointer (some ⟨gh, 0, none⟩)] w fun e w' => e = .returned (.bool false) ∧ w' = w := by
  obtain ⟨_, ⟨Af, nf, cf, Ao, no, co, nn, cn, M, h1, _⟩, _, _, _⟩ := h
  have c2 : w.cell? ⟨gh, 2, none⟩ = some (.int .i64 0) := h1.cell 2
  clear h1
  go_enter Tryz.func19, Tryz.ntmps19
  go_wp2_with fail
  go_ret
  exact ⟨rfl, rfl⟩
set_option maxRecDepth 100000 in
set_option maxHeartbeats 2000000 in
/-- the method Undo -/
theorem undo_any (w : World) (gh gn : Nat) (lf : List Bl) (os : List Opn) (d : Nat) (h : HistM w gh gn lf os (d + 1)) :
    Calls Tryz.prog 19 #[.pointer (some ⟨gh, 0, none⟩)] w (BackR gh lf os d (.bool true) w) := by
  have HW := Lib.hid (rewind_any w gh gn lf os (d + 1) d h (by have := h.le; omega))
  have hb : d + 1 ≤ 2305843009213693951 := by
    have hle := h.le
    obtain ⟨_, ⟨Af, nf, cf, Ao, no, co, nn, cn, M, h1, _, h3, _⟩, _, _, _⟩ := h
    have hno := (h3.reads (B := w.heap.size) fun b hb => hb.1).len
    omega
  obtain ⟨_, ⟨Af, nf, cf, Ao, no, co, nn, cn, M, h1, _⟩, _, _, _⟩ := h
  have c2 : w.cell? ⟨gh, 2, none⟩ = some (.int .i64 ((d : Int) + 1)) := h1.cell 2
  have hd : ((d : Int) + 1 == 0) = false := by
    have : ¬ ((d : Int) + 1 = 0) := by omega
    simpa using this
  have hd1 : (d : Int) + 1 - 1 = (d : Int) := by omega
  clear h1
  go_enter Tryz.func19, Tryz.ntmps19
  go_wp2_with fail
  refine HW.out.mono ?_
  rintro e w1 ⟨gn', rfl, hh⟩
  have HH := Lib.hid hh
  clear hh
  go_wp2_with fail
  go_ret
  exact ⟨gn', rfl, HH.out⟩
set_option maxRecDepth 100000 in
set_option maxHeartbeats 2000000 in
/-- the method Redo where nothing is undone -/
theorem redo_no (w : World) (gh gn : Nat) (lf : List Bl) (os : List Opn) (d : Nat) (h : HistM w gh gn lf os d) (hd : d = os.length) :
    Calls Tryz.prog 20 #[.pointer (some ⟨gh, 0, none⟩)] w fun e w' => e = .returned (.bool false) ∧ Below w.heap.size w w' := by
  obtain ⟨_, ⟨Af, nf, cf, Ao, no, co, nn, cn, M, h1, _, h3, _⟩, _, _, _⟩ := h
  have hno := (h3.reads (B := w.heap.size) fun b hb => hb.1).len
  have hn : no = d := hno.1.trans hd.symm
  subst hn
  have c1 : w.cell? ⟨gh, 1, none⟩ = some (.slice Ao no co) := h1.cell 1
  have c2 : w.cell? ⟨gh, 2, none⟩ = some (.int .i64 (no : Int)) := h1.cell 2
  clear h1 h3 hno hd
  go_enter Tryz.func20, Tryz.ntmps20
  go_upto_region 1 with fail
  go_quiet (fail)
  go_wp2_with fail
  go_ret
  exact ⟨rfl, bdrew (Below.refl _ _) nq⟩
/-- what a step on leaves -/
def OnR (gh gn : Nat) (lf : List Bl) (os : List Opn) (n : Nat) (v : Value) (w : World) (e : Ending) (w' : World) : Prop := ∃ gn', e = .returned v ∧ HistM w' gh gn' lf os n ∧ (gn' = gn ∨ w.heap.size ≤ gn') ∧ Kept (fun b => b = gh ∨ b = gn) w w'
set_option maxRecDepth 100000 in
set_option maxHeartbeats 8000000 in
/-- the method Redo -/
theorem redo_any (w : World) (gh gn : Nat) (lf : List Bl) (os : List Opn) (d : Nat) (h : HistM w gh gn lf os d) (hd : d < os.length) :
    Calls Tryz.prog 20 #[.pointer (some ⟨gh, 0, none⟩)] w (OnR gh gn lf os (d + 1) (.bool true) w) := by
  have H := Lib.hid h
  have hgl := h.lt
  have hne0 := h.ne
  have hok := h.ok
  obtain ⟨_, ⟨Af, nf, cf, Ao, no, co, nn, cn, M, h1, h2, h3, hml, hmm, hrow⟩, _, _, _⟩ := h
  have hno := (h3.reads (B := w.heap.size) fun b hb => hb.1).len
  have hn : no = os.length := hno.1
  have hnb : no * 144 ≤ 140737488351232 := hno.2.2
  have hnc : no ≤ co := hno.2.1
  obtain ⟨o, hko⟩ : ∃ o, os[d]? = some o := ⟨_, List.getElem?_eq_getElem hd⟩
  obtain ⟨b, off, Av, nv, cv, rfl, hSb, hc, hrv, hoi⟩ := h3.at_ (B := w.heap.size) (fun b hb => hb.1) hko
  have hSN : applL lf (os.take (d + 1)) = applied (applL lf (os.take d)) o := applL_snoc hko
  obtain ⟨f, G, he⟩ := hok d o hko
  -- the call of done, wherever the operation's box lies
  have HDN : Hid (∀ (W : World) (blk : Nat), Below w.heap.size w W → w.heap.size ≤ blk → Blk W blk 31 (opC o (.slice Av nv cv)) →
      Calls Tryz.prog 61 #[.slice (some ⟨gn, 0, none⟩) nn cn, .slice (some ⟨blk, 0, none⟩) 1 1] W fun e w' => ∃ (g' cap' n' : Nat) (M' : List BK), e = .returned (.slice (some ⟨g', 0, none⟩) n' cap') ∧ (M'.length = n' ∧ M'.map Prod.fst = applL lf (os.take (d + 1)) ∧ RowS (fun b => b ≠ gh) w' g' cap' M' ∧ (g' = gn ∨ w.heap.size ≤ g')) ∧ Kept (fun b => b = gn) w w') := by
    intro W blk hW hblk hk
    have hzz := hW.size
    have hgl1 := hgl.1
    have hgl2 := hgl.2
    refine (doneS_any W (S := fun b => b ≠ gh) (fun b hb => by omega) gn cn nn M (applL lf (os.take d)) [o] (hrow.below hW) hml hmm _ 1 1 (ROsX.one (u := .slice Av nv cv) hk ⟨hk.lt, by omega⟩ ((hrv.keep fun p hp => hW.cell hp.1).weak fun b hb => ⟨by have := hb.1; omega, hb.2.2⟩) hoi) (OkAll.one G he)).mono ?_
    rintro e w' ⟨g', cap', n', M', rfl, q1, q2, q3, q4, q5⟩
    refine ⟨g', cap', n', M', rfl, ⟨q1, by rw [hSN]; exact q2, q3, ?_⟩, ?_⟩
    · rcases q5 with e | e
      · exact .inl e
      · exact .inr (by omega)
    · exact ⟨q4.os.trans hW.os, q4.tape.trans hW.tape, q4.output.trans hW.output, Nat.le_trans hzz q4.size, fun i hi hn => (q4.block i (by omega) fun e => hn (Option.some.inj e)).trans (hW.block i hi)⟩
  have HFIN : Hid (∀ (W : World) (g' cap' n' : Nat) (M' : List BK), M'.length = n' ∧ M'.map Prod.fst = applL lf (os.take (d + 1)) ∧ RowS (fun b => b ≠ gh) W g' cap' M' ∧ (g' = gn ∨ w.heap.size ≤ g') → Kept (fun b => b = gn) w W → OnR gh gn lf os (d + 1) (.bool true) w (.returned (.bool true)) ((W.setCell ⟨gh, 3, none⟩ (.slice (some ⟨g', 0, none⟩) n' cap')).setCell ⟨gh, 2, none⟩ (.int .i64 ((d : Int) + 1)))) := by
    intro W g' cap' n' M' ⟨q1, q2, q3, q4⟩ hW
    have hgh := hgl.1
    have hne : g' ≠ gh := by
      rcases q4 with e | e
      · rw [e]; exact hne0
      · omega
    have hzz := hW.size
    have hzs : ((W.setCell ⟨gh, 3, none⟩ (.slice (some ⟨g', 0, none⟩) n' cap')).setCell ⟨gh, 2, none⟩ (.int .i64 ((d : Int) + 1))).heap.size = W.heap.size := by simp [World.setCell]
    have hfr : ∀ b, b ≠ gh → ((W.setCell ⟨gh, 3, none⟩ (.slice (some ⟨g', 0, none⟩) n' cap')).setCell ⟨gh, 2, none⟩ (.int .i64 ((d : Int) + 1))).heap[b]? = W.heap[b]? := fun b hb => (Below.heap_setCell _ _ _ b hb).trans (Below.heap_setCell W _ _ b hb)
    have P1 := hW.blk h1 hne0.symm
    have hblk := (P1.set_ 3 (.slice (some ⟨g', 0, none⟩) n' cap')).set_ 2 (.int .i64 ((d : Int) + 1))
    refine ⟨g', rfl, H.out.turn h2 h3 (by omega) (by omega) (fun b hb => (hfr b hb.2.1).trans (hW.block b hb.1 hb.2.2)) hblk q1 q2 (q3.keep (fun b hb => hfr b ?_) (by omega)) q4, q4, ?_⟩
    · rcases hb with e | e
      · rw [e]; exact hne
      · exact e.2
    · exact ⟨hW.os, hW.tape, hW.output, by omega, fun b hb hb2 => (hfr b fun e => hb2 (.inl e)).trans (hW.block b hb fun e => hb2 (.inr e))⟩
  have HWK : Hid (∀ W, Kept (fun b => b = gn) w W → (∀ i, W.cell? ⟨gh, i, none⟩ = (#[.slice Af nf cf, .slice (some ⟨b, off, none⟩) no co, .int .i64 (d : Int), .slice (some ⟨gn, 0, none⟩) nn cn] : Array Value)[i]?) ∧ ∀ i, W.frozen? ⟨gh, i, none⟩ = false) := fun W hW => by
    have P1 := hW.blk h1 hne0.symm
    exact ⟨fun i => P1.cell i, fun i => P1.frozen i⟩
  have HOP : Hid (∀ W, Below w.heap.size w W → ∀ i u, (opV (o, .slice Av nv cv))[i]? = some u → W.cell? ⟨b, off + d * 13 + i, none⟩ = some u) := fun W hW i u hu => by
    rw [hW.cell (p := ⟨b, off + d * 13 + i, none⟩) hSb.1]; exact hc i u hu
  obtain ⟨e0, ef⟩ := HWK.out w (Kept.of (Below.refl _ _))
  have c1 := e0 1
  have c2 := e0 2
  have HGL : Hid (gh < w.heap.size) := hgl.1
  have hdn : d < no := by omega
  have hd0 : (0 : Int) ≤ (d : Int) := by omega
  have hd1 : (d : Int) < (no : Int) := by omega
  have hdl : d ≤ 9000000000000000 := by omega
  have hde : ((d : Int) == (no : Int)) = false := by
    have : ¬ ((d : Int) = (no : Int)) := by omega
    simpa using this
  obtain ⟨ok, oi, op, oa, of, ot, ox, on, ⟨vk, vi, vt, vs, vl⟩⟩ := o
  dsimp only [opC, Vl.kind, Vl.int_, Vl.to_, Vl.text] at HDN
  clear h1 h2 h3 hml hmm hrow hno hn hnb hnc hok hko hSb hc hrv hoi hSN G he e0 ef hgl hne0 hd
  go_enter Tryz.func20, Tryz.ntmps20
  go_upto_region 1 with fail
  go_quiet (fail)
  obtain ⟨wq, hwq⟩ : ∃ wq, wq = w.drewN nq := ⟨_, rfl⟩
  have HBQ : Hid (Below w.heap.size w wq) := by rw [hwq]; exact bdrew (Below.refl _ _) nq
  have hqs : w.heap.size ≤ wq.heap.size := HBQ.out.size
  rw [← hwq]
  clear c1 c2 hwq
  obtain ⟨e0, ef⟩ := HWK.out wq (Kept.of HBQ.out)
  have c1 := e0 1
  have c2 := e0 2
  have c3 := e0 3
  have hc := HOP.out wq HBQ.out
  have g0 : wq.cell? ⟨b, off + d * 13, none⟩ = some (.int .i64 ok) := hc 0 _ rfl
  have g1 : wq.cell? ⟨b, off + d * 13 + 1, none⟩ = some (.int .i64 oi) := hc 1 _ rfl
  have g2 : wq.cell? ⟨b, off + d * 13 + 2, none⟩ = some (.int .i64 op) := hc 2 _ rfl
  have g3 : wq.cell? ⟨b, off + d * 13 + 3, none⟩ = some (.int .i64 oa) := hc 3 _ rfl
  have g4 : wq.cell? ⟨b, off + d * 13 + 4, none⟩ = some (.int .i64 of) := hc 4 _ rfl
  have g5 : wq.cell? ⟨b, off + d * 13 + 5, none⟩ = some (.int .i64 ot) := hc 5 _ rfl
  have g6 : wq.cell? ⟨b, off + d * 13 + 6, none⟩ = some (.string ox) := hc 6 _ rfl
  have g7 : wq.cell? ⟨b, off + d * 13 + 7, none⟩ = some (.string on) := hc 7 _ rfl
  have g8 : wq.cell? ⟨b, off + d * 13 + 8, none⟩ = some (.int .i64 vk) := hc 8 _ rfl
  have g9 : wq.cell? ⟨b, off + d * 13 + 9, none⟩ = some (.int .i64 vi) := hc 9 _ rfl
  have g10 : wq.cell? ⟨b, off + d * 13 + 10, none⟩ = some (.int .i64 vt) := hc 10 _ rfl
  have g11 : wq.cell? ⟨b, off + d * 13 + 11, none⟩ = some (.string vs) := hc 11 _ rfl
  have g12 : wq.cell? ⟨b, off + d * 13 + 12, none⟩ = some (.slice Av nv cv) := hc 12 _ rfl
  have HBA : Hid (Below w.heap.size w (wq.alloc (.cells #[.int .i64 ok, .int .i64 oi, .int .i64 op, .int .i64 oa, .int .i64 of, .int .i64 ot, .string ox, .string on, .int .i64 vk, .int .i64 vi, .int .i64 vt, .string vs, .slice Av nv cv] 31))) := HBQ.out.alloc hqs _
  have PBA : Hid (Blk (wq.alloc (.cells #[.int .i64 ok, .int .i64 oi, .int .i64 op, .int .i64 oa, .int .i64 of, .int .i64 ot, .string ox, .string on, .int .i64 vk, .int .i64 vi, .int .i64 vt, .string vs, .slice Av nv cv] 31)) wq.heap.size 31 #[.int .i64 ok, .int .i64 oi, .int .i64 op, .int .i64 oa, .int .i64 of, .int .i64 ot, .string ox, .string on, .int .i64 vk, .int .i64 vi, .int .i64 vt, .string vs, .slice Av nv cv]) := Blk.new _ _ _
  have hag : ∀ (o : Obj) (i : Nat), (wq.alloc o).cell? ⟨gh, i, none⟩ = wq.cell? ⟨gh, i, none⟩ := fun o i => World.cell?_alloc_lt _ _ _ (by have := HGL.out; show gh < _; omega)
  clear e0 hc
  go_upto_region 3 with fail
  go_region_with (go_at_call 61; refine (HDN.out _ wq.heap.size (by first | exact HBA.out | exact HBA.out.drew) hqs (by first | exact PBA.out | exact PBA.out.drew)).mono ?_; rintro e w4 ⟨g4', cap4, n4, M4, rfl, hh4, hb4⟩; have HH4 := Lib.hid hh4; have HB4 := Lib.hid hb4; obtain ⟨e0, ef⟩ := HWK.out w4 HB4.out; have d2 := e0 2; have d3 := e0 3; have k2 := ef 2; have k3 := ef 3; clear e0 ef hh4 hb4)
  all_goals
    go_wp2_with fail
    go_ret
    exact HFIN.out _ _ _ _ _ HH4.out HB4.out
set_option maxRecDepth 100000 in
set_option maxHeartbeats 2000000 in
/-- the method At at a place that there is not -/
theorem at_no (w : World) (gh gn : Nat) (lf : List Bl) (os : List Opn) (d : Nat) (h : HistM w gh gn lf os d) (n : Int) (hn : n < 0 ∨ (d : Int) < n) :
    Calls Tryz.prog 30 #[.pointer (some ⟨gh, 0, none⟩), .int .i64 n] w fun e w' => e = .returned (.tuple #[.slice none 0 0, .int .i64 2]) ∧ Below w.heap.size w w' := by
  obtain ⟨_, ⟨Af, nf, cf, Ao, no, co, nn, cn, M, h1, _⟩, _, _, _⟩ := h
  have c2 : w.cell? ⟨gh, 2, none⟩ = some (.int .i64 (d : Int)) := h1.cell 2
  clear h1
  by_cases h0 : n < 0
  · clear hn
    go_enter Tryz.func30, Tryz.ntmps30
    go_wp2_with fail
    go_ret2
    exact ⟨rfl, Below.refl _ _⟩
  · have h1 : (d : Int) < n := by omega
    have h0' : 0 ≤ n := by omega
    clear hn h0
    go_enter Tryz.func30, Tryz.ntmps30
    go_wp2_with fail
    go_ret2
    exact ⟨rfl, Below.refl _ _⟩
end Go.Proofs.YtmkicfjcgbfaaaaGreat
namespace Go.Proofs.YtmkicfjcgbfaaaaGreat
open Go.RowKit

/-- what At leaves -/
def AtR (l : List Bl) (w : World) (e : Ending) (w' : World) : Prop := ∃ (g cap n : Nat) (M : List BK), e = .returned (.tuple #[.slice (some ⟨g, 0, none⟩) n cap, .int .i64 0]) ∧ (M.length = n ∧ M.map Prod.fst = l ∧ RowS (fun b => w.heap.size ≤ b) w' g cap M ∧ w.heap.size ≤ g) ∧ Below w.heap.size w w'
set_option maxRecDepth 100000 in
set_option maxHeartbeats 8000000 in
/-- the method At -/
theorem at_yes (w : World) (gh gn : Nat) (lf : List Bl) (os : List Opn) (d n : Nat) (h : HistM w gh gn lf os d) (hnd : n ≤ d) :
    Calls Tryz.prog 30 #[.pointer (some ⟨gh, 0, none⟩), .int .i64 (n : Int)] w (AtR (applL lf (os.take n)) w) := by
  obtain ⟨f, G⟩ := h.good
  have hle := h.le
  have hok := h.ok
  obtain ⟨_, ⟨Af, nf, cf, Ao, no, co, nn, cn, M, h1, h2, h3, _, _, _⟩, _, _, _⟩ := h
  have hno := (h3.reads (B := w.heap.size) fun b hb => hb.1).len
  have hnf := (h2.reads (B := w.heap.size) fun b hb => hb.1).len
  have hn0 : 0 < nf := by
    obtain ⟨r, hr, _⟩ := G.kids.root
    have := (List.getElem?_eq_some_iff.1 hr).1
    omega
  have hn1 : nf ≤ 100000 := by have := G.kids.short; omega
  have r1 := h2.reads (B := w.heap.size) fun b hb => hb.1
  have HCB := Lib.hid fun W (hW : Below w.heap.size w W) => copyBaseS_any lf Af nf cf W w.heap.size hW.size (r1.below hW) hn0 hn1
  have htk := h3.take (k := n) (by omega)
  have HDN : Hid (∀ (W : World) (g2 n2 : Nat) (M2 : List BK), RowS (fun b => w.heap.size ≤ b) W g2 n2 M2 → M2.length = n2 → M2.map Prod.fst = lf → Below w.heap.size w W → w.heap.size ≤ g2 →
      Calls Tryz.prog 61 #[.slice (some ⟨g2, 0, none⟩) n2 n2, .slice Ao n co] W fun e w' => ∃ (g' cap' n' : Nat) (M' : List BK), e = .returned (.slice (some ⟨g', 0, none⟩) n' cap') ∧ (M'.length = n' ∧ M'.map Prod.fst = applL lf (os.take n) ∧ RowS (fun b => w.heap.size ≤ b) w' g' cap' M' ∧ w.heap.size ≤ g') ∧ Below w.heap.size w w') := by
    intro W g2 n2 M2 hr hl hm hW hg
    have hzz := hW.size
    refine (doneS_any W (S := fun b => w.heap.size ≤ b) (fun b hb => by omega) g2 n2 n2 M2 lf (os.take n) hr hl hm Ao n co ((htk.keep fun p hp => hW.cell hp.1).weak fun b hb => ⟨by have := hb.1; omega, by have := hb.1; omega⟩) (hok.pre n)).mono ?_
    rintro e w' ⟨g', cap', n', M', rfl, q1, q2, q3, q4, q5⟩
    refine ⟨g', cap', n', M', rfl, ⟨q1, q2, q3, ?_⟩, below_own hW q4 hg⟩
    rcases q5 with e | e
    · rw [e]; exact hg
    · omega
  have HR1 : Hid (∀ (W0 W : World) (g2 n2 : Nat) (M2 : List BK), w.heap.size ≤ W0.heap.size → RowS (fun b => W0.heap.size ≤ b) W g2 n2 M2 → RowS (fun b => w.heap.size ≤ b) W g2 n2 M2) := fun W0 W g2 n2 M2 hz hr => hr.weak fun b _ hb => by omega
  have HWK : Hid (∀ W, Below w.heap.size w W → ∀ i, W.cell? ⟨gh, i, none⟩ = (#[.slice Af nf cf, .slice Ao no co, .int .i64 (d : Int), .slice (some ⟨gn, 0, none⟩) nn cn] : Array Value)[i]?) := fun W hW i => (h1.below hW h1.lt).cell i
  have c0 := h1.cell 0
  have c1 := h1.cell 1
  have c2 := h1.cell 2
  have hnn : (n : Int) ≤ (no : Int) := by omega
  have hnc : no ≤ co := hno.2.1
  have hnb : no * 144 ≤ 140737488351232 := hno.2.2
  have hk0 : (0 : Int) ≤ (n : Int) := by omega
  have hk2 : (n : Int) ≤ (co : Int) := by omega
  have hk3 : (n : Int) ≤ (d : Int) := by omega
  clear h1 h2 h3 hno hnf hn0 hn1 r1 htk hok G hnd hle
  go_enter Tryz.func30, Tryz.ntmps30
  go_upto_region 3 with fail
  go_region_with (first
    | (go_at_call 62; refine (HCB.out _ (by first | with_reducible exact (Below.refl _ _).drew | with_reducible exact Below.refl _ _ | exact (Below.refl _ _).drew)).mono ?_; rintro e w3 ⟨g3, n3, M3, rfl, hl3, hm3, hg3, hr3, hb3⟩; have HB3 : Hid (Below w.heap.size w w3) := (by first | exact (Below.refl w.heap.size w).drew.trans hb3 | exact hb3); have HG3 : Hid (w.heap.size ≤ g3) := hg3; have HR3 : Hid (RowS (fun b => w.heap.size ≤ b) w3 g3 n3 M3) := hr3; have HL3 := Lib.hid hl3; have HM3 := Lib.hid hm3; have e0 := HWK.out w3 HB3.out; have d0 := e0 0; have d1 := e0 1; clear e0 hb3 hg3 hr3 hl3 hm3)
    | (go_at_call 61; refine (HDN.out _ g3 n3 M3 (by first | exact HR3.out | exact HR3.out.drew) HL3.out HM3.out (by first | exact HB3.out | exact HB3.out.drew) HG3.out).mono ?_; rintro e w4 ⟨g4, cap4, n4, M4, rfl, hh4, hb4⟩; have HH4 := Lib.hid hh4; have HB4 := Lib.hid hb4; clear hh4 hb4))
  all_goals
    go_wp2_with fail
    go_ret2
    exact ⟨g4, cap4, n4, M4, rfl, HH4.out, HB4.out⟩
end Go.Proofs.YtmkicfjcgbfaaaaGreat
namespace Go.Proofs.YtmkicfjcgbfaaaaGreat
open Go.RowKit

theorem try_ex {l : List Bl} {f : Int → Option Int} (G : Good l f) (os : List Opn) : ∃ er, TryP l os er := by
  have key : ∀ k, k ≤ os.length → OkAll l (os.take k) ∨ ∃ j er, OkAll l (os.take j) ∧ BadAt l os j er := by
    intro k
    induction k with
    | zero => exact fun _ => .inl fun i o hi => by simp at hi
    | succ k ih =>
      intro hk
      rcases ih (by omega) with h | h
      · obtain ⟨f', G'⟩ := h.good G k (by rw [List.length_take]; omega)
        rw [List.take_take, Nat.min_self] at G'
        have hko : os[k]? = some os[k] := List.getElem?_eq_getElem (by omega)
        by_cases he : opErr (applL l (os.take k)) f' os[k] = 0
        · exact .inl (h.snoc hko G' he)
        · exact .inr ⟨k, _, h, _, f', hko, G', rfl, he⟩
      · exact .inr h
  rcases key os.length (Nat.le_refl _) with h | ⟨j, er, h, hb⟩
  · rw [List.take_length] at h
    exact ⟨0, .inl ⟨h, rfl⟩⟩
  · exact ⟨er, .inr ⟨by obtain ⟨_, _, _, _, _, h⟩ := hb; exact h, j, h, hb⟩⟩
/-- a deed's error is that of the operations tried -/
theorem DoR.tried {gh gn d : Nat} {lf : List Bl} {os ls : List Opn} {w w' : World} {e : Ending} {er : Int} (h : DoR gh gn lf os d ls w e w') (ht : TryP (applL lf (os.take d)) ls er) :
    e = .returned (.int .i64 er) ∧ ((er ≠ 0 ∧ Below w.heap.size w w') ∨ (er = 0 ∧ OkAll (applL lf (os.take d)) ls ∧ ((ls = [] ∧ Below w.heap.size w w') ∨ (0 < ls.length ∧ gh ≠ gn ∧ ∃ gn', HistM w' gh gn' lf (os.take d ++ ls) (d + ls.length) ∧ w.heap.size ≤ gn' ∧ Kept (fun b => b = gh) w w')))) := by
  rcases h with ⟨k, er', hk, hb, rfl, hB⟩ | ⟨hok, rfl, h⟩
  · have hne : er' ≠ 0 := by obtain ⟨_, _, _, _, _, h⟩ := hb; exact h
    obtain rfl := ht.uniq (.inr ⟨hne, k, hk, hb⟩)
    exact ⟨rfl, .inl ⟨hne, hB⟩⟩
  · obtain rfl := ht.uniq (.inl ⟨hok, rfl⟩)
    exact ⟨rfl, .inr ⟨rfl, hok, h⟩⟩
/-- Do as DoAll of one -/
theorem Do1R.all {gh gn d : Nat} {lf : List Bl} {os : List Opn} {o : Opn} {f : Int → Option Int} {w w' : World} {e : Ending} (hne : gh ≠ gn) (G : Good (applL lf (os.take d)) f) (h : Do1R gh lf os d o (opErr (applL lf (os.take d)) f o) w e w') : DoR gh gn lf os d [o] w e w' := by
  rcases h with ⟨hne, rfl, hb⟩ | ⟨he, rfl, gn', h1, h2, h3⟩
  · exact .inl ⟨0, _, fun i o hi => by simp at hi, ⟨o, f, rfl, G, rfl, hne⟩, rfl, hb⟩
  · exact .inr ⟨.one G he, rfl, .inr ⟨by simp, hne, gn', h1, h2, h3⟩⟩
theorem own_mono {w : World} {base base' n size : Nat} {e : TypeId} {v : Value} {xs : List Value} (h : w.ownsRow base e size v n xs) (hb : base' ≤ base) : w.ownsRow base' e size v n xs := by
  obtain ⟨h1, h2⟩ := h
  refine ⟨h1, ?_⟩
  rcases h2 with h2 | ⟨g, cap, cur, e, hg, r⟩
  · exact .inl h2
  · exact .inr ⟨g, cap, cur, e, Nat.le_trans hb hg, r⟩
theorem OutN.mono {α : Type} {enc : α → List Value} {size base base' : Nat} {e : TypeId} {N : Nest α} {w : World} {v : Value} {M : List α} (h : OutN enc size e N w base v M) (hb : base' ≤ base) : OutN enc size e N w base' v M := ⟨own_mono h.own hb, h.nest⟩
/-- blocks that no history turns -/
abbrev SH (gh gn : Nat) : Nat → Prop := fun b => b ≠ gh ∧ b ≠ gn
/-- the bases and the operations beside a history -/
structure ThB (w wr : World) (gh gn : Nat) (l : List Bl) (os : List Opn) (vb vo : Value) (Mb : List BV) (Mo : List (Opn × Value)) : Prop where
  bases : OutR (SH gh gn) wr w.heap.size vb Mb
  bmap : Mb.map Prod.fst = goneB l os
  bown : vb.ownBlock ≠ some gh ∧ vb.ownBlock ≠ some gn
  ops : OutN opV 13 31 (NS NO (SH gh gn)) wr w.heap.size vo Mo
  omap : Mo.map Prod.fst = os
  ooi : ∀ x ∈ Mo, OI x.1
  oown : vo.ownBlock ≠ some gh ∧ vo.ownBlock ≠ some gn
  gnle : w.heap.size ≤ gn
  ghle : w.heap.size ≤ gh
  below : Below w.heap.size w wr
section
variable {w wr wr' : World} {gh gn gn' : Nat} {l : List Bl} {os : List Opn} {vb vo : Value} {Mb : List BV} {Mo : List (Opn × Value)}
theorem ThB.keep (h : ThB w wr gh gn l os vb vo Mb Mo) (hb : Below wr.heap.size wr wr') : ThB w wr' gh gn l os vb vo Mb Mo :=
  ⟨h.bases.below (NR_ok _) hb, h.bmap, h.bown, h.ops.below (NS_ok NO_ok _) hb, h.omap, h.ooi, h.oown, h.gnle, h.ghle, h.below.trans (hb.mono h.below.size)⟩
theorem ThB.turn (h : ThB w wr gh gn l os vb vo Mb Mo) (hk : Kept (fun b => b = gh ∨ b = gn) wr wr') (hg : gn' = gn ∨ wr.heap.size ≤ gn') : ThB w wr' gh gn' l os vb vo Mb Mo := by
  have hS : ∀ b, b < wr.heap.size → b ≠ gh → b ≠ gn → SH gh gn' b := fun b h1 h2 h3 => ⟨h2, by rcases hg with e | e; (· rw [e]; exact h3); (· omega)⟩
  have hz := h.below.size
  have key : ∀ {v : Value}, (∀ g, v.ownBlock = some g → w.heap.size ≤ g ∧ g < wr.heap.size) → v.ownBlock ≠ some gn → v.ownBlock ≠ some gn' := fun hv hn e => by
    rcases hg with e' | e'
    · rw [e'] at e; exact hn e
    · have := (hv _ e).2; omega
  have hgn := h.gnle
  have hgh := h.ghle
  refine ⟨h.bases.kept hk h.bown.1 h.bown.2 hS, h.bmap, ⟨h.bown.1, key h.bases.blocks h.bown.2⟩, h.ops.keptN NO_ok hk h.oown.1 h.oown.2 hS, h.omap, h.ooi, ⟨h.oown.1, key h.ops.blocks h.oown.2⟩, by omega, hgh, h.below.trans (hk.below hz fun i hi e => by omega)⟩
theorem ThB.blen (h : ThB w wr gh gn l os vb vo Mb Mo) : Mb.length = os.length + 1 := by
  have := congrArg List.length h.bmap
  rwa [List.length_map, goneB_len] at this
theorem ThB.olen (h : ThB w wr gh gn l os vb vo Mb Mo) : Mo.length = os.length := by
  have := congrArg List.length h.omap
  rwa [List.length_map] at this
/-- the base at a place -/
theorem ThB.at_ (h : ThB w wr gh gn l os vb vo Mb Mo) {k : Nat} (hk : k ≤ os.length) : ∃ g c Ax nx cx, vb = .slice (some ⟨g, 0, none⟩) (os.length + 1) c ∧ wr.cell? ⟨g, k, none⟩ = some (.slice Ax nx cx) ∧ RBX wr (fun b => b < wr.heap.size ∧ SH gh gn b) (.slice Ax nx cx) (applL l (os.take k)) := by
  have hx : ∃ x, Mb[k]? = some x := ⟨_, List.getElem?_eq_getElem (by have := h.blen; omega)⟩
  obtain ⟨⟨x, v⟩, hx⟩ := hx
  have hm : (Mb.map Prod.fst)[k]? = some x := by rw [List.getElem?_map, hx]; rfl
  rw [h.bmap, goneB_at hk] at hm
  obtain rfl := Option.some.inj hm
  obtain ⟨g, c, e, hc, hr⟩ := h.bases.atR hx
  obtain ⟨Ax, nx, cx, e'⟩ := RBX.slice hr
  dsimp only at e' hc hr
  subst e'
  rw [h.blen] at e
  exact ⟨g, c, Ax, nx, cx, e, hc, hr⟩
/-- the operations as a slice -/
theorem ThB.slice (h : ThB w wr gh gn l os vb vo Mb Mo) (hb : os.length * 144 ≤ 140737488351232) : ∃ A c, vo = .slice A os.length c ∧ ROs wr wr.heap.size (.slice A os.length os.length) os ∧ os.length ≤ c ∧ (A = none → os.length = 0 ∧ c = 0) := by
  have ho := h.olen
  rw [← ho] at hb
  have := OutO.ros (h.ops.plainS NO_ok) h.ooi hb
  rw [ho, h.omap] at this
  exact this
/-- the cells of the bases -/
theorem ThB.bcells (h : ThB w wr gh gn l os vb vo Mb Mo) {k : Nat} (hk : k ≤ os.length + 1) {g c n : Nat} (e : vb = .slice (some ⟨g, 0, none⟩) n c) : ((Mb.take k).map Prod.snd).length = k * 1 ∧ ∀ b, some (⟨g, 0, none⟩ : Addr) = some b → ∀ j u, ((Mb.take k).map Prod.snd)[j]? = some u → wr.cell? (b.add j) = some u := by
  have hl := h.blen
  refine ⟨by rw [List.length_map, List.length_take]; omega, fun b hb j u hu => ?_⟩
  obtain rfl := Option.some.inj hb
  obtain ⟨A, c', e', _, hr⟩ := RdX.of_own h.bases.own
  obtain ⟨ad, hA, _, hcell⟩ := hr.2 (by omega)
  have e2 := e.symm.trans e'
  injection e2 with e3 e4 e5
  rw [hA] at e3
  obtain rfl := Option.some.inj e3
  refine hcell j u ?_
  rw [slV_flat]
  rw [List.map_take, List.getElem?_take] at hu
  split at hu
  · exact hu
  · cases hu
/-- the cells of the operations -/
theorem ThB.ocells (h : ThB w wr gh gn l os vb vo Mb Mo) {k : Nat} (hk : k ≤ os.length) {A : Option Addr} {c n : Nat} (e : vo = .slice A n c) : ((Mo.take k).flatMap opV).length = k * 13 ∧ (A = none → k = 0 ∧ k = 0) ∧ ∀ b, A = some b → ∀ j u, ((Mo.take k).flatMap opV)[j]? = some u → wr.cell? (b.add j) = some u := by
  have hl := h.olen
  refine ⟨by rw [opV_flat, List.length_take]; omega, fun hA => ?_, fun b hb j u hu => ?_⟩
  · subst hA
    obtain ⟨A, c', e', _, hr⟩ := RdX.of_own h.ops.own
    have e2 := e.symm.trans e'
    injection e2 with e3 e4 e5
    rcases Nat.eq_zero_or_pos Mo.length with h0 | h0
    · omega
    · obtain ⟨ad, hA, _⟩ := hr.2 h0
      rw [hA] at e3
      cases e3
  · obtain ⟨A', c', e', _, hr⟩ := RdX.of_own h.ops.own
    have e2 := e.symm.trans e'
    injection e2 with e3 e4 e5
    rcases Nat.eq_zero_or_pos Mo.length with h0 | h0
    · rw [List.eq_nil_of_length_eq_zero h0] at hu
      simp at hu
    · obtain ⟨ad, hA, _, hcell⟩ := hr.2 h0
      rw [← e3, hb] at hA
      obtain rfl := Option.some.inj hA
      refine hcell j u ?_
      rw [← opV_take Mo k (by omega), List.getElem?_take] at hu
      split at hu
      · exact hu
      · cases hu
/-- bases and operations grown by what was done -/
theorem ThB.grown {w3 w4 w5 : World} {base d : Nat} {ls : List Opn} {va v4 v5 : Value} {Ma : List BV} {Ms : List (Opn × Value)} (h : ThB w w3 gh gn l os vb vo Mb Mo) (hd : d ≤ os.length) (hgh : gh < w3.heap.size) (hgn : gn < w3.heap.size)
    (ha : OutR (SH gh gn) w3 base va Ma) (hm : Ma.map Prod.fst = (List.range ls.length).map fun k => applL (applL l (os.take d)) (ls.take (k + 1)))
    (h4 : w4.ownsRow w3.heap.size 22 1 v4 (d + 1 + ls.length) ((Mb.take (d + 1)).map Prod.snd ++ Ma.map Prod.snd)) (g4 : w3.grownBy w4 none)
    (hs : ∀ x ∈ Ms, RVX w4 (fun b => b < w4.heap.size ∧ SH gh gn b) x.2 x.1.val.items ∧ OI x.1) (hms : Ms.map Prod.fst = ls)
    (h5 : w5.ownsRow w4.heap.size 31 13 v5 (d + ls.length) ((Mo.take d).flatMap opV ++ Ms.flatMap opV)) (g5 : w4.grownBy w5 none) :
    ThB w w5 gh gn l (os.take d ++ ls) v4 v5 (Mb.take (d + 1) ++ Ma) (Mo.take d ++ Ms) := by
  have hbl := h.blen
  have hol := h.olen
  have hz3 := h.below.size
  have hz4 := g4.size
  have hz5 := g5.size
  have hla : Ma.length = ls.length := by
    have := congrArg List.length hm
    rwa [List.length_map, List.length_map, List.length_range] at this
  have hls : Ms.length = ls.length := by rw [← hms, List.length_map]
  have hb4 : Below w3.heap.size w3 w4 := (Below.refl _ _).grown g4 (Nat.le_refl _) fun g hg => by cases hg
  have hb5 : Below w4.heap.size w4 w5 := (Below.refl _ _).grown g5 (Nat.le_refl _) fun g hg => by cases hg
  have hB4 : OutR (SH gh gn) w4 w3.heap.size v4 (Mb.take (d + 1) ++ Ma) := by
    refine OutN.joined (NR_ok _) (fun x hx => ?_) ?_ g4
    · rcases List.mem_append.1 hx with hx | hx
      · exact RBX.weak (h.bases.nest x (List.mem_of_mem_take hx)) fun b hb => ⟨hb.1.1, hb.2⟩
      · exact RBX.weak (ha.nest x hx) fun b hb => ⟨hb.1.1, hb.2⟩
    · rw [slV_flat, List.map_append, List.length_append, List.length_take, Nat.min_eq_left (by omega), hla]
      exact h4
  have hO5 : OutN opV 13 31 (NS NO (SH gh gn)) w5 w4.heap.size v5 (Mo.take d ++ Ms) := by
    refine OutN.joined (NS_ok NO_ok _) (fun x hx => ?_) ?_ g5
    · rcases List.mem_append.1 hx with hx | hx
      · have := (h.ops.below (NS_ok NO_ok _) hb4).nest x (List.mem_of_mem_take hx)
        exact RVX.weak this fun b hb => ⟨hb.1.1, hb.2⟩
      · exact (hs x hx).1
    · rw [List.flatMap_append, List.length_append, List.length_take, Nat.min_eq_left (by omega), hls]
      exact h5
  have hown : ∀ {B n size : Nat} {e : TypeId} {v : Value} {xs : List Value} {W : World}, W.ownsRow B e size v n xs → w3.heap.size ≤ B → v.ownBlock ≠ some gh ∧ v.ownBlock ≠ some gn := fun ho hB => ⟨fun e => by have := (own_block_lt ho _ e).1; omega, fun e => by have := (own_block_lt ho _ e).1; omega⟩
  refine ⟨(hB4.below (NR_ok _) hb5).mono hz3, ?_, hown h4 (Nat.le_refl _), hO5.mono (by omega), ?_, fun x hx => ?_, hown h5 hz4, h.gnle, h.ghle, h.below.trans ((hb4.trans (hb5.mono hz4)).mono hz3)⟩
  · rw [goneB_app hd, List.map_append, List.map_take, h.bmap, hm]
  · rw [List.map_append, List.map_take, h.omap, hms]
  · rcases List.mem_append.1 hx with hx | hx
    · exact h.ooi x (List.mem_of_mem_take hx)
    · exact (hs x hx).2
end
end Go.Proofs.YtmkicfjcgbfaaaaGreat
