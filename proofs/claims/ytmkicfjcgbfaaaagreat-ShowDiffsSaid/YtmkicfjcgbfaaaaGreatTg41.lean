/-
  DERIVED. The walk of a history's DoAll. Conditions: sizes.
  By an AI agent.
-/
import Derived.Test.YtmkicfjcgbfaaaaGreatTg40
import Derived.Test.YtmkicfjcgbfaaaaGreatTg38
import Derived.Deep.AppendLies
namespace Go.Proofs.YtmkicfjcgbfaaaaGreat
open Go.RowKit

theorem OkAll.app {l : List Bl} {os ls : List Opn} (h : OkAll l os) (k : OkAll (applL l os) ls) : OkAll l (os ++ ls) := fun i o hi => by
  rcases Nat.lt_or_ge i os.length with g | g
  · rw [List.getElem?_append_left g] at hi
    rw [List.take_append_of_le_length (Nat.le_of_lt g)]
    exact h i o hi
  · rw [List.getElem?_append_right g] at hi
    have := k (i - os.length) o hi
    rw [List.take_append, List.take_of_length_le g]
    unfold applL at this ⊢
    rw [List.foldl_append]
    exact this
theorem applL_app (l : List Bl) (os ls : List Opn) : applL l (os ++ ls) = applL (applL l os) ls := List.foldl_append
/-- a history whose operations are being put in anew -/
structure OpsB (w2 w : World) (gh gn : Nat) (a d nw : Value) (v : Value) (M : List (Opn × Value)) : Prop where
  kept : Kept (fun b => b = gh) w2 w
  lt : gh < w2.heap.size ∧ gn < w2.heap.size
  blk : Blk w gh 94 #[a, v, d, nw]
  own : w.ownsRow w2.heap.size 31 13 v M.length (M.flatMap opV)
  nest : ∀ x ∈ M, RVX w (fun b => (b < w.heap.size ∧ b ≠ gh ∧ b ≠ gn) ∧ v.ownBlock ≠ some b) x.2 x.1.val.items ∧ OI x.1
section
variable {w2 w w' : World} {gh gn : Nat} {a d nw v v' : Value} {M : List (Opn × Value)}
theorem OpsB.below (h : OpsB w2 w gh gn a d nw v M) (hb : Below w.heap.size w w') : OpsB w2 w' gh gn a d nw v M :=
  ⟨h.kept.trans (Kept.of hb) fun _ _ e => e, h.lt, h.blk.below hb h.blk.lt, own_below h.own hb, fun x hx => ⟨((h.nest x hx).1.keep fun _ hp => hb.cell hp.1.1).weak fun _ hb' => ⟨⟨Nat.lt_of_lt_of_le hb'.1.1 hb.size, hb'.1.2⟩, hb'.2⟩, (h.nest x hx).2⟩⟩
theorem OpsB.app (h : OpsB w2 w gh gn a d nw v M) {x : Opn × Value} (hx : RVX w (fun b => (b < w.heap.size ∧ b ≠ gh ∧ b ≠ gn) ∧ v.ownBlock ≠ some b) x.2 x.1.val.items) (hi : OI x.1)
    (hown : w'.ownsRow w2.heap.size 31 13 v' (M.length + 1) (M.flatMap opV ++ opV x)) (hg : w.grownBy w' v.ownBlock) (hat : v'.ownBlock = v.ownBlock ∨ v'.ownBlock = some w.heap.size) :
    Blk w' gh 94 #[a, v, d, nw] ∧ OpsB w2 (w'.setCell ⟨gh, 1, none⟩ v') gh gn a d nw v' (M ++ [x]) := by
  have hz := h.kept.size
  have hob := own_block_lt h.own
  have hgh := h.lt.1
  have hgn := h.lt.2
  have hvg : some gh ≠ v.ownBlock := fun e => by have := (hob gh e.symm).1; omega
  have hb' := h.blk.grown hg hvg
  have key : ∀ b, (b < w.heap.size ∧ b ≠ gh ∧ b ≠ gn) ∧ v.ownBlock ≠ some b → (b < w'.heap.size ∧ b ≠ gh ∧ b ≠ gn) ∧ v'.ownBlock ≠ some b := fun b ⟨⟨h1, h2⟩, h3⟩ => by
    refine ⟨⟨Nat.lt_of_lt_of_le h1 hg.size, h2⟩, ?_⟩
    rcases hat with g | g
    · rw [g]; exact h3
    · rw [g]; intro e; have := Option.some.inj e; omega
  have hzs : (w'.setCell ⟨gh, 1, none⟩ v').heap.size = w'.heap.size := by simp [World.setCell]
  have hcell : ∀ p : Addr, (p.block < w.heap.size ∧ p.block ≠ gh ∧ p.block ≠ gn) ∧ v.ownBlock ≠ some p.block → (w'.setCell ⟨gh, 1, none⟩ v').cell? p = w.cell? p := fun p hp => by
    rw [World.cell?_setCell_other _ _ p _ (by intro e; subst e; exact hp.1.2.1 rfl)]
    exact World.cell?_of_block (hg.block _ hp.1.1 fun e => hp.2 e.symm)
  refine ⟨hb', ⟨⟨hg.os.trans h.kept.os, hg.tape.trans h.kept.tape, hg.output.trans h.kept.output, by rw [hzs]; exact Nat.le_trans hz hg.size, fun i hi hn => ?_⟩, h.lt, hb'.set_ 1 v', ?_, fun y hy => ?_⟩⟩
  · have hne : i ≠ gh := hn
    rw [Below.heap_setCell w' _ _ i hne, hg.block i (by omega) fun e => by have := (hob i e.symm).1; omega]
    exact h.kept.block i hi hn
  · have : w'.ownsRow w2.heap.size 31 13 v' (M ++ [x]).length ((M ++ [x]).flatMap opV) := by
      rw [List.length_append, List.flatMap_append, List.flatMap_singleton]; exact hown
    exact ownsRow_setCell_below this (a := ⟨gh, 1, none⟩) hgh v'
  · have hy' : RVX w (fun b => (b < w.heap.size ∧ b ≠ gh ∧ b ≠ gn) ∧ v.ownBlock ≠ some b) y.2 y.1.val.items ∧ OI y.1 := by
      rcases List.mem_append.1 hy with hy | hy
      · exact h.nest y hy
      · obtain rfl : y = x := by simpa using hy
        exact ⟨hx, hi⟩
    exact ⟨(hy'.1.keep hcell).weak fun b hb => by rw [hzs]; exact key b hb, hy'.2⟩
end

theorem row_new (w : World) (g : Nat) (cs : List Value) (t : TypeId) (hg : g = w.heap.size) : ∀ j u, cs[j]? = some u → (w.alloc (.cells cs.toArray t)).cell? ((⟨g, 0, none⟩ : Addr).add j) = some u := by
  subst hg
  intro j u hu
  rw [Addr.add_lit, Nat.zero_add, (Blk.new w t cs.toArray).cell j]
  simpa using hu
theorem own_succ {w : World} {base n size : Nat} {e : TypeId} {v : Value} {xs : List Value} (h : w.ownsRow base e size v (n + 1) xs) : ∃ g cap, v = .slice (some ⟨g, 0, none⟩) (n + 1) cap := by
  rcases h.2 with ⟨_, h0⟩ | ⟨g, cap, cur, rfl, _⟩
  · omega
  · exact ⟨g, cap, rfl⟩
theorem OpsB.start {W w7 : World} {gh gn : Nat} {a d nw v0 v : Value} {M : List (Opn × Value)} (hb : Below W.heap.size W w7) (hblk : Blk W gh 94 #[a, v0, d, nw]) (hn : gn < W.heap.size) (hown : w7.ownsRow W.heap.size 31 13 v M.length (M.flatMap opV)) (hx : ∀ x ∈ M, RVX W (fun b => b < W.heap.size ∧ b ≠ gh ∧ b ≠ gn) x.2 x.1.val.items ∧ OI x.1) : OpsB W (w7.setCell ⟨gh, 1, none⟩ v) gh gn a d nw v M := by
  have hz := hb.size
  have hob := own_block_lt hown
  have hgh := hblk.lt
  have hb7 := hblk.below hb hgh
  have hzs : (w7.setCell ⟨gh, 1, none⟩ v).heap.size = w7.heap.size := by simp [World.setCell]
  refine ⟨⟨hb.os, hb.tape, hb.output, by rw [hzs]; exact hz, fun i hi hn => ?_⟩, ⟨hgh, hn⟩, hb7.set_ 1 v, ownsRow_setCell_below hown (a := ⟨gh, 1, none⟩) hgh v, fun x hm => ⟨((hx x hm).1.keep fun p hp => ?_).weak fun b hb' => ⟨⟨by rw [hzs]; exact Nat.lt_of_lt_of_le hb'.1 hz, hb'.2⟩, fun e => by have := (hob b e).1; omega⟩, (hx x hm).2⟩⟩
  · rw [Below.heap_setCell w7 _ _ i hn]; exact hb.block i hi
  · rw [World.cell?_setCell_other _ _ p _ (by intro e; subst e; exact hp.2.1 rfl)]
    exact hb.cell hp.1
/-- the operations are in: a history again -/
theorem OpsB.hist {w WB W2 : World} {gh gn g' cap' nM : Nat} {Af Ag : Option Addr} {nf cf cg : Nat} {dv nv : Value} {M : List (Opn × Value)} {M' : List BK} {lf : List Bl} {ops : List Opn} (h : OpsB WB W2 gh g' (.slice Af nf cf) dv nv (.slice Ag M.length cg) M) (hbel : Below w.heap.size w WB) (hgh : gh < w.heap.size) (hg : w.heap.size ≤ g')
    (h2 : RBX w (HS w gh gn) (.slice Af nf cf) lf) (hrow : RowS (fun b => w.heap.size ≤ b) WB g' cap' M') (hml : M'.length = nM) (hmm : M'.map Prod.fst = applL lf ops) (hM : M.map Prod.fst = ops) (h5 : M.length ≤ 100000) (hok : OkAll lf ops) (hgd : ∃ f, Good lf f) :
    HistM ((W2.setCell ⟨gh, 2, none⟩ (.int .i64 (M.length : Int))).setCell ⟨gh, 3, none⟩ (.slice (some ⟨g', 0, none⟩) nM cap')) gh g' lf ops ops.length ∧ Kept (fun b => b = gh) w ((W2.setCell ⟨gh, 2, none⟩ (.int .i64 (M.length : Int))).setCell ⟨gh, 3, none⟩ (.slice (some ⟨g', 0, none⟩) nM cap')) := by
  obtain ⟨W, hW⟩ : ∃ W, W = (W2.setCell ⟨gh, 2, none⟩ (.int .i64 (M.length : Int))).setCell ⟨gh, 3, none⟩ (.slice (some ⟨g', 0, none⟩) nM cap') := ⟨_, rfl⟩
  rw [← hW]
  have hzb := h.kept.size
  have hzw := hbel.size
  have hzs : W.heap.size = W2.heap.size := by rw [hW]; simp [World.setCell]
  have hlen : M.length = ops.length := by rw [← hM, List.length_map]
  have hblk : Blk W gh 94 #[.slice Af nf cf, .slice Ag M.length cg, .int .i64 (M.length : Int), .slice (some ⟨g', 0, none⟩) nM cap'] := by
    rw [hW]; exact (h.blk.set_ 2 _).set_ 3 _
  have hfr : ∀ b, b ≠ gh → W.heap[b]? = W2.heap[b]? := fun b hb => by
    rw [hW]; exact (Below.heap_setCell _ _ _ b hb).trans (Below.heap_setCell W2 _ _ b hb)
  have hfb : ∀ b, b < WB.heap.size → b ≠ gh → W.heap[b]? = WB.heap[b]? := fun b hb hne => (hfr b hne).trans (h.kept.block b hb hne)
  have hfw : ∀ b, b < w.heap.size → b ≠ gh → W.heap[b]? = w.heap[b]? := fun b hb hne => (hfb b (by omega) hne).trans (hbel.block b hb)
  have hk : Kept (fun b => b = gh) w W := ⟨by rw [hW]; exact h.kept.os.trans hbel.os, by rw [hW]; exact h.kept.tape.trans hbel.tape, by rw [hW]; exact h.kept.output.trans hbel.output, by omega, hfw⟩
  obtain ⟨A, c, e, hc, hr⟩ := RdX.of_own h.own
  injection e with e1 e2 e3
  subst e1 e3
  have hob := own_block_lt h.own
  have hg'z := h.lt.2
  refine ⟨⟨by omega, ⟨Af, nf, cf, Ag, M.length, cg, nM, cap', M', by rw [← hlen]; exact hblk, ?_, ?_, hml, by rw [List.take_length]; exact hmm, ?_⟩, hok, hgd, Nat.le_refl _⟩, hk⟩
  · exact (h2.keep fun p hp => World.cell?_of_block (hfw _ hp.1 hp.2.1)).weak fun b hb => ⟨by have := hb.1; omega, hb.2.1, by have := hb.1; omega⟩
  · refine ⟨Ag, M.length, cg, M, hM, rfl, rfl, ⟨hc, by omega⟩, (hr.keep fun p hp => World.cell?_of_block (hfr _ (by have := hp.2.1; omega))).weak fun b hb => ⟨by have := hb.2.2; omega, by have := hb.2.1; omega, by have := hb.2.1; omega⟩, fun x hx => ⟨((h.nest x hx).1.keep fun p hp => World.cell?_of_block (hfr _ hp.1.2.1)).weak fun b hb => ⟨by rw [hzs]; exact hb.1.1, hb.1.2⟩, (h.nest x hx).2⟩⟩
  · have hrw : RowS (fun b => b ≠ gh) WB g' cap' M' := hrow.weak fun b _ hb => by omega
    refine hrw.keep (fun b hb => ?_) (by omega)
    rcases hb with e | e
    · rw [e]; exact hfb g' hg'z (by omega)
    · exact hfb b e.1 e.2
/-- what DoAll leaves -/
def DoR (gh gn : Nat) (lf : List Bl) (os : List Opn) (d : Nat) (ls : List Opn) (w : World) (e : Ending) (w' : World) : Prop :=
  (∃ (k : Nat) (er : Int), OkAll (applL lf (os.take d)) (ls.take k) ∧ BadAt (applL lf (os.take d)) ls k er ∧ e = .returned (.int .i64 er) ∧ Below w.heap.size w w') ∨
  (OkAll (applL lf (os.take d)) ls ∧ e = .returned (.int .i64 0) ∧ ((ls = [] ∧ Below w.heap.size w w') ∨ (0 < ls.length ∧ gh ≠ gn ∧ ∃ gn', HistM w' gh gn' lf (os.take d ++ ls) (d + ls.length) ∧ w.heap.size ≤ gn' ∧ Kept (fun b => b = gh) w w')))
set_option maxRecDepth 100000 in
set_option maxHeartbeats 16000000 in
/-- the method DoAll -/
theorem doAll_any (w : World) (gh gn : Nat) (lf : List Bl) (os : List Opn) (d : Nat) (h : HistM w gh gn lf os d) (ls : List Opn) (Al : Option Addr) (nl cl : Nat) (hl : ROsX w (fun b => b < w.heap.size ∧ b ≠ gh) (.slice Al nl cl) ls) (hmax : d + ls.length ≤ 5000) :
    Calls Tryz.prog 24 #[.pointer (some ⟨gh, 0, none⟩), .slice Al nl cl] w (DoR gh gn lf os d ls w) := by
  obtain ⟨i0, hi, hz0, hz1, hz2⟩ := info_parts op_info
  have hne0 := h.ne
  have hgl := h.lt
  have hok := h.ok
  have hle := h.le
  have hgood := h.good
  obtain ⟨f, G⟩ := h.now
  obtain ⟨_, ⟨Af, nf, cf, Ao, no, co, nn, cn, M, h1, h2, h3, hml, hmm, hrow⟩, _, _, _⟩ := h
  have hno := (h3.reads (B := w.heap.size) fun b hb => hb.1).len
  have hnl := (hl.reads (B := w.heap.size) fun b hb => hb.1).len
  have hrb := hrow.rb
  rw [hml, hmm] at hrb
  have hn0 : 0 < nn := by
    obtain ⟨r, hr, _⟩ := G.kids.root
    have := (List.getElem?_eq_some_iff.1 hr).1
    have := hrb.len.1
    omega
  have hn1 : nn ≤ 100000 := by have := G.kids.short; have := hrb.len.1; omega
  have HCB := Lib.hid (copyBaseS_any (applL lf (os.take d)) _ nn cn w w.heap.size (Nat.le_refl _) hrb hn0 hn1)
  have HNL : Hid (nl = ls.length) := hnl.1
  have hnlb : nl * 144 ≤ 140737488351232 := hnl.2.2
  have hnlc : nl ≤ cl := hnl.2.1
  have hnl5 : d + nl ≤ 5000 := by omega
  have hdn : d ≤ no := by omega
  have hnoc : no ≤ co := hno.2.1
  have HL := Lib.hid hl
  have HG := Lib.hid G
  have HNE : Hid (gn ≠ gh) := hne0
  have HOK := Lib.hid hok
  have HGD := Lib.hid hgood
  have HLE : Hid (d ≤ os.length) := hle
  have H1 := Lib.hid h1
  have H2 := Lib.hid h2
  have H3 := Lib.hid (h3.take hdn)
  have hgh : gh < w.heap.size := hgl.1
  have hgn : gn < w.heap.size := hgl.2
  have c3 : w.cell? ⟨gh, 3, none⟩ = some (.slice (some ⟨gn, 0, none⟩) nn cn) := h1.cell 3
  clear h1 h2 h3 hml hmm hrow hno hnl hrb hn0 hn1 hl hok hgood hle G hne0 hgl hmax
  go_enter Tryz.func24, Tryz.ntmps24
  go_wp2_with fail
  refine HCB.out.mono ?_
  rintro e w1 ⟨g1, n1, M1, rfl, hl1, hm1, hg1, hr1, hb1⟩
  have HB1 := Lib.hid hb1
  have HL1 := Lib.hid hl1
  have HM1 : Hid (M1.map Prod.fst = applL (applL lf (os.take d)) (ls.take 0)) := hm1
  have HR1 := Lib.hid hr1
  have HG1 : Hid (w.heap.size ≤ g1) := hg1
  have HOK0 : Hid (OkAll (applL lf (os.take d)) (ls.take 0)) := fun i o hi => by simp at hi
  clear hb1 hl1 hm1 hr1 hg1 c3
  go_wp2_with fail
  go_loopg [5, 18] nl (fun gg s5 s18 wr => ∃ (k g' cap' nM : Nat) (M' : List BK), k + gg = nl ∧ s18 = .int .i64 (k : Int) ∧ s5 = .slice (some ⟨g', 0, none⟩) nM cap' ∧ Hid (M'.length = nM) ∧ Hid (M'.map Prod.fst = applL (applL lf (os.take d)) (ls.take k)) ∧ Hid (RowS (fun b => w.heap.size ≤ b) wr g' cap' M') ∧ Hid (Below w.heap.size w wr) ∧ Hid (w.heap.size ≤ g') ∧ Hid (OkAll (applL lf (os.take d)) (ls.take k)))
  case atStart => exact ⟨0, g1, n1, n1, M1, by omega, rfl, rfl, HL1, HM1, HR1, HB1, HG1, HOK0⟩
  case round =>
    obtain ⟨k, g', cap', nM, M', hkg, rfl, rfl, hml, hmm, hrow, hbel, hgg, hok⟩ := hrel
    obtain ⟨W1, rfl⟩ : ∃ W1, W1 = wr := ⟨_, rfl⟩
    have hgw := hrow.out.lt
    have hzw : w.heap.size ≤ W1.heap.size := hbel.out.size
    by_cases hk : k < nl
    · obtain ⟨o, hko⟩ : ∃ o, ls[k]? = some o := ⟨_, List.getElem?_eq_getElem (by have := HNL.out; omega)⟩
      obtain ⟨f', G⟩ := hok.out.good HG.out k (by rw [List.length_take, ← HNL.out]; omega)
      rw [take_take ls (Nat.le_refl k)] at G
      obtain ⟨b, off, Av, nv, cv, rfl, hSb, hc, hrv, hoi⟩ := (HL.out.keep (W' := W1) fun p hp => hbel.out.cell hp.1).at_ (B := w.heap.size) (fun b hb => hb.1) hko
      have HRV : Hid (RVX W1 (fun b => b < w.heap.size ∧ b ≠ gh) (.slice Av nv cv) o.val.items) := hrv
      obtain ⟨er, her⟩ : ∃ er, er = opErr (applL (applL lf (os.take d)) (ls.take k)) f' o := ⟨_, rfl⟩
      have HER := Lib.hid her
      have HGk := Lib.hid G
      have HKO := Lib.hid hko
      have HOI := Lib.hid hoi
      have j0 : (0 : Int) ≤ (k : Int) := by omega
      have j1 : (k : Int) < (nl : Int) := by omega
      have g0 : W1.cell? ⟨b, off + k * 13, none⟩ = some (.int .i64 o.kind) := hc 0 _ rfl
      have g1 : W1.cell? ⟨b, off + k * 13 + 1, none⟩ = some (.int .i64 o.id) := hc 1 _ rfl
      have g2 : W1.cell? ⟨b, off + k * 13 + 2, none⟩ = some (.int .i64 o.parent) := hc 2 _ rfl
      have g3 : W1.cell? ⟨b, off + k * 13 + 3, none⟩ = some (.int .i64 o.at_) := hc 3 _ rfl
      have g4 : W1.cell? ⟨b, off + k * 13 + 4, none⟩ = some (.int .i64 o.from_) := hc 4 _ rfl
      have g5 : W1.cell? ⟨b, off + k * 13 + 5, none⟩ = some (.int .i64 o.to_) := hc 5 _ rfl
      have g6 : W1.cell? ⟨b, off + k * 13 + 6, none⟩ = some (.string o.text) := hc 6 _ rfl
      have g7 : W1.cell? ⟨b, off + k * 13 + 7, none⟩ = some (.string o.name) := hc 7 _ rfl
      have g8 : W1.cell? ⟨b, off + k * 13 + 8, none⟩ = some (.int .i64 o.val.kind) := hc 8 _ rfl
      have g9 : W1.cell? ⟨b, off + k * 13 + 9, none⟩ = some (.int .i64 o.val.int_) := hc 9 _ rfl
      have g10 : W1.cell? ⟨b, off + k * 13 + 10, none⟩ = some (.int .i64 o.val.to_) := hc 10 _ rfl
      have g11 : W1.cell? ⟨b, off + k * 13 + 11, none⟩ = some (.string o.val.text) := hc 11 _ rfl
      have g12 : W1.cell? ⟨b, off + k * 13 + 12, none⟩ = some (.slice Av nv cv) := hc 12 _ rfl
      obtain ⟨wa, hwa⟩ : ∃ wa, wa = W1.alloc (.cells (opC o (.slice Av nv cv)) 31) := ⟨_, rfl⟩
      have hal : Below W1.heap.size W1 wa := by rw [hwa]; exact (Below.refl _ _).alloc (Nat.le_refl _) _
      have hza : W1.heap.size < wa.heap.size := by rw [hwa]; simp
      have P0 : Hid (Blk wa W1.heap.size 31 (opC o (.slice Av nv cv))) := by rw [hwa]; exact Blk.new _ _ _
      have HRA := Lib.hid (hrow.out.below hal)
      have HCO := Lib.hid (checkOp_any (M'.map Prod.fst) f' (by rw [hmm.out]; exact G) (some ⟨g', 0, none⟩) M'.length cap' o Av nv cv wa wa.heap.size (Nat.le_refl _) HRA.out.rb hoi (((HRV.out.reads (B := W1.heap.size) fun b hb => Nat.lt_of_lt_of_le hb.1 hzw).below hal).more hal.size))
      rw [hml.out, hmm.out, ← her] at HCO
      have HAL := Lib.hid hal
      have HWA := Lib.hid hwa
      clear hko G hSb hc hrv hoi hal hwa her
      dsimp only [AO] at HCO
      go_upto_region 5 with fail
      rw [← HWA.out]
      clear g0 g1 g2 g3 g4 g5 g6 g7 g8 g9 g10 g11 g12
      have e0 := fun i => P0.out.cell i
      go_wp2_with fail
      refine HCO.out.mono ?_
      rintro e w2 ⟨rfl, hb2⟩
      have HB2 : Hid (Below W1.heap.size W1 w2) := HAL.out.trans (hb2.mono HAL.out.size)
      have P2 := Lib.hid (P0.out.below hb2 P0.out.lt)
      have HR2 := Lib.hid (hrow.out.below HB2.out)
      have hz2 := HB2.out.size
      have HW2 : Hid (Below w.heap.size w w2) := hbel.out.trans (HB2.out.mono hzw)
      clear hb2 e0
      have e0 := fun i => P2.out.cell i
      have c2 : w2.cell? ⟨gh, 2, none⟩ = some (.int .i64 (d : Int)) := (HW2.out.cell (p := ⟨gh, 2, none⟩) hgh).trans (H1.out.cell 2)
      by_cases h0 : er = 0
      · subst h0
        have HOK' : Hid (OkAll (applL lf (os.take d)) (ls.take (k + 1))) := hok.out.snoc HKO.out HGk.out HER.out.symm
        have HSN : Hid (applL (applL lf (os.take d)) (ls.take (k + 1)) = applL (applL (applL lf (os.take d)) (ls.take k)) [o]) := applL_snoc HKO.out
        obtain ⟨wc, hwc⟩ : ∃ wc, wc = w2.alloc (.cells (opC o (.slice Av nv cv)) 31) := ⟨_, rfl⟩
        have hbc : Below w2.heap.size w2 wc := by rw [hwc]; exact (Below.refl _ _).alloc (Nat.le_refl _) _
        have hzc : wc.heap.size = w2.heap.size + 1 := by rw [hwc]; simp
        have hkc : Blk wc w2.heap.size 31 (opV (o, .slice Av nv cv)).toArray := by rw [hwc]; exact Blk.new _ _ _
        have hg' := hgg.out
        have hros : ROsX wc (fun b => b < wc.heap.size ∧ b ≠ g') (.slice (some ⟨w2.heap.size, 0, none⟩) 1 1) [o] := ROsX.one hkc ⟨by omega, by omega⟩ ((HRV.out.keep fun p hp => (HB2.out.trans (hbc.mono HB2.out.size)).cell (Nat.lt_of_lt_of_le hp.1 hzw)).weak fun b hb => ⟨by omega, by omega⟩) HOI.out
        have HDN := Lib.hid (doneS_any wc (S := fun b => w.heap.size ≤ b) (fun b hb => by omega) g' cap' nM M' (applL (applL lf (os.take d)) (ls.take k)) [o] (HR2.out.below hbc) hml.out hmm.out _ _ _ hros (OkAll.one HGk.out HER.out.symm))
        rw [hwc] at HDN
        have HWC : Hid (Below w.heap.size w (w2.alloc (.cells (opC o (.slice Av nv cv)) 31))) := by
          rw [hwc] at hbc
          exact HW2.out.trans (hbc.mono HW2.out.size)
        have hwz := HWC.out.size
        have hkd : ¬ (5000 : Int) ≤ (d : Int) + (k : Int) := by omega
        clear hwc hbc hzc hkc hros
        go_wp2_with fail
        refine HDN.out.mono ?_
        rintro e w3 ⟨g3, cap3, n3, M3, rfl, hl3, hm3, hr3, hg3, hat3⟩
        have HW3 : Hid (Below w.heap.size w w3) := below_own HWC.out hg3 hg'
        have HL3 := Lib.hid hl3
        have HM3 : Hid (M3.map Prod.fst = applL (applL lf (os.take d)) (ls.take (k + 1))) := hm3.trans HSN.out.symm
        have HR3 := Lib.hid hr3
        have HGG3 : Hid (w.heap.size ≤ g3) := by
          rcases hat3 with e | e
          · rw [e]; exact hg'
          · exact Nat.le_trans hwz e
        clear hg3 hat3 hl3 hm3 hr3 hwz e0 c2
        go_wp2_with fail
        go_roundg (nl - (k + 1))
        case measure => omega
        case rel => exact ⟨k + 1, g3, cap3, n3, M3, by omega, by go_num, rfl, HL3, HM3, HR3, HW3, HGG3, HOK'⟩
      · have h0' : (er != 0) = true := by simpa using h0
        have HBAD : Hid (BadAt (applL lf (os.take d)) ls k er) := ⟨o, f', HKO.out, HGk.out, HER.out.symm, h0⟩
        clear h0
        go_wp2_with fail
        go_ret
        exact .inl ⟨k, er, hok.out, HBAD.out, rfl, HW2.out⟩
    · obtain rfl : nl = k := by omega
      have HOKF : Hid (OkAll (applL lf (os.take d)) ls) := by
        have := hok.out
        rw [HNL.out, List.take_length] at this
        exact this
      have HMF : Hid (M'.map Prod.fst = applL (applL lf (os.take d)) ls) := by
        have := hmm.out
        rw [HNL.out, List.take_length] at this
        exact this
      by_cases hnl0 : nl = 0
      · subst hnl0
        have hlz : ls = [] := List.eq_nil_of_length_eq_zero HNL.out.symm
        have HLZ := Lib.hid hlz
        clear hlz
        go_wp2_with fail
        go_ret
        exact .inr ⟨HOKF.out, rfl, .inl ⟨HLZ.out, hbel.out⟩⟩
      · have hnl0' : ((nl : Int) == 0) = false := by
          have : ¬ ((nl : Int) = 0) := by omega
          simpa using this
        have HP0 : Hid (0 < nl) := Nat.pos_of_ne_zero hnl0
        clear hnl0
        go_upto_region 14 with fail
        obtain ⟨WB, hWB⟩ : ∃ WB, WB = W1 := ⟨_, rfl⟩
        rw [← hWB] at hrow hbel hgw hzw ⊢
        clear hWB
        obtain ⟨A0, n0', c0', M0, hM0, e0, hM0l, hM0c, hM0r, hM0n⟩ := H3.out
        injection e0 with e01 e02 e03
        subst e01 e02 e03
        have hfr : ∀ p : Addr, HS w gh gn p.block → WB.cell? p = w.cell? p := fun p hp => hbel.out.cell hp.1
        have hg'w := hgg.out
        have hrd : Reads WB WB.heap.size 13 Ao d (M0.flatMap opV) := ((hM0r.keep hfr).reads (B := w.heap.size) fun b hb => hb.1).more hzw
        have hA0 : Ao = none → d = 0 := fun e => by
          rcases Nat.eq_zero_or_pos d with h0 | h0
          · exact h0
          · obtain ⟨ad, e2, _⟩ := hM0r.2 h0
            rw [e] at e2; cases e2
        have hM0s : ∀ x ∈ M0, ∃ A n c, x.2 = .slice A n c := fun x hx => ((hM0n x hx).1.reads (B := w.heap.size) fun b hb => hb.1).slice
        have HCL : Hid (∀ W, W = WB ∨ W = WB.drew → Calls Tryz.prog 87 #[.slice Ao d co] W fun e w' => ∃ v, e = .returned v ∧ w'.ownsRow WB.heap.size 31 13 v d (M0.flatMap opV) ∧ Below WB.heap.size WB w') := fun W hW => by
          rcases hW with rfl | rfl
          · exact cloneO_any Ao d co M0 W hM0l (by omega) hA0 hrd hM0s
          · refine (cloneO_any Ao d co M0 WB.drew hM0l (by omega) hA0 hrd.drew hM0s).mono ?_
            rintro e w' ⟨v, h1, h2, h3⟩
            exact ⟨v, h1, h2, (Below.refl WB.heap.size WB).drew.trans h3⟩
        have PB := H1.out.below hbel.out hgh
        have HST : Hid (∀ (w7 : World) (v : Value), Below WB.heap.size WB w7 → w7.ownsRow WB.heap.size 31 13 v d (M0.flatMap opV) → OpsB WB (w7.setCell ⟨gh, 1, none⟩ v) gh g' (.slice Af nf cf) (.int .i64 (d : Int)) (.slice (some ⟨gn, 0, none⟩) nn cn) v M0) := fun w7 v hb hown => by
          rw [hM0l] at hown
          exact OpsB.start hb PB hrow.out.lt hown fun x hx => ⟨((hM0n x hx).1.keep hfr).weak fun b hb => ⟨Nat.lt_of_lt_of_le hb.1 hzw, hb.2.1, by have := hb.1; omega⟩, (hM0n x hx).2⟩
        have HPK : Hid (∀ W, Below WB.heap.size WB W → (∀ i, W.cell? ⟨gh, i, none⟩ = (#[.slice Af nf cf, .slice Ao no co, .int .i64 (d : Int), .slice (some ⟨gn, 0, none⟩) nn cn] : Array Value)[i]?) ∧ ∀ i, W.frozen? ⟨gh, i, none⟩ = false) := fun W hW => ⟨fun i => (PB.below hW PB.lt).cell i, fun i => (PB.below hW PB.lt).frozen i⟩
        have HM0 := Lib.hid hM0
        have HM0L := Lib.hid hM0l
        obtain ⟨e0, f0⟩ := HPK.out WB (Below.refl _ _)
        have c1 := e0 1
        have c2 := e0 2
        have d0 : (0 : Int) ≤ (d : Int) := by omega
        have d1 : (d : Int) ≤ (no : Int) := by omega
        have d2 : (d : Int) ≤ (co : Int) := by omega
        clear hM0 hM0l hM0c hM0r hM0n hfr hrd hA0 hM0s PB e0 f0
        go_cut [54] (fun _ wc => ∃ v, Hid (OpsB WB wc gh g' (.slice Af nf cf) (.int .i64 (d : Int)) (.slice (some ⟨gn, 0, none⟩) nn cn) v M0))
        case first =>
          go_region_with (go_at_call 87; refine (HCL.out _ (by first | exact .inr rfl | exact .inl rfl)).mono ?_; rintro e w7 ⟨v7, rfl, hown7, hb7⟩; have HOW := Lib.hid hown7; have HB7 := Lib.hid hb7; obtain ⟨e7, f7⟩ := HPK.out w7 hb7; have k1 := e7 1; have s1 := f7 1; obtain ⟨A7, c7, rfl⟩ : ∃ A c, v7 = .slice A d c := (by obtain ⟨A, c, e, _⟩ := RdX.of_own hown7; exact ⟨A, c, e⟩); clear hown7 hb7 e7 f7)
          all_goals
            go_wp2_with fail
            go_meet
            exact ⟨_, HST.out _ _ HB7.out HOW.out⟩
        case rest =>
        obtain ⟨v0, hops0⟩ := hcut
        obtain ⟨w8, hw8⟩ : ∃ w8, w8 = wc := ⟨_, rfl⟩
        rw [← hw8] at hops0 ⊢
        clear hw8 c1 c2 d0 d1 d2
        go_wp2_with fail
        go_loopg [59] nl (fun gg s59 wr => ∃ (k : Nat) (v : Value) (M : List (Opn × Value)), k + gg = nl ∧ s59 = .int .i64 (k : Int) ∧ Hid (M.map Prod.fst = os.take d ++ ls.take k) ∧ Hid (OpsB WB wr gh g' (.slice Af nf cf) (.int .i64 (d : Int)) (.slice (some ⟨gn, 0, none⟩) nn cn) v M))
        case atStart => exact ⟨0, v0, M0, by omega, rfl, by show _ = _; rw [HM0.out]; simp, hops0⟩
        case round =>
          obtain ⟨k, v, M, hkg2, rfl, hM, hops⟩ := hrel
          obtain ⟨W2, rfl⟩ : ∃ W2, W2 = wr := ⟨_, rfl⟩
          obtain ⟨Ag, cg, rfl⟩ : ∃ A c, v = .slice A M.length c := by
            obtain ⟨A, c, e, _⟩ := RdX.of_own hops.out.own
            exact ⟨A, c, e⟩
          have HML : Hid (M.length = d + k) := by
            show _ = _
            have := congrArg List.length hM.out
            rw [List.length_map, List.length_append, List.length_take, List.length_take, ← HNL.out] at this
            have := HLE.out
            omega
          have hm5 : M.length ≤ 5000 := by have := HML.out; omega
          have hzb : WB.heap.size ≤ W2.heap.size := hops.out.kept.size
          by_cases hk : k < nl
          · obtain ⟨o, hko⟩ : ∃ o, ls[k]? = some o := ⟨_, List.getElem?_eq_getElem (by have := HNL.out; omega)⟩
            obtain ⟨b, off, Av, nv, cv, rfl, hSb, hc, hrv, hoi⟩ := (HL.out.keep (W' := W2) fun p hp => (hops.out.kept.cell (Nat.lt_of_lt_of_le hp.1 hzw) hp.2).trans (hbel.out.cell hp.1)).at_ (B := w.heap.size) (fun b hb => hb.1) hko
            have HSN : Hid (os.take d ++ ls.take (k + 1) = (os.take d ++ ls.take k) ++ [o]) := by
              show _ = _
              rw [List.take_add_one, hko, List.append_assoc]; rfl
            have HOI := Lib.hid hoi
            have HRV : Hid (RV W2 W2.heap.size (.slice Av nv cv) o.val.items) := hrv.reads fun b hb => Nat.lt_of_lt_of_le (Nat.lt_of_lt_of_le hb.1 hzw) hzb
            have j0 : (0 : Int) ≤ (k : Int) := by omega
            have j1 : (k : Int) < (nl : Int) := by omega
            have g0 : W2.cell? ⟨b, off + k * 13, none⟩ = some (.int .i64 o.kind) := hc 0 _ rfl
            have g1 : W2.cell? ⟨b, off + k * 13 + 1, none⟩ = some (.int .i64 o.id) := hc 1 _ rfl
            have g2 : W2.cell? ⟨b, off + k * 13 + 2, none⟩ = some (.int .i64 o.parent) := hc 2 _ rfl
            have g3 : W2.cell? ⟨b, off + k * 13 + 3, none⟩ = some (.int .i64 o.at_) := hc 3 _ rfl
            have g4 : W2.cell? ⟨b, off + k * 13 + 4, none⟩ = some (.int .i64 o.from_) := hc 4 _ rfl
            have g5 : W2.cell? ⟨b, off + k * 13 + 5, none⟩ = some (.int .i64 o.to_) := hc 5 _ rfl
            have g6 : W2.cell? ⟨b, off + k * 13 + 6, none⟩ = some (.string o.text) := hc 6 _ rfl
            have g7 : W2.cell? ⟨b, off + k * 13 + 7, none⟩ = some (.string o.name) := hc 7 _ rfl
            have g8 : W2.cell? ⟨b, off + k * 13 + 8, none⟩ = some (.int .i64 o.val.kind) := hc 8 _ rfl
            have g9 : W2.cell? ⟨b, off + k * 13 + 9, none⟩ = some (.int .i64 o.val.int_) := hc 9 _ rfl
            have g10 : W2.cell? ⟨b, off + k * 13 + 10, none⟩ = some (.int .i64 o.val.to_) := hc 10 _ rfl
            have g11 : W2.cell? ⟨b, off + k * 13 + 11, none⟩ = some (.string o.val.text) := hc 11 _ rfl
            have g12 : W2.cell? ⟨b, off + k * 13 + 12, none⟩ = some (.slice Av nv cv) := hc 12 _ rfl
            obtain ⟨wa, hwa⟩ : ∃ wa, wa = W2.alloc (.cells (opC o (.slice Av nv cv)) 31) := ⟨_, rfl⟩
            have hal : Below W2.heap.size W2 wa := by rw [hwa]; exact (Below.refl _ _).alloc (Nat.le_refl _) _
            have P0 : Hid (Blk wa W2.heap.size 31 (opC o (.slice Av nv cv))) := by rw [hwa]; exact Blk.new _ _ _
            have HA := Lib.hid (hops.out.below hal)
            have HCP : Hid (∀ W, W = wa ∨ W = wa.drew → Calls Tryz.prog 88 #[AO (o, .slice Av nv cv)] W fun e w' => ∃ A n c, e = .returned (AO (o, .slice A n c)) ∧ RVX w' (fun b => wa.heap.size ≤ b ∧ b < w'.heap.size) (.slice A n c) o.val.items ∧ Below wa.heap.size wa w') := fun W hW => by
              have hv : RV wa wa.heap.size (.slice Av nv cv) o.val.items := (HRV.out.below hal).more hal.size
              rcases hW with rfl | rfl
              · refine (copyOp_any o Av nv cv W W.heap.size (Nat.le_refl _) hv).mono ?_
                rintro e w' ⟨⟨A, n, c, h1, h2⟩, h3⟩
                exact ⟨A, n, c, h1, h2, h3⟩
              · refine (copyOp_any o Av nv cv wa.drew wa.heap.size (Nat.le_refl _) (hv.below (Below.refl _ _).drew)).mono ?_
                rintro e w' ⟨⟨A, n, c, h1, h2⟩, h3⟩
                exact ⟨A, n, c, h1, h2, (Below.refl wa.heap.size wa).drew.trans h3⟩
            have HWA := Lib.hid hwa
            have hlt := hops.out.lt
            have hgwa : gh < wa.heap.size ∧ g' < wa.heap.size := ⟨by have := hal.size; omega, by have := hal.size; omega⟩
            have hoba := own_block_lt HA.out.own
            have HOBA : Hid (∀ b, (Value.slice Ag M.length cg).ownBlock = some b → b < wa.heap.size) := fun b hb => (hoba b hb).2
            clear hko hSb hc hrv hoi hwa hal hlt hoba
            dsimp only [AO] at HCP
            go_upto_region 18 with fail
            rw [← HWA.out]
            clear g0 g1 g2 g3 g4 g5 g6 g7 g8 g9 g10 g11 g12
            have e0 := fun i => P0.out.cell i
            have c1 := HA.out.blk.cell 1
            have hbase : WB.heap.size ≤ wa.heap.size := HA.out.kept.size
            go_region_law (first
              | (refine step_append_any _ (by rfl) _ _ _ (by rfl) WB.heap.size 31 i0 opZ 13 144 Tryz.underlying23 hi hz0 hz1 hz2 rfl (by decide) (.slice Ag M.length cg) M.length _ (by rfl) (HA5.out.own.alloc _) (w5.heap.size + 1) (some ⟨w5.heap.size, 0, none⟩) 1 1 [.int .i64 o.kind, .int .i64 o.id, .int .i64 o.parent, .int .i64 o.at_, .int .i64 o.from_, .int .i64 o.to_, .string o.text, .string o.name, .int .i64 o.val.kind, .int .i64 o.val.int_, .int .i64 o.val.to_, .string o.val.text, .slice A5 n5 c5] (by rfl) ⟨rfl, fun _ => ⟨_, rfl, by simp, row_new w5 _ [.int .i64 o.kind, .int .i64 o.id, .int .i64 o.parent, .int .i64 o.at_, .int .i64 o.from_, .int .i64 o.to_, .string o.text, .string o.name, .int .i64 o.val.kind, .int .i64 o.val.int_, .int .i64 o.val.to_, .string o.val.text, .slice A5 n5 c5] _ rfl⟩⟩ (opV_one (o, .slice A5 n5 c5) ⟨_, _, _, rfl⟩) (by unfold maxLen; omega) (by omega) (by simp; omega) ?_; intro v7 w7 hown7 hg7 hv7; obtain ⟨g7, cap7, rfl⟩ := own_succ hown7; have h77 := OpsB.app (HA5.out.below ((Below.refl _ _).alloc (Nat.le_refl _) (.cells #[.int .i64 o.kind, .int .i64 o.id, .int .i64 o.parent, .int .i64 o.at_, .int .i64 o.from_, .int .i64 o.to_, .string o.text, .string o.name, .int .i64 o.val.kind, .int .i64 o.val.int_, .int .i64 o.val.to_, .string o.val.text, .slice A5 n5 c5] 31))) (x := (o, .slice A5 n5 c5)) (HV5.out.keep (fun p hp => World.cell?_alloc_lt _ _ _ hp.1.1) |>.weak fun b hb => ⟨⟨Nat.lt_of_lt_of_le hb.1.1 (by simp), hb.1.2⟩, hb.2⟩) HOI.out hown7 hg7 hv7; have HC7 := Lib.hid h77.2; have s1 := h77.1.cell 1; have s2 := h77.1.frozen 1; clear h77 hown7 hg7 hv7)
              | (go_simp; go_at_call 88; refine (HCP.out _ (by first | exact .inr rfl | exact .inl rfl)).mono ?_; rintro e w5 ⟨A5, n5, c5, rfl, hr5, hb5⟩; have HA5 := Lib.hid (HA.out.below hb5); have hz5 := hb5.size; have HV5 : Hid (RVX w5 (fun b => (b < w5.heap.size ∧ b ≠ gh ∧ b ≠ g') ∧ (Value.slice Ag M.length cg).ownBlock ≠ some b) (.slice A5 n5 c5) o.val.items) := hr5.weak (fun b hb => ⟨⟨hb.2, by omega, by omega⟩, fun e => by have := HOBA.out b e; omega⟩); have c15 := HA5.out.blk.cell 1; have hag : ∀ (o : Obj) (i : Nat), (w5.alloc o).cell? ⟨gh, i, none⟩ = w5.cell? ⟨gh, i, none⟩ := (fun o i => World.cell?_alloc_lt _ _ _ (by show gh < _; omega)); clear hr5 hb5))
            all_goals
              go_wp2_with fail
              go_roundg (nl - (k + 1))
              case measure => omega
              case rel => exact ⟨k + 1, _, M ++ [(o, .slice A5 n5 c5)], by omega, by go_num, by show _ = _; rw [HSN.out, List.map_append, hM.out]; rfl, HC7⟩
          · obtain rfl : nl = k := by omega
            have hM' : M.map Prod.fst = os.take d ++ ls := by
              have := hM.out
              rw [HNL.out, List.take_length] at this
              exact this
            have hlen : (os.take d ++ ls).length = d + ls.length := by
              rw [List.length_append, List.length_take]
              have := HLE.out
              omega
            have HFIN := Lib.hid (OpsB.hist hops.out hbel.out hgh hgg.out H2.out hrow.out hml.out (by rw [applL_app]; exact HMF.out) hM' (by omega) ((HOK.out.pre d).app HOKF.out) HGD.out)
            rw [hlen] at HFIN
            have c1 := hops.out.blk.cell 1
            have c2 := hops.out.blk.cell 2
            have c3 := hops.out.blk.cell 3
            have f2 := hops.out.blk.frozen 2
            have f3 := hops.out.blk.frozen 3
            clear hM' hlen
            go_wp2_with fail
            go_ret
            exact .inr ⟨HOKF.out, rfl, .inr ⟨by have := HNL.out; have := HP0.out; omega, HNE.out.symm, g', HFIN.out.1, hgg.out, HFIN.out.2⟩⟩
end Go.Proofs.YtmkicfjcgbfaaaaGreat
