/-
  DERIVED. A history in memory; the walks of tree.New, Base and Length. Conditions: sizes.
  The walks of a history's rewind, Undo and At. Conditions: sizes.
  By an AI agent.
-/
import Derived.Test.YtmkicfjcgbfaaaaGreatTg36
import Derived.BigQuiet
namespace Go.Proofs.YtmkicfjcgbfaaaaGreat
open Go.RowKit

section
variable {S : Nat → Prop} {w w' : World} {g cap : Nat} {M : List BK}
/-- a row of the call's own read as a base, its blocks of a sort -/
theorem RowS.rbx (h : RowS S w g cap M) : RBX w (fun b => b = g ∨ ((b < w.heap.size ∧ b ≠ g) ∧ S b)) (.slice (some ⟨g, 0, none⟩) M.length cap) (M.map Prod.fst) :=
  ⟨_, _, _, M, rfl, rfl, rfl, ⟨h.len, by have := h.few; omega⟩, ⟨fmB_len M, fun _ => ⟨_, rfl, .inl rfl, fun j u hu => by rw [Addr.add_lit, Nat.zero_add]; exact h.cells hu⟩⟩, fun x hx => ⟨(h.far x hx).1.weak fun b hb => .inr hb, (h.far x hx).2.weak fun b hb => .inr hb⟩⟩
end
/-- the blocks that a history leaves as they are -/
def HS (w : World) (gh gn b : Nat) : Prop := b < w.heap.size ∧ b ≠ gh ∧ b ≠ gn
/-- a history: its first base, its operations, how many are done; gn is the row of its base -/
structure HistM (w : World) (gh gn : Nat) (lf : List Bl) (os : List Opn) (d : Nat) : Prop where
  ne : gn ≠ gh
  mem : ∃ (Af : Option Addr) (nf cf : Nat) (Ao : Option Addr) (no co nn cn : Nat) (M : List BK), Blk w gh 94 #[.slice Af nf cf, .slice Ao no co, .int .i64 (d : Int), .slice (some ⟨gn, 0, none⟩) nn cn] ∧
    RBX w (HS w gh gn) (.slice Af nf cf) lf ∧ ROsX w (HS w gh gn) (.slice Ao no co) os ∧ M.length = nn ∧ M.map Prod.fst = applL lf (os.take d) ∧ RowS (fun b => b ≠ gh) w gn cn M
  ok : OkAll lf os
  good : ∃ f, Good lf f
  le : d ≤ os.length
/-- all but some blocks are as they were -/
structure Kept (T : Nat → Prop) (w w' : World) : Prop where
  os : w'.os = w.os
  tape : w'.tape = w.tape
  output : w'.output = w.output
  size : w.heap.size ≤ w'.heap.size
  block : ∀ i, i < w.heap.size → ¬ T i → w'.heap[i]? = w.heap[i]?
section
variable {T T' : Nat → Prop} {w w' w'' : World} {gh gn : Nat} {lf : List Bl} {os : List Opn} {d : Nat}
theorem Kept.of (h : Below w.heap.size w w') : Kept T w w' := ⟨h.os, h.tape, h.output, h.size, fun i hi _ => h.block i hi⟩
theorem Kept.below {B : Nat} (h : Kept T w w') (hB : B ≤ w.heap.size) (hT : ∀ i, i < B → ¬ T i) : Below B w w' := ⟨h.os, h.tape, h.output, h.size, fun i hi => h.block i (by omega) (hT i hi)⟩
theorem Kept.trans (h : Kept T w w') (k : Kept T' w' w'') (hT : ∀ i, i < w.heap.size → T' i → T i) : Kept T w w'' :=
  ⟨k.os.trans h.os, k.tape.trans h.tape, k.output.trans h.output, Nat.le_trans h.size k.size, fun i hi hn => (k.block i (Nat.lt_of_lt_of_le hi h.size) fun e => hn (hT i hi e)).trans (h.block i hi hn)⟩
theorem Kept.blk {g : Nat} {t : TypeId} {cs : Array Value} (h : Kept T w w') (hb : Blk w g t cs) (hT : ¬ T g) : Blk w' g t cs := (h.block g hb.lt hT).trans hb
theorem Kept.weak (h : Kept T w w') (hT : ∀ i, T i → T' i) : Kept T' w w' := ⟨h.os, h.tape, h.output, h.size, fun i hi hn => h.block i hi fun e => hn (hT i e)⟩
theorem Kept.cell (h : Kept T w w') {p : Addr} (hp : p.block < w.heap.size) (hT : ¬ T p.block) : w'.cell? p = w.cell? p := World.cell?_of_block (h.block _ hp hT)
theorem Kept.rbx {S : Nat → Prop} {v : Value} {l : List Bl} (h : Kept T w w') (hr : RBX w S v l) (hS : ∀ b, S b → b < w.heap.size ∧ ¬ T b) : RBX w' S v l := hr.keep fun _ hp => h.cell (hS _ hp).1 (hS _ hp).2
theorem HistM.lt (h : HistM w gh gn lf os d) : gh < w.heap.size ∧ gn < w.heap.size := by
  obtain ⟨Af, nf, cf, Ao, no, co, nn, cn, M, h1, _, _, _, _, h6⟩ := h.mem
  exact ⟨h1.lt, h6.lt⟩
theorem HistM.below (h : HistM w gh gn lf os d) (hb : Below w.heap.size w w') : HistM w' gh gn lf os d := by
  obtain ⟨hne, ⟨Af, nf, cf, Ao, no, co, nn, cn, M, h1, h2, h3, h4, h5, h6⟩, hok, hg, hle⟩ := h
  have hw : ∀ b, HS w gh gn b → HS w' gh gn b := fun b hb' => ⟨Nat.lt_of_lt_of_le hb'.1 hb.size, hb'.2⟩
  have hk : ∀ p : Addr, HS w gh gn p.block → w'.cell? p = w.cell? p := fun _ hp => hb.cell hp.1
  exact ⟨hne, ⟨Af, nf, cf, Ao, no, co, nn, cn, M, h1.below hb h1.lt, (h2.keep hk).weak hw, (h3.keep hk).weak hw, h4, h5, h6.below hb⟩, hok, hg, hle⟩
/-- the base as it is now -/
theorem HistM.now (h : HistM w gh gn lf os d) : ∃ f, Good (applL lf (os.take d)) f := by
  obtain ⟨f, G⟩ := h.good
  exact h.ok.good G d h.le
end

set_option maxRecDepth 100000 in
set_option maxHeartbeats 2000000 in
/-- tree.New at a base with an error -/
theorem new_bad (l : List Bl) (f : Int → Option Int) (hf : DepOk l f) (A : Option Addr) (n c : Nat) (w : World) (B : Nat) (hB : B ≤ w.heap.size) (h : RB w B (.slice A n c) l) (hne : baseE l f ≠ 0) :
    Calls Tryz.prog 17 #[.slice A n c] w fun e w' => e = .returned (.tuple #[.pointer none, .int .i64 (baseE l f)]) ∧ Below w.heap.size w w' := by
  have HC := Lib.hid (treeCheck_any l f A n c w B hB h hf)
  obtain ⟨er, her⟩ : ∃ er, er = baseE l f := ⟨_, rfl⟩
  rw [← her] at HC hne ⊢
  have h0' : (er != 0) = true := by simpa using hne
  clear her hne h
  go_enter Tryz.func17, Tryz.ntmps17
  go_wp2_with fail
  refine HC.out.mono ?_
  rintro e w1 ⟨rfl, hb1⟩
  have HB1 := Lib.hid hb1
  clear hb1
  go_wp2_with fail
  go_ret2
  exact ⟨rfl, HB1.out⟩
/-- what New leaves -/
def NewR (l : List Bl) (w : World) (e : Ending) (w' : World) : Prop := ∃ gh gn, e = .returned (.tuple #[.pointer (some ⟨gh, 0, none⟩), .int .i64 0]) ∧ HistM w' gh gn l [] 0 ∧ w.heap.size ≤ gh ∧ w.heap.size ≤ gn ∧ Below w.heap.size w w'
set_option maxRecDepth 100000 in
set_option maxHeartbeats 4000000 in
/-- tree.New -/
theorem new_any (l : List Bl) (f : Int → Option Int) (G : Good l f) (A : Option Addr) (n c : Nat) (w : World) (B : Nat) (hB : B ≤ w.heap.size) (h : RB w B (.slice A n c) l) :
    Calls Tryz.prog 17 #[.slice A n c] w (NewR l w) := by
  have HC := Lib.hid (treeCheck_any l f A n c w B hB h fun _ => G.dep)
  rw [G.clean] at HC
  have hn0 : 0 < n := by
    obtain ⟨r, hr, _⟩ := G.kids.root
    have := (List.getElem?_eq_some_iff.1 hr).1
    have := h.len.1
    omega
  have hn1 : n ≤ 100000 := by have := G.kids.short; have := h.len.1; omega
  have HCB := Lib.hid fun W (hW : Below w.heap.size w W) => copyBaseS_any l A n c W B (Nat.le_trans hB hW.size) (h.below (hW.mono hB)) hn0 hn1
  have HG := Lib.hid G
  clear h G hn0 hn1
  go_enter Tryz.func17, Tryz.ntmps17
  go_wp2_with fail
  refine HC.out.mono ?_
  rintro e w1 ⟨rfl, hb1⟩
  have HB1 := Lib.hid hb1
  clear hb1
  go_wp2_with fail
  refine (HCB.out w1 HB1.out).mono ?_
  rintro e w2 ⟨g2, n2, M2, rfl, hl2, hm2, hg2, hr2, hb2⟩
  have HB2 : Hid (Below w.heap.size w w2) := HB1.out.trans (hb2.mono HB1.out.size)
  have HX2 := Lib.hid hr2.rbx
  rw [hl2, hm2] at HX2
  have hgl := hr2.lt
  have hz1 := HB1.out.size
  have hz2 := hb2.size
  have HLT2 : Hid (w.heap.size ≤ g2 ∧ g2 < w2.heap.size) := ⟨by omega, hgl⟩
  clear hb2 hl2 hm2 hr2 hg2 hgl
  go_wp2_with fail
  refine (HCB.out w2 HB2.out).mono ?_
  rintro e w3 ⟨g3, n3, M3, rfl, hl3, hm3, hg3, hr3, hb3⟩
  have HB3 : Hid (Below w.heap.size w w3) := HB2.out.trans (hb3.mono HB2.out.size)
  have HX3 := Lib.hid ((HX2.out.keep (w' := w3) fun p hp => hb3.cell (by
    rcases hp with e | e
    · rw [e]; exact HLT2.out.2
    · exact e.1.1)).weak (S' := fun b => b < w2.heap.size) fun b hb => by
      rcases hb with e | e
      · rw [e]; exact HLT2.out.2
      · exact e.1.1)
  have HR3 := Lib.hid hr3
  have HL3 := Lib.hid hl3
  have HM3 := Lib.hid hm3
  have HG3 := Lib.hid hg3
  have HZ3 : Hid (w2.heap.size ≤ w3.heap.size) := hb3.size
  clear hb3 hl3 hm3 hr3 hg3
  go_wp2_with fail
  go_ret2
  have hal : Below w3.heap.size w3 (w3.alloc (.cells #[.slice (some ⟨g2, 0, none⟩) n2 n2, .slice none 0 0, .int .i64 ((0 : Nat) : Int), .slice (some ⟨g3, 0, none⟩) n3 n3] 94)) := (Below.refl _ _).alloc (Nat.le_refl _) _
  have hgl3 := HR3.out.lt
  have hg3 := HG3.out
  have hz3 := HZ3.out
  refine ⟨w3.heap.size, g3, rfl, ⟨by omega, ⟨_, _, _, none, 0, 0, n3, n3, M3, Blk.new w3 _ _, (HX3.out.keep fun p hp => hal.cell (by have hp : p.block < w2.heap.size := hp; omega)).weak fun b hb => by
    have hb : b < w2.heap.size := hb
    exact ⟨Nat.lt_of_lt_of_le (show b < w3.heap.size by omega) (by simp), by omega, by omega⟩, ⟨none, 0, 0, [], rfl, rfl, rfl, ⟨Nat.le_refl _, by omega⟩, ⟨rfl, fun h => absurd h (by omega)⟩, fun x hx => by cases hx⟩, HL3.out, HM3.out, (HR3.out.weak fun b hb _ => Nat.ne_of_lt hb).below hal⟩, fun k o hk => by simp at hk, ⟨f, HG.out⟩, Nat.le_refl _⟩, HB3.out.size, by omega, HB3.out.trans (hal.mono HB3.out.size)⟩
set_option maxRecDepth 100000 in
set_option maxHeartbeats 2000000 in
/-- the method Base -/
theorem histBase_any (w : World) (gh gn : Nat) (lf : List Bl) (os : List Opn) (d : Nat) (h : HistM w gh gn lf os d) :
    Calls Tryz.prog 27 #[.pointer (some ⟨gh, 0, none⟩)] w (CopyBaseS (applL lf (os.take d)) w) := by
  obtain ⟨f, G⟩ := h.now
  obtain ⟨_, ⟨Af, nf, cf, Ao, no, co, nn, cn, M, h1, _, _, h4, h5, h6⟩, _, _, _⟩ := h
  have hrb := h6.rb
  rw [h4, h5] at hrb
  have hn0 : 0 < nn := by
    obtain ⟨r, hr, _⟩ := G.kids.root
    have := (List.getElem?_eq_some_iff.1 hr).1
    have := hrb.len.1
    omega
  have hn1 : nn ≤ 100000 := by have := G.kids.short; have := hrb.len.1; omega
  have HCB := Lib.hid (copyBaseS_any (applL lf (os.take d)) _ nn cn w w.heap.size (Nat.le_refl _) hrb hn0 hn1)
  have c3 : w.cell? ⟨gh, 3, none⟩ = some (.slice (some ⟨gn, 0, none⟩) nn cn) := h1.cell 3
  clear h1 h4 h5 h6 hrb G hn0 hn1
  go_enter Tryz.func27, Tryz.ntmps27
  go_wp2_with fail
  refine HCB.out.mono ?_
  rintro e w1 ⟨g1, n1, M1, rfl, hh⟩
  have HH := Lib.hid hh
  clear hh
  go_wp2_with fail
  go_ret
  exact ⟨g1, n1, M1, rfl, HH.out⟩
set_option maxRecDepth 100000 in
set_option maxHeartbeats 2000000 in
/-- the method Length -/
theorem histLen_any (w : World) (gh gn : Nat) (lf : List Bl) (os : List Opn) (d : Nat) (h : HistM w gh gn lf os d) :
    Calls Tryz.prog 25 #[.pointer (some ⟨gh, 0, none⟩)] w fun e w' => e = .returned (.tuple #[.int .i64 (d : Int), .int .i64 ((os.length : Int) - (d : Int))]) ∧ Below w.heap.size w w' := by
  have hle := h.le
  obtain ⟨_, ⟨Af, nf, cf, Ao, no, co, nn, cn, M, h1, _, h3, _⟩, _, _, _⟩ := h
  have hno := (h3.reads (B := w.heap.size) fun b hb => hb.1).len
  have hn : no = os.length := hno.1
  rw [← hn] at hle ⊢
  have hnb : no * 144 ≤ 140737488351232 := hno.2.2
  have c2 : w.cell? ⟨gh, 2, none⟩ = some (.int .i64 (d : Int)) := h1.cell 2
  have c1 : w.cell? ⟨gh, 1, none⟩ = some (.slice Ao no co) := h1.cell 1
  clear h1 h3 hno hn
  go_enter Tryz.func25, Tryz.ntmps25
  go_upto_region 1 with fail
  go_quiet (fail)
  go_wp2_with fail
  go_ret2
  exact ⟨rfl, bdrew (Below.refl _ _) nq⟩
end Go.Proofs.YtmkicfjcgbfaaaaGreat
namespace Go.Proofs.YtmkicfjcgbfaaaaGreat
open Go.RowKit

theorem opV_flat (M : List (Opn × Value)) : (M.flatMap opV).length = M.length * 13 := by
  induction M with
  | nil => rfl
  | cons a M ih => rw [List.flatMap_cons, List.length_append, ih, List.length_cons, opV_len]; omega
theorem opV_take (M : List (Opn × Value)) (i : Nat) (hi : i ≤ M.length) : (M.flatMap opV).take (i * 13) = (M.take i).flatMap opV := by
  conv => lhs; rw [← List.take_append_drop i M, List.flatMap_append]
  rw [List.take_append_of_le_length (by rw [opV_flat, List.length_take]; omega), List.take_of_length_le (by rw [opV_flat, List.length_take]; omega)]
/-- the first operations of a row -/
theorem ROsX.take {w : World} {S : Nat → Prop} {A : Option Addr} {n c : Nat} {l : List Opn} (h : ROsX w S (.slice A n c) l) {k : Nat} (hk : k ≤ n) : ROsX w S (.slice A k c) (l.take k) := by
  obtain ⟨A', n', c', M, h1, e, h2, h3, h4, h5⟩ := h
  injection e with e1 e2 e3
  subst e1 e2 e3
  refine ⟨A, k, c, M.take k, by rw [← h1, List.map_take], rfl, by rw [List.length_take]; omega, ⟨by omega, by omega⟩, ?_, fun x hx => h5 x (List.mem_of_mem_take hx)⟩
  refine ⟨by rw [opV_flat, List.length_take]; omega, fun h0 => ?_⟩
  obtain ⟨ad, hA, hS, hc⟩ := h4.2 (by omega)
  refine ⟨ad, hA, hS, fun j u hu => hc j u ?_⟩
  rw [← opV_take M k (by omega), List.getElem?_take] at hu
  split at hu
  · exact hu
  · cases hu
section
variable {w w' : World} {gh gn : Nat} {lf : List Bl} {os : List Opn} {d : Nat}
/-- a history whose base is another row -/
theorem HistM.turn (h : HistM w gh gn lf os d) {Af Ao : Option Addr} {nf cf no co : Nat} (hf : RBX w (HS w gh gn) (.slice Af nf cf) lf) (ho : ROsX w (HS w gh gn) (.slice Ao no co) os) {g' cap' n' d' : Nat} {M' : List BK} (hd : d' ≤ os.length) (hz : w.heap.size ≤ w'.heap.size)
    (hk : ∀ b, HS w gh gn b → w'.heap[b]? = w.heap[b]?) (hb : Blk w' gh 94 #[.slice Af nf cf, .slice Ao no co, .int .i64 (d' : Int), .slice (some ⟨g', 0, none⟩) n' cap']) (hl : M'.length = n') (hm : M'.map Prod.fst = applL lf (os.take d')) (hr : RowS (fun b => b ≠ gh) w' g' cap' M') (hg : g' = gn ∨ w.heap.size ≤ g') : HistM w' gh g' lf os d' := by
  have hgl := h.lt
  have hw : ∀ b, HS w gh gn b → HS w' gh g' b := fun b hb' => ⟨Nat.lt_of_lt_of_le hb'.1 hz, hb'.2.1, by
    have := hb'.1
    rcases hg with e | e
    · rw [e]; exact hb'.2.2
    · omega⟩
  have hc : ∀ p : Addr, HS w gh gn p.block → w'.cell? p = w.cell? p := fun p hp => World.cell?_of_block (hk _ hp)
  refine ⟨?_, ⟨Af, nf, cf, Ao, no, co, n', cap', M', hb, (hf.keep hc).weak hw, (ho.keep hc).weak hw, hl, hm, hr⟩, h.ok, h.good, hd⟩
  rcases hg with e | e
  · rw [e]; exact h.ne
  · have := hgl.1; omega
end

/-- what a step back leaves -/
def BackR (gh : Nat) (lf : List Bl) (os : List Opn) (n : Nat) (v : Value) (w : World) (e : Ending) (w' : World) : Prop := ∃ gn', e = .returned v ∧ HistM w' gh gn' lf os n ∧ w.heap.size ≤ gn' ∧ Kept (fun b => b = gh) w w'
set_option maxRecDepth 100000 in
set_option maxHeartbeats 8000000 in
/-- the method rewind -/
theorem rewind_any (w : World) (gh gn : Nat) (lf : List Bl) (os : List Opn) (d n : Nat) (h : HistM w gh gn lf os d) (hn : n ≤ os.length) :
    Calls Tryz.prog 73 #[.pointer (some ⟨gh, 0, none⟩), .int .i64 (n : Int)] w (BackR gh lf os n (.tuple #[]) w) := by
  have H := Lib.hid h
  obtain ⟨f, G⟩ := h.good
  have hgl := h.lt
  have hok := h.ok
  obtain ⟨_, ⟨Af, nf, cf, Ao, no, co, nn, cn, M, h1, h2, h3, _, _, _⟩, _, _, _⟩ := h
  have hno := (h3.reads (B := w.heap.size) fun b hb => hb.1).len
  have hnf := (h2.reads (B := w.heap.size) fun b hb => hb.1).len
  have hn0 : 0 < nf := by
    obtain ⟨r, hr, _⟩ := G.kids.root
    have := (List.getElem?_eq_some_iff.1 hr).1
    omega
  have hn1 : nf ≤ 100000 := by have := G.kids.short; omega
  obtain ⟨w1, hw1⟩ : ∃ w1, w1 = w.setCell ⟨gh, 2, none⟩ (.int .i64 (n : Int)) := ⟨_, rfl⟩
  have hz1 : w1.heap.size = w.heap.size := by rw [hw1]; simp [World.setCell]
  have hf1 : ∀ b, b ≠ gh → w1.heap[b]? = w.heap[b]? := fun b hb => by rw [hw1]; exact Below.heap_setCell w _ _ b hb
  have hc1 : ∀ p : Addr, HS w gh gn p.block → w1.cell? p = w.cell? p := fun p hp => World.cell?_of_block (hf1 _ hp.2.1)
  have P1 : Blk w1 gh 94 #[.slice Af nf cf, .slice Ao no co, .int .i64 (n : Int), .slice (some ⟨gn, 0, none⟩) nn cn] := by
    rw [hw1]; exact h1.set_ 2 _
  have r1 := (h2.keep hc1).reads (B := w.heap.size) fun b hb => hb.1
  have HCB := Lib.hid fun W (hW : Below w1.heap.size w1 W) => copyBaseS_any lf Af nf cf W w.heap.size (by have := hW.size; omega) (r1.below (hW.mono (Nat.le_of_eq hz1.symm))) hn0 hn1
  have htk := (h3.take (k := n) (by omega)).keep hc1
  have HDN : Hid (∀ (W : World) (g2 n2 : Nat) (M2 : List BK), RowS (fun b => b ≠ gh) W g2 n2 M2 → M2.length = n2 → M2.map Prod.fst = lf → Below w1.heap.size w1 W → w1.heap.size ≤ g2 →
      Calls Tryz.prog 61 #[.slice (some ⟨g2, 0, none⟩) n2 n2, .slice Ao n co] W fun e w' => ∃ (g' cap' n' : Nat) (M' : List BK), e = .returned (.slice (some ⟨g', 0, none⟩) n' cap') ∧ (M'.length = n' ∧ M'.map Prod.fst = applL lf (os.take n) ∧ RowS (fun b => b ≠ gh) w' g' cap' M' ∧ w1.heap.size ≤ g') ∧ Below w1.heap.size w1 w') := by
    intro W g2 n2 M2 hr hl hm hW hg
    have hzz := hW.size
    have hgl := hgl.1
    refine (doneS_any W (S := fun b => b ≠ gh) (fun b hb => by omega) g2 n2 n2 M2 lf (os.take n) hr hl hm Ao n co ((htk.keep fun p hp => hW.cell (by have := hp.1; omega)).weak fun b hb => ⟨by have := hb.1; omega, by have := hb.1; omega⟩) (hok.pre n)).mono ?_
    rintro e w' ⟨g', cap', n', M', rfl, q1, q2, q3, q4, q5⟩
    refine ⟨g', cap', n', M', rfl, ⟨q1, q2, q3, ?_⟩, below_own hW q4 hg⟩
    rcases q5 with e | e
    · rw [e]; exact hg
    · omega
  have HFIN : Hid (∀ (W : World) (g' cap' n' : Nat) (M' : List BK), M'.length = n' ∧ M'.map Prod.fst = applL lf (os.take n) ∧ RowS (fun b => b ≠ gh) W g' cap' M' ∧ w1.heap.size ≤ g' → Below w1.heap.size w1 W → BackR gh lf os n (.tuple #[]) w (.returned (.tuple #[])) (W.setCell ⟨gh, 3, none⟩ (.slice (some ⟨g', 0, none⟩) n' cap'))) := by
    intro W g' cap' n' M' ⟨q1, q2, q3, q4⟩ hW
    have hgh := hgl.1
    have hne : g' ≠ gh := by omega
    have hzz := hW.size
    have hzs : (W.setCell ⟨gh, 3, none⟩ (.slice (some ⟨g', 0, none⟩) n' cap')).heap.size = W.heap.size := by simp [World.setCell]
    have hfr : ∀ b, b ≠ gh → (W.setCell ⟨gh, 3, none⟩ (.slice (some ⟨g', 0, none⟩) n' cap')).heap[b]? = W.heap[b]? := fun b hb => Below.heap_setCell W _ _ b hb
    have hall : ∀ b, b < w.heap.size → b ≠ gh → (W.setCell ⟨gh, 3, none⟩ (.slice (some ⟨g', 0, none⟩) n' cap')).heap[b]? = w.heap[b]? := fun b hb hb2 => by
      rw [hfr b hb2, hW.block b (by omega), hf1 b hb2]
    refine ⟨g', rfl, H.out.turn h2 h3 hn (by omega) (fun b hb => hall b hb.1 hb.2.1) ((P1.below hW P1.lt).set_ 3 _) q1 q2 (q3.keep (fun b hb => hfr b ?_) (by omega)) (.inr (by omega)), by omega, ?_⟩
    · rcases hb with e | e
      · rw [e]; exact hne
      · exact e.2
    · exact ⟨by rw [show (W.setCell ⟨gh, 3, none⟩ _).os = W.os from rfl, hW.os, hw1]; rfl, by rw [show (W.setCell ⟨gh, 3, none⟩ _).tape = W.tape from rfl, hW.tape, hw1]; rfl, by rw [show (W.setCell ⟨gh, 3, none⟩ _).output = W.output from rfl, hW.output, hw1]; rfl, by omega, fun b hb hb2 => hall b hb hb2⟩
  have HWK : Hid (∀ W, Below w1.heap.size w1 W → (∀ i, W.cell? ⟨gh, i, none⟩ = (#[.slice Af nf cf, .slice Ao no co, .int .i64 (n : Int), .slice (some ⟨gn, 0, none⟩) nn cn] : Array Value)[i]?) ∧ W.frozen? ⟨gh, 3, none⟩ = false) := fun W hW => ⟨fun i => (P1.below hW P1.lt).cell i, (P1.below hW P1.lt).frozen 3⟩
  have f2 := h1.frozen 2
  have c2 := h1.cell 2
  have HR1 : Hid (∀ (W : World) (g2 n2 : Nat) (M2 : List BK), w1.heap.size ≤ W.heap.size → RowS (fun b => w1.heap.size ≤ b) W g2 n2 M2 → RowS (fun b => b ≠ gh) W g2 n2 M2) := fun W g2 n2 M2 _ hr => hr.weak fun b _ hb => by have := hgl.1; omega
  have hnn : (n : Int) ≤ (no : Int) := by omega
  have hnc : no ≤ co := hno.2.1
  have hnb : no * 144 ≤ 140737488351232 := hno.2.2
  have HW1 := Lib.hid hw1
  have HZ1 := Lib.hid hz1
  have hk0 : (0 : Int) ≤ (n : Int) := by omega
  have hk2 : (n : Int) ≤ (co : Int) := by omega
  clear h1 h2 h3 hno hnf hn0 hn1 hw1 hz1 hf1 hc1 P1 r1 htk hok G hgl hn
  go_enter Tryz.func73, Tryz.ntmps73
  go_upto_region 1 with fail
  rw [← HW1.out]
  clear c2 f2
  obtain ⟨e0, f3⟩ := HWK.out w1 (Below.refl _ _)
  have c0 := e0 0
  have c1 := e0 1
  have c3 := e0 3
  clear e0
  go_region_with (first
    | (go_at_call 62; refine (HCB.out _ (by first | with_reducible exact (Below.refl _ _).drew | with_reducible exact Below.refl _ _ | exact (Below.refl _ _).drew)).mono ?_; rintro e w3 ⟨g3, n3, M3, rfl, hl3, hm3, hg3, hr3, hb3⟩; have HB3 : Hid (Below w1.heap.size w1 w3) := (by first | exact (Below.refl w1.heap.size w1).drew.trans hb3 | exact hb3); have HG3 : Hid (w1.heap.size ≤ g3) := hg3; have HR3 := Lib.hid (HR1.out w3 g3 n3 M3 hb3.size hr3); have HL3 := Lib.hid hl3; have HM3 := Lib.hid hm3; obtain ⟨e0, k3⟩ := HWK.out w3 HB3.out; have d0 := e0 0; have d1 := e0 1; have d3 := e0 3; clear e0 hb3 hg3 hr3 hl3 hm3)
    | (go_at_call 61; refine (HDN.out _ g3 n3 M3 (by first | exact HR3.out | exact HR3.out.drew) HL3.out HM3.out (by first | exact HB3.out | exact HB3.out.drew) HG3.out).mono ?_; rintro e w4 ⟨g4, cap4, n4, M4, rfl, hh4, hb4⟩; have HH4 := Lib.hid hh4; have HB4 := Lib.hid hb4; obtain ⟨e0, k4⟩ := HWK.out w4 HB4.out; have q3 := e0 3; clear e0 hh4 hb4))
  all_goals
    go_wp2_with fail
    go_end0
    exact HFIN.out _ _ _ _ _ HH4.out HB4.out
end Go.Proofs.YtmkicfjcgbfaaaaGreat
