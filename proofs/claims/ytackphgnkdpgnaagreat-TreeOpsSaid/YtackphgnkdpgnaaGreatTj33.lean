/-
  DERIVED. The walk of tree.depths. Conditions: sizes; a base whose kids are right.
  The walk of tree.Check. Conditions: sizes.
  The walk of tree.Inverse. Conditions: sizes.
  DERIVED: slices.SortFunc at properties and strings.Compare, laid at this program in plain words (lay-plain.mjs, shelf_marks.py).
  By an AI agent.
-/
import Derived.Test.YtackphgnkdpgnaaGreatTj02
import Derived.Test.YtackphgnkdpgnaaGreatTj05
import Derived.Test.YtackphgnkdpgnaaGreatTj32
import Derived.Carry
import Derived.Test.YtackphgnkdpgnaaGreatTj06
import Derived.Test.YtackphgnkdpgnaaGreatTj25
import Derived.Shelf.SlSortCmp.WholeK
import Derived.Shelf.SlGeneric
import Derived.Shelf.Small.Strs
import Derived.Ground.SlsfProg
import Derived.Test.YtackphgnkdpgnaaGreatProg
namespace Go.Proofs.YtackphgnkdpgnaaGreat
open Go.RowKit

theorem int_zero : ∀ w, (zeroValue 3).run Tryz.prog w = .ok (.int .i64 0) w := fun w => Tryz.zeroValue3 w
theorem wpList_push {w : World} {base : Nat} {v : Value} {T : List Int} {ops : Array Oper} {rest : List Oper} {o : Oper} {a : Act} {Q : Exit → Act → World → Prop} (hgd : o.guard = none) (s x : Operand)
    (ho : o.op = .call { callee := .builtin .append, args := #[s, x], argTypes := #[42, 42] }) (h : Qu w base v T) (hb : base ≤ w.heap.size) (hn : T.length ≤ 1000000) (hs : a.eval s = v) (ad : Addr) (c : Nat) (y : Int) (hx : a.eval x = .slice (some ad) 1 c) (hc : w.cell? ad = some (.int .i64 y))
    (hK : ∀ v' w', Qu w' base v' (T ++ [y]) → Below base w w' → Kept3 w w' → w.heap.size ≤ w'.heap.size → wpList Tryz.prog ops Q rest (a.put o.dst v') w') : wpList Tryz.prog ops Q (o :: rest) a w :=
  wpList_plain hgd fun _ hK' => by
    obtain ⟨v', w', hrun, h2, h3, h4, h5⟩ := h.push hb hn hc o.type
    unfold Oper.wp execOp
    simp only [ho, resolve, invoke, builtin, Sem.run_bind, Sem.run_pure, Result.andThen_ok, List.map_toArray, List.map_cons, List.map_nil, hs, hx]
    rw [hrun]
    exact hK' _ _ (hK v' w' h2 h3 h4 h5)
theorem MapIn.no_row {P : Program} {k e : TypeId} {α : Type} {lt : α → DU} {w : World} {b n : Nat} {f : Int → Option α} (h : MapIn P k e lt w b n f) (cur : Array Value) (t : TypeId) : w.heap[b]? ≠ some (.cells cur t (0, 0)) := by
  obtain ⟨D, ⟨es, clock, h1, h2⟩, h3⟩ := h
  rw [h1]
  intro e
  injection e with e
  cases e
theorem IdsIn.i64 {l : List Bl} (h : IdsIn l) {x : Bl} (hx : x ∈ l) : I64 x.id := by
  have := h x hx
  unfold I64
  omega

abbrev IM (w : World) (b n : Nat) (f : Int → Option Int) : Prop := MapIn Tryz.prog 3 3 (fun x => .lit (.int .i64 x)) w b n f
/-- what depths returns -/
def DepR (l : List Bl) (e : Ending) (w : World) : Prop := ∃ b n f, e = .returned (.map (some b)) ∧ IM w b n f ∧ IsDep l f
/-- a queue in a slot -/
def QS (w : World) (base : Nat) (s : Value) (T : List Int) : Prop := Qu w base s T

set_option maxHeartbeats 4000000 in
theorem depths_any (l : List Bl) (A : Option Addr) (n c : Nat) (w : World) (B : Nat) (hB : B ≤ w.heap.size) (h : RB w B (.slice A n c) l) (K : Kids l) :
    Calls Tryz.prog 43 #[.slice A n c] w fun e w' => DepR l e w' ∧ Below w.heap.size w w' := by
  have HN := Lib.hid h.len
  have HI := Lib.hid fun (id : Int) W (hid : I64 id) (hW : Below w.heap.size w W) => index_any l A n c id W B (Nat.le_trans hB hW.size) (h.below (hW.mono hB)) K.rise K.ids hid
  have H := Lib.hid h
  have HE := Lib.hid (intElem (P := Tryz.prog) (e := 3) Tryz.underlying3 int_zero)
  have hmm : (Instr.makeMap 72 none).run Tryz.prog w = .ok (.map (some w.heap.size)) (w.alloc (.map #[] 0)) := run_makeMap _ w
  have hM0 : IM (w.alloc (.map #[] 0)) w.heap.size 0 (fun _ => none) := MapIn.made w
  have z00 : I64 0 := by unfold I64; omega
  obtain ⟨W1, hup, hm1, hg1⟩ := hM0.put HE.out Tryz.underlying3 Tryz.underlying72 (by unfold maxLen; omega) z00 (a := 0) z00
  have HM1 : Hid (IM W1 w.heap.size 1 (fun id => if id = 0 then some 0 else none)) := hm1
  have HB1 : Hid (Below w.heap.size w W1) := ((Below.refl _ _).alloc (Nat.le_refl _) (.map #[] 0)).grown hg1 (by simp) (fun k hk => by injection hk with hk; omega)
  have HQ := Lib.hid (Qu.start W1 HB1.out.size 0)
  obtain ⟨bm, hbm⟩ : ∃ bm, bm = w.heap.size := ⟨_, rfl⟩
  have hbw : w.heap.size ≤ bm := by omega
  rw [← hbm] at hup HM1 hmm
  have HBM := Lib.hid hbm
  have KK := Lib.hid K
  clear h hM0 hm1 hg1 hbm K
  go_enter Tryz.func43, Tryz.ntmps43
  go_wp2_with fail
  go_loopg [4] (n + 1) (fun gg s4 wr => ∃ (T : List Int) (f : Int → Option Int) (k m : Nat) (A4 : Option Addr) (n4 c4 : Nat), s4 = .slice A4 n4 c4 ∧ QS wr w.heap.size (.slice A4 n4 c4) T ∧ Hid (IM wr bm k f) ∧ Hid (Bfs l f T none m) ∧ Hid (Below w.heap.size w wr) ∧ Hid (k + cntF l f ≤ n + 1) ∧ m ≤ gg ∧ m ≤ n + 1)
  case atStart =>
    refine ⟨[0], _, 1, n + 1, _, _, _, rfl, HQ.out, HM1.out.alloc _, ?_, HB1.out.alloc HB1.out.size _, ?_, Nat.le_refl _, Nat.le_refl _⟩
    · show Bfs _ _ _ _ _
      rw [HN.out.1]; exact Bfs.start KK.out
    · show 1 + cntF _ _ ≤ _
      have := cntF_le l (fun id => if id = 0 then some 0 else none)
      have := HN.out.1
      omega
  case round =>
    obtain ⟨T, f, k, m1, A4, n4, c4, rfl, hq, hm, hbfs, hbel, hkc, hmg, hgn⟩ := hrel
    obtain ⟨W2, rfl⟩ : ∃ W2, W2 = wr := ⟨_, rfl⟩
    have hq : Qu W2 w.heap.size (.slice A4 n4 c4) T := hq
    rcases T with _ | ⟨x, T⟩
    · have hl := hq.len
      obtain rfl : n4 = 0 := hl.1
      have HR : Hid (DepR l (.returned (.map (some bm))) W2) := ⟨bm, k, f, rfl, hm.out, hbfs.out.isDep KK.out⟩
      clear hq hl
      go_wp2_with fail
      go_ret
      exact ⟨HR.out, hbel.out⟩
    obtain ⟨g, off, rfl, hn4, hnc4, hgl, hcx, hp1, hp2⟩ := hq.pop
    obtain ⟨m, rfl⟩ : ∃ m, m1 = m + 1 := ⟨m1 - 1, by have := hbfs.out.less; simp at this; omega⟩
    obtain ⟨dx, hdx⟩ := hbfs.out.queue x (by simp)
    obtain ⟨nx, _, hDx, _⟩ := hbfs.out.sound x dx hdx
    obtain ⟨bx, hbx, hbi⟩ := hDx.mem KK.out
    obtain ⟨p, hpl, hpe⟩ := List.mem_iff_getElem.1 hbx
    have hlp : l[p]? = some bx := by rw [List.getElem?_eq_getElem hpl, hpe]
    have hpos : posOf l x = (p : Int) := by rw [← hbi]; exact posOf_of KK.out.rise hlp
    have HX := HI.out x W2 (hbi ▸ KK.out.ids.i64 hbx) hbel.out
    rw [hpos] at HX
    have HX := Lib.hid HX
    have HPOP : Hid (Bfs l f T (some (bx, 0)) m) := hbfs.out.pop hbx hbi
    obtain ⟨b, o5, Ak, nk, ck, Ap, np, cp, rfl, hbb, g0, g1, g2, g3, g4, hK, _⟩ := H.out.at_ hlp
    have HK := Lib.hid hK
    have HKL := Lib.hid hK.len
    have hpn : p < n := by have := HN.out.1; omega
    have i0 : (0 : Int) ≤ (p : Int) := by omega
    have i1 : (p : Int) < (n : Int) := by omega
    have hn40 : 0 < n4 := by omega
    have P1 := Lib.hid hp1
    have P2 := Lib.hid hp2
    have hw2 : w.heap.size ≤ W2.heap.size := hbel.out.size
    have hbm2 : bm < W2.heap.size := hm.out.lt_
    have HHQ := Lib.hid hq
    have hl1 : n4 - 1 = T.length := by omega
    have HL1 := Lib.hid hl1
    clear hq hp1 hp2 hdx hDx hbx hbi hpl hpe hlp hpos hK hn4 hl1
    go_wp2_with fail
    refine HX.out.mono ?_
    rintro e w3 ⟨rfl, hb⟩
    have HB3 : Hid (Below w.heap.size w w3) := hbel.out.trans (hb.mono hw2)
    have c0 := (HB3.out.cell (p := ⟨b, o5 + p * 5, none⟩) (by show b < _; omega)).trans g0
    have c1 := (HB3.out.cell (p := ⟨b, o5 + p * 5 + 1, none⟩) (by show b < _; omega)).trans g1
    have c2 := (HB3.out.cell (p := ⟨b, o5 + p * 5 + 2, none⟩) (by show b < _; omega)).trans g2
    have c3 := (HB3.out.cell (p := ⟨b, o5 + p * 5 + 3, none⟩) (by show b < _; omega)).trans g3
    have c5 := (HB3.out.cell (p := ⟨b, o5 + p * 5 + 4, none⟩) (by show b < _; omega)).trans g4
    have hw3 : W2.heap.size ≤ w3.heap.size := hb.size
    have HM3 := Lib.hid (hm.out.below hb hbm2)
    have HQ1 : Hid (c4 = 1 → Qu w3 w.heap.size (.slice (some ⟨g, off, none⟩) (n4 - 1) (c4 - 1)) T) := fun e => (P1.out e).below hb
    have HQ2 : Hid (c4 ≠ 1 → Qu w3 w.heap.size (.slice (some ⟨g, off + 1, none⟩) (n4 - 1) (c4 - 1)) T) := fun e => (P2.out e).below hb
    clear hb g0 g1 g2 g3 g4
    obtain ⟨W4, hW4⟩ : ∃ W4, W4 = w3.alloc (.cells #[.int .i64 bx.id, .int .i64 bx.parent, .slice Ak nk ck, .string bx.text, .slice Ap np cp] 45) := ⟨_, rfl⟩
    have p0 : Blk W4 w3.heap.size 45 #[.int .i64 bx.id, .int .i64 bx.parent, .slice Ak nk ck, .string bx.text, .slice Ap np cp] := by rw [hW4]; exact Blk.new w3 _ _
    have HM4 : Hid (IM W4 bm k f) := by rw [hW4]; exact HM3.out.alloc _
    have HB4 : Hid (Below w.heap.size w W4) := by rw [hW4]; exact HB3.out.alloc HB3.out.size _
    have HQ3 : Hid (∀ v, Qu w3 w.heap.size v T → Qu W4 w.heap.size v T) := fun v hv => by rw [hW4]; exact hv.alloc _
    have HP0 := Lib.hid p0
    have m2 : W4.cell? ⟨w3.heap.size, 2, none⟩ = some (.slice Ak nk ck) := p0.cell 2
    have hbm3 : bm < w3.heap.size := by omega
    have HW4 := Lib.hid hW4
    clear hW4 p0
    go_upto_region 5 with fail
    rw [← HW4.out]
    go_cut [4] (fun s4 wc => ∃ A' n' c', s4 = .slice A' n' c' ∧ QS W4 w.heap.size (.slice A' n' c') T ∧ W4 = wc)
    case first =>
      by_cases hc4 : c4 = 1
      · subst hc4
        obtain rfl : n4 = 1 := by omega
        have HQ' := Lib.hid (HQ3.out _ (HQ1.out rfl))
        go_wp2_with fail
        go_meet
        exact ⟨_, _, _, rfl, HQ'.out, rfl⟩
      · have HQ' := Lib.hid (HQ3.out _ (HQ2.out hc4))
        have hc4' : ¬ c4 ≤ 1 := by omega
        have hc4'' : (1 : Int) ≤ (n4 : Int) := by omega
        go_wp2_with fail
        go_meet
        exact ⟨_, _, _, rfl, HQ'.out, rfl⟩
    case rest =>
    obtain ⟨A', n', c', rfl, hq', rfl⟩ := hcut
    have HQ5 : Hid (Qu W4 w.heap.size (.slice A' n' c') T) := hq'
    have HKC := Lib.hid hkc.out
    clear hq'
    go_wp2_with fail
    go_loopg [4, 29] nk (fun gg s4 s29 wr => ∃ (j : Nat) (T : List Int) (f : Int → Option Int) (k : Nat) (A4 : Option Addr) (n4 c4 : Nat), j + gg = nk ∧ s4 = .slice A4 n4 c4 ∧ s29 = .int .i64 (j : Int) ∧ QS wr w.heap.size (.slice A4 n4 c4) T ∧ Hid (IM wr bm k f) ∧ Hid (Bfs l f T (some (bx, j)) m) ∧ Hid (Below w.heap.size w wr) ∧ Hid (k + cntF l f ≤ n + 1) ∧ Hid (Blk wr w3.heap.size 45 #[.int .i64 bx.id, .int .i64 bx.parent, .slice Ak nk ck, .string bx.text, .slice Ap np cp]))
    case atStart => exact ⟨0, T, f, k, _, _, _, by omega, rfl, rfl, HQ5.out, HM4, HPOP, HB4, HKC, HP0⟩
    case round =>
      obtain ⟨j, T, f, k, A4, n4, c4, hjg, rfl, rfl, hq, hm, hbfs, hbel, hkc, hp⟩ := hrel
      have hq : Qu wr w.heap.size (.slice A4 n4 c4) T := hq
      have HQ := Lib.hid hq
      clear hq
      have hbk : nk ≤ ck ∧ nk * 8 ≤ 140737488351232 := HKL.out.2
      by_cases hj : j < nk
      case neg =>
        obtain rfl : j = nk := by omega
        have HD : Hid (Bfs l f T none m) := hbfs.out.done (by rw [← HKL.out.1]; exact Nat.le_refl _) KK.out
        go_wp2_with fail
        go_roundg m
        case measure => omega
        case rel => exact ⟨T, f, k, m, _, _, _, rfl, HQ.out, hm, HD, hbel, hkc, Nat.le_refl _, by omega⟩
      obtain ⟨kk, hkk⟩ : ∃ k, bx.kids[j]? = some k := ⟨_, List.getElem?_eq_getElem (by have := HKL.out.1; omega)⟩
      have hki : I64 kk := HK.out.i64 (List.mem_of_getElem? hkk)
      obtain ⟨bk, ok, rfl, hbk2, q0⟩ := HK.out.at_ hkk
      have q0 := (hbel.out.cell (p := ⟨bk, ok + j, none⟩) (by show bk < _; omega)).trans q0
      have z0 : (0 : Int) ≤ (j : Int) := by omega
      have z1 : (j : Int) < (nk : Int) := by omega
      have hlk := hm.out.look_ok HE.out Tryz.underlying3 Tryz.underlying72 hki
      have HKK := Lib.hid hkk
      clear hkk
      cases hf : f kk with
      | some d =>
        rw [hf] at hlk
        dsimp only [Option.getD_some, Option.isSome_some] at hlk
        have HS := Lib.hid (hbfs.out.skip HKK.out hf)
        clear hf
        go_wp2_with fail
        go_roundg (nk - (j + 1))
        case measure => omega
        case rel => exact ⟨j + 1, T, f, k, _, _, _, by omega, rfl, by go_num, HQ.out, hm, HS, hbel, hkc, hp⟩
      | none =>
        rw [hf] at hlk
        dsimp only [Option.getD_none, Option.isSome_none] at hlk
        obtain ⟨hbxl, ⟨d, hd⟩, _⟩ := hbfs.out.now bx j rfl
        obtain ⟨nd, rfl, _, hnd⟩ := hbfs.out.sound _ _ hd
        have hdn : nd ≤ 2000 := by have := KK.out.short; omega
        have hl2 := hm.out.look HE.out Tryz.underlying3 Tryz.underlying72 (KK.out.ids.i64 hbxl)
        rw [hd] at hl2
        dsimp only [Option.getD_some] at hl2
        have hd1 : I64 ((nd : Int) + 1) := by unfold I64; omega
        have hcl := cntF_le l f
        have HAD := Lib.hid (hbfs.out.add KK.out HKK.out hf hd)
        have HKC2 : Hid (k + 1 + cntF l (putF f kk ((nd : Int) + 1)) ≤ n + 1) := by
          have h1 := hbfs.out.cnt KK.out HKK.out hf ((nd : Int) + 1)
          have h2 := hkc.out
          show _ ≤ _
          omega
        have hkn : k ≤ n + 1 := by have := hkc.out; omega
        have hTn : T.length ≤ 1000000 := by have := hbfs.out.less; have := KK.out.short; have := HN.out.1; omega
        have hn2 : n ≤ 2000 := by have := KK.out.short; have := HN.out.1; omega
        obtain ⟨w5, hup, hm5, hg5⟩ := hm.out.put HE.out Tryz.underlying3 Tryz.underlying72 (by unfold maxLen; omega) hki (a := (nd : Int) + 1) hd1
        have hwr : w.heap.size ≤ wr.heap.size := hbel.out.size
        have hw35 : w3.heap.size < wr.heap.size := hp.out.lt
        have HM5 := Lib.hid hm5
        have HB5 : Hid (Below w.heap.size w w5) := hbel.out.grown hg5 hwr (fun k hk => by injection hk with hk; omega)
        have HQ5' : Hid (Qu w5 w.heap.size (.slice A4 n4 c4) T) := HQ.out.grown hg5 (fun g cur e => by injection e with e; subst e; exact hm.out.no_row _ _)
        have HP5 : Hid (Blk w5 w3.heap.size 45 #[.int .i64 bx.id, .int .i64 bx.parent, .slice (some ⟨bk, ok, none⟩) nk ck, .string bx.text, .slice Ap np cp]) := hp.out.grown hg5 (fun e => by injection e with e; omega)
        have m0 : wr.cell? ⟨w3.heap.size, 0, none⟩ = some (.int .i64 bx.id) := hp.out.cell 0
        have hw5 : wr.heap.size ≤ w5.heap.size := hg5.size
        have HQ6 : Hid (Qu (w5.alloc (.cells #[.int .i64 kk] 3)) w.heap.size (.slice A4 n4 c4) T) := HQ5'.out.alloc _
        have HC6 : Hid ((w5.alloc (.cells #[.int .i64 kk] 3)).cell? ⟨w5.heap.size, 0, none⟩ = some (.int .i64 kk)) := (Blk.new w5 3 #[.int .i64 kk]).cell 0
        have HB6 : Hid (Below w.heap.size w (w5.alloc (.cells #[.int .i64 kk] 3))) := HB5.out.alloc (Nat.le_trans hwr hw5) _
        clear hf hd hg5 hm5 hcl hnd hbxl
        go_wp2_with (at_builtin; refine wpList_push rfl _ _ rfl HQ6.out (by simp; omega) hTn rfl _ _ kk rfl HC6.out ?_)
        intro v' w6 hq6 hb6 hk6 hs6
        obtain ⟨A6, n6, c6, rfl⟩ := hq6.slice
        have HQ7 := Lib.hid hq6
        have HB7 : Hid (Below w.heap.size w w6) := HB6.out.trans hb6
        have HM7 : Hid (IM w6 bm (k + 1) (putF f kk ((nd : Int) + 1))) := (HM5.out.alloc _).kept3 hk6
        have HP7 : Hid (Blk w6 w3.heap.size 45 #[.int .i64 bx.id, .int .i64 bx.parent, .slice (some ⟨bk, ok, none⟩) nk ck, .string bx.text, .slice Ap np cp]) := (HP5.out.alloc _).kept3 hk6 (by decide)
        clear hq6 hb6 hk6 hs6 hup hlk hl2
        go_wp2_with fail
        go_roundg (nk - (j + 1))
        case measure => omega
        case rel => exact ⟨j + 1, T ++ [kk], _, k + 1, _, _, _, by omega, rfl, by go_num, HQ7.out, HM7, HAD, HB7, HKC2, HP7⟩
end Go.Proofs.YtackphgnkdpgnaaGreat
namespace Go.Proofs.YtackphgnkdpgnaaGreat
open Go.RowKit

set_option maxHeartbeats 4000000 in
/-- tree.Check -/
theorem treeCheck_any (l : List Bl) (f : Int → Option Int) (A : Option Addr) (n c : Nat) (w : World) (B : Nat) (hB : B ≤ w.heap.size) (h : RB w B (.slice A n c) l) (hf : DepOk l f) :
    Calls Tryz.prog 18 #[.slice A n c] w fun e w' => e = .returned (.int .i64 (baseE l f)) ∧ Below w.heap.size w w' := by
  obtain ⟨V, hV⟩ : ∃ V, V = baseE l f := ⟨_, rfl⟩
  rw [← hV]
  unfold baseE at hV
  have hn := h.len
  rw [← hn.1] at hV
  by_cases h0 : n = 0
  · subst h0
    rw [if_pos rfl] at hV
    subst hV
    clear h hn hf
    go_enter Tryz.func18, Tryz.ntmps18
    go_wp2_with fail
    go_ret
    exact ⟨rfl, Below.refl _ _⟩
  rw [if_neg h0] at hV
  have h0' : ((n : Int) == 0) = false := by simpa using h0
  by_cases h1 : 2000 < n
  · rw [if_pos h1] at hV
    have h1' : (2000 : Int) < (n : Int) := by omega
    subst hV
    clear h hn hf h0 h1
    go_enter Tryz.func18, Tryz.ntmps18
    go_wp2_with fail
    go_ret
    exact ⟨rfl, Below.refl _ _⟩
  rw [if_neg h1] at hV
  have h1' : ¬ (2000 : Int) < (n : Int) := by omega
  have HBK := Lib.hid fun (k : Nat) (x : Bl) (W : World) (hx : l[k]? = some x) (hW : Below w.heap.size w W) => checkBlock_any l A n c k x W B (Nat.le_trans hB hW.size) (h.below (hW.mono hB)) hx
  have HCK := Lib.hid fun (W : World) (hr : Rise l) (hi : IdsIn l) (hW : Below w.heap.size w W) => checkKids_any l A n c W B (Nat.le_trans hB hW.size) (h.below (hW.mono hB)) hr hi
  have HDP := Lib.hid fun (W : World) (K : Kids l) (hW : Below w.heap.size w W) => depths_any l A n c W B (Nat.le_trans hB hW.size) (h.below (hW.mono hB)) K
  have HE := Lib.hid (intElem (P := Tryz.prog) (e := 3) Tryz.underlying3 int_zero)
  have H := Lib.hid h
  have HN := Lib.hid hn
  have HV := Lib.hid hV
  have HF := Lib.hid hf
  have H0 := Lib.hid h0
  have H1 := Lib.hid h1
  obtain ⟨U, hU⟩ : ∃ U, U = blksErr none l := ⟨_, rfl⟩
  rw [← hU] at HV
  have HU : Hid (U = blksErr (prevB l 0) (l.drop 0)) := hU
  have HU0 : Hid (U = 0 → blksErr none l = 0) := fun e => hU.symm.trans e
  clear h hn hV hf h0 hU
  go_enter Tryz.func18, Tryz.ntmps18
  go_wp2_with fail
  go_loopg [21] n (fun gg s21 wr => ∃ i : Nat, i + gg = n ∧ s21 = .int .i64 (i : Int) ∧ Hid (U = blksErr (prevB l i) (l.drop i)) ∧ Hid (Below w.heap.size w wr))
  case atStart => exact ⟨0, by omega, rfl, HU, Below.refl _ _⟩
  case round =>
    obtain ⟨i, hig, rfl, hno, hbel⟩ := hrel
    obtain ⟨W1, rfl⟩ : ∃ W1, W1 = wr := ⟨_, rfl⟩
    by_cases hk : i < n
    case pos =>
      obtain ⟨x, hx⟩ : ∃ x, l[i]? = some x := ⟨_, List.getElem?_eq_getElem (by have := HN.out.1; omega)⟩
      have hst := hno.out.trans (blksErr_at hx)
      have HX := HBK.out i x W1 hx hbel.out
      obtain ⟨e, he⟩ : ∃ e, e = blkErr (prevB l i) x := ⟨_, rfl⟩
      rw [← he] at hst HX
      have HX := Lib.hid HX
      have j0 : (0 : Int) ≤ (i : Int) := by omega
      have j1 : (i : Int) < (n : Int) := by omega
      clear hx he
      by_cases hz : e = 0
      · have HS := Lib.hid (hst.trans (if_neg (fun h => h hz)))
        subst hz
        clear hst
        go_wp2_with fail
        refine HX.out.mono ?_
        rintro e w2 ⟨rfl, hb⟩
        have HB2 : Hid (Below w.heap.size w w2) := hbel.out.trans (hb.mono hbel.out.size)
        clear hb
        go_wp2_with fail
        go_roundg (n - (i + 1))
        case measure => omega
        case rel => exact ⟨i + 1, by omega, by go_num, HS, HB2⟩
      · have hs := hst.trans (if_pos hz)
        have HZ := Lib.hid (HV.out.trans ((if_pos (by rw [hs]; exact hz)).trans hs))
        have hz' : (e != 0) = true := by simpa using hz
        clear hst hs hz
        go_wp2_with fail
        refine HX.out.mono ?_
        rintro e' w2 ⟨rfl, hb⟩
        have HB2 : Hid (Below w.heap.size w w2) := hbel.out.trans (hb.mono hbel.out.size)
        clear hb
        go_wp2_with fail
        go_ret
        exact ⟨by rw [HZ.out]; rfl, HB2.out⟩
    case neg =>
    obtain rfl : n = i := by omega
    have hu : U = 0 := hno.out.trans (by rw [List.drop_of_length_le (by rw [← HN.out.1]; exact Nat.le_refl _)]; cases prevB l n <;> rfl)
    have hb0 := HU0.out hu
    have HV2 := Lib.hid (HV.out.trans (if_neg (fun h => h hu)))
    have HX := HCK.out W1 (rise_of hb0) (ids_of hb0) hbel.out
    have HK : Hid (allKids l l = 0 → Kids l) := fun h3 => kids_of (by have := HN.out.1; have := H0.out; omega) (by have := HN.out.1; have := H1.out; omega) hb0 h3
    obtain ⟨e, he⟩ : ∃ e, e = allKids l l := ⟨_, rfl⟩
    rw [← he] at HX HV2 HK
    have HX := Lib.hid HX
    clear he hu hb0 hno
    by_cases hz : e = 0
    case neg =>
      have HZ := Lib.hid (HV2.out.trans (if_pos hz))
      have hz' : (e != 0) = true := by simpa using hz
      clear hz
      go_wp2_with fail
      refine HX.out.mono ?_
      rintro e' w2 ⟨rfl, hb⟩
      have HB2 : Hid (Below w.heap.size w w2) := hbel.out.trans (hb.mono hbel.out.size)
      clear hb
      go_wp2_with fail
      go_ret
      exact ⟨by rw [HZ.out]; rfl, HB2.out⟩
    have KK := Lib.hid (HK.out hz)
    have HV3 := Lib.hid (HV2.out.trans (if_neg (fun h => h hz)))
    subst hz
    clear HV HV2
    go_wp2_with fail
    refine HX.out.mono ?_
    rintro e' w2 ⟨rfl, hb⟩
    have HB2 : Hid (Below w.heap.size w w2) := hbel.out.trans (hb.mono hbel.out.size)
    have HY := Lib.hid (HDP.out w2 KK.out HB2.out)
    clear hb
    go_wp2_with fail
    refine HY.out.mono ?_
    rintro e' w3 ⟨⟨bm, km, f', rfl, hm, hdep⟩, hb⟩
    obtain rfl : f' = f := hdep.uniq (HF.out KK.out)
    have HB3 : Hid (Below w.heap.size w w3) := HB2.out.trans (hb.mono HB2.out.size)
    have HM := Lib.hid hm
    have HD := Lib.hid hdep
    clear hb hm hdep
    go_wp2_with fail
    go_loopg [40] n (fun gg s40 wr => ∃ i : Nat, i + gg = n ∧ s40 = .int .i64 (i : Int) ∧ Hid (V = lvlE f' (l.drop i)) ∧ Hid (IM wr bm km f') ∧ Hid (Below w.heap.size w wr))
    case atStart => exact ⟨0, by omega, rfl, HV3, HM, HB3⟩
    case round =>
      obtain ⟨i, hig, rfl, hno, hm, hbel⟩ := hrel
      by_cases hk : i < n
      case neg =>
        obtain rfl : n = i := by omega
        have hu : V = 0 := hno.out.trans (by rw [List.drop_of_length_le (by rw [← HN.out.1]; exact Nat.le_refl _)]; rfl)
        have HZ := Lib.hid hu
        clear hu
        go_wp2_with fail
        go_ret
        exact ⟨by rw [HZ.out]; rfl, hbel.out⟩
      obtain ⟨x, hx⟩ : ∃ x, l[i]? = some x := ⟨_, List.getElem?_eq_getElem (by have := HN.out.1; omega)⟩
      obtain ⟨b, off, Ak, nk, ck, Ap, np, cp, rfl, hbb, g0, g1, g2, g3, g4, _, _⟩ := (H.out.below (hbel.out.mono hB)).at_ hx
      have hst := hno.out.trans (lvlE_at hx)
      have hxi := KK.out.ids.i64 (List.mem_of_getElem? hx)
      have hlk := (hm.out.alloc (.cells #[.int .i64 x.id, .int .i64 x.parent, .slice Ak nk ck, .string x.text, .slice Ap np cp] 45)).look_ok HE.out Tryz.underlying3 Tryz.underlying72 hxi
      have HMA := Lib.hid (hm.out.alloc (.cells #[.int .i64 x.id, .int .i64 x.parent, .slice Ak nk ck, .string x.text, .slice Ap np cp] 45))
      have HAL := Lib.hid (hbel.out.alloc hbel.out.size (.cells #[.int .i64 x.id, .int .i64 x.parent, .slice Ak nk ck, .string x.text, .slice Ap np cp] 45))
      have j0 : (0 : Int) ≤ (i : Int) := by omega
      have j1 : (i : Int) < (n : Int) := by omega
      clear hx
      cases hfx : f' x.id with
      | none =>
        rw [hfx] at hlk hst
        dsimp only [Option.getD_none, Option.isSome_none] at hlk
        have HZ := Lib.hid (hst.trans (if_pos rfl))
        clear hst hfx
        go_wp2_with fail
        go_ret
        exact ⟨by rw [HZ.out]; rfl, HAL.out⟩
      | some d =>
        rw [hfx] at hlk hst
        dsimp only [Option.getD_some, Option.isSome_some] at hlk hst
        have hst := hst.trans (if_neg (by simp))
        clear hfx
        by_cases hd : 40 < d
        · have HZ := Lib.hid (hst.trans (if_pos hd))
          clear hst
          go_wp2_with fail
          go_ret
          exact ⟨by rw [HZ.out]; rfl, HAL.out⟩
        · have HZ := Lib.hid (hst.trans (if_neg hd))
          clear hst
          go_wp2_with fail
          go_roundg (n - (i + 1))
          case measure => omega
          case rel => exact ⟨i + 1, by omega, by go_num, HZ, HMA, HAL⟩
end Go.Proofs.YtackphgnkdpgnaaGreat
namespace Go.Proofs.YtackphgnkdpgnaaGreat
open Go.RowKit

/-- tree.inverse -/
theorem inverse_any (l : List Bl) (f : Int → Option Int) (G : Good l f) (A : Option Addr) (n c : Nat) (o : Opn) (Av : Option Addr) (nv cv : Nat) (w : World) (B : Nat) (hB : B ≤ w.heap.size) (h : RB w B (.slice A n c) l) (hoi : OI o) (he : opErr l f o = 0) :
    Calls Tryz.prog 32 #[.slice A n c, AO (o, .slice Av nv cv)] w (InvR (invO l o) w) := by
  cases G.op_facts he with
  | ins hk => exact inverse_one l _ o hk Av nv cv w
  | rem hk => exact inverse_k2 l f G A n c o hk Av nv cv w B hB h hoi he
  | mov hk => exact inverse_k3 l f G A n c o hk Av nv cv w B hB h hoi he
  | edit hk => exact inverse_k4 l f G A n c o hk Av nv cv w B hB h hoi he
  | set hk => exact inverse_k5 l f G A n c o hk Av nv cv w B hB h hoi he

set_option maxRecDepth 100000 in
set_option maxHeartbeats 8000000 in
/-- tree.Inverse at a base with an error -/
theorem inverseTop_bad (l : List Bl) (f : Int → Option Int) (hf : DepOk l f) (A : Option Addr) (n c : Nat) (o : Opn) (Av : Option Addr) (nv cv : Nat) (w : World) (B : Nat) (hB : B ≤ w.heap.size) (h : RB w B (.slice A n c) l) (hoi : OI o) (hv : RV w B (.slice Av nv cv) o.val.items) (hne : baseE l f ≠ 0) :
    Calls Tryz.prog 8 #[.slice A n c, AO (o, .slice Av nv cv)] w (InvR (zO, baseE l f) w) := by
  obtain ⟨ok, oi, op, oa, of, ot, ox, on, ⟨vk, vi, vt, vs, vl⟩⟩ := o
  obtain ⟨wb, hwb⟩ : ∃ wb, wb = (w.alloc (.cells #[.int .i64 ok, .int .i64 oi, .int .i64 op, .int .i64 oa, .int .i64 of, .int .i64 ot, .string ox, .string on, .int .i64 vk, .int .i64 vi, .int .i64 vt, .string vs, .slice Av nv cv] 32)).alloc (.cells #[.int .i64 0, .int .i64 0, .int .i64 0, .int .i64 0, .int .i64 0, .int .i64 0, .string ⟨#[]⟩, .string ⟨#[]⟩, .int .i64 0, .int .i64 0, .int .i64 0, .string ⟨#[]⟩, .slice none 0 0] 32) := ⟨_, rfl⟩
  have HB0 : Hid (Below w.heap.size w wb) := by rw [hwb]; exact ((Below.refl _ _).alloc (Nat.le_refl _) _).alloc (by simp) _
  have P0 : Hid (Blk wb w.heap.size 32 #[.int .i64 ok, .int .i64 oi, .int .i64 op, .int .i64 oa, .int .i64 of, .int .i64 ot, .string ox, .string on, .int .i64 vk, .int .i64 vi, .int .i64 vt, .string vs, .slice Av nv cv]) := by rw [hwb]; exact (Blk.new _ _ _).alloc _
  have R0 : Hid (Blk wb (w.heap.size + 1) 32 #[.int .i64 0, .int .i64 0, .int .i64 0, .int .i64 0, .int .i64 0, .int .i64 0, .string ⟨#[]⟩, .string ⟨#[]⟩, .int .i64 0, .int .i64 0, .int .i64 0, .string ⟨#[]⟩, .slice none 0 0]) := by
    show Blk _ _ _ _
    rw [hwb]
    have h := Blk.new (w.alloc (.cells #[.int .i64 ok, .int .i64 oi, .int .i64 op, .int .i64 oa, .int .i64 of, .int .i64 ot, .string ox, .string on, .int .i64 vk, .int .i64 vi, .int .i64 vt, .string vs, .slice Av nv cv] 32)) 32 #[.int .i64 0, .int .i64 0, .int .i64 0, .int .i64 0, .int .i64 0, .int .i64 0, .string ⟨#[]⟩, .string ⟨#[]⟩, .int .i64 0, .int .i64 0, .int .i64 0, .string ⟨#[]⟩, .slice none 0 0]
    simpa only [World.size_alloc] using h
  have hg1 : w.heap.size ≤ w.heap.size + 1 := Nat.le_succ _
  have HWB := Lib.hid hwb
  have HC := Lib.hid (treeCheck_any l f A n c wb B (Nat.le_trans hB HB0.out.size) (h.below (HB0.out.mono hB)) hf)
  obtain ⟨er, her⟩ : ∃ er, er = baseE l f := ⟨_, rfl⟩
  rw [← her] at HC hne ⊢
  have h0' : (er != 0) = true := by simpa using hne
  dsimp only [AO, Vl.kind, Vl.int_, Vl.to_, Vl.text]
  clear her hne h hwb hoi hv
  go_enter Tryz.func8, Tryz.ntmps8
  go_upto_region 1 with fail
  rw [← HWB.out]
  go_wp2_with fail
  refine HC.out.mono ?_
  rintro e w1 ⟨rfl, hb1⟩
  have HB1 : Hid (Below w.heap.size w w1) := HB0.out.trans (hb1.mono HB0.out.size)
  have R1 := Lib.hid (R0.out.below hb1 R0.out.lt)
  clear hb1
  have rd := fun i => R1.out.cell i
  have fd := fun i => R1.out.frozen i
  go_wp2_with fail
  have PF := putO_blk (.int .i64 0) (.int .i64 0) (.int .i64 0) (.int .i64 0) (.int .i64 0) (.int .i64 0) (.string ⟨#[]⟩) (.string ⟨#[]⟩) (.int .i64 0) (.int .i64 0) (.int .i64 0) (.string ⟨#[]⟩) (.slice none 0 0) R1.out rfl
  have HBF := putO_below (.int .i64 0) (.int .i64 0) (.int .i64 0) (.int .i64 0) (.int .i64 0) (.int .i64 0) (.string ⟨#[]⟩) (.string ⟨#[]⟩) (.int .i64 0) (.int .i64 0) (.int .i64 0) (.string ⟨#[]⟩) (.slice none 0 0) HB1.out hg1
  obtain ⟨wf, hF⟩ : ∃ wf, wf = putO w1 (w.heap.size + 1) (.int .i64 0) (.int .i64 0) (.int .i64 0) (.int .i64 0) (.int .i64 0) (.int .i64 0) (.string ⟨#[]⟩) (.string ⟨#[]⟩) (.int .i64 0) (.int .i64 0) (.int .i64 0) (.string ⟨#[]⟩) (.slice none 0 0) := ⟨_, rfl⟩
  rw [← hF] at PF HBF
  unfold putO at hF
  rw [← hF]
  obtain ⟨r0, r1, r2, r3, r4, r5, r6, r7, r8, r9, r10, r11, r12⟩ := op_cells PF
  skip
  exact bodyPost_ret (v := .tuple #[AO (zO, .slice none 0 0), .int .i64 er]) (by simp [results, Tryz.results8, go_sem, r0, r1, r2, r3, r4, r5, r6, r7, r8, r9, r10, r11, r12, AO, zO, zV, Vl.kind, Vl.int_, Vl.to_, Vl.text]) rfl ⟨⟨none, 0, 0, rfl, RVX.nil _ _⟩, HBF⟩

set_option maxRecDepth 100000 in
set_option maxHeartbeats 8000000 in
/-- tree.Inverse where the operation is refused -/
theorem inverseTop_no (l : List Bl) (f : Int → Option Int) (G : Good l f) (A : Option Addr) (n c : Nat) (o : Opn) (Av : Option Addr) (nv cv : Nat) (w : World) (B : Nat) (hB : B ≤ w.heap.size) (h : RB w B (.slice A n c) l) (hoi : OI o) (hv : RV w B (.slice Av nv cv) o.val.items) (hne : opErr l f o ≠ 0) :
    Calls Tryz.prog 8 #[.slice A n c, AO (o, .slice Av nv cv)] w (InvR (zO, opErr l f o) w) := by
  have HCO := Lib.hid fun W (hW : Below w.heap.size w W) => checkOp_any l f G A n c o Av nv cv W B (Nat.le_trans hB hW.size) (h.below (hW.mono hB)) hoi (hv.below (hW.mono hB))
  obtain ⟨er, her⟩ : ∃ er, er = opErr l f o := ⟨_, rfl⟩
  rw [← her] at HCO hne ⊢
  have h0' : (er != 0) = true := by simpa using hne
  obtain ⟨ok, oi, op, oa, of, ot, ox, on, ⟨vk, vi, vt, vs, vl⟩⟩ := o
  obtain ⟨wb, hwb⟩ : ∃ wb, wb = (w.alloc (.cells #[.int .i64 ok, .int .i64 oi, .int .i64 op, .int .i64 oa, .int .i64 of, .int .i64 ot, .string ox, .string on, .int .i64 vk, .int .i64 vi, .int .i64 vt, .string vs, .slice Av nv cv] 32)).alloc (.cells #[.int .i64 0, .int .i64 0, .int .i64 0, .int .i64 0, .int .i64 0, .int .i64 0, .string ⟨#[]⟩, .string ⟨#[]⟩, .int .i64 0, .int .i64 0, .int .i64 0, .string ⟨#[]⟩, .slice none 0 0] 32) := ⟨_, rfl⟩
  have HB0 : Hid (Below w.heap.size w wb) := by rw [hwb]; exact ((Below.refl _ _).alloc (Nat.le_refl _) _).alloc (by simp) _
  have P0 : Hid (Blk wb w.heap.size 32 #[.int .i64 ok, .int .i64 oi, .int .i64 op, .int .i64 oa, .int .i64 of, .int .i64 ot, .string ox, .string on, .int .i64 vk, .int .i64 vi, .int .i64 vt, .string vs, .slice Av nv cv]) := by rw [hwb]; exact (Blk.new _ _ _).alloc _
  have R0 : Hid (Blk wb (w.heap.size + 1) 32 #[.int .i64 0, .int .i64 0, .int .i64 0, .int .i64 0, .int .i64 0, .int .i64 0, .string ⟨#[]⟩, .string ⟨#[]⟩, .int .i64 0, .int .i64 0, .int .i64 0, .string ⟨#[]⟩, .slice none 0 0]) := by
    show Blk _ _ _ _
    rw [hwb]
    have h := Blk.new (w.alloc (.cells #[.int .i64 ok, .int .i64 oi, .int .i64 op, .int .i64 oa, .int .i64 of, .int .i64 ot, .string ox, .string on, .int .i64 vk, .int .i64 vi, .int .i64 vt, .string vs, .slice Av nv cv] 32)) 32 #[.int .i64 0, .int .i64 0, .int .i64 0, .int .i64 0, .int .i64 0, .int .i64 0, .string ⟨#[]⟩, .string ⟨#[]⟩, .int .i64 0, .int .i64 0, .int .i64 0, .string ⟨#[]⟩, .slice none 0 0]
    simpa only [World.size_alloc] using h
  have hg1 : w.heap.size ≤ w.heap.size + 1 := Nat.le_succ _
  have HWB := Lib.hid hwb
  have HC := Lib.hid (treeCheck_any l f A n c wb B (Nat.le_trans hB HB0.out.size) (h.below (HB0.out.mono hB)) fun _ => G.dep)
  rw [G.clean] at HC
  dsimp only [AO, Vl.kind, Vl.int_, Vl.to_, Vl.text] at HCO ⊢
  clear her hne h hwb hoi hv
  go_enter Tryz.func8, Tryz.ntmps8
  go_upto_region 1 with fail
  rw [← HWB.out]
  go_wp2_with fail
  refine HC.out.mono ?_
  rintro e w1 ⟨rfl, hb1⟩
  have HB1 : Hid (Below w.heap.size w w1) := HB0.out.trans (hb1.mono HB0.out.size)
  have R1 := Lib.hid (R0.out.below hb1 R0.out.lt)
  have P1 := Lib.hid (P0.out.below hb1 P0.out.lt)
  clear hb1
  have e0 := fun i => P1.out.cell i
  go_wp2_with fail
  refine (HCO.out w1 HB1.out).mono ?_
  rintro e w2 ⟨rfl, hb2⟩
  have HB2 : Hid (Below w.heap.size w w2) := HB1.out.trans (hb2.mono HB1.out.size)
  have R2 := Lib.hid (R1.out.below hb2 R1.out.lt)
  clear hb2 e0
  have rd := fun i => R2.out.cell i
  have fd := fun i => R2.out.frozen i
  go_wp2_with fail
  have PF := putO_blk (.int .i64 0) (.int .i64 0) (.int .i64 0) (.int .i64 0) (.int .i64 0) (.int .i64 0) (.string ⟨#[]⟩) (.string ⟨#[]⟩) (.int .i64 0) (.int .i64 0) (.int .i64 0) (.string ⟨#[]⟩) (.slice none 0 0) R2.out rfl
  have HBF := putO_below (.int .i64 0) (.int .i64 0) (.int .i64 0) (.int .i64 0) (.int .i64 0) (.int .i64 0) (.string ⟨#[]⟩) (.string ⟨#[]⟩) (.int .i64 0) (.int .i64 0) (.int .i64 0) (.string ⟨#[]⟩) (.slice none 0 0) HB2.out hg1
  obtain ⟨wf, hF⟩ : ∃ wf, wf = putO w2 (w.heap.size + 1) (.int .i64 0) (.int .i64 0) (.int .i64 0) (.int .i64 0) (.int .i64 0) (.int .i64 0) (.string ⟨#[]⟩) (.string ⟨#[]⟩) (.int .i64 0) (.int .i64 0) (.int .i64 0) (.string ⟨#[]⟩) (.slice none 0 0) := ⟨_, rfl⟩
  rw [← hF] at PF HBF
  unfold putO at hF
  rw [← hF]
  obtain ⟨r0, r1, r2, r3, r4, r5, r6, r7, r8, r9, r10, r11, r12⟩ := op_cells PF
  skip
  exact bodyPost_ret (v := .tuple #[AO (zO, .slice none 0 0), .int .i64 er]) (by simp [results, Tryz.results8, go_sem, r0, r1, r2, r3, r4, r5, r6, r7, r8, r9, r10, r11, r12, AO, zO, zV, Vl.kind, Vl.int_, Vl.to_, Vl.text]) rfl ⟨⟨none, 0, 0, rfl, RVX.nil _ _⟩, HBF⟩

set_option maxRecDepth 100000 in
set_option maxHeartbeats 8000000 in
/-- tree.Inverse without an error -/
theorem inverseTop_any (l : List Bl) (f : Int → Option Int) (G : Good l f) (A : Option Addr) (n c : Nat) (o : Opn) (Av : Option Addr) (nv cv : Nat) (w : World) (B : Nat) (hB : B ≤ w.heap.size) (h : RB w B (.slice A n c) l) (hoi : OI o) (hv : RV w B (.slice Av nv cv) o.val.items) (h0 : opErr l f o = 0) :
    Calls Tryz.prog 8 #[.slice A n c, AO (o, .slice Av nv cv)] w (InvR (invO l o) w) := by
  have HCO := Lib.hid fun W (hW : Below w.heap.size w W) => checkOp_any l f G A n c o Av nv cv W B (Nat.le_trans hB hW.size) (h.below (hW.mono hB)) hoi (hv.below (hW.mono hB))
  rw [h0] at HCO
  have HIN := Lib.hid fun W (hW : Below w.heap.size w W) => inverse_any l f G A n c o Av nv cv W B (Nat.le_trans hB hW.size) (h.below (hW.mono hB)) hoi h0
  obtain ⟨IV, hIV⟩ : ∃ IV, IV = invO l o := ⟨_, rfl⟩
  rw [← hIV] at HIN ⊢
  obtain ⟨ok, oi, op, oa, of, ot, ox, on, ⟨vk, vi, vt, vs, vl⟩⟩ := o
  obtain ⟨wb, hwb⟩ : ∃ wb, wb = (w.alloc (.cells #[.int .i64 ok, .int .i64 oi, .int .i64 op, .int .i64 oa, .int .i64 of, .int .i64 ot, .string ox, .string on, .int .i64 vk, .int .i64 vi, .int .i64 vt, .string vs, .slice Av nv cv] 32)).alloc (.cells #[.int .i64 0, .int .i64 0, .int .i64 0, .int .i64 0, .int .i64 0, .int .i64 0, .string ⟨#[]⟩, .string ⟨#[]⟩, .int .i64 0, .int .i64 0, .int .i64 0, .string ⟨#[]⟩, .slice none 0 0] 32) := ⟨_, rfl⟩
  have HB0 : Hid (Below w.heap.size w wb) := by rw [hwb]; exact ((Below.refl _ _).alloc (Nat.le_refl _) _).alloc (by simp) _
  have P0 : Hid (Blk wb w.heap.size 32 #[.int .i64 ok, .int .i64 oi, .int .i64 op, .int .i64 oa, .int .i64 of, .int .i64 ot, .string ox, .string on, .int .i64 vk, .int .i64 vi, .int .i64 vt, .string vs, .slice Av nv cv]) := by rw [hwb]; exact (Blk.new _ _ _).alloc _
  have R0 : Hid (Blk wb (w.heap.size + 1) 32 #[.int .i64 0, .int .i64 0, .int .i64 0, .int .i64 0, .int .i64 0, .int .i64 0, .string ⟨#[]⟩, .string ⟨#[]⟩, .int .i64 0, .int .i64 0, .int .i64 0, .string ⟨#[]⟩, .slice none 0 0]) := by
    show Blk _ _ _ _
    rw [hwb]
    have h := Blk.new (w.alloc (.cells #[.int .i64 ok, .int .i64 oi, .int .i64 op, .int .i64 oa, .int .i64 of, .int .i64 ot, .string ox, .string on, .int .i64 vk, .int .i64 vi, .int .i64 vt, .string vs, .slice Av nv cv] 32)) 32 #[.int .i64 0, .int .i64 0, .int .i64 0, .int .i64 0, .int .i64 0, .int .i64 0, .string ⟨#[]⟩, .string ⟨#[]⟩, .int .i64 0, .int .i64 0, .int .i64 0, .string ⟨#[]⟩, .slice none 0 0]
    simpa only [World.size_alloc] using h
  have hg1 : w.heap.size ≤ w.heap.size + 1 := Nat.le_succ _
  have HWB := Lib.hid hwb
  have HC := Lib.hid (treeCheck_any l f A n c wb B (Nat.le_trans hB HB0.out.size) (h.below (HB0.out.mono hB)) fun _ => G.dep)
  rw [G.clean] at HC
  obtain ⟨⟨ik, ii, ip, ia, if_, it, ix, im, ⟨jk, ji, jt, js, jl⟩⟩, ie⟩ := IV
  unfold InvR at HIN
  dsimp only [AO, Vl.kind, Vl.int_, Vl.to_, Vl.text, Vl.items] at HCO HIN ⊢
  clear h hwb hoi hv h0 hIV
  go_enter Tryz.func8, Tryz.ntmps8
  go_upto_region 1 with fail
  rw [← HWB.out]
  go_wp2_with fail
  refine HC.out.mono ?_
  rintro e w1 ⟨rfl, hb1⟩
  have HB1 : Hid (Below w.heap.size w w1) := HB0.out.trans (hb1.mono HB0.out.size)
  have R1 := Lib.hid (R0.out.below hb1 R0.out.lt)
  have P1 := Lib.hid (P0.out.below hb1 P0.out.lt)
  clear hb1
  have e0 := fun i => P1.out.cell i
  go_wp2_with fail
  refine (HCO.out w1 HB1.out).mono ?_
  rintro e w2 ⟨rfl, hb2⟩
  have HB2 : Hid (Below w.heap.size w w2) := HB1.out.trans (hb2.mono HB1.out.size)
  have R2 := Lib.hid (R1.out.below hb2 R1.out.lt)
  have P2 := Lib.hid (P1.out.below hb2 P1.out.lt)
  clear hb2 e0
  have e0 := fun i => P2.out.cell i
  go_wp2_with fail
  refine (HIN.out w2 HB2.out).mono ?_
  rintro e w3 ⟨⟨A3, n3, c3, rfl, hrv⟩, hb3⟩
  have HB3 : Hid (Below w.heap.size w w3) := HB2.out.trans (hb3.mono HB2.out.size)
  have R3 := Lib.hid (R2.out.below hb3 R2.out.lt)
  have HRV := Lib.hid hrv
  clear hb3 e0 hrv
  have rd := fun i => R3.out.cell i
  have fd := fun i => R3.out.frozen i
  go_wp2_with fail
  have PF := putO_blk (.int .i64 ik) (.int .i64 ii) (.int .i64 ip) (.int .i64 ia) (.int .i64 if_) (.int .i64 it) (.string ix) (.string im) (.int .i64 jk) (.int .i64 ji) (.int .i64 jt) (.string js) (.slice A3 n3 c3) R3.out rfl
  have HBF := putO_below (.int .i64 ik) (.int .i64 ii) (.int .i64 ip) (.int .i64 ia) (.int .i64 if_) (.int .i64 it) (.string ix) (.string im) (.int .i64 jk) (.int .i64 ji) (.int .i64 jt) (.string js) (.slice A3 n3 c3) HB3.out hg1
  obtain ⟨wf, hF⟩ : ∃ wf, wf = putO w3 (w.heap.size + 1) (.int .i64 ik) (.int .i64 ii) (.int .i64 ip) (.int .i64 ia) (.int .i64 if_) (.int .i64 it) (.string ix) (.string im) (.int .i64 jk) (.int .i64 ji) (.int .i64 jt) (.string js) (.slice A3 n3 c3) := ⟨_, rfl⟩
  rw [← hF] at PF HBF
  have hzf : wf.heap.size = w3.heap.size := by rw [hF, putO_size]
  have HRZ : Hid (RVX wf (fun b => w.heap.size ≤ b ∧ b < wf.heap.size) (.slice A3 n3 c3) jl) := by
    show RVX _ _ _ _
    rw [hzf]
    have hz2 := R2.out.lt
    exact (HRV.out.keep (w' := wf) fun p hp => by rw [hF]; exact putO_cell _ _ _ _ _ _ _ _ _ _ _ _ _ _ _ p (by have := hp.1; omega)).weak fun b hb => ⟨by have := hb.1; omega, hb.2⟩
  unfold putO at hF
  rw [← hF]
  obtain ⟨r0, r1, r2, r3, r4, r5, r6, r7, r8, r9, r10, r11, r12⟩ := op_cells PF
  skip
  exact bodyPost_ret (v := .tuple #[AO (⟨ik, ii, ip, ia, if_, it, ix, im, ⟨jk, ji, jt, js, jl⟩⟩, .slice A3 n3 c3), .int .i64 ie]) (by simp [results, Tryz.results8, go_sem, r0, r1, r2, r3, r4, r5, r6, r7, r8, r9, r10, r11, r12, AO, Vl.kind, Vl.int_, Vl.to_, Vl.text]) rfl ⟨⟨A3, n3, c3, rfl, HRZ.out⟩, HBF⟩
end Go.Proofs.YtackphgnkdpgnaaGreat
namespace Go.Proofs
open Go.Shelf

def Tryz.sortPr_ren : Go.Shelf.Ren := ⟨fun | 6 => 102 | 15 => 116 | 14 => 115 | 28 => 131 | 29 => 132 | 20 => 123 | 21 => 124 | 22 => 125 | 23 => 126 | 24 => 127 | 25 => 128 | 26 => 129 | 27 => 130 | 46 => 135 | 47 => 136 | 48 => 137 | 49 => 138 | 50 => 139 | 57 => 141 | n => n, fun | 22 => 43 | 24 => 70 | 25 => 115 | 3 => 3 | 39 => 102 | 0 => 0 | 53 => 140 | 55 => 142 | 4 => 4 | 46 => 134 | 45 => 133 | 50 => 74 | 5 => 5 | 9 => 9 | 66 => 143 | 70 => 147 | 76 => 149 | 77 => 150 | n => n, fun | n => n⟩
theorem Tryz.sortPr : Go.Proofs.SlLaysF0.n6 Tryz.prog Tryz.sortPr_ren := {
  mixed := by kernel_rfl
  f6 := ⟨Tryz.f102.name, by decide, Tryz.func102.trans (congrArg some (by kernel_rfl))⟩
  f14 := ⟨Tryz.f115.name, by decide, Tryz.func115.trans (congrArg some (by kernel_rfl))⟩
  f15 := Tryz.func116.trans (congrArg some (by kernel_rfl))
  f20 := ⟨Tryz.f123.name, by decide, Tryz.func123.trans (congrArg some (by kernel_rfl))⟩
  f21 := ⟨Tryz.f124.name, by decide, Tryz.func124.trans (congrArg some (by kernel_rfl))⟩
  f22 := ⟨Tryz.f125.name, by decide, Tryz.func125.trans (congrArg some (by kernel_rfl))⟩
  f23 := ⟨Tryz.f126.name, by decide, Tryz.func126.trans (congrArg some (by kernel_rfl))⟩
  f24 := ⟨Tryz.f127.name, by decide, Tryz.func127.trans (congrArg some (by kernel_rfl))⟩
  f25 := ⟨Tryz.f128.name, by decide, Tryz.func128.trans (congrArg some (by kernel_rfl))⟩
  f26 := ⟨Tryz.f129.name, by decide, Tryz.func129.trans (congrArg some (by kernel_rfl))⟩
  f27 := ⟨Tryz.f130.name, by decide, Tryz.func130.trans (congrArg some (by kernel_rfl))⟩
  f28 := Tryz.func131.trans (congrArg some (by kernel_rfl))
  f29 := Tryz.func132.trans (congrArg some (by kernel_rfl))
  f46 := ⟨Tryz.f135.name, by decide, Tryz.func135.trans (congrArg some (by kernel_rfl))⟩
  f47 := Tryz.func136.trans (congrArg some (by kernel_rfl))
  f48 := Tryz.func137.trans (congrArg some (by kernel_rfl))
  f49 := ⟨Tryz.f138.name, by decide, Tryz.func138.trans (congrArg some (by kernel_rfl))⟩
  f50 := ⟨Tryz.f139.name, by decide, Tryz.func139.trans (congrArg some (by kernel_rfl))⟩
  f57 := ⟨Tryz.f141.name, by decide, Tryz.func141.trans (congrArg some (by kernel_rfl))⟩
  t0 := Tryz.underlying0
  a0 := Tryz.isAgg0
  z0 := Tryz.sizeOf0
  v0 := Tryz.zeroValue0
  t3 := Tryz.underlying3
  a3 := Tryz.isAgg3
  z3 := Tryz.sizeOf3
  v3 := Tryz.zeroValue3
  t4 := Tryz.underlying4
  a4 := Tryz.isAgg4
  z4 := Tryz.sizeOf4
  v4 := Tryz.zeroValue4
  t5 := Tryz.underlying5
  a5 := Tryz.isAgg5
  z5 := Tryz.sizeOf5
  v5 := Tryz.zeroValue5
  t9 := Tryz.underlying9
  a9 := Tryz.isAgg9
  z9 := Tryz.sizeOf9
  v9 := Tryz.zeroValue9
  t22 := Tryz.underlying43
  a22 := Tryz.isAgg43
  z22 := Tryz.sizeOf43
  v22 := Tryz.zeroValue43
  t25 := Tryz.underlying115
  a25 := Tryz.isAgg115
  z25 := Tryz.sizeOf115
  v25 := Tryz.zeroValue115
  t39 := Tryz.underlying102
  a39 := Tryz.isAgg102
  z39 := Tryz.sizeOf102
  v39 := Tryz.zeroValue102
  t45 := Tryz.underlying133
  a45 := Tryz.isAgg133
  z45 := Tryz.sizeOf133
  v45 := Tryz.zeroValue133
  t46 := Tryz.underlying134
  a46 := Tryz.isAgg134
  z46 := Tryz.sizeOf134
  v46 := Tryz.zeroValue134
  t50 := Tryz.underlying74
  a50 := Tryz.isAgg74
  z50 := Tryz.sizeOf74
  v50 := Tryz.zeroValue74
  t53 := Tryz.underlying140
  a53 := Tryz.isAgg140
  z53 := Tryz.sizeOf140
  v53 := Tryz.zeroValue140
  t55 := Tryz.underlying142
  a55 := Tryz.isAgg142
  z55 := Tryz.sizeOf142
  v55 := Tryz.zeroValue142
  t66 := Tryz.underlying143
  a66 := Tryz.isAgg143
  z66 := Tryz.sizeOf143
  v66 := Tryz.zeroValue143
  t70 := Tryz.underlying147
  a70 := Tryz.isAgg147
  z70 := Tryz.sizeOf147
  v70 := Tryz.zeroValue147
  t76 := Tryz.underlying149
  a76 := Tryz.isAgg149
  z76 := Tryz.sizeOf149
  v76 := Tryz.zeroValue149
  t77 := Tryz.underlying150
  a77 := Tryz.isAgg150
  z77 := Tryz.sizeOf150
  v77 := Tryz.zeroValue150 }
def Tryz.lays106_ren : Go.Shelf.Ren := ⟨fun | 106 => 104 | 213 => 117 | 265 => 133 | n => n, fun | 9 => 9 | 3 => 3 | n => n, fun | n => n⟩
theorem Tryz.lays106 : Go.Proofs.Lays.n106 Tryz.prog Tryz.lays106_ren := {
  mixed := by kernel_rfl
  f106 := Tryz.func104.trans (congrArg some (by kernel_rfl))
  f213 := Tryz.func117.trans (congrArg some (by kernel_rfl))
  f265 := Tryz.func133.trans (congrArg some (by kernel_rfl))
  t3 := Tryz.underlying3
  a3 := Tryz.isAgg3
  z3 := Tryz.sizeOf3
  v3 := Tryz.zeroValue3
  t9 := Tryz.underlying9
  a9 := Tryz.isAgg9
  z9 := Tryz.sizeOf9
  v9 := Tryz.zeroValue9 }
end Go.Proofs
