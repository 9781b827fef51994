/-
  DERIVED. The walk of tree.depths. Conditions: sizes; a base whose kids are right.
  The walk of tree.copyBase: a base of the call's own. Conditions: sizes.
  The walks of slices.ContainsFunc at blocks and of the closure of TreeMoves. Conditions: sizes.
  By an AI agent.
-/
import Derived.Test.YtmkicfjcgbfaaaaGreatTe06
import Derived.Test.YtmkicfjcgbfaaaaGreatTe09
import Derived.Test.YtmkicfjcgbfaaaaGreatTe20
import Derived.Carry
import Derived.Test.YtmkicfjcgbfaaaaGreatTe12
import Derived.Test.YtmkicfjcgbfaaaaGreatTe11
import Derived.Laws.OwnMore
namespace Go.Proofs.YtmkicfjcgbfaaaaGreat
open Go.RowKit

theorem int_zero : ∀ w, (zeroValue 3).run Tryz.prog w = .ok (.int .i64 0) w := fun w => Tryz.zeroValue3 w
theorem wpList_push {w : World} {base : Nat} {v : Value} {T : List Int} {ops : Array Oper} {rest : List Oper} {o : Oper} {a : Act} {Q : Exit → Act → World → Prop} (hgd : o.guard = none) (s x : Operand)
    (ho : o.op = .call { callee := .builtin .append, args := #[s, x], argTypes := #[34, 34] }) (h : Qu w base v T) (hb : base ≤ w.heap.size) (hn : T.length ≤ 1000000) (hs : a.eval s = v) (ad : Addr) (c : Nat) (y : Int) (hx : a.eval x = .slice (some ad) 1 c) (hc : w.cell? ad = some (.int .i64 y))
    (hK : ∀ v' w', Qu w' base v' (T ++ [y]) → Below base w w' → Kept3 w w' → w.heap.size ≤ w'.heap.size → wpList Tryz.prog ops Q rest (a.put o.dst v') w') : wpList Tryz.prog ops Q (o :: rest) a w :=
  wpList_plain hgd fun _ hK' => by
    obtain ⟨v', w', hrun, h2, h3, h4, h5⟩ := h.push hb hn hc o.type
    unfold Oper.wp execOp
    simp only [ho, resolve, invoke, builtin, Sem.run_bind, Sem.run_pure, Result.andThen_ok, List.map_toArray, List.map_cons, List.map_nil, hs, hx]
    rw [hrun]
    exact hK' _ _ (hK v' w' h2 h3 h4 h5)
theorem MapIn.no_row {P : Program} {k e : TypeId} {α : Type} {lt : α → DU} {w : World} {b n : Nat} {f : Int → Option α} (h : MapIn P k e lt w b n f) (cur : Array Value) (t : TypeId) : w.heap[b]? ≠ some (.cells cur t (0, 0)) := by
  obtain ⟨D, ⟨es, clock, h1, h2⟩, h3⟩ := h
  rw [h1]
  intro e
  injection e with e
  cases e
theorem IdsIn.i64 {l : List Bl} (h : IdsIn l) {x : Bl} (hx : x ∈ l) : I64 x.id := by
  have := h x hx
  unfold I64
  omega

abbrev IM (w : World) (b n : Nat) (f : Int → Option Int) : Prop := MapIn Tryz.prog 3 3 (fun x => .lit (.int .i64 x)) w b n f
/-- what depths returns -/
def DepR (l : List Bl) (e : Ending) (w : World) : Prop := ∃ b n f, e = .returned (.map (some b)) ∧ IM w b n f ∧ IsDep l f
/-- a queue in a slot -/
def QS (w : World) (base : Nat) (s : Value) (T : List Int) : Prop := Qu w base s T

set_option maxHeartbeats 4000000 in
theorem depths_any (l : List Bl) (A : Option Addr) (n c : Nat) (w : World) (B : Nat) (hB : B ≤ w.heap.size) (h : RB w B (.slice A n c) l) (K : Kids l) :
    Calls Tryz.prog 59 #[.slice A n c] w fun e w' => DepR l e w' ∧ Below w.heap.size w w' := by
  have HN := Lib.hid h.len
  have HI := Lib.hid fun (id : Int) W (hid : I64 id) (hW : Below w.heap.size w W) => index_any l A n c id W B (Nat.le_trans hB hW.size) (h.below (hW.mono hB)) K.rise K.ids hid
  have H := Lib.hid h
  have HE := Lib.hid (intElem (P := Tryz.prog) (e := 3) Tryz.underlying3 int_zero)
  have hmm : (Instr.makeMap 86 none).run Tryz.prog w = .ok (.map (some w.heap.size)) (w.alloc (.map #[] 0)) := run_makeMap _ w
  have hM0 : IM (w.alloc (.map #[] 0)) w.heap.size 0 (fun _ => none) := MapIn.made w
  have z00 : I64 0 := by unfold I64; omega
  obtain ⟨W1, hup, hm1, hg1⟩ := hM0.put HE.out Tryz.underlying3 Tryz.underlying86 (by unfold maxLen; omega) z00 (a := 0) z00
  have HM1 : Hid (IM W1 w.heap.size 1 (fun id => if id = 0 then some 0 else none)) := hm1
  have HB1 : Hid (Below w.heap.size w W1) := ((Below.refl _ _).alloc (Nat.le_refl _) (.map #[] 0)).grown hg1 (by simp) (fun k hk => by injection hk with hk; omega)
  have HQ := Lib.hid (Qu.start W1 HB1.out.size 0)
  obtain ⟨bm, hbm⟩ : ∃ bm, bm = w.heap.size := ⟨_, rfl⟩
  have hbw : w.heap.size ≤ bm := by omega
  rw [← hbm] at hup HM1 hmm
  have HBM := Lib.hid hbm
  have KK := Lib.hid K
  clear h hM0 hm1 hg1 hbm K
  go_enter Tryz.func59, Tryz.ntmps59
  go_wp2_with fail
  go_loopg [4] (n + 1) (fun gg s4 wr => ∃ (T : List Int) (f : Int → Option Int) (k m : Nat) (A4 : Option Addr) (n4 c4 : Nat), s4 = .slice A4 n4 c4 ∧ QS wr w.heap.size (.slice A4 n4 c4) T ∧ Hid (IM wr bm k f) ∧ Hid (Bfs l f T none m) ∧ Hid (Below w.heap.size w wr) ∧ Hid (k + cntF l f ≤ n + 1) ∧ m ≤ gg ∧ m ≤ n + 1)
  case atStart =>
    refine ⟨[0], _, 1, n + 1, _, _, _, rfl, HQ.out, HM1.out.alloc _, ?_, HB1.out.alloc HB1.out.size _, ?_, Nat.le_refl _, Nat.le_refl _⟩
    · show Bfs _ _ _ _ _
      rw [HN.out.1]; exact Bfs.start KK.out
    · show 1 + cntF _ _ ≤ _
      have := cntF_le l (fun id => if id = 0 then some 0 else none)
      have := HN.out.1
      omega
  case round =>
    obtain ⟨T, f, k, m1, A4, n4, c4, rfl, hq, hm, hbfs, hbel, hkc, hmg, hgn⟩ := hrel
    obtain ⟨W2, rfl⟩ : ∃ W2, W2 = wr := ⟨_, rfl⟩
    have hq : Qu W2 w.heap.size (.slice A4 n4 c4) T := hq
    rcases T with _ | ⟨x, T⟩
    · have hl := hq.len
      obtain rfl : n4 = 0 := hl.1
      have HR : Hid (DepR l (.returned (.map (some bm))) W2) := ⟨bm, k, f, rfl, hm.out, hbfs.out.isDep KK.out⟩
      clear hq hl
      go_wp2_with fail
      go_ret
      exact ⟨HR.out, hbel.out⟩
    obtain ⟨g, off, rfl, hn4, hnc4, hgl, hcx, hp1, hp2⟩ := hq.pop
    obtain ⟨m, rfl⟩ : ∃ m, m1 = m + 1 := ⟨m1 - 1, by have := hbfs.out.less; simp at this; omega⟩
    obtain ⟨dx, hdx⟩ := hbfs.out.queue x (by simp)
    obtain ⟨nx, _, hDx, _⟩ := hbfs.out.sound x dx hdx
    obtain ⟨bx, hbx, hbi⟩ := hDx.mem KK.out
    obtain ⟨p, hpl, hpe⟩ := List.mem_iff_getElem.1 hbx
    have hlp : l[p]? = some bx := by rw [List.getElem?_eq_getElem hpl, hpe]
    have hpos : posOf l x = (p : Int) := by rw [← hbi]; exact posOf_of KK.out.rise hlp
    have HX := HI.out x W2 (hbi ▸ KK.out.ids.i64 hbx) hbel.out
    rw [hpos] at HX
    have HX := Lib.hid HX
    have HPOP : Hid (Bfs l f T (some (bx, 0)) m) := hbfs.out.pop hbx hbi
    obtain ⟨b, o5, Ak, nk, ck, Ap, np, cp, rfl, hbb, g0, g1, g2, g3, g4, hK, _⟩ := H.out.at_ hlp
    have HK := Lib.hid hK
    have HKL := Lib.hid hK.len
    have hpn : p < n := by have := HN.out.1; omega
    have i0 : (0 : Int) ≤ (p : Int) := by omega
    have i1 : (p : Int) < (n : Int) := by omega
    have hn40 : 0 < n4 := by omega
    have P1 := Lib.hid hp1
    have P2 := Lib.hid hp2
    have hw2 : w.heap.size ≤ W2.heap.size := hbel.out.size
    have hbm2 : bm < W2.heap.size := hm.out.lt_
    have HHQ := Lib.hid hq
    have hl1 : n4 - 1 = T.length := by omega
    have HL1 := Lib.hid hl1
    clear hq hp1 hp2 hdx hDx hbx hbi hpl hpe hlp hpos hK hn4 hl1
    go_wp2_with fail
    refine HX.out.mono ?_
    rintro e w3 ⟨rfl, hb⟩
    have HB3 : Hid (Below w.heap.size w w3) := hbel.out.trans (hb.mono hw2)
    have c0 := (HB3.out.cell (p := ⟨b, o5 + p * 5, none⟩) (by show b < _; omega)).trans g0
    have c1 := (HB3.out.cell (p := ⟨b, o5 + p * 5 + 1, none⟩) (by show b < _; omega)).trans g1
    have c2 := (HB3.out.cell (p := ⟨b, o5 + p * 5 + 2, none⟩) (by show b < _; omega)).trans g2
    have c3 := (HB3.out.cell (p := ⟨b, o5 + p * 5 + 3, none⟩) (by show b < _; omega)).trans g3
    have c5 := (HB3.out.cell (p := ⟨b, o5 + p * 5 + 4, none⟩) (by show b < _; omega)).trans g4
    have hw3 : W2.heap.size ≤ w3.heap.size := hb.size
    have HM3 := Lib.hid (hm.out.below hb hbm2)
    have HQ1 : Hid (c4 = 1 → Qu w3 w.heap.size (.slice (some ⟨g, off, none⟩) (n4 - 1) (c4 - 1)) T) := fun e => (P1.out e).below hb
    have HQ2 : Hid (c4 ≠ 1 → Qu w3 w.heap.size (.slice (some ⟨g, off + 1, none⟩) (n4 - 1) (c4 - 1)) T) := fun e => (P2.out e).below hb
    clear hb g0 g1 g2 g3 g4
    obtain ⟨W4, hW4⟩ : ∃ W4, W4 = w3.alloc (.cells #[.int .i64 bx.id, .int .i64 bx.parent, .slice Ak nk ck, .string bx.text, .slice Ap np cp] 38) := ⟨_, rfl⟩
    have p0 : Blk W4 w3.heap.size 38 #[.int .i64 bx.id, .int .i64 bx.parent, .slice Ak nk ck, .string bx.text, .slice Ap np cp] := by rw [hW4]; exact Blk.new w3 _ _
    have HM4 : Hid (IM W4 bm k f) := by rw [hW4]; exact HM3.out.alloc _
    have HB4 : Hid (Below w.heap.size w W4) := by rw [hW4]; exact HB3.out.alloc HB3.out.size _
    have HQ3 : Hid (∀ v, Qu w3 w.heap.size v T → Qu W4 w.heap.size v T) := fun v hv => by rw [hW4]; exact hv.alloc _
    have HP0 := Lib.hid p0
    have m2 : W4.cell? ⟨w3.heap.size, 2, none⟩ = some (.slice Ak nk ck) := p0.cell 2
    have hbm3 : bm < w3.heap.size := by omega
    have HW4 := Lib.hid hW4
    clear hW4 p0
    go_upto_region 5 with fail
    rw [← HW4.out]
    go_cut [4] (fun s4 wc => ∃ A' n' c', s4 = .slice A' n' c' ∧ QS W4 w.heap.size (.slice A' n' c') T ∧ W4 = wc)
    case first =>
      by_cases hc4 : c4 = 1
      · subst hc4
        obtain rfl : n4 = 1 := by omega
        have HQ' := Lib.hid (HQ3.out _ (HQ1.out rfl))
        go_wp2_with fail
        go_meet
        exact ⟨_, _, _, rfl, HQ'.out, rfl⟩
      · have HQ' := Lib.hid (HQ3.out _ (HQ2.out hc4))
        have hc4' : ¬ c4 ≤ 1 := by omega
        have hc4'' : (1 : Int) ≤ (n4 : Int) := by omega
        go_wp2_with fail
        go_meet
        exact ⟨_, _, _, rfl, HQ'.out, rfl⟩
    case rest =>
    obtain ⟨A', n', c', rfl, hq', rfl⟩ := hcut
    have HQ5 : Hid (Qu W4 w.heap.size (.slice A' n' c') T) := hq'
    have HKC := Lib.hid hkc.out
    clear hq'
    go_wp2_with fail
    go_loopg [4, 29] nk (fun gg s4 s29 wr => ∃ (j : Nat) (T : List Int) (f : Int → Option Int) (k : Nat) (A4 : Option Addr) (n4 c4 : Nat), j + gg = nk ∧ s4 = .slice A4 n4 c4 ∧ s29 = .int .i64 (j : Int) ∧ QS wr w.heap.size (.slice A4 n4 c4) T ∧ Hid (IM wr bm k f) ∧ Hid (Bfs l f T (some (bx, j)) m) ∧ Hid (Below w.heap.size w wr) ∧ Hid (k + cntF l f ≤ n + 1) ∧ Hid (Blk wr w3.heap.size 38 #[.int .i64 bx.id, .int .i64 bx.parent, .slice Ak nk ck, .string bx.text, .slice Ap np cp]))
    case atStart => exact ⟨0, T, f, k, _, _, _, by omega, rfl, rfl, HQ5.out, HM4, HPOP, HB4, HKC, HP0⟩
    case round =>
      obtain ⟨j, T, f, k, A4, n4, c4, hjg, rfl, rfl, hq, hm, hbfs, hbel, hkc, hp⟩ := hrel
      have hq : Qu wr w.heap.size (.slice A4 n4 c4) T := hq
      have HQ := Lib.hid hq
      clear hq
      have hbk : nk ≤ ck ∧ nk * 8 ≤ 140737488351232 := HKL.out.2
      by_cases hj : j < nk
      case neg =>
        obtain rfl : j = nk := by omega
        have HD : Hid (Bfs l f T none m) := hbfs.out.done (by rw [← HKL.out.1]; exact Nat.le_refl _) KK.out
        go_wp2_with fail
        go_roundg m
        case measure => omega
        case rel => exact ⟨T, f, k, m, _, _, _, rfl, HQ.out, hm, HD, hbel, hkc, Nat.le_refl _, by omega⟩
      obtain ⟨kk, hkk⟩ : ∃ k, bx.kids[j]? = some k := ⟨_, List.getElem?_eq_getElem (by have := HKL.out.1; omega)⟩
      have hki : I64 kk := HK.out.i64 (List.mem_of_getElem? hkk)
      obtain ⟨bk, ok, rfl, hbk2, q0⟩ := HK.out.at_ hkk
      have q0 := (hbel.out.cell (p := ⟨bk, ok + j, none⟩) (by show bk < _; omega)).trans q0
      have z0 : (0 : Int) ≤ (j : Int) := by omega
      have z1 : (j : Int) < (nk : Int) := by omega
      have hlk := hm.out.look_ok HE.out Tryz.underlying3 Tryz.underlying86 hki
      have HKK := Lib.hid hkk
      clear hkk
      cases hf : f kk with
      | some d =>
        rw [hf] at hlk
        dsimp only [Option.getD_some, Option.isSome_some] at hlk
        have HS := Lib.hid (hbfs.out.skip HKK.out hf)
        clear hf
        go_wp2_with fail
        go_roundg (nk - (j + 1))
        case measure => omega
        case rel => exact ⟨j + 1, T, f, k, _, _, _, by omega, rfl, by go_num, HQ.out, hm, HS, hbel, hkc, hp⟩
      | none =>
        rw [hf] at hlk
        dsimp only [Option.getD_none, Option.isSome_none] at hlk
        obtain ⟨hbxl, ⟨d, hd⟩, _⟩ := hbfs.out.now bx j rfl
        obtain ⟨nd, rfl, _, hnd⟩ := hbfs.out.sound _ _ hd
        have hdn : nd ≤ 2000 := by have := KK.out.short; omega
        have hl2 := hm.out.look HE.out Tryz.underlying3 Tryz.underlying86 (KK.out.ids.i64 hbxl)
        rw [hd] at hl2
        dsimp only [Option.getD_some] at hl2
        have hd1 : I64 ((nd : Int) + 1) := by unfold I64; omega
        have hcl := cntF_le l f
        have HAD := Lib.hid (hbfs.out.add KK.out HKK.out hf hd)
        have HKC2 : Hid (k + 1 + cntF l (putF f kk ((nd : Int) + 1)) ≤ n + 1) := by
          have h1 := hbfs.out.cnt KK.out HKK.out hf ((nd : Int) + 1)
          have h2 := hkc.out
          show _ ≤ _
          omega
        have hkn : k ≤ n + 1 := by have := hkc.out; omega
        have hTn : T.length ≤ 1000000 := by have := hbfs.out.less; have := KK.out.short; have := HN.out.1; omega
        have hn2 : n ≤ 2000 := by have := KK.out.short; have := HN.out.1; omega
        obtain ⟨w5, hup, hm5, hg5⟩ := hm.out.put HE.out Tryz.underlying3 Tryz.underlying86 (by unfold maxLen; omega) hki (a := (nd : Int) + 1) hd1
        have hwr : w.heap.size ≤ wr.heap.size := hbel.out.size
        have hw35 : w3.heap.size < wr.heap.size := hp.out.lt
        have HM5 := Lib.hid hm5
        have HB5 : Hid (Below w.heap.size w w5) := hbel.out.grown hg5 hwr (fun k hk => by injection hk with hk; omega)
        have HQ5' : Hid (Qu w5 w.heap.size (.slice A4 n4 c4) T) := HQ.out.grown hg5 (fun g cur e => by injection e with e; subst e; exact hm.out.no_row _ _)
        have HP5 : Hid (Blk w5 w3.heap.size 38 #[.int .i64 bx.id, .int .i64 bx.parent, .slice (some ⟨bk, ok, none⟩) nk ck, .string bx.text, .slice Ap np cp]) := hp.out.grown hg5 (fun e => by injection e with e; omega)
        have m0 : wr.cell? ⟨w3.heap.size, 0, none⟩ = some (.int .i64 bx.id) := hp.out.cell 0
        have hw5 : wr.heap.size ≤ w5.heap.size := hg5.size
        have HQ6 : Hid (Qu (w5.alloc (.cells #[.int .i64 kk] 3)) w.heap.size (.slice A4 n4 c4) T) := HQ5'.out.alloc _
        have HC6 : Hid ((w5.alloc (.cells #[.int .i64 kk] 3)).cell? ⟨w5.heap.size, 0, none⟩ = some (.int .i64 kk)) := (Blk.new w5 3 #[.int .i64 kk]).cell 0
        have HB6 : Hid (Below w.heap.size w (w5.alloc (.cells #[.int .i64 kk] 3))) := HB5.out.alloc (Nat.le_trans hwr hw5) _
        clear hf hd hg5 hm5 hcl hnd hbxl
        go_wp2_with (at_builtin; refine wpList_push rfl _ _ rfl HQ6.out (by simp; omega) hTn rfl _ _ kk rfl HC6.out ?_)
        intro v' w6 hq6 hb6 hk6 hs6
        obtain ⟨A6, n6, c6, rfl⟩ := hq6.slice
        have HQ7 := Lib.hid hq6
        have HB7 : Hid (Below w.heap.size w w6) := HB6.out.trans hb6
        have HM7 : Hid (IM w6 bm (k + 1) (putF f kk ((nd : Int) + 1))) := (HM5.out.alloc _).kept3 hk6
        have HP7 : Hid (Blk w6 w3.heap.size 38 #[.int .i64 bx.id, .int .i64 bx.parent, .slice (some ⟨bk, ok, none⟩) nk ck, .string bx.text, .slice Ap np cp]) := (HP5.out.alloc _).kept3 hk6 (by decide)
        clear hq6 hb6 hk6 hs6 hup hlk hl2
        go_wp2_with fail
        go_roundg (nk - (j + 1))
        case measure => omega
        case rel => exact ⟨j + 1, T ++ [kk], _, k + 1, _, _, _, by omega, rfl, by go_num, HQ7.out, HM7, HAD, HB7, HKC2, HP7⟩
end Go.Proofs.YtmkicfjcgbfaaaaGreat
namespace Go.Proofs.YtmkicfjcgbfaaaaGreat
open Go.RowKit

section
variable {w : World} {g cap : Nat} {M : List BK}
theorem set_same {k : Nat} {x : BK} (hx : M[k]? = some x) : M.set k x = M := by
  obtain ⟨hk, rfl⟩ := List.getElem?_eq_some_iff.1 hx
  exact List.set_getElem_self hk
theorem size_put (w : World) (a : Addr) (u : Value) : (w.setCell a u).heap.size = w.heap.size := by simp [World.setCell]
/-- a block stored whole, with other kids' and properties' memory -/
theorem RowB.putKP (h : RowB w g cap M) {k : Nat} {x : BK} {kv pv : Value} (hx : M[k]? = some x) (hk : RInX w (fun b => b < w.heap.size ∧ b ≠ g) kv x.1.kids) (hp : RPrX w (fun b => b < w.heap.size ∧ b ≠ g) pv x.1.props) :
    RowB (((((w.setCell ⟨g, k * 5, none⟩ (.int .i64 x.1.id)).setCell ⟨g, k * 5 + 1, none⟩ (.int .i64 x.1.parent)).setCell ⟨g, k * 5 + 2, none⟩ kv).setCell ⟨g, k * 5 + 3, none⟩ (.string x.1.text)).setCell ⟨g, k * 5 + 4, none⟩ pv) g cap (M.set k (x.1, kv, pv)) := by
  have hm := List.mem_of_getElem? hx
  have hkl := (List.getElem?_eq_some_iff.1 hx).1
  have o : ∀ (w : World) (i : Nat) (u : Value) (p : Addr), p.block ≠ g → (w.setCell ⟨g, i, none⟩ u).cell? p = w.cell? p := fun w i u p hne => World.cell?_setCell_other _ _ p _ (by intro e; subst e; exact hne rfl)
  have s0 := h.store hx (j := 0) (y := x) (u := .int .i64 x.1.id) (by omega) rfl (h.nest x hm)
  rw [set_same hx] at s0
  have s1 := s0.store hx (j := 1) (y := x) (u := .int .i64 x.1.parent) (by omega) rfl (s0.nest x hm)
  rw [set_same hx] at s1
  have s2 := s1.store hx (j := 2) (y := (x.1, kv, x.2.2)) (u := kv) (by omega) rfl ⟨(hk.keep fun p hp => by rw [o _ _ _ _ hp.2, o _ _ _ _ hp.2]).weak fun b hb => ⟨by rw [size_put, size_put]; exact hb.1, hb.2⟩, (s1.nest x hm).2⟩
  have hx2 : (M.set k (x.1, kv, x.2.2))[k]? = some (x.1, kv, x.2.2) := by rw [List.getElem?_set, if_pos rfl, if_pos hkl]
  have s3 := s2.store hx2 (j := 3) (y := (x.1, kv, x.2.2)) (u := .string x.1.text) (by omega) rfl (s2.nest _ (List.mem_of_getElem? hx2))
  rw [set_same hx2] at s3
  have s4 := s3.store hx2 (j := 4) (y := (x.1, kv, pv)) (u := pv) (by omega) rfl ⟨(s3.nest _ (List.mem_of_getElem? hx2)).1, (hp.keep fun p hp => by rw [o _ _ _ _ hp.2, o _ _ _ _ hp.2, o _ _ _ _ hp.2, o _ _ _ _ hp.2]).weak fun b hb => ⟨by rw [size_put, size_put, size_put, size_put]; exact hb.1, hb.2⟩⟩
  rw [List.set_set] at s4
  exact s4
end

theorem blV_one (x : BK) (h1 : ∃ A n c, x.2.1 = .slice A n c) (h2 : ∃ A n c, x.2.2 = .slice A n c) : ∀ v ∈ blV x, v.oneCell' = true := by
  obtain ⟨x, k, p⟩ := x
  obtain ⟨A, n, c, rfl⟩ : ∃ A n c, k = .slice A n c := h1
  obtain ⟨A', n', c', rfl⟩ : ∃ A n c, p = .slice A n c := h2
  intro v hv
  simp only [blV, List.mem_cons, List.not_mem_nil, or_false] at hv
  rcases hv with rfl | rfl | rfl | rfl | rfl <;> rfl
theorem NB_put {w : World} {g : Nat} {S : Nat → Prop} {x : BK} (h : NB w (fun b => (b < w.heap.size ∧ b ≠ g) ∧ S b) x) (i : Nat) (u : Value) : NB (w.setCell ⟨g, i, none⟩ u) (fun b => (b < (w.setCell ⟨g, i, none⟩ u).heap.size ∧ b ≠ g) ∧ S b) x :=
  NB_ok _ _ _ _ x h (fun p hp => World.cell?_setCell_other _ _ p _ (by intro e; subst e; exact hp.1.2 rfl)) fun b hb => ⟨⟨by rw [size_put]; exact hb.1.1, hb.1.2⟩, hb.2⟩
/-- what copyBase leaves, its nested memory new -/
def CopyBaseS (l : List Bl) (w : World) (e : Ending) (w' : World) : Prop := ∃ (g n : Nat) (M : List BK), e = .returned (.slice (some ⟨g, 0, none⟩) n n) ∧ M.length = n ∧ M.map Prod.fst = l ∧ w.heap.size ≤ g ∧ RowS (fun b => w.heap.size ≤ b) w' g n M ∧ Below w.heap.size w w'
/-- what copyBase leaves -/
def CopyBaseR (l : List Bl) (w : World) (e : Ending) (w' : World) : Prop := ∃ (g n : Nat) (M : List BK), e = .returned (.slice (some ⟨g, 0, none⟩) n n) ∧ M.length = n ∧ M.map Prod.fst = l ∧ w.heap.size ≤ g ∧ RowB w' g n M ∧ Below w.heap.size w w'
set_option maxRecDepth 100000 in
set_option maxHeartbeats 4000000 in
/-- tree.copyBase -/
theorem copyBaseS_any (l : List Bl) (A : Option Addr) (n c : Nat) (w : World) (B : Nat) (hB : B ≤ w.heap.size) (h : RB w B (.slice A n c) l) (hn0 : 0 < n) (hn1 : n ≤ 100000) :
    Calls Tryz.prog 62 #[.slice A n c] w (CopyBaseS l w) := by
  obtain ⟨A', n', c', M0, hM, e, hn, hnc, hr, hnest⟩ := h
  injection e with e1 e2 e3
  subst e1 e2 e3
  obtain ⟨i0, hi0, hz0, hz1, hz2⟩ := info_parts block_info
  obtain ⟨ad, rfl, hab, hcells⟩ := hr.2 hn0
  have hcl : (M0.flatMap blV).length = n * 5 := hr.1
  obtain ⟨mk, hmk0⟩ : ∃ mk, mk = madeCells bZ.cells (n * 5) := ⟨_, rfl⟩
  have hmks : mk.size = n * 5 := by rw [hmk0, size_madeCells]
  have hmk : (Instr.makeSlice 22 (.int .i64 (n : Int)) (.int .i64 (n : Int))).run Tryz.prog w = .ok (.slice (some ⟨w.heap.size, 0, none⟩) n n) (w.alloc (.cells mk 38)) := by
    have := run_make (P := Tryz.prog) w 22 38 i0 bZ Tryz.underlying22 hi0 hz0 .i64 .i64 n n (by omega) (Int.le_refl _) (by rw [hz2]; omega) (by omega)
    simp only [Int.toNat_natCast, hz1, ← hmk0] at this
    exact this
  obtain ⟨w1, hw1⟩ : ∃ w1, w1 = w.alloc (.cells mk 38) := ⟨_, rfl⟩
  have hb1 : Below w.heap.size w w1 := by rw [hw1]; exact (Below.refl _ _).alloc (Nat.le_refl _) _
  have hk1 : Blk w1 w.heap.size 38 mk := by rw [hw1]; exact Blk.new w _ _
  obtain ⟨g, hg⟩ : ∃ g, g = w.heap.size := ⟨_, rfl⟩
  rw [← hw1] at hmk
  rw [← hg] at hk1
  have hzz : (Tryz.prog.info? 38).map (·.size) = some 5 := by rw [hi0]; simp [hz1]
  obtain ⟨w2, hw2⟩ : ∃ w2, w2 = w1.setRow g (M0.flatMap blV).toArray := ⟨_, rfl⟩
  have hcp : ∀ ty, (Builtin.copy_ #[22, 22] ty #[.slice (some ⟨g, 0, none⟩) n n, .slice (some ad) n c]).run Tryz.prog w1 = .ok (goInt (Nat.min n n)) w2 := fun ty => by
    have := run_copy_rowN (P := Tryz.prog) w1 22 22 ty 38 g 0 n n ad n c 5 mk 38 (M0.flatMap blV) Tryz.underlying22 hzz hk1 (by rw [hcl]; show _ = min n n * 5; rw [Nat.min_self]) (fun j v hj => by
      rw [hb1.cell (by rw [block_of_add]; omega)]; exact hcells j v hj) (by rw [hcl, hmks]; omega) (fun v hv => by
      obtain ⟨x, hx, hv⟩ := List.mem_flatMap.1 hv
      exact blV_one x (by obtain ⟨A, n, c, e, _⟩ := (hnest x hx).1; exact ⟨A, n, c, e⟩) (hnest x hx).2.slice v hv)
    rw [hcl, List.take_zero, List.nil_append, List.drop_of_length_le (by rw [Array.length_toList, hmks]; omega), List.append_nil, ← hw2] at this
    exact this
  have hR2 : RowB w2 g n M0 := by
    refine ⟨⟨[], by rw [hw2, List.append_nil]; exact setRow_heap w1 g _ _ _ _ hk1, by rw [← hn]; rfl⟩, by unfold maxLen; omega, by omega, fun x hx => ?_⟩
    have hk : ∀ p : Addr, p.block < B → w2.cell? p = w.cell? p := fun p hp => by
      rw [hw2, cell_setRow_other _ _ _ _ (by omega)]; exact hb1.cell (by omega)
    have hsz : w2.heap.size = w1.heap.size := by rw [hw2, setRow_size]
    have hz : w.heap.size ≤ w1.heap.size := hb1.size
    exact ⟨((RInX.of (hnest x hx).1).keep hk).weak fun b hb => ⟨by omega, by omega⟩, ((RPrX.of (hnest x hx).2).keep hk).weak fun b hb => ⟨by omega, by omega⟩⟩
  have HR2 := Lib.hid hR2
  have HB2 : Hid (Below w.heap.size w w2) := by
    show Below _ _ _
    rw [hw2]
    exact ⟨hb1.os, hb1.tape, hb1.output, by rw [setRow_size]; exact hb1.size, fun k hk => (setRow_other _ _ _ _ (by omega)).trans (hb1.block k hk)⟩
  have HML := Lib.hid hM
  have HN := Lib.hid hn
  have HG := Lib.hid hg
  have HGE : Hid (w.heap.size ≤ g) := by show _ ≤ _; omega
  clear hR2 hw2 hk1 hb1 hmks hmk0 hcl hr hnest hcells hM hn hzz hi0 hz0 hz1 hz2 hab
  go_enter Tryz.func62, Tryz.ntmps62
  rw [hg] at hcp
  clear hg hw1
  go_upto_region 2 with fail
  go_wp2_with (at_builtin; refine wpList_copy_runI _ rfl _ _ 22 22 rfl _ _ rfl rfl (hcp _) ?_)
  obtain ⟨gg0, hgg0⟩ : ∃ gg0, gg0 = w.heap.size := ⟨_, rfl⟩
  have HGG := Lib.hid hgg0
  rw [← hgg0]
  clear hgg0 hcp hmk
  go_loopg [13] n (fun gg s13 wr => ∃ (k : Nat) (M : List BK), k + gg = n ∧ s13 = .int .i64 (k : Int) ∧ Hid (M.length = n) ∧ Hid (M.map Prod.fst = l) ∧ Hid (RowB wr gg0 n M) ∧ Hid (Below w.heap.size w wr) ∧ Hid (∀ (j : Nat) (x : BK), j < k → M[j]? = some x → NB wr (fun b => (b < wr.heap.size ∧ b ≠ gg0) ∧ w.heap.size ≤ b) x))
  case atStart => exact ⟨0, M0, by omega, rfl, HN.out.symm, HML, by rw [HGG.out, ← HG.out]; exact HR2, HB2, fun j x hj => by omega⟩
  case round =>
    obtain ⟨k, M, hkg, rfl, hml, hmm, hrow, hbel, hfar⟩ := hrel
    have hgw := hrow.out.lt
    by_cases hk : k < n
    · obtain ⟨⟨x, xk, xp⟩, hx⟩ : ∃ x, M[k]? = some x := ⟨_, List.getElem?_eq_getElem (by have := hml.out; omega)⟩
      have hns := hrow.out.nest _ (List.mem_of_getElem? hx)
      obtain ⟨hnk, hnp⟩ := hns
      obtain ⟨Kx, nx, cx, rfl⟩ : ∃ A n c, xk = .slice A n c := by
        obtain ⟨A, n, c, e, _⟩ := hnk
        exact ⟨A, n, c, e⟩
      obtain ⟨Px, mx, ex, rfl⟩ : ∃ A n c, xp = .slice A n c := (hnp.reads (B := wr.heap.size) fun b hb => hb.1).slice
      have HCB := Lib.hid (copyBlock_any x Kx Px nx cx mx ex wr wr.heap.size (Nat.le_refl _) (hnk.reads fun b hb => hb.1) (hnp.reads fun b hb => hb.1))
      dsimp only [AB] at HCB
      have HX := Lib.hid hx
      have c0 : wr.cell? ⟨gg0, k * 5, none⟩ = some (.int .i64 x.id) := hrow.out.cell (i := 0) hx rfl
      have c1 : wr.cell? ⟨gg0, k * 5 + 1, none⟩ = some (.int .i64 x.parent) := hrow.out.cell hx rfl
      have c2 : wr.cell? ⟨gg0, k * 5 + 2, none⟩ = some (.slice Kx nx cx) := hrow.out.cell hx rfl
      have c3 : wr.cell? ⟨gg0, k * 5 + 3, none⟩ = some (.string x.text) := hrow.out.cell hx rfl
      have c4 : wr.cell? ⟨gg0, k * 5 + 4, none⟩ = some (.slice Px mx ex) := hrow.out.cell hx rfl
      have j0 : (0 : Int) ≤ (k : Int) := by omega
      have j1 : (k : Int) < (n : Int) := by omega
      clear hx hnk hnp
      go_wp2_with fail
      refine HCB.out.mono ?_
      rintro e w3 ⟨⟨K', n', c', P', m', e', rfl, hk', hp'⟩, hb3⟩
      dsimp only [AB]
      have HR3 := Lib.hid (hrow.out.below hb3)
      have HB3 : Hid (Below w.heap.size w w3) := hbel.out.trans (hb3.mono hbel.out.size)
      have HK3 : Hid (RInX w3 (fun b => b < w3.heap.size ∧ b ≠ gg0) (.slice K' n' c') x.kids) := hk'.weak fun b hb => ⟨hb.2, by omega⟩
      have HP3 : Hid (RPrX w3 (fun b => b < w3.heap.size ∧ b ≠ gg0) (.slice P' m' e') x.props) := hp'.weak fun b hb => ⟨hb.2, by omega⟩
      have HF3 : Hid (∀ (j : Nat) (y : BK), j < k → M[j]? = some y → NB w3 (fun b => (b < w3.heap.size ∧ b ≠ gg0) ∧ w.heap.size ≤ b) y) := fun j y hj hy => NB_ok _ _ _ _ y (hfar.out j y hj hy) (fun p hp => hb3.cell hp.1.1) fun b hb => ⟨⟨Nat.lt_of_lt_of_le hb.1.1 hb3.size, hb.1.2⟩, hb.2⟩
      have hzr := hbel.out.size
      have HN3 : Hid (NB w3 (fun b => (b < w3.heap.size ∧ b ≠ gg0) ∧ w.heap.size ≤ b) ((x, Value.slice K' n' c', Value.slice P' m' e') : BK)) := ⟨hk'.weak fun b hb => ⟨⟨hb.2, by omega⟩, by omega⟩, hp'.weak fun b hb => ⟨⟨hb.2, by omega⟩, by omega⟩⟩
      clear hb3 hk' hp' hzr c0 c1 c2 c3 c4
      have c0 : w3.cell? ⟨gg0, k * 5, none⟩ = some (.int .i64 x.id) := HR3.out.cell (i := 0) HX.out rfl
      have c1 : w3.cell? ⟨gg0, k * 5 + 1, none⟩ = some (.int .i64 x.parent) := HR3.out.cell HX.out rfl
      have c2 : w3.cell? ⟨gg0, k * 5 + 2, none⟩ = some (.slice Kx nx cx) := HR3.out.cell HX.out rfl
      have c3 : w3.cell? ⟨gg0, k * 5 + 3, none⟩ = some (.string x.text) := HR3.out.cell HX.out rfl
      have c4 : w3.cell? ⟨gg0, k * 5 + 4, none⟩ = some (.slice Px mx ex) := HR3.out.cell HX.out rfl
      have f0 := HR3.out.frozen (k * 5)
      have f1 := HR3.out.frozen (k * 5 + 1)
      have f2 := HR3.out.frozen (k * 5 + 2)
      have f3 := HR3.out.frozen (k * 5 + 3)
      have f4 := HR3.out.frozen (k * 5 + 4)
      go_wp2_with fail
      go_roundg (n - (k + 1))
      case measure => omega
      case rel =>
        have hge : w.heap.size ≤ gg0 := by rw [HGG.out]; exact Nat.le_refl _
        have hC := HR3.out.putKP HX.out HK3.out HP3.out
        dsimp only at hC
        have hD := ((((HB3.out.setCell (p := ⟨gg0, k * 5, none⟩) hge (.int .i64 x.id)).setCell (p := ⟨gg0, k * 5 + 1, none⟩) hge (.int .i64 x.parent)).setCell (p := ⟨gg0, k * 5 + 2, none⟩) hge (.slice K' n' c')).setCell (p := ⟨gg0, k * 5 + 3, none⟩) hge (.string x.text)).setCell (p := ⟨gg0, k * 5 + 4, none⟩) hge (.slice P' m' e')
        have hA : (M.set k (x, Value.slice K' n' c', Value.slice P' m' e')).length = n := by rw [List.length_set]; exact hml.out
        have hE : (M.set k (x, Value.slice K' n' c', Value.slice P' m' e')).map Prod.fst = l := by
          rw [← hmm.out, List.map_set]
          obtain ⟨hkk, hke⟩ := List.getElem?_eq_some_iff.1 HX.out
          refine List.ext_getElem? fun i => ?_
          rw [List.getElem?_set]
          split
          · rename_i e
            subst e
            rw [if_pos (by rw [List.length_map]; exact hkk), List.getElem?_map, HX.out]; rfl
          · rfl
        have hFF : ∀ (j : Nat) (y : BK), j < k + 1 → (M.set k (x, Value.slice K' n' c', Value.slice P' m' e'))[j]? = some y → NB (((((w3.setCell ⟨gg0, k * 5, none⟩ (.int .i64 x.id)).setCell ⟨gg0, k * 5 + 1, none⟩ (.int .i64 x.parent)).setCell ⟨gg0, k * 5 + 2, none⟩ (.slice K' n' c')).setCell ⟨gg0, k * 5 + 3, none⟩ (.string x.text)).setCell ⟨gg0, k * 5 + 4, none⟩ (.slice P' m' e')) (fun b => (b < (((((w3.setCell ⟨gg0, k * 5, none⟩ (.int .i64 x.id)).setCell ⟨gg0, k * 5 + 1, none⟩ (.int .i64 x.parent)).setCell ⟨gg0, k * 5 + 2, none⟩ (.slice K' n' c')).setCell ⟨gg0, k * 5 + 3, none⟩ (.string x.text)).setCell ⟨gg0, k * 5 + 4, none⟩ (.slice P' m' e')).heap.size ∧ b ≠ gg0) ∧ w.heap.size ≤ b) y := fun j y hj hy => by
          refine NB_put (NB_put (NB_put (NB_put (NB_put ?_ _ _) _ _) _ _) _ _) _ _
          rw [List.getElem?_set] at hy
          split at hy
          · split at hy
            · obtain rfl := Option.some.inj hy
              exact HN3.out
            · cases hy
          · exact HF3.out j y (by omega) hy
        have HFF := Lib.hid hFF
        have HA := Lib.hid hA
        have HC := Lib.hid hC
        have HD := Lib.hid hD
        have HE := Lib.hid hE
        have hs : k + 1 + (n - (k + 1)) = n := by omega
        have hv : Value.int .i64 ((k : Int) + 1) = Value.int .i64 ((k + 1 : Nat) : Int) := by go_num
        exact ⟨k + 1, _, hs, hv, HA, HE, HC, HD, HFF⟩
    · obtain rfl : n = k := by omega
      go_wp2_with fail
      go_ret
      exact ⟨gg0, n, M, rfl, hml.out, hmm.out, by rw [HGG.out]; exact Nat.le_refl _, ⟨hrow.out, fun y hy => by
        obtain ⟨j, hj⟩ := List.mem_iff_getElem?.1 hy
        have hjl := (List.getElem?_eq_some_iff.1 hj).1
        exact hfar.out j y (by have := hml.out; omega) hj⟩, hbel.out⟩
/-- tree.copyBase -/
theorem copyBase_any (l : List Bl) (A : Option Addr) (n c : Nat) (w : World) (B : Nat) (hB : B ≤ w.heap.size) (h : RB w B (.slice A n c) l) (hn0 : 0 < n) (hn1 : n ≤ 100000) :
    Calls Tryz.prog 62 #[.slice A n c] w (CopyBaseR l w) := by
  refine (copyBaseS_any l A n c w B hB h hn0 hn1).mono ?_
  rintro e w' ⟨g, n, M, h1, h2, h3, h4, h5, h6⟩
  exact ⟨g, n, M, h1, h2, h3, h4, h5.toRowB, h6⟩
end Go.Proofs.YtmkicfjcgbfaaaaGreat
namespace Go.Proofs.YtmkicfjcgbfaaaaGreat
open Go.RowKit

set_option maxHeartbeats 400000 in
theorem moves1_any : IdCl 48 := fun x Kx Px nx cx mx ex P id w hP hc => by
  have hc' : ∀ o, (w.alloc o).cell? ⟨P, 0, none⟩ = some (.int .i64 id) := fun o => (World.cell?_alloc_lt _ _ _ hP).trans hc
  dsimp only [AB]
  go_enter Tryz.func48, Tryz.ntmps48
  go_wp2_with fail
  go_ret
  exact ⟨rfl, (Below.refl _ _).alloc (Nat.le_refl _) _⟩
set_option maxHeartbeats 1000000 in
/-- slices.ContainsFunc at blocks, with a closure that looks for an id -/
theorem containsF_any (g : Nat) (hg : IdCl g) (hent : ∀ args w, (callFunc g args).run Tryz.prog w = .ok (.enter g args) w) (l : List Bl) (A : Option Addr) (n c P : Nat) (id : Int) (w : World) (B : Nat) (hB : B ≤ w.heap.size) (hP : P < w.heap.size) (hPc : w.cell? ⟨P, 0, none⟩ = some (.int .i64 id)) (h : RB w B (.slice A n c) l) :
    Calls Tryz.prog 47 #[.slice A n c, .func (.func g) #[] #[.pointer (some ⟨P, 0, none⟩)]] w fun e w' => e = .returned (.bool (decide (0 ≤ posOf l id))) ∧ Below w.heap.size w w' := by
  have HIX := Lib.hid (indexF_any g hg hent l A n c P id w B hB hP hPc h)
  obtain ⟨q, hq⟩ : ∃ q, q = posOf l id := ⟨_, rfl⟩
  rw [← hq] at HIX ⊢
  clear hq h hPc hg hent
  go_enter Tryz.func47, Tryz.ntmps47
  go_wp2_with fail
  refine HIX.out.mono ?_
  rintro e w1 ⟨rfl, hb⟩
  have HB := Lib.hid hb
  clear hb
  go_wp2_with fail
  go_ret
  exact ⟨rfl, HB.out⟩
end Go.Proofs.YtmkicfjcgbfaaaaGreat
