/-
  DERIVED. The walk of tree.depths. Conditions: sizes; a base whose kids are right.
  The walk of tree.copyBlock. Conditions: sizes.
  By an AI agent.
-/
import Derived.Test.YtmkicfjcgbfaaaaGreatTg05
import Derived.Test.YtmkicfjcgbfaaaaGreatTg07
import Derived.Test.YtmkicfjcgbfaaaaGreatTg08
import Derived.Carry
import Derived.Test.YtmkicfjcgbfaaaaGreatTg13
import Derived.Test.YtmkicfjcgbfaaaaGreatTg11
import Derived.Test.YtmkicfjcgbfaaaaGreatTg04
namespace Go.Proofs.YtmkicfjcgbfaaaaGreat
open Go.RowKit

theorem int_zero : ∀ w, (zeroValue 3).run Tryz.prog w = .ok (.int .i64 0) w := fun w => Tryz.zeroValue3 w
theorem wpList_push {w : World} {base : Nat} {v : Value} {T : List Int} {ops : Array Oper} {rest : List Oper} {o : Oper} {a : Act} {Q : Exit → Act → World → Prop} (hgd : o.guard = none) (s x : Operand)
    (ho : o.op = .call { callee := .builtin .append, args := #[s, x], argTypes := #[34, 34] }) (h : Qu w base v T) (hb : base ≤ w.heap.size) (hn : T.length ≤ 1000000) (hs : a.eval s = v) (ad : Addr) (c : Nat) (y : Int) (hx : a.eval x = .slice (some ad) 1 c) (hc : w.cell? ad = some (.int .i64 y))
    (hK : ∀ v' w', Qu w' base v' (T ++ [y]) → Below base w w' → Kept3 w w' → w.heap.size ≤ w'.heap.size → wpList Tryz.prog ops Q rest (a.put o.dst v') w') : wpList Tryz.prog ops Q (o :: rest) a w :=
  wpList_plain hgd fun _ hK' => by
    obtain ⟨v', w', hrun, h2, h3, h4, h5⟩ := h.push hb hn hc o.type
    unfold Oper.wp execOp
    simp only [ho, resolve, invoke, builtin, Sem.run_bind, Sem.run_pure, Result.andThen_ok, List.map_toArray, List.map_cons, List.map_nil, hs, hx]
    rw [hrun]
    exact hK' _ _ (hK v' w' h2 h3 h4 h5)
theorem MapIn.no_row {P : Program} {k e : TypeId} {α : Type} {lt : α → DU} {w : World} {b n : Nat} {f : Int → Option α} (h : MapIn P k e lt w b n f) (cur : Array Value) (t : TypeId) : w.heap[b]? ≠ some (.cells cur t (0, 0)) := by
  obtain ⟨D, ⟨es, clock, h1, h2⟩, h3⟩ := h
  rw [h1]
  intro e
  injection e with e
  cases e
theorem IdsIn.i64 {l : List Bl} (h : IdsIn l) {x : Bl} (hx : x ∈ l) : I64 x.id := by
  have := h x hx
  unfold I64
  omega

abbrev IM (w : World) (b n : Nat) (f : Int → Option Int) : Prop := MapIn Tryz.prog 3 3 (fun x => .lit (.int .i64 x)) w b n f
/-- what depths returns -/
def DepR (l : List Bl) (e : Ending) (w : World) : Prop := ∃ b n f, e = .returned (.map (some b)) ∧ IM w b n f ∧ IsDep l f
/-- a queue in a slot -/
def QS (w : World) (base : Nat) (s : Value) (T : List Int) : Prop := Qu w base s T

set_option maxHeartbeats 4000000 in
theorem depths_any (l : List Bl) (A : Option Addr) (n c : Nat) (w : World) (B : Nat) (hB : B ≤ w.heap.size) (h : RB w B (.slice A n c) l) (K : Kids l) :
    Calls Tryz.prog 59 #[.slice A n c] w fun e w' => DepR l e w' ∧ Below w.heap.size w w' := by
  have HN := Lib.hid h.len
  have HI := Lib.hid fun (id : Int) W (hid : I64 id) (hW : Below w.heap.size w W) => index_any l A n c id W B (Nat.le_trans hB hW.size) (h.below (hW.mono hB)) K.rise K.ids hid
  have H := Lib.hid h
  have HE := Lib.hid (intElem (P := Tryz.prog) (e := 3) Tryz.underlying3 int_zero)
  have hmm : (Instr.makeMap 86 none).run Tryz.prog w = .ok (.map (some w.heap.size)) (w.alloc (.map #[] 0)) := run_makeMap _ w
  have hM0 : IM (w.alloc (.map #[] 0)) w.heap.size 0 (fun _ => none) := MapIn.made w
  have z00 : I64 0 := by unfold I64; omega
  obtain ⟨W1, hup, hm1, hg1⟩ := hM0.put HE.out Tryz.underlying3 Tryz.underlying86 (by unfold maxLen; omega) z00 (a := 0) z00
  have HM1 : Hid (IM W1 w.heap.size 1 (fun id => if id = 0 then some 0 else none)) := hm1
  have HB1 : Hid (Below w.heap.size w W1) := ((Below.refl _ _).alloc (Nat.le_refl _) (.map #[] 0)).grown hg1 (by simp) (fun k hk => by injection hk with hk; omega)
  have HQ := Lib.hid (Qu.start W1 HB1.out.size 0)
  obtain ⟨bm, hbm⟩ : ∃ bm, bm = w.heap.size := ⟨_, rfl⟩
  have hbw : w.heap.size ≤ bm := by omega
  rw [← hbm] at hup HM1 hmm
  have HBM := Lib.hid hbm
  have KK := Lib.hid K
  clear h hM0 hm1 hg1 hbm K
  go_enter Tryz.func59, Tryz.ntmps59
  go_wp2_with fail
  go_loopg [4] (n + 1) (fun gg s4 wr => ∃ (T : List Int) (f : Int → Option Int) (k m : Nat) (A4 : Option Addr) (n4 c4 : Nat), s4 = .slice A4 n4 c4 ∧ QS wr w.heap.size (.slice A4 n4 c4) T ∧ Hid (IM wr bm k f) ∧ Hid (Bfs l f T none m) ∧ Hid (Below w.heap.size w wr) ∧ Hid (k + cntF l f ≤ n + 1) ∧ m ≤ gg ∧ m ≤ n + 1)
  case atStart =>
    refine ⟨[0], _, 1, n + 1, _, _, _, rfl, HQ.out, HM1.out.alloc _, ?_, HB1.out.alloc HB1.out.size _, ?_, Nat.le_refl _, Nat.le_refl _⟩
    · show Bfs _ _ _ _ _
      rw [HN.out.1]; exact Bfs.start KK.out
    · show 1 + cntF _ _ ≤ _
      have := cntF_le l (fun id => if id = 0 then some 0 else none)
      have := HN.out.1
      omega
  case round =>
    obtain ⟨T, f, k, m1, A4, n4, c4, rfl, hq, hm, hbfs, hbel, hkc, hmg, hgn⟩ := hrel
    obtain ⟨W2, rfl⟩ : ∃ W2, W2 = wr := ⟨_, rfl⟩
    have hq : Qu W2 w.heap.size (.slice A4 n4 c4) T := hq
    rcases T with _ | ⟨x, T⟩
    · have hl := hq.len
      obtain rfl : n4 = 0 := hl.1
      have HR : Hid (DepR l (.returned (.map (some bm))) W2) := ⟨bm, k, f, rfl, hm.out, hbfs.out.isDep KK.out⟩
      clear hq hl
      go_wp2_with fail
      go_ret
      exact ⟨HR.out, hbel.out⟩
    obtain ⟨g, off, rfl, hn4, hnc4, hgl, hcx, hp1, hp2⟩ := hq.pop
    obtain ⟨m, rfl⟩ : ∃ m, m1 = m + 1 := ⟨m1 - 1, by have := hbfs.out.less; simp at this; omega⟩
    obtain ⟨dx, hdx⟩ := hbfs.out.queue x (by simp)
    obtain ⟨nx, _, hDx, _⟩ := hbfs.out.sound x dx hdx
    obtain ⟨bx, hbx, hbi⟩ := hDx.mem KK.out
    obtain ⟨p, hpl, hpe⟩ := List.mem_iff_getElem.1 hbx
    have hlp : l[p]? = some bx := by rw [List.getElem?_eq_getElem hpl, hpe]
    have hpos : posOf l x = (p : Int) := by rw [← hbi]; exact posOf_of KK.out.rise hlp
    have HX := HI.out x W2 (hbi ▸ KK.out.ids.i64 hbx) hbel.out
    rw [hpos] at HX
    have HX := Lib.hid HX
    have HPOP : Hid (Bfs l f T (some (bx, 0)) m) := hbfs.out.pop hbx hbi
    obtain ⟨b, o5, Ak, nk, ck, Ap, np, cp, rfl, hbb, g0, g1, g2, g3, g4, hK, _⟩ := H.out.at_ hlp
    have HK := Lib.hid hK
    have HKL := Lib.hid hK.len
    have hpn : p < n := by have := HN.out.1; omega
    have i0 : (0 : Int) ≤ (p : Int) := by omega
    have i1 : (p : Int) < (n : Int) := by omega
    have hn40 : 0 < n4 := by omega
    have P1 := Lib.hid hp1
    have P2 := Lib.hid hp2
    have hw2 : w.heap.size ≤ W2.heap.size := hbel.out.size
    have hbm2 : bm < W2.heap.size := hm.out.lt_
    have HHQ := Lib.hid hq
    have hl1 : n4 - 1 = T.length := by omega
    have HL1 := Lib.hid hl1
    clear hq hp1 hp2 hdx hDx hbx hbi hpl hpe hlp hpos hK hn4 hl1
    go_wp2_with fail
    refine HX.out.mono ?_
    rintro e w3 ⟨rfl, hb⟩
    have HB3 : Hid (Below w.heap.size w w3) := hbel.out.trans (hb.mono hw2)
    have c0 := (HB3.out.cell (p := ⟨b, o5 + p * 5, none⟩) (by show b < _; omega)).trans g0
    have c1 := (HB3.out.cell (p := ⟨b, o5 + p * 5 + 1, none⟩) (by show b < _; omega)).trans g1
    have c2 := (HB3.out.cell (p := ⟨b, o5 + p * 5 + 2, none⟩) (by show b < _; omega)).trans g2
    have c3 := (HB3.out.cell (p := ⟨b, o5 + p * 5 + 3, none⟩) (by show b < _; omega)).trans g3
    have c5 := (HB3.out.cell (p := ⟨b, o5 + p * 5 + 4, none⟩) (by show b < _; omega)).trans g4
    have hw3 : W2.heap.size ≤ w3.heap.size := hb.size
    have HM3 := Lib.hid (hm.out.below hb hbm2)
    have HQ1 : Hid (c4 = 1 → Qu w3 w.heap.size (.slice (some ⟨g, off, none⟩) (n4 - 1) (c4 - 1)) T) := fun e => (P1.out e).below hb
    have HQ2 : Hid (c4 ≠ 1 → Qu w3 w.heap.size (.slice (some ⟨g, off + 1, none⟩) (n4 - 1) (c4 - 1)) T) := fun e => (P2.out e).below hb
    clear hb g0 g1 g2 g3 g4
    obtain ⟨W4, hW4⟩ : ∃ W4, W4 = w3.alloc (.cells #[.int .i64 bx.id, .int .i64 bx.parent, .slice Ak nk ck, .string bx.text, .slice Ap np cp] 38) := ⟨_, rfl⟩
    have p0 : Blk W4 w3.heap.size 38 #[.int .i64 bx.id, .int .i64 bx.parent, .slice Ak nk ck, .string bx.text, .slice Ap np cp] := by rw [hW4]; exact Blk.new w3 _ _
    have HM4 : Hid (IM W4 bm k f) := by rw [hW4]; exact HM3.out.alloc _
    have HB4 : Hid (Below w.heap.size w W4) := by rw [hW4]; exact HB3.out.alloc HB3.out.size _
    have HQ3 : Hid (∀ v, Qu w3 w.heap.size v T → Qu W4 w.heap.size v T) := fun v hv => by rw [hW4]; exact hv.alloc _
    have HP0 := Lib.hid p0
    have m2 : W4.cell? ⟨w3.heap.size, 2, none⟩ = some (.slice Ak nk ck) := p0.cell 2
    have hbm3 : bm < w3.heap.size := by omega
    have HW4 := Lib.hid hW4
    clear hW4 p0
    go_upto_region 5 with fail
    rw [← HW4.out]
    go_cut [4] (fun s4 wc => ∃ A' n' c', s4 = .slice A' n' c' ∧ QS W4 w.heap.size (.slice A' n' c') T ∧ W4 = wc)
    case first =>
      by_cases hc4 : c4 = 1
      · subst hc4
        obtain rfl : n4 = 1 := by omega
        have HQ' := Lib.hid (HQ3.out _ (HQ1.out rfl))
        go_wp2_with fail
        go_meet
        exact ⟨_, _, _, rfl, HQ'.out, rfl⟩
      · have HQ' := Lib.hid (HQ3.out _ (HQ2.out hc4))
        have hc4' : ¬ c4 ≤ 1 := by omega
        have hc4'' : (1 : Int) ≤ (n4 : Int) := by omega
        go_wp2_with fail
        go_meet
        exact ⟨_, _, _, rfl, HQ'.out, rfl⟩
    case rest =>
    obtain ⟨A', n', c', rfl, hq', rfl⟩ := hcut
    have HQ5 : Hid (Qu W4 w.heap.size (.slice A' n' c') T) := hq'
    have HKC := Lib.hid hkc.out
    clear hq'
    go_wp2_with fail
    go_loopg [4, 29] nk (fun gg s4 s29 wr => ∃ (j : Nat) (T : List Int) (f : Int → Option Int) (k : Nat) (A4 : Option Addr) (n4 c4 : Nat), j + gg = nk ∧ s4 = .slice A4 n4 c4 ∧ s29 = .int .i64 (j : Int) ∧ QS wr w.heap.size (.slice A4 n4 c4) T ∧ Hid (IM wr bm k f) ∧ Hid (Bfs l f T (some (bx, j)) m) ∧ Hid (Below w.heap.size w wr) ∧ Hid (k + cntF l f ≤ n + 1) ∧ Hid (Blk wr w3.heap.size 38 #[.int .i64 bx.id, .int .i64 bx.parent, .slice Ak nk ck, .string bx.text, .slice Ap np cp]))
    case atStart => exact ⟨0, T, f, k, _, _, _, by omega, rfl, rfl, HQ5.out, HM4, HPOP, HB4, HKC, HP0⟩
    case round =>
      obtain ⟨j, T, f, k, A4, n4, c4, hjg, rfl, rfl, hq, hm, hbfs, hbel, hkc, hp⟩ := hrel
      have hq : Qu wr w.heap.size (.slice A4 n4 c4) T := hq
      have HQ := Lib.hid hq
      clear hq
      have hbk : nk ≤ ck ∧ nk * 8 ≤ 140737488351232 := HKL.out.2
      by_cases hj : j < nk
      case neg =>
        obtain rfl : j = nk := by omega
        have HD : Hid (Bfs l f T none m) := hbfs.out.done (by rw [← HKL.out.1]; exact Nat.le_refl _) KK.out
        go_wp2_with fail
        go_roundg m
        case measure => omega
        case rel => exact ⟨T, f, k, m, _, _, _, rfl, HQ.out, hm, HD, hbel, hkc, Nat.le_refl _, by omega⟩
      obtain ⟨kk, hkk⟩ : ∃ k, bx.kids[j]? = some k := ⟨_, List.getElem?_eq_getElem (by have := HKL.out.1; omega)⟩
      have hki : I64 kk := HK.out.i64 (List.mem_of_getElem? hkk)
      obtain ⟨bk, ok, rfl, hbk2, q0⟩ := HK.out.at_ hkk
      have q0 := (hbel.out.cell (p := ⟨bk, ok + j, none⟩) (by show bk < _; omega)).trans q0
      have z0 : (0 : Int) ≤ (j : Int) := by omega
      have z1 : (j : Int) < (nk : Int) := by omega
      have hlk := hm.out.look_ok HE.out Tryz.underlying3 Tryz.underlying86 hki
      have HKK := Lib.hid hkk
      clear hkk
      cases hf : f kk with
      | some d =>
        rw [hf] at hlk
        dsimp only [Option.getD_some, Option.isSome_some] at hlk
        have HS := Lib.hid (hbfs.out.skip HKK.out hf)
        clear hf
        go_wp2_with fail
        go_roundg (nk - (j + 1))
        case measure => omega
        case rel => exact ⟨j + 1, T, f, k, _, _, _, by omega, rfl, by go_num, HQ.out, hm, HS, hbel, hkc, hp⟩
      | none =>
        rw [hf] at hlk
        dsimp only [Option.getD_none, Option.isSome_none] at hlk
        obtain ⟨hbxl, ⟨d, hd⟩, _⟩ := hbfs.out.now bx j rfl
        obtain ⟨nd, rfl, _, hnd⟩ := hbfs.out.sound _ _ hd
        have hdn : nd ≤ 2000 := by have := KK.out.short; omega
        have hl2 := hm.out.look HE.out Tryz.underlying3 Tryz.underlying86 (KK.out.ids.i64 hbxl)
        rw [hd] at hl2
        dsimp only [Option.getD_some] at hl2
        have hd1 : I64 ((nd : Int) + 1) := by unfold I64; omega
        have hcl := cntF_le l f
        have HAD := Lib.hid (hbfs.out.add KK.out HKK.out hf hd)
        have HKC2 : Hid (k + 1 + cntF l (putF f kk ((nd : Int) + 1)) ≤ n + 1) := by
          have h1 := hbfs.out.cnt KK.out HKK.out hf ((nd : Int) + 1)
          have h2 := hkc.out
          show _ ≤ _
          omega
        have hkn : k ≤ n + 1 := by have := hkc.out; omega
        have hTn : T.length ≤ 1000000 := by have := hbfs.out.less; have := KK.out.short; have := HN.out.1; omega
        have hn2 : n ≤ 2000 := by have := KK.out.short; have := HN.out.1; omega
        obtain ⟨w5, hup, hm5, hg5⟩ := hm.out.put HE.out Tryz.underlying3 Tryz.underlying86 (by unfold maxLen; omega) hki (a := (nd : Int) + 1) hd1
        have hwr : w.heap.size ≤ wr.heap.size := hbel.out.size
        have hw35 : w3.heap.size < wr.heap.size := hp.out.lt
        have HM5 := Lib.hid hm5
        have HB5 : Hid (Below w.heap.size w w5) := hbel.out.grown hg5 hwr (fun k hk => by injection hk with hk; omega)
        have HQ5' : Hid (Qu w5 w.heap.size (.slice A4 n4 c4) T) := HQ.out.grown hg5 (fun g cur e => by injection e with e; subst e; exact hm.out.no_row _ _)
        have HP5 : Hid (Blk w5 w3.heap.size 38 #[.int .i64 bx.id, .int .i64 bx.parent, .slice (some ⟨bk, ok, none⟩) nk ck, .string bx.text, .slice Ap np cp]) := hp.out.grown hg5 (fun e => by injection e with e; omega)
        have m0 : wr.cell? ⟨w3.heap.size, 0, none⟩ = some (.int .i64 bx.id) := hp.out.cell 0
        have hw5 : wr.heap.size ≤ w5.heap.size := hg5.size
        have HQ6 : Hid (Qu (w5.alloc (.cells #[.int .i64 kk] 3)) w.heap.size (.slice A4 n4 c4) T) := HQ5'.out.alloc _
        have HC6 : Hid ((w5.alloc (.cells #[.int .i64 kk] 3)).cell? ⟨w5.heap.size, 0, none⟩ = some (.int .i64 kk)) := (Blk.new w5 3 #[.int .i64 kk]).cell 0
        have HB6 : Hid (Below w.heap.size w (w5.alloc (.cells #[.int .i64 kk] 3))) := HB5.out.alloc (Nat.le_trans hwr hw5) _
        clear hf hd hg5 hm5 hcl hnd hbxl
        go_wp2_with (at_builtin; refine wpList_push rfl _ _ rfl HQ6.out (by simp; omega) hTn rfl _ _ kk rfl HC6.out ?_)
        intro v' w6 hq6 hb6 hk6 hs6
        obtain ⟨A6, n6, c6, rfl⟩ := hq6.slice
        have HQ7 := Lib.hid hq6
        have HB7 : Hid (Below w.heap.size w w6) := HB6.out.trans hb6
        have HM7 : Hid (IM w6 bm (k + 1) (putF f kk ((nd : Int) + 1))) := (HM5.out.alloc _).kept3 hk6
        have HP7 : Hid (Blk w6 w3.heap.size 38 #[.int .i64 bx.id, .int .i64 bx.parent, .slice (some ⟨bk, ok, none⟩) nk ck, .string bx.text, .slice Ap np cp]) := (HP5.out.alloc _).kept3 hk6 (by decide)
        clear hq6 hb6 hk6 hs6 hup hlk hl2
        go_wp2_with fail
        go_roundg (nk - (j + 1))
        case measure => omega
        case rel => exact ⟨j + 1, T ++ [kk], _, k + 1, _, _, _, by omega, rfl, by go_num, HQ7.out, HM7, HAD, HB7, HKC2, HP7⟩
end Go.Proofs.YtmkicfjcgbfaaaaGreat
namespace Go.Proofs.YtmkicfjcgbfaaaaGreat
open Go.RowKit

/-- what copying a block leaves -/
def CopyBR (x : Bl) (w : World) (e : Ending) (w' : World) : Prop := (∃ Kx nx cx Px mx ex, e = .returned (AB (x, .slice Kx nx cx, .slice Px mx ex)) ∧ RInX w' (fun b => w.heap.size ≤ b ∧ b < w'.heap.size) (.slice Kx nx cx) x.kids ∧ RPrX w' (fun b => w.heap.size ≤ b ∧ b < w'.heap.size) (.slice Px mx ex) x.props) ∧ Below w.heap.size w w'
set_option maxRecDepth 100000 in
set_option maxHeartbeats 4000000 in
/-- tree.copyBlock -/
theorem copyBlock_any (x : Bl) (Kx Px : Option Addr) (nx cx mx ex : Nat) (w : World) (B : Nat) (hB : B ≤ w.heap.size) (h1 : RIn w B (.slice Kx nx cx) x.kids) (h2 : RPr w B (.slice Px mx ex) x.props) :
    Calls Tryz.prog 134 #[AB (x, .slice Kx nx cx, .slice Px mx ex)] w (CopyBR x w) := by
  obtain ⟨wb, hwb⟩ : ∃ wb, wb = (w.alloc (.cells #[.int .i64 x.id, .int .i64 x.parent, .slice Kx nx cx, .string x.text, .slice Px mx ex] 38)).alloc (.cells #[.int .i64 0, .int .i64 0, .slice none 0 0, .string ⟨#[]⟩, .slice none 0 0] 38) := ⟨_, rfl⟩
  have hbb : Below w.heap.size w wb := by rw [hwb]; exact ((Below.refl _ _).alloc (Nat.le_refl _) _).alloc (by simp) _
  have p0 : Blk wb w.heap.size 38 #[.int .i64 x.id, .int .i64 x.parent, .slice Kx nx cx, .string x.text, .slice Px mx ex] := by rw [hwb]; exact (Blk.new w _ _).alloc _
  have p1 : Blk wb (w.heap.size + 1) 38 #[.int .i64 0, .int .i64 0, .slice none 0 0, .string ⟨#[]⟩, .slice none 0 0] := by
    rw [hwb]
    have h := Blk.new (w.alloc (.cells #[.int .i64 x.id, .int .i64 x.parent, .slice Kx nx cx, .string x.text, .slice Px mx ex] 38)) 38 #[.int .i64 0, .int .i64 0, .slice none 0 0, .string ⟨#[]⟩, .slice none 0 0]
    simpa only [World.size_alloc] using h
  have hzb : wb.heap.size = w.heap.size + 2 := by rw [hwb]; simp
  have HCK := Lib.hid (cloneI_any Kx nx cx x.kids wb B (h1.below (hbb.mono hB)))
  have HCP := Lib.hid fun W (hW : Below w.heap.size w W) => copyProps_any Px mx ex x.props W B (Nat.le_trans hB hW.size) (h2.below (hW.mono hB))
  have HBB := Lib.hid hbb
  have HWB := Lib.hid hwb
  have HZB := Lib.hid hzb
  have P0 := Lib.hid p0
  have P1 := Lib.hid p1
  have e2 : wb.cell? ⟨w.heap.size, 2, none⟩ = some (.slice Kx nx cx) := p0.cell 2
  clear h1 h2 hbb hwb hzb p0 p1
  dsimp only [AB]
  go_enter Tryz.func134, Tryz.ntmps134
  go_upto_region 1 with fail
  rw [← HWB.out]
  go_wp2_with fail
  refine HCK.out.mono ?_
  rintro e w1 ⟨⟨A1, n1, c1, rfl, hn1, _, hr1, hc1⟩, hb1⟩
  have HCL := Lib.hid (clipI_any A1 n1 c1 w1 hc1 hn1)
  have HB1 : Hid (Below w.heap.size w w1) := HBB.out.trans (hb1.mono HBB.out.size)
  have hz1 : w.heap.size + 2 ≤ w1.heap.size := by have := hb1.size; have := HZB.out; omega
  have q0 := P0.out.below hb1 (by have := HZB.out; omega)
  have q1 := P1.out.below hb1 (by have := HZB.out; omega)
  have HR1 : Hid (RInX w1 (fun b => w.heap.size + 2 ≤ b ∧ b < w1.heap.size) (.slice A1 n1 n1) x.kids) := hr1.weak fun b hb => ⟨by have := HZB.out; omega, hb.2⟩
  have Q0 := Lib.hid q0
  have Q1 := Lib.hid q1
  have k2 := q0.cell 2
  have f2 := q0.frozen 2
  clear hn1 hr1 hc1 hb1 q0 q1 e2
  go_wp2_with fail
  refine HCL.out.mono ?_
  rintro e w2 ⟨rfl, rfl⟩
  obtain ⟨w3, hw3⟩ : ∃ w3, w3 = w2.setCell ⟨w.heap.size, 2, none⟩ (.slice A1 n1 n1) := ⟨_, rfl⟩
  have r0 : Blk w3 w.heap.size 38 #[.int .i64 x.id, .int .i64 x.parent, .slice A1 n1 n1, .string x.text, .slice Px mx ex] := by rw [hw3]; exact Q0.out.set_ 2 _
  have r1 : Blk w3 (w.heap.size + 1) 38 #[.int .i64 0, .int .i64 0, .slice none 0 0, .string ⟨#[]⟩, .slice none 0 0] := by rw [hw3]; exact Q1.out.far (p := ⟨w.heap.size, 2, none⟩) (by show w.heap.size + 1 ≠ w.heap.size; omega) _
  have HB3 : Hid (Below w.heap.size w w3) := by rw [hw3]; exact HB1.out.setCell (p := ⟨w.heap.size, 2, none⟩) (Nat.le_refl _) _
  have hz3 : w3.heap.size = w2.heap.size := by rw [hw3]; simp [World.setCell]
  have HR3 : Hid (RInX w3 (fun b => w.heap.size + 2 ≤ b ∧ b < w3.heap.size) (.slice A1 n1 n1) x.kids) := by
    show RInX _ _ _ _
    rw [hz3]
    exact HR1.out.keep fun p hp => by rw [hw3]; exact World.cell?_setCell_other _ _ _ _ (by intro e; subst e; have := hp.1; simp at this; omega)
  have HCX := Lib.hid (HCP.out w3 HB3.out)
  have R0 := Lib.hid r0
  have R1 := Lib.hid r1
  have k4 := r0.cell 4
  have HW3 := Lib.hid hw3
  clear r0 r1 hw3
  go_upto_region 2 with fail
  rw [← HW3.out]
  clear k2 f2
  go_wp2_with fail
  refine HCX.out.mono ?_
  rintro e w4 ⟨⟨A4, n4, c4, rfl, hr4⟩, hb4⟩
  have hz4 : w3.heap.size ≤ w4.heap.size := hb4.size
  have hp0 := R0.out.below hb4 (by omega)
  have hp1 := R1.out.below hb4 (by omega)
  have HB4 : Hid (Below w.heap.size w w4) := HB3.out.trans (hb4.mono HB3.out.size)
  have HR4 : Hid (RInX w4 (fun b => w.heap.size + 2 ≤ b ∧ b < w4.heap.size) (.slice A1 n1 n1) x.kids) := (HR3.out.keep fun p hp => hb4.cell hp.2).weak fun b hb => ⟨hb.1, by omega⟩
  have HRP : Hid (RPrX w4 (fun b => w.heap.size + 2 ≤ b ∧ b < w4.heap.size) (.slice A4 n4 c4) x.props) := hr4.weak fun b hb => ⟨by omega, hb.2⟩
  have e0 := fun i => hp0.cell i
  have f0 := fun i => hp0.frozen i
  have e1 := fun i => hp1.cell i
  have f1 := fun i => hp1.frozen i
  have HP1 := Lib.hid hp1
  clear hr4 hb4 k4 hp0 hp1
  go_wp2_with fail
  have PF := (((((HP1.out.far (p := ⟨w.heap.size, 4, none⟩) (by show w.heap.size + 1 ≠ w.heap.size; omega) (.slice A4 n4 c4)).set_ 0 (.int .i64 x.id)).set_ 1 (.int .i64 x.parent)).set_ 2 (.slice A1 n1 n1)).set_ 3 (.string x.text)).set_ 4 (.slice A4 n4 c4)
  have HBF : Below w.heap.size w _ := (((((HB4.out.setCell (p := ⟨w.heap.size, 4, none⟩) (Nat.le_refl _) (.slice A4 n4 c4)).setCell (p := ⟨w.heap.size + 1, 0, none⟩) (Nat.le_succ _) (.int .i64 x.id)).setCell (p := ⟨w.heap.size + 1, 1, none⟩) (Nat.le_succ _) (.int .i64 x.parent)).setCell (p := ⟨w.heap.size + 1, 2, none⟩) (Nat.le_succ _) (.slice A1 n1 n1)).setCell (p := ⟨w.heap.size + 1, 3, none⟩) (Nat.le_succ _) (.string x.text)).setCell (p := ⟨w.heap.size + 1, 4, none⟩) (Nat.le_succ _) (.slice A4 n4 c4)
  obtain ⟨F, hF⟩ : ∃ F, F = ((((((w4.setCell ⟨w.heap.size, 4, none⟩ (.slice A4 n4 c4)).setCell ⟨w.heap.size + 1, 0, none⟩ (.int .i64 x.id)).setCell ⟨w.heap.size + 1, 1, none⟩ (.int .i64 x.parent)).setCell ⟨w.heap.size + 1, 2, none⟩ (.slice A1 n1 n1)).setCell ⟨w.heap.size + 1, 3, none⟩ (.string x.text)).setCell ⟨w.heap.size + 1, 4, none⟩ (.slice A4 n4 c4)) := ⟨_, rfl⟩
  rw [← hF] at PF HBF ⊢
  have hFk : ∀ p : Addr, w.heap.size + 2 ≤ p.block → F.cell? p = w4.cell? p := fun p h1 => by
    rw [hF]
    repeat rw [World.cell?_setCell_other _ _ p _ (by intro e; subst e; dsimp only at h1; omega)]
  have hFs : F.heap.size = w4.heap.size := by rw [hF]; simp [World.setCell]
  have r0 := PF.cell 0
  have r1 := PF.cell 1
  have r2 := PF.cell 2
  have r3 := PF.cell 3
  have r4 := PF.cell 4
  refine bodyPost_ret (v := AB (x, .slice A1 n1 n1, .slice A4 n4 c4)) (by simp [results, Tryz.results134, go_sem, r0, r1, r2, r3, r4, AB]) rfl ⟨⟨A1, n1, n1, A4, n4, c4, rfl, ?_, ?_⟩, HBF⟩
  · exact (HR4.out.keep (fun p hp => hFk p hp.1)).weak fun b hb => ⟨by omega, by rw [hFs]; exact hb.2⟩
  · exact (HRP.out.keep (fun p hp => hFk p hp.1)).weak fun b hb => ⟨by omega, by rw [hFs]; exact hb.2⟩
end Go.Proofs.YtmkicfjcgbfaaaaGreat
