/-
  DERIVED. The walk of tree.depths. Conditions: sizes; a base whose kids are right.
  Lists of properties that came in, opened: values, properties. Conditions: none.
  By an AI agent.
-/
import Derived.Test.YtmkicfjcgbfaaaaGreatDoorTc04
import Derived.Test.YtmkicfjcgbfaaaaGreatDoorTc05
import Derived.Test.YtmkicfjcgbfaaaaGreatDoorTc06
import Derived.Carry
import Derived.Test.YtmkicfjcgbfaaaaGreatDoorTc01
namespace Go.Proofs.YtmkicfjcgbfaaaaGreatDoor
open Go.RowKit

theorem int_zero : ∀ w, (zeroValue 3).run Tryz.prog w = .ok (.int .i64 0) w := fun w => Tryz.zeroValue3 w
theorem wpList_push {w : World} {base : Nat} {v : Value} {T : List Int} {ops : Array Oper} {rest : List Oper} {o : Oper} {a : Act} {Q : Exit → Act → World → Prop} (hgd : o.guard = none) (s x : Operand)
    (ho : o.op = .call { callee := .builtin .append, args := #[s, x], argTypes := #[43, 43] }) (h : Qu w base v T) (hb : base ≤ w.heap.size) (hn : T.length ≤ 1000000) (hs : a.eval s = v) (ad : Addr) (c : Nat) (y : Int) (hx : a.eval x = .slice (some ad) 1 c) (hc : w.cell? ad = some (.int .i64 y))
    (hK : ∀ v' w', Qu w' base v' (T ++ [y]) → Below base w w' → Kept3 w w' → w.heap.size ≤ w'.heap.size → wpList Tryz.prog ops Q rest (a.put o.dst v') w') : wpList Tryz.prog ops Q (o :: rest) a w :=
  wpList_plain hgd fun _ hK' => by
    obtain ⟨v', w', hrun, h2, h3, h4, h5⟩ := h.push hb hn hc o.type
    unfold Oper.wp execOp
    simp only [ho, resolve, invoke, builtin, Sem.run_bind, Sem.run_pure, Result.andThen_ok, List.map_toArray, List.map_cons, List.map_nil, hs, hx]
    rw [hrun]
    exact hK' _ _ (hK v' w' h2 h3 h4 h5)
theorem MapIn.no_row {P : Program} {k e : TypeId} {α : Type} {lt : α → DU} {w : World} {b n : Nat} {f : Int → Option α} (h : MapIn P k e lt w b n f) (cur : Array Value) (t : TypeId) : w.heap[b]? ≠ some (.cells cur t (0, 0)) := by
  obtain ⟨D, ⟨es, clock, h1, h2⟩, h3⟩ := h
  rw [h1]
  intro e
  injection e with e
  cases e
theorem IdsIn.i64 {l : List Bl} (h : IdsIn l) {x : Bl} (hx : x ∈ l) : I64 x.id := by
  have := h x hx
  unfold I64
  omega

abbrev IM (w : World) (b n : Nat) (f : Int → Option Int) : Prop := MapIn Tryz.prog 3 3 (fun x => .lit (.int .i64 x)) w b n f
/-- what depths returns -/
def DepR (l : List Bl) (e : Ending) (w : World) : Prop := ∃ b n f, e = .returned (.map (some b)) ∧ IM w b n f ∧ IsDep l f
/-- a queue in a slot -/
def QS (w : World) (base : Nat) (s : Value) (T : List Int) : Prop := Qu w base s T

set_option maxHeartbeats 4000000 in
theorem depths_any (l : List Bl) (A : Option Addr) (n c : Nat) (w : World) (B : Nat) (hB : B ≤ w.heap.size) (h : RB w B (.slice A n c) l) (K : Kids l) :
    Calls Tryz.prog 46 #[.slice A n c] w fun e w' => DepR l e w' ∧ Below w.heap.size w w' := by
  have HN := Lib.hid h.len
  have HI := Lib.hid fun (id : Int) W (hid : I64 id) (hW : Below w.heap.size w W) => index_any l A n c id W B (Nat.le_trans hB hW.size) (h.below (hW.mono hB)) K.rise K.ids hid
  have H := Lib.hid h
  have HE := Lib.hid (intElem (P := Tryz.prog) (e := 3) Tryz.underlying3 int_zero)
  have hmm : (Instr.makeMap 91 none).run Tryz.prog w = .ok (.map (some w.heap.size)) (w.alloc (.map #[] 0)) := run_makeMap _ w
  have hM0 : IM (w.alloc (.map #[] 0)) w.heap.size 0 (fun _ => none) := MapIn.made w
  have z00 : I64 0 := by unfold I64; omega
  obtain ⟨W1, hup, hm1, hg1⟩ := hM0.put HE.out Tryz.underlying3 Tryz.underlying91 (by unfold maxLen; omega) z00 (a := 0) z00
  have HM1 : Hid (IM W1 w.heap.size 1 (fun id => if id = 0 then some 0 else none)) := hm1
  have HB1 : Hid (Below w.heap.size w W1) := ((Below.refl _ _).alloc (Nat.le_refl _) (.map #[] 0)).grown hg1 (by simp) (fun k hk => by injection hk with hk; omega)
  have HQ := Lib.hid (Qu.start W1 HB1.out.size 0)
  obtain ⟨bm, hbm⟩ : ∃ bm, bm = w.heap.size := ⟨_, rfl⟩
  have hbw : w.heap.size ≤ bm := by omega
  rw [← hbm] at hup HM1 hmm
  have HBM := Lib.hid hbm
  have KK := Lib.hid K
  clear h hM0 hm1 hg1 hbm K
  go_enter Tryz.func46, Tryz.ntmps46
  go_wp2_with fail
  go_loopg [4] (n + 1) (fun gg s4 wr => ∃ (T : List Int) (f : Int → Option Int) (k m : Nat) (A4 : Option Addr) (n4 c4 : Nat), s4 = .slice A4 n4 c4 ∧ QS wr w.heap.size (.slice A4 n4 c4) T ∧ Hid (IM wr bm k f) ∧ Hid (Bfs l f T none m) ∧ Hid (Below w.heap.size w wr) ∧ Hid (k + cntF l f ≤ n + 1) ∧ m ≤ gg ∧ m ≤ n + 1)
  case atStart =>
    refine ⟨[0], _, 1, n + 1, _, _, _, rfl, HQ.out, HM1.out.alloc _, ?_, HB1.out.alloc HB1.out.size _, ?_, Nat.le_refl _, Nat.le_refl _⟩
    · show Bfs _ _ _ _ _
      rw [HN.out.1]; exact Bfs.start KK.out
    · show 1 + cntF _ _ ≤ _
      have := cntF_le l (fun id => if id = 0 then some 0 else none)
      have := HN.out.1
      omega
  case round =>
    obtain ⟨T, f, k, m1, A4, n4, c4, rfl, hq, hm, hbfs, hbel, hkc, hmg, hgn⟩ := hrel
    obtain ⟨W2, rfl⟩ : ∃ W2, W2 = wr := ⟨_, rfl⟩
    have hq : Qu W2 w.heap.size (.slice A4 n4 c4) T := hq
    rcases T with _ | ⟨x, T⟩
    · have hl := hq.len
      obtain rfl : n4 = 0 := hl.1
      have HR : Hid (DepR l (.returned (.map (some bm))) W2) := ⟨bm, k, f, rfl, hm.out, hbfs.out.isDep KK.out⟩
      clear hq hl
      go_wp2_with fail
      go_ret
      exact ⟨HR.out, hbel.out⟩
    obtain ⟨g, off, rfl, hn4, hnc4, hgl, hcx, hp1, hp2⟩ := hq.pop
    obtain ⟨m, rfl⟩ : ∃ m, m1 = m + 1 := ⟨m1 - 1, by have := hbfs.out.less; simp at this; omega⟩
    obtain ⟨dx, hdx⟩ := hbfs.out.queue x (by simp)
    obtain ⟨nx, _, hDx, _⟩ := hbfs.out.sound x dx hdx
    obtain ⟨bx, hbx, hbi⟩ := hDx.mem KK.out
    obtain ⟨p, hpl, hpe⟩ := List.mem_iff_getElem.1 hbx
    have hlp : l[p]? = some bx := by rw [List.getElem?_eq_getElem hpl, hpe]
    have hpos : posOf l x = (p : Int) := by rw [← hbi]; exact posOf_of KK.out.rise hlp
    have HX := HI.out x W2 (hbi ▸ KK.out.ids.i64 hbx) hbel.out
    rw [hpos] at HX
    have HX := Lib.hid HX
    have HPOP : Hid (Bfs l f T (some (bx, 0)) m) := hbfs.out.pop hbx hbi
    obtain ⟨b, o5, Ak, nk, ck, Ap, np, cp, rfl, hbb, g0, g1, g2, g3, g4, hK, _⟩ := H.out.at_ hlp
    have HK := Lib.hid hK
    have HKL := Lib.hid hK.len
    have hpn : p < n := by have := HN.out.1; omega
    have i0 : (0 : Int) ≤ (p : Int) := by omega
    have i1 : (p : Int) < (n : Int) := by omega
    have hn40 : 0 < n4 := by omega
    have P1 := Lib.hid hp1
    have P2 := Lib.hid hp2
    have hw2 : w.heap.size ≤ W2.heap.size := hbel.out.size
    have hbm2 : bm < W2.heap.size := hm.out.lt_
    have HHQ := Lib.hid hq
    have hl1 : n4 - 1 = T.length := by omega
    have HL1 := Lib.hid hl1
    clear hq hp1 hp2 hdx hDx hbx hbi hpl hpe hlp hpos hK hn4 hl1
    go_wp2_with fail
    refine HX.out.mono ?_
    rintro e w3 ⟨rfl, hb⟩
    have HB3 : Hid (Below w.heap.size w w3) := hbel.out.trans (hb.mono hw2)
    have c0 := (HB3.out.cell (p := ⟨b, o5 + p * 5, none⟩) (by show b < _; omega)).trans g0
    have c1 := (HB3.out.cell (p := ⟨b, o5 + p * 5 + 1, none⟩) (by show b < _; omega)).trans g1
    have c2 := (HB3.out.cell (p := ⟨b, o5 + p * 5 + 2, none⟩) (by show b < _; omega)).trans g2
    have c3 := (HB3.out.cell (p := ⟨b, o5 + p * 5 + 3, none⟩) (by show b < _; omega)).trans g3
    have c5 := (HB3.out.cell (p := ⟨b, o5 + p * 5 + 4, none⟩) (by show b < _; omega)).trans g4
    have hw3 : W2.heap.size ≤ w3.heap.size := hb.size
    have HM3 := Lib.hid (hm.out.below hb hbm2)
    have HQ1 : Hid (c4 = 1 → Qu w3 w.heap.size (.slice (some ⟨g, off, none⟩) (n4 - 1) (c4 - 1)) T) := fun e => (P1.out e).below hb
    have HQ2 : Hid (c4 ≠ 1 → Qu w3 w.heap.size (.slice (some ⟨g, off + 1, none⟩) (n4 - 1) (c4 - 1)) T) := fun e => (P2.out e).below hb
    clear hb g0 g1 g2 g3 g4
    obtain ⟨W4, hW4⟩ : ∃ W4, W4 = w3.alloc (.cells #[.int .i64 bx.id, .int .i64 bx.parent, .slice Ak nk ck, .string bx.text, .slice Ap np cp] 52) := ⟨_, rfl⟩
    have p0 : Blk W4 w3.heap.size 52 #[.int .i64 bx.id, .int .i64 bx.parent, .slice Ak nk ck, .string bx.text, .slice Ap np cp] := by rw [hW4]; exact Blk.new w3 _ _
    have HM4 : Hid (IM W4 bm k f) := by rw [hW4]; exact HM3.out.alloc _
    have HB4 : Hid (Below w.heap.size w W4) := by rw [hW4]; exact HB3.out.alloc HB3.out.size _
    have HQ3 : Hid (∀ v, Qu w3 w.heap.size v T → Qu W4 w.heap.size v T) := fun v hv => by rw [hW4]; exact hv.alloc _
    have HP0 := Lib.hid p0
    have m2 : W4.cell? ⟨w3.heap.size, 2, none⟩ = some (.slice Ak nk ck) := p0.cell 2
    have hbm3 : bm < w3.heap.size := by omega
    have HW4 := Lib.hid hW4
    clear hW4 p0
    go_upto_region 5 with fail
    rw [← HW4.out]
    go_cut [4] (fun s4 wc => ∃ A' n' c', s4 = .slice A' n' c' ∧ QS W4 w.heap.size (.slice A' n' c') T ∧ W4 = wc)
    case first =>
      by_cases hc4 : c4 = 1
      · subst hc4
        obtain rfl : n4 = 1 := by omega
        have HQ' := Lib.hid (HQ3.out _ (HQ1.out rfl))
        go_wp2_with fail
        go_meet
        exact ⟨_, _, _, rfl, HQ'.out, rfl⟩
      · have HQ' := Lib.hid (HQ3.out _ (HQ2.out hc4))
        have hc4' : ¬ c4 ≤ 1 := by omega
        have hc4'' : (1 : Int) ≤ (n4 : Int) := by omega
        go_wp2_with fail
        go_meet
        exact ⟨_, _, _, rfl, HQ'.out, rfl⟩
    case rest =>
    obtain ⟨A', n', c', rfl, hq', rfl⟩ := hcut
    have HQ5 : Hid (Qu W4 w.heap.size (.slice A' n' c') T) := hq'
    have HKC := Lib.hid hkc.out
    clear hq'
    go_wp2_with fail
    go_loopg [4, 29] nk (fun gg s4 s29 wr => ∃ (j : Nat) (T : List Int) (f : Int → Option Int) (k : Nat) (A4 : Option Addr) (n4 c4 : Nat), j + gg = nk ∧ s4 = .slice A4 n4 c4 ∧ s29 = .int .i64 (j : Int) ∧ QS wr w.heap.size (.slice A4 n4 c4) T ∧ Hid (IM wr bm k f) ∧ Hid (Bfs l f T (some (bx, j)) m) ∧ Hid (Below w.heap.size w wr) ∧ Hid (k + cntF l f ≤ n + 1) ∧ Hid (Blk wr w3.heap.size 52 #[.int .i64 bx.id, .int .i64 bx.parent, .slice Ak nk ck, .string bx.text, .slice Ap np cp]))
    case atStart => exact ⟨0, T, f, k, _, _, _, by omega, rfl, rfl, HQ5.out, HM4, HPOP, HB4, HKC, HP0⟩
    case round =>
      obtain ⟨j, T, f, k, A4, n4, c4, hjg, rfl, rfl, hq, hm, hbfs, hbel, hkc, hp⟩ := hrel
      have hq : Qu wr w.heap.size (.slice A4 n4 c4) T := hq
      have HQ := Lib.hid hq
      clear hq
      have hbk : nk ≤ ck ∧ nk * 8 ≤ 140737488351232 := HKL.out.2
      by_cases hj : j < nk
      case neg =>
        obtain rfl : j = nk := by omega
        have HD : Hid (Bfs l f T none m) := hbfs.out.done (by rw [← HKL.out.1]; exact Nat.le_refl _) KK.out
        go_wp2_with fail
        go_roundg m
        case measure => omega
        case rel => exact ⟨T, f, k, m, _, _, _, rfl, HQ.out, hm, HD, hbel, hkc, Nat.le_refl _, by omega⟩
      obtain ⟨kk, hkk⟩ : ∃ k, bx.kids[j]? = some k := ⟨_, List.getElem?_eq_getElem (by have := HKL.out.1; omega)⟩
      have hki : I64 kk := HK.out.i64 (List.mem_of_getElem? hkk)
      obtain ⟨bk, ok, rfl, hbk2, q0⟩ := HK.out.at_ hkk
      have q0 := (hbel.out.cell (p := ⟨bk, ok + j, none⟩) (by show bk < _; omega)).trans q0
      have z0 : (0 : Int) ≤ (j : Int) := by omega
      have z1 : (j : Int) < (nk : Int) := by omega
      have hlk := hm.out.look_ok HE.out Tryz.underlying3 Tryz.underlying91 hki
      have HKK := Lib.hid hkk
      clear hkk
      cases hf : f kk with
      | some d =>
        rw [hf] at hlk
        dsimp only [Option.getD_some, Option.isSome_some] at hlk
        have HS := Lib.hid (hbfs.out.skip HKK.out hf)
        clear hf
        go_wp2_with fail
        go_roundg (nk - (j + 1))
        case measure => omega
        case rel => exact ⟨j + 1, T, f, k, _, _, _, by omega, rfl, by go_num, HQ.out, hm, HS, hbel, hkc, hp⟩
      | none =>
        rw [hf] at hlk
        dsimp only [Option.getD_none, Option.isSome_none] at hlk
        obtain ⟨hbxl, ⟨d, hd⟩, _⟩ := hbfs.out.now bx j rfl
        obtain ⟨nd, rfl, _, hnd⟩ := hbfs.out.sound _ _ hd
        have hdn : nd ≤ 2000 := by have := KK.out.short; omega
        have hl2 := hm.out.look HE.out Tryz.underlying3 Tryz.underlying91 (KK.out.ids.i64 hbxl)
        rw [hd] at hl2
        dsimp only [Option.getD_some] at hl2
        have hd1 : I64 ((nd : Int) + 1) := by unfold I64; omega
        have hcl := cntF_le l f
        have HAD := Lib.hid (hbfs.out.add KK.out HKK.out hf hd)
        have HKC2 : Hid (k + 1 + cntF l (putF f kk ((nd : Int) + 1)) ≤ n + 1) := by
          have h1 := hbfs.out.cnt KK.out HKK.out hf ((nd : Int) + 1)
          have h2 := hkc.out
          show _ ≤ _
          omega
        have hkn : k ≤ n + 1 := by have := hkc.out; omega
        have hTn : T.length ≤ 1000000 := by have := hbfs.out.less; have := KK.out.short; have := HN.out.1; omega
        have hn2 : n ≤ 2000 := by have := KK.out.short; have := HN.out.1; omega
        obtain ⟨w5, hup, hm5, hg5⟩ := hm.out.put HE.out Tryz.underlying3 Tryz.underlying91 (by unfold maxLen; omega) hki (a := (nd : Int) + 1) hd1
        have hwr : w.heap.size ≤ wr.heap.size := hbel.out.size
        have hw35 : w3.heap.size < wr.heap.size := hp.out.lt
        have HM5 := Lib.hid hm5
        have HB5 : Hid (Below w.heap.size w w5) := hbel.out.grown hg5 hwr (fun k hk => by injection hk with hk; omega)
        have HQ5' : Hid (Qu w5 w.heap.size (.slice A4 n4 c4) T) := HQ.out.grown hg5 (fun g cur e => by injection e with e; subst e; exact hm.out.no_row _ _)
        have HP5 : Hid (Blk w5 w3.heap.size 52 #[.int .i64 bx.id, .int .i64 bx.parent, .slice (some ⟨bk, ok, none⟩) nk ck, .string bx.text, .slice Ap np cp]) := hp.out.grown hg5 (fun e => by injection e with e; omega)
        have m0 : wr.cell? ⟨w3.heap.size, 0, none⟩ = some (.int .i64 bx.id) := hp.out.cell 0
        have hw5 : wr.heap.size ≤ w5.heap.size := hg5.size
        have HQ6 : Hid (Qu (w5.alloc (.cells #[.int .i64 kk] 3)) w.heap.size (.slice A4 n4 c4) T) := HQ5'.out.alloc _
        have HC6 : Hid ((w5.alloc (.cells #[.int .i64 kk] 3)).cell? ⟨w5.heap.size, 0, none⟩ = some (.int .i64 kk)) := (Blk.new w5 3 #[.int .i64 kk]).cell 0
        have HB6 : Hid (Below w.heap.size w (w5.alloc (.cells #[.int .i64 kk] 3))) := HB5.out.alloc (Nat.le_trans hwr hw5) _
        clear hf hd hg5 hm5 hcl hnd hbxl
        go_wp2_with (at_builtin; refine wpList_push rfl _ _ rfl HQ6.out (by simp; omega) hTn rfl _ _ kk rfl HC6.out ?_)
        intro v' w6 hq6 hb6 hk6 hs6
        obtain ⟨A6, n6, c6, rfl⟩ := hq6.slice
        have HQ7 := Lib.hid hq6
        have HB7 : Hid (Below w.heap.size w w6) := HB6.out.trans hb6
        have HM7 : Hid (IM w6 bm (k + 1) (putF f kk ((nd : Int) + 1))) := (HM5.out.alloc _).kept3 hk6
        have HP7 : Hid (Blk w6 w3.heap.size 52 #[.int .i64 bx.id, .int .i64 bx.parent, .slice (some ⟨bk, ok, none⟩) nk ck, .string bx.text, .slice Ap np cp]) := (HP5.out.alloc _).kept3 hk6 (by decide)
        clear hq6 hb6 hk6 hs6 hup hlk hl2
        go_wp2_with fail
        go_roundg (nk - (j + 1))
        case measure => omega
        case rel => exact ⟨j + 1, T ++ [kk], _, k + 1, _, _, _, by omega, rfl, by go_num, HQ7.out, HM7, HAD, HB7, HKC2, HP7⟩
end Go.Proofs.YtmkicfjcgbfaaaaGreatDoor
namespace Go.Proofs.YtmkicfjcgbfaaaaGreatDoor
open Go.ChangeShapes Go.WideShapes Go.RowKit

theorem fm_len {α : Type} {en : α → List Value} {c : Nat} (h : ∀ x, (en x).length = c) : ∀ M : List α, (M.flatMap en).length = M.length * c
  | [] => by simp
  | x :: M => by rw [List.flatMap_cons, List.length_append, h, fm_len h M, List.length_cons, Nat.succ_mul]; omega
theorem choose_list {α : Type} {p : Nat → α → Prop} : ∀ (n : Nat), (∀ i, i < n → ∃ a, p i a) → ∃ l : List α, l.length = n ∧ ∀ i a, l[i]? = some a → p i a
  | 0, _ => ⟨[], rfl, by simp⟩
  | n + 1, h => by
    obtain ⟨l, hl, hp⟩ := choose_list n (fun i hi => h i (by omega))
    obtain ⟨a, ha⟩ := h n (by omega)
    refine ⟨l ++ [a], by simp [hl], fun i b hb => ?_⟩
    rcases Nat.lt_or_ge i n with hi | hi
    · rw [List.getElem?_append_left (by omega)] at hb
      exact hp i b hb
    · rw [List.getElem?_append_right (by omega)] at hb
      obtain rfl : i = n := by
        rcases Nat.lt_or_ge (i - l.length) 1 with h1 | h1
        · omega
        · rw [List.getElem?_eq_none (by simpa using h1)] at hb; cases hb
      rw [hl, Nat.sub_self] at hb
      simp at hb
      subst hb
      exact ha

section
variable {H : Type} {enc : TypeId × Value → H} {P : Program} {W : World}
/-- a slice that was read, row by row -/
theorem open_list {α : Type} {en : α → List Value} {C Y : Nat} {Q : Nat → α → Prop} {t e : TypeId} {fuel : Nat} {u : Value} {y : DataW H × List MemPlace} (ht : P.underlying t = some (.slice e)) (hC : P.cellsOf e = C) (hC0 : 0 < C) (hY : P.bytesOf e = Y) (hen : ∀ x, (en x).length = C)
    (hrow : ∀ (m : Nat) (cs : List Value) (z : DataW H × List MemPlace), m < fuel → DataW.trod enc P W 0 (fun _ => true) true m e cs = some z → (∀ x ∈ z.2, x.block < W.heap.size) → Fits P e z.1 → ∃ x, en x = cs ∧ Q m x)
    (h : DataW.trod enc P W 0 (fun _ => true) true fuel t [u] = some y) (hp : ∀ x ∈ y.2, x.block < W.heap.size) (hfit : Fits P t y.1) :
    ∃ A n c, ∃ M : List α, u = .slice A n c ∧ n = M.length ∧ (n ≤ c ∧ n * Y ≤ 140737488351232) ∧ Reads W W.heap.size C A n (M.flatMap en) ∧ ∀ x ∈ M, ∃ m, m < fuel ∧ Q m x := by
  rcases DataW.trod_slice ht h with ⟨hcs, hx⟩ | ⟨a, len, cap, elems, rest, m, rfl, hcs, rfl, _, hl, hcap, hel, hi, hsp, _⟩
  · obtain rfl : u = .slice none 0 0 := by simpa using hcs
    exact ⟨none, 0, 0, [], rfl, rfl, ⟨Nat.le_refl _, by omega⟩, ⟨by simp, fun h => absurd h (by omega)⟩, fun x hx => by cases hx⟩
  · obtain rfl : u = .slice (some a) len cap := by simpa using hcs
    rw [hC] at hi
    have hs := hfit.slice ht
    simp only [List.length_map] at hs
    rw [hel, hY] at hs
    have hs : len * Y ≤ 140737488351232 := Nat.le_trans (Nat.mul_le_mul_right _ (by omega)) hs
    obtain ⟨M, h1, h2⟩ := choose_list (p := fun i x => (∀ j w, (en x)[j]? = some w → W.cell? (a.add (i * C + j)) = some w) ∧ Q m x) len fun i hil => by
      have h1 := hi i hil
      rw [List.getElem?_eq_getElem (by omega)] at h1
      obtain ⟨cs, hc, htr⟩ := Option.bind_eq_some_iff.1 h1
      obtain ⟨_, hrl, hat⟩ := World.cells?_some hc
      obtain ⟨x, hx, hq⟩ := hrow m cs _ (Nat.lt_succ_self m) htr (fun z hz => hp z (List.mem_append_right _ (List.mem_flatMap.2 ⟨_, List.mem_append_left _ (List.getElem_mem _), hz⟩)))
        (hfit.elem ht (List.mem_map.2 ⟨_, List.getElem_mem _, rfl⟩))
      refine ⟨x, fun j w hj => ?_, hq⟩
      rw [hx] at hj
      have hjl : j < C := by rw [← hrl]; exact (List.getElem?_eq_some_iff.1 hj).1
      rw [← add_of_add, hat j hjl, hj]
    refine ⟨some a, len, cap, M, rfl, h1.symm, ⟨hl, hs⟩, ⟨by rw [fm_len hen, h1], fun hn => ⟨a, rfl, ?_, fun k w hk => ?_⟩⟩, fun x hx => ?_⟩
    · exact hp (.cell a.block a.off) (List.mem_append_left _ (MemPlace.mem_row.2 ⟨0, Nat.mul_pos (by omega) (by rw [hC]; exact hC0), by simp⟩))
    · have hkl := (List.getElem?_eq_some_iff.1 hk).1
      rw [fm_len hen] at hkl
      have hkk : k / C * C + k % C = k := by rw [Nat.mul_comm]; exact Nat.div_add_mod k C
      have hd : k / C < M.length := Nat.div_lt_of_lt_mul (by rw [Nat.mul_comm]; exact hkl)
      have hm := Nat.mod_lt k hC0
      obtain ⟨x, hx⟩ : ∃ x, M[k / C]? = some x := ⟨_, List.getElem?_eq_getElem hd⟩
      have h4 := fm_get en C hen M (k / C) (k % C) x hx hm
      rw [hkk, hk] at h4
      have h5 := (h2 _ x hx).1 (k % C) w h4.symm
      rw [hkk] at h5
      exact h5
    · obtain ⟨i, hi', rfl⟩ := List.mem_iff_getElem.1 hx
      exact ⟨m, Nat.lt_succ_self m, (h2 i _ (List.getElem?_eq_getElem hi')).2⟩
end

theorem cellsV : Tryz.prog.cellsOf 65 = 5 := by kernel_rfl
theorem cellsP : Tryz.prog.cellsOf 129 = 6 := by kernel_rfl
theorem cells_of_int : Tryz.prog.cellsOf 3 = 1 := by kernel_rfl
theorem cells_of_str : Tryz.prog.cellsOf 9 = 1 := by kernel_rfl
theorem cells_of_vals : Tryz.prog.cellsOf 63 = 1 := by kernel_rfl
theorem cells_of_props : Tryz.prog.cellsOf 50 = 1 := by kernel_rfl

section
variable {H : Type} {enc : TypeId × Value → H} {W : World}
set_option maxRecDepth 100000 in
theorem val_open : ∀ (fuel : Nat) (cs : List Value) (x : DataW H × List MemPlace),
    DataW.trod enc Tryz.prog W 0 (fun _ => true) true fuel 65 cs = some x → (∀ y ∈ x.2, y.block < W.heap.size) → Fits Tryz.prog 65 x.1 → ∃ v : Vl × Value, vlV v = cs ∧ RVd W W.heap.size fuel v.2 v.1.items := by
  intro fuel
  induction fuel using Nat.strongRecOn with
  | _ fuel ih =>
    intro cs x h hp hfit
    obtain ⟨xs, n, rfl, rfl, hlen, hxl, hf⟩ := DataW.trod_struct Tryz.underlying65 h
    rw [cellsV] at hlen
    match cs, hlen with
    | [u0, u1, u2, u3, u4], _ =>
      match xs, hxl with
      | [y0, y1, y2, y3, y4], _ =>
        have g0 : DataW.trod enc Tryz.prog W 0 (fun _ => true) true n 3 (([u0, u1, u2, u3, u4].drop 0).take (Tryz.prog.cellsOf 3)) = some y0 := hf 0 _ rfl
        have g1 : DataW.trod enc Tryz.prog W 0 (fun _ => true) true n 3 (([u0, u1, u2, u3, u4].drop 1).take (Tryz.prog.cellsOf 3)) = some y1 := hf 1 _ rfl
        have g2 : DataW.trod enc Tryz.prog W 0 (fun _ => true) true n 3 (([u0, u1, u2, u3, u4].drop 2).take (Tryz.prog.cellsOf 3)) = some y2 := hf 2 _ rfl
        have g3 : DataW.trod enc Tryz.prog W 0 (fun _ => true) true n 9 (([u0, u1, u2, u3, u4].drop 3).take (Tryz.prog.cellsOf 9)) = some y3 := hf 3 _ rfl
        have g4 : DataW.trod enc Tryz.prog W 0 (fun _ => true) true n 63 (([u0, u1, u2, u3, u4].drop 4).take (Tryz.prog.cellsOf 63)) = some y4 := hf 4 _ rfl
        rw [cells_of_int] at g0 g1 g2
        rw [cells_of_str] at g3
        rw [cells_of_vals] at g4
        change DataW.trod enc Tryz.prog W 0 (fun _ => true) true n 3 [u0] = some y0 at g0
        change DataW.trod enc Tryz.prog W 0 (fun _ => true) true n 3 [u1] = some y1 at g1
        change DataW.trod enc Tryz.prog W 0 (fun _ => true) true n 3 [u2] = some y2 at g2
        change DataW.trod enc Tryz.prog W 0 (fun _ => true) true n 9 [u3] = some y3 at g3
        change DataW.trod enc Tryz.prog W 0 (fun _ => true) true n 63 [u4] = some y4 at g4
        obtain ⟨k, e0, rfl, _⟩ := DataW.trod_int Tryz.underlying3 g0
        obtain ⟨i, e1, rfl, _⟩ := DataW.trod_int Tryz.underlying3 g1
        obtain ⟨t, e2, rfl, _⟩ := DataW.trod_int Tryz.underlying3 g2
        obtain ⟨s, e3, rfl, _⟩ := DataW.trod_string Tryz.underlying9 g3
        simp at e0 e1 e2 e3
        subst e0 e1 e2 e3
        have hfit4 : Fits Tryz.prog 63 y4.1 := hfit.part Tryz.underlying65 (j := 4) rfl rfl
        have hp4 : ∀ y ∈ y4.2, y.block < W.heap.size := fun y hy => hp y (by simp [hy])
        obtain ⟨A, len, cap, M, rfl, h1, h2, h3, h4⟩ := open_list (en := vlV) (Q := fun m x => RVd W W.heap.size m x.2 x.1.items) Tryz.underlying63 cellsV (by omega) (show _ = 64 by kernel_rfl) vlV_len
          (fun m cs z hm htr hz hft => ih m (by omega) cs z htr hz hft) g4 hp4 hfit4
        exact ⟨(.mk k i t s (M.map Prod.fst), .slice A len cap), rfl, A, len, cap, M, rfl, rfl, h1, h2, h3, fun x hx => by
          obtain ⟨m, hm, hq⟩ := h4 x hx
          exact hq.up (by omega)⟩

set_option maxRecDepth 100000 in
theorem prop_open (fuel : Nat) (cs : List Value) (x : DataW H × List MemPlace)
    (h : DataW.trod enc Tryz.prog W 0 (fun _ => true) true fuel 129 cs = some x) (hp : ∀ y ∈ x.2, y.block < W.heap.size) (hfit : Fits Tryz.prog 129 x.1) : ∃ p : Pr × Value, prV p = cs ∧ RV W W.heap.size p.2 p.1.val.items := by
  obtain ⟨xs, n, rfl, rfl, hlen, hxl, hf⟩ := DataW.trod_struct Tryz.underlying129 h
  rw [cellsP] at hlen
  match cs, hlen with
  | [u0, u1, u2, u3, u4, u5], _ =>
    match xs, hxl with
    | [y0, y1], _ =>
      have g0 : DataW.trod enc Tryz.prog W 0 (fun _ => true) true n 9 (([u0, u1, u2, u3, u4, u5].drop 0).take (Tryz.prog.cellsOf 9)) = some y0 := hf 0 _ rfl
      have g1 : DataW.trod enc Tryz.prog W 0 (fun _ => true) true n 65 (([u0, u1, u2, u3, u4, u5].drop 1).take (Tryz.prog.cellsOf 65)) = some y1 := hf 1 _ rfl
      rw [cells_of_str] at g0
      rw [cellsV] at g1
      change DataW.trod enc Tryz.prog W 0 (fun _ => true) true n 9 [u0] = some y0 at g0
      change DataW.trod enc Tryz.prog W 0 (fun _ => true) true n 65 [u1, u2, u3, u4, u5] = some y1 at g1
      obtain ⟨s, e0, rfl, _⟩ := DataW.trod_string Tryz.underlying9 g0
      simp at e0
      subst e0
      obtain ⟨v, hv, hq⟩ := val_open n _ y1 g1 (fun y hy => hp y (by simp [hy])) (hfit.part Tryz.underlying129 (j := 1) rfl rfl)
      exact ⟨(⟨s, v.1⟩, v.2), by rw [prV]; exact congrArg _ hv, n, hq⟩

set_option maxRecDepth 100000 in
theorem props_open {fuel : Nat} {u : Value} {y : DataW H × List MemPlace} (h : DataW.trod enc Tryz.prog W 0 (fun _ => true) true fuel 50 [u] = some y) (hp : ∀ x ∈ y.2, x.block < W.heap.size) (hfit : Fits Tryz.prog 50 y.1) : ∃ ps, RPr W W.heap.size u ps := by
  obtain ⟨A, len, cap, M, rfl, h1, h2, h3, h4⟩ := open_list (en := prV) (Q := fun _ x => RV W W.heap.size x.2 x.1.val.items) Tryz.underlying50 cellsP (by omega) (show _ = 80 by kernel_rfl) prV_len
    (fun m cs z hm htr hz hft => prop_open m cs z htr hz hft) h hp hfit
  exact ⟨M.map Prod.fst, A, len, cap, M, rfl, rfl, h1, h2, h3, fun x hx => by
    obtain ⟨m, _, hq⟩ := h4 x hx
    exact hq⟩

end
end Go.Proofs.YtmkicfjcgbfaaaaGreatDoor
