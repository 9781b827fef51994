/-
  DERIVED. The walk of the reference's setProp. Conditions: sizes; the properties are right.
  By an AI agent.
-/
import Derived.Test.YtmkicfjcgbfaaaaGreatTg28
import Derived.Test.YtmkicfjcgbfaaaaGreatTg29
namespace Go.Proofs.YtmkicfjcgbfaaaaGreat
open Go.RowKit

/-- properties in a row of the call's own whose items lie in blocks of a sort that stand -/
structure OutPS (S : Nat → Prop) (w : World) (base : Nat) (v : Value) (M : List (Pr × Value)) : Prop where
  own : w.ownsRow base 116 6 v M.length (M.flatMap prV)
  nest : ∀ x ∈ M, RVX w S x.2 x.1.val.items
theorem OutPS.start (S : Nat → Prop) (w : World) (base : Nat) : OutPS S w base (.slice none 0 0) [] := ⟨World.ownsRow_nil w base _ 6, fun x hx => by cases hx⟩
theorem OutPS.below {S : Nat → Prop} {w w' : World} {base : Nat} {v : Value} {M : List (Pr × Value)} (h : OutPS S w base v M) (hb : Below w.heap.size w w') (hS : ∀ b, S b → b < w.heap.size) : OutPS S w' base v M :=
  ⟨own_below h.own hb, fun x hx => (h.nest x hx).keep fun _ hp => hb.cell (hS _ hp)⟩
theorem OutPS.blocks {S : Nat → Prop} {w : World} {base : Nat} {v : Value} {M : List (Pr × Value)} (h : OutPS S w base v M) : ∀ g, v.ownBlock = some g → base ≤ g ∧ g < w.heap.size := own_block_lt h.own
/-- what the reference's setProp leaves -/
def SetPR (S : Nat → Prop) (l : List Pr) (w : World) (e : Ending) (w' : World) : Prop := (∃ A n c, e = .returned (.slice A n c) ∧ RPrX w' (fun b => S b ∨ w.heap.size ≤ b ∧ b < w'.heap.size) (.slice A n c) l) ∧ Below w.heap.size w w'
/-- one property put behind the row: what holds ahead of the append, and behind it -/
structure SpApp (S : Nat → Prop) (wb wn : World) (u : Value) (L : List (Pr × Value)) (x : Pr × Value) : Prop where
  own : wn.ownsRow wb.heap.size 116 6 u L.length (L.flatMap prV)
  base : wb.heap.size ≤ wn.heap.size
  len : L.length + 1 ≤ maxLen
  bytes : (L.length + 1) * 80 ≤ 140737488355328
  post : ∀ v' w', w'.ownsRow wb.heap.size 116 6 v' (L.length + 1) (L.flatMap prV ++ prV x) → wn.grownBy w' u.ownBlock → (v'.ownBlock = u.ownBlock ∨ v'.ownBlock = some wn.heap.size) → OutPS S w' wb.heap.size v' (L ++ [x]) ∧ Below wb.heap.size wb w'
theorem sp_app (wb wa : World) (u : Value) (L : List (Pr × Value)) {S : Nat → Prop} (hOA : OutPS S wa wb.heap.size u L) (hBA : Below wb.heap.size wb wa) (x : Pr × Value) (hx : RVX wa S x.2 x.1.val.items) (hS : ∀ b, S b → b < wb.heap.size) (hl : L.length ≤ 100000) (O : Obj) : SpApp S wb (wa.alloc O) u L x := by
  have ho := hOA.below ((Below.refl _ _).alloc (Nat.le_refl _) O) fun b hb => Nat.lt_of_lt_of_le (hS b hb) hBA.size
  have hb := hBA.alloc hBA.size O
  refine ⟨ho.own, hb.size, by unfold maxLen; omega, by omega, fun v' w' h1 h2 h3 => ?_⟩
  have hb' := hb.grown h2 hb.size fun g hg => (ho.blocks g hg).1
  have hkeep : ∀ p : Addr, S p.block → w'.cell? p = (wa.alloc O).cell? p := fun p hp => World.cell?_of_block (h2.block _ (Nat.lt_of_lt_of_le (hS _ hp) hb.size) fun e => by
    have := (ho.blocks _ e.symm).1
    have := hS _ hp
    omega)
  refine ⟨⟨by rw [List.length_append, List.flatMap_append]; simpa using h1, fun y hy => ?_⟩, hb'⟩
  rcases List.mem_append.1 hy with hy | hy
  · exact (ho.nest y hy).keep hkeep
  · obtain rfl : y = x := by simpa using hy
    exact (hx.keep fun p hp => World.cell?_alloc_lt _ _ _ (Nat.lt_of_lt_of_le (hS _ hp) hBA.size)).keep hkeep
theorem sp_done {S : Nat → Prop} {w : World} {base : Nat} {u : Value} {L : List (Pr × Value)} (h : OutPS S w base u L) (hl : L.length ≤ 100001) : ∃ A c, u = .slice A L.length c ∧ RPrX w (fun b => S b ∨ base ≤ b ∧ b < w.heap.size) (.slice A L.length c) (L.map Prod.fst) := by
  obtain ⟨A, c, e, hc, hr⟩ := RdX.of_own h.own
  exact ⟨A, c, e, A, L.length, c, L, rfl, rfl, rfl, ⟨hc, by omega⟩, hr.weak fun b hb => .inr hb.2, fun x hx => (h.nest x hx).weak fun b hb => .inl hb⟩

set_option maxRecDepth 100000 in
set_option maxHeartbeats 8000000 in
theorem setProp_any (l : List Pr) (s : ByteArray) (v : Vl) (A : Option Addr) (n c : Nat) (Av : Option Addr) (nv cv : Nat) (w : World) (B : Nat) (hB : B ≤ w.heap.size) (S : Nat → Prop) (hS : ∀ b, S b → b < B) (h : RPrX w S (.slice A n c) l) (hv : RVX w S (.slice Av nv cv) v.items) (hcp : cpErr l = 0) (hn : n ≤ 1000) :
    Calls Tryz.prog 86 #[.slice A n c, .string s, AV (v, .slice Av nv cv)] w (SetPR S (setPr l s v) w) := by
  obtain ⟨i0, hi, hq0, hq1, hq2⟩ := info_parts prop_info
  obtain ⟨A', n', c', M, hM, e, hnn, hcb, hrd, hnest⟩ := h
  injection e with e1 e2 e3
  subst e1 e2 e3
  have HEQ := Lib.hid (sp_eq (s := s) (v := v) hcp)
  have HMM := Lib.hid hM
  have HN := Lib.hid hnn
  have HR := Lib.hid (hrd.reads (B := B) hS)
  have HNE := Lib.hid hnest
  have HV := Lib.hid hv
  have HLN : Hid (n = l.length) := by show _ = _; rw [hnn, ← hM, List.length_map]
  obtain ⟨vk, vi, vt, vs, vl⟩ := v
  dsimp only [AV, Vl.kind, Vl.int_, Vl.to_, Vl.text]
  obtain ⟨wb, hwb⟩ : ∃ wb, wb = w.alloc (.cells #[.int .i64 vk, .int .i64 vi, .int .i64 vt, .string vs, .slice Av nv cv] 29) := ⟨_, rfl⟩
  have HBB : Hid (Below w.heap.size w wb) := by rw [hwb]; exact (Below.refl _ _).alloc (Nat.le_refl _) _
  have P0 : Hid (Blk wb w.heap.size 29 #[.int .i64 vk, .int .i64 vi, .int .i64 vt, .string vs, .slice Av nv cv]) := by rw [hwb]; exact Blk.new _ _ _
  have HZB : Hid (wb.heap.size = w.heap.size + 1) := by show _ = _; rw [hwb]; simp
  have HWB := Lib.hid hwb
  clear hv hcp hM hnn hrd hnest hwb
  go_enter Tryz.func86, Tryz.ntmps86
  go_upto_region 1 with fail
  rw [← HWB.out]
  have e0 := fun i => P0.out.cell i
  go_wp2_with fail
  go_loopg [7, 8, 16] n (fun gg s7 s8 s16 wr => ∃ (k : Nat) (u : Value) (L : List (Pr × Value)) (d : Bool), k + gg = n ∧ u = s7 ∧ s8 = .bool d ∧ s16 = .int .i64 (k : Int) ∧ Hid (spL (l.take k) s ⟨vk, vi, vt, vs, vl⟩ = (L.map Prod.fst, d)) ∧ Hid (OutPS S wr wb.heap.size u L) ∧ Hid (Below wb.heap.size wb wr))
  case atStart => exact ⟨0, _, [], vk == 0, by omega, rfl, rfl, rfl, Lib.hid rfl, OutPS.start _ _ _, Below.refl _ _⟩
  case round =>
    obtain ⟨k, u, L, d, hkg, rfl, rfl, rfl, hL, hown, hbel⟩ := hrel
    obtain ⟨W1, rfl⟩ : ∃ W1, W1 = wr := ⟨_, rfl⟩
    have hzr : wb.heap.size ≤ W1.heap.size := hbel.out.size
    have hkp : k < n → ∃ x, M[k]? = some x := fun hk => ⟨_, List.getElem?_eq_getElem (by have := HN.out; omega)⟩
    have HLL : Hid (L.length ≤ 2 * k) := by
      show _ ≤ _
      have := spL_len l s ⟨vk, vi, vt, vs, vl⟩ k
      rw [hL.out] at this
      simpa using this
    have P1 := Lib.hid (P0.out.below hbel.out (by have := HZB.out; omega))
    by_cases hk : k < n
    · obtain ⟨y, hy⟩ := hkp hk
      obtain ⟨b, off, rfl, hbb, hc⟩ := HR.out.plain_at (by omega) prV_len HN.out hy
      have hyl : l[k]? = some y.1 := by rw [← HMM.out, List.getElem?_map, hy]; rfl
      have HST : Hid (spL (l.take (k + 1)) s ⟨vk, vi, vt, vs, vl⟩ = spF s ⟨vk, vi, vt, vs, vl⟩ (L.map Prod.fst, d) y.1) := by
        show _ = _
        rw [spL_snoc hyl, hL.out]
      have HNY := Lib.hid (HNE.out _ (List.mem_of_getElem? hy))
      obtain ⟨⟨nm, ⟨kx, ix, tx, sx, lx⟩⟩, vx⟩ := y
      obtain ⟨Ax, nx, cx, rfl⟩ := HNY.out.slice
      have HBW : Hid (Below w.heap.size w W1) := HBB.out.trans (hbel.out.mono HBB.out.size)
      have g0 : W1.cell? ⟨b, off + k * 6, none⟩ = some (.string nm) := (HBW.out.cell (p := ⟨b, off + k * 6, none⟩) (by show b < _; omega)).trans (hc 0 _ rfl)
      have g1 : W1.cell? ⟨b, off + k * 6 + 1, none⟩ = some (.int .i64 kx) := (HBW.out.cell (p := ⟨b, off + k * 6 + 1, none⟩) (by show b < _; omega)).trans (hc 1 _ rfl)
      have g2 : W1.cell? ⟨b, off + k * 6 + 2, none⟩ = some (.int .i64 ix) := (HBW.out.cell (p := ⟨b, off + k * 6 + 2, none⟩) (by show b < _; omega)).trans (hc 2 _ rfl)
      have g3 : W1.cell? ⟨b, off + k * 6 + 3, none⟩ = some (.int .i64 tx) := (HBW.out.cell (p := ⟨b, off + k * 6 + 3, none⟩) (by show b < _; omega)).trans (hc 3 _ rfl)
      have g4 : W1.cell? ⟨b, off + k * 6 + 4, none⟩ = some (.string sx) := (HBW.out.cell (p := ⟨b, off + k * 6 + 4, none⟩) (by show b < _; omega)).trans (hc 4 _ rfl)
      have g5 : W1.cell? ⟨b, off + k * 6 + 5, none⟩ = some (.slice Ax nx cx) := (HBW.out.cell (p := ⟨b, off + k * 6 + 5, none⟩) (by show b < _; omega)).trans (hc 5 _ rfl)
      have j0 : (0 : Int) ≤ (k : Int) := by omega
      have j1 : (k : Int) < (n : Int) := by omega
      obtain ⟨wa, hwa⟩ : ∃ wa, wa = W1.alloc (.cells #[.string nm, .int .i64 kx, .int .i64 ix, .int .i64 tx, .string sx, .slice Ax nx cx] 116) := ⟨_, rfl⟩
      have hal : Below W1.heap.size W1 wa := by rw [hwa]; exact (Below.refl _ _).alloc (Nat.le_refl _) _
      have Q0 : Hid (Blk wa W1.heap.size 116 #[.string nm, .int .i64 kx, .int .i64 ix, .int .i64 tx, .string sx, .slice Ax nx cx]) := by rw [hwa]; exact Blk.new _ _ _
      have HWZ : Hid (wa.heap.size = W1.heap.size + 1) := by show _ = _; rw [hwa]; simp
      have HBA : Hid (Below wb.heap.size wb wa) := hbel.out.trans (hal.mono hzr)
      have HOA := Lib.hid (hown.out.below hal fun b hb => by have := hS b hb; have := HZB.out; omega)
      have PA := Lib.hid (P0.out.below HBA.out (by have := HZB.out; omega))
      have HWA := Lib.hid hwa
      clear hy hc hyl hwa hal hkp
      go_upto_region 6 with fail
      rw [← HWA.out]
      clear g0 g1 g2 g3 g4 g5
      have e1 := fun i => Q0.out.cell i
      have e2 := fun i => PA.out.cell i
      by_cases he : nm = s
      · have f0 : Op.bytesLess nm.toList s.toList = false := by rw [he]; exact less_irr _
        have f1 : (nm.toList == s.toList) = true := by rw [he]; simp
        have f2 : (s.toList == nm.toList) = true := by rw [he]; simp
        have HE := Lib.hid he
        cases d with
        | true =>
          have HM2 : Hid (spL (l.take (k + 1)) s ⟨vk, vi, vt, vs, vl⟩ = (L.map Prod.fst, true)) := HST.out.trans (by simp [spF, HE.out])
          clear he
          go_wp2_with fail
          go_roundg (n - (k + 1))
          case measure => omega
          case rel => exact ⟨k + 1, u, L, true, by omega, rfl, rfl, by go_num, HM2, HOA, HBA⟩
        | false =>
          have HM2 : Hid (spL (l.take (k + 1)) s ⟨vk, vi, vt, vs, vl⟩ = ((L ++ [((⟨s, ⟨vk, vi, vt, vs, vl⟩⟩ : Pr), Value.slice Av nv cv)]).map Prod.fst, true)) := HST.out.trans (by simp [spF, HE.out, less_irr])
          clear he
          obtain ⟨O, hO⟩ : ∃ O, O = Obj.cells #[.string s, .int .i64 vk, .int .i64 vi, .int .i64 vt, .string vs, .slice Av nv cv] 116 := ⟨_, rfl⟩
          have HAP := Lib.hid (sp_app wb wa u L HOA.out HBA.out (⟨s, ⟨vk, vi, vt, vs, vl⟩⟩, .slice Av nv cv) (S := S) (HV.out.keep fun p hp => (HBB.out.trans (HBA.out.mono HBB.out.size)).cell (Nat.lt_of_lt_of_le (hS _ hp) hB)) (fun b hb => by have := hS b hb; have := HZB.out; omega) (by have := HLL.out; omega) O)
          have HR7 : Hid (Reads (wa.alloc O) (wa.heap.size + 1) 6 (some ⟨wa.heap.size, 0, none⟩) 1 (prV (⟨s, ⟨vk, vi, vt, vs, vl⟩⟩, .slice Av nv cv))) := by rw [hO]; exact Reads.blk (Blk.new _ _ _) rfl
          have hone7 := prV_one (⟨s, ⟨vk, vi, vt, vs, vl⟩⟩, .slice Av nv cv) ⟨_, _, _, rfl⟩
          have HUB : Hid (∀ g, u.ownBlock = some g → g < W1.heap.size) := fun g hg => (hown.out.blocks g hg).2
          have HQO := Lib.hid (Q0.out.alloc O)
          rw [hO] at HAP HR7 HQO
          clear hO
          go_wp2_with (at_builtin; refine wpList_append_any _ rfl _ _ 36 rfl wb.heap.size 116 i0 pZ 6 80 Tryz.underlying36 hi hq0 hq1 hq2 rfl (by decide) u L.length (L.flatMap prV) rfl HAP.out.own (wa.heap.size + 1) (some ⟨wa.heap.size, 0, none⟩) 1 1 (prV (⟨s, ⟨vk, vi, vt, vs, vl⟩⟩, .slice Av nv cv)) rfl HR7.out hone7 HAP.out.len HAP.out.bytes HAP.out.base ?_)
          intro v8 w8 hown8 hg8 hat8
          have HP8 := Lib.hid (HAP.out.post v8 w8 hown8 hg8 (by simpa using hat8))
          have HQ8 := Lib.hid (HQO.out.grown hg8 (fun e => by have := HUB.out _ e.symm; omega))
          obtain ⟨L2, hL2⟩ : ∃ L2, L2 = L ++ [((⟨s, ⟨vk, vi, vt, vs, vl⟩⟩ : Pr), Value.slice Av nv cv)] := ⟨_, rfl⟩
          have HL8 : Hid (L2.length ≤ L.length + 1) := by show _ ≤ _; rw [hL2, List.length_append]; exact Nat.le_refl _
          rw [← hL2] at HP8 HM2
          have HPa := Lib.hid HP8.out.1
          have HPb := Lib.hid HP8.out.2
          clear hown8 hg8 hat8 e1 e2 hL2 HAP HR7 hone7
          have e1 := fun i => HQ8.out.cell i
          have e2 : True := trivial
          go_wp2_with fail
          go_roundg (n - (k + 1))
          case measure => omega
          case rel => exact ⟨k + 1, v8, L2, true, by omega, rfl, rfl, by go_num, HM2, HPa, HPb⟩
      · have f1 : (nm.toList == s.toList) = false := by rw [← dec_toList]; simpa using he
        have f2 : (s.toList == nm.toList) = false := by rw [← dec_toList]; simpa using fun e => he e.symm
        cases d with
        | true =>
          have HM2 : Hid (spL (l.take (k + 1)) s ⟨vk, vi, vt, vs, vl⟩ = (L.map Prod.fst ++ [⟨nm, ⟨kx, ix, tx, sx, lx⟩⟩], true)) := HST.out.trans (by simp [spF, he])
          obtain ⟨O, hO⟩ : ∃ O, O = Obj.cells #[.string nm, .int .i64 kx, .int .i64 ix, .int .i64 tx, .string sx, .slice Ax nx cx] 116 := ⟨_, rfl⟩
          have HM3 : Hid (spL (l.take (k + 1)) s ⟨vk, vi, vt, vs, vl⟩ = ((L ++ [((⟨nm, ⟨kx, ix, tx, sx, lx⟩⟩ : Pr), Value.slice Ax nx cx)]).map Prod.fst, true)) := HM2.out.trans (by rw [List.map_append]; rfl)
          have HAP := Lib.hid (sp_app wb wa u L HOA.out HBA.out (⟨nm, ⟨kx, ix, tx, sx, lx⟩⟩, .slice Ax nx cx) (S := S) (HNY.out.keep fun p hp => (HBB.out.trans (HBA.out.mono HBB.out.size)).cell (Nat.lt_of_lt_of_le (hS _ hp) hB)) (fun b hb => by have := hS b hb; have := HZB.out; omega) (by have := HLL.out; omega) O)
          have HR7 : Hid (Reads (wa.alloc O) (wa.heap.size + 1) 6 (some ⟨wa.heap.size, 0, none⟩) 1 (prV (⟨nm, ⟨kx, ix, tx, sx, lx⟩⟩, .slice Ax nx cx))) := by rw [hO]; exact Reads.blk (Blk.new _ _ _) rfl
          have hone7 := prV_one (⟨nm, ⟨kx, ix, tx, sx, lx⟩⟩, .slice Ax nx cx) ⟨_, _, _, rfl⟩
          rw [hO] at HAP HR7
          go_wp2_with (at_builtin; refine wpList_append_any _ rfl _ _ 36 rfl wb.heap.size 116 i0 pZ 6 80 Tryz.underlying36 hi hq0 hq1 hq2 rfl (by decide) u L.length (L.flatMap prV) rfl HAP.out.own (wa.heap.size + 1) (some ⟨wa.heap.size, 0, none⟩) 1 1 (prV (⟨nm, ⟨kx, ix, tx, sx, lx⟩⟩, .slice Ax nx cx)) rfl HR7.out hone7 HAP.out.len HAP.out.bytes HAP.out.base ?_)
          intro v9 w9 hown9 hg9 hat9
          have HP9 := Lib.hid (HAP.out.post v9 w9 hown9 hg9 (by simpa using hat9))
          have HPa9 := Lib.hid HP9.out.1
          have HPb9 := Lib.hid HP9.out.2
          clear hown9 hg9 hat9 e1 e2
          go_wp2_with fail
          go_roundg (n - (k + 1))
          case measure => omega
          case rel => exact ⟨k + 1, v9, _, true, by omega, rfl, rfl, by go_num, HM3, HPa9, HPb9⟩
        | false =>
          by_cases hlt : Op.bytesLess nm.toList s.toList = true
          · have f3 : Op.bytesLess s.toList nm.toList = false := less_asymm _ _ hlt
            have HM2 : Hid (spL (l.take (k + 1)) s ⟨vk, vi, vt, vs, vl⟩ = (L.map Prod.fst ++ [⟨nm, ⟨kx, ix, tx, sx, lx⟩⟩], false)) := HST.out.trans (by simp [spF, hlt, he])
            obtain ⟨O, hO⟩ : ∃ O, O = Obj.cells #[.string nm, .int .i64 kx, .int .i64 ix, .int .i64 tx, .string sx, .slice Ax nx cx] 116 := ⟨_, rfl⟩
            have HM3 : Hid (spL (l.take (k + 1)) s ⟨vk, vi, vt, vs, vl⟩ = ((L ++ [((⟨nm, ⟨kx, ix, tx, sx, lx⟩⟩ : Pr), Value.slice Ax nx cx)]).map Prod.fst, false)) := HM2.out.trans (by rw [List.map_append]; rfl)
            have HAP := Lib.hid (sp_app wb wa u L HOA.out HBA.out (⟨nm, ⟨kx, ix, tx, sx, lx⟩⟩, .slice Ax nx cx) (S := S) (HNY.out.keep fun p hp => (HBB.out.trans (HBA.out.mono HBB.out.size)).cell (Nat.lt_of_lt_of_le (hS _ hp) hB)) (fun b hb => by have := hS b hb; have := HZB.out; omega) (by have := HLL.out; omega) O)
            have HR7 : Hid (Reads (wa.alloc O) (wa.heap.size + 1) 6 (some ⟨wa.heap.size, 0, none⟩) 1 (prV (⟨nm, ⟨kx, ix, tx, sx, lx⟩⟩, .slice Ax nx cx))) := by rw [hO]; exact Reads.blk (Blk.new _ _ _) rfl
            have hone7 := prV_one (⟨nm, ⟨kx, ix, tx, sx, lx⟩⟩, .slice Ax nx cx) ⟨_, _, _, rfl⟩
            rw [hO] at HAP HR7
            go_wp2_with (at_builtin; refine wpList_append_any _ rfl _ _ 36 rfl wb.heap.size 116 i0 pZ 6 80 Tryz.underlying36 hi hq0 hq1 hq2 rfl (by decide) u L.length (L.flatMap prV) rfl HAP.out.own (wa.heap.size + 1) (some ⟨wa.heap.size, 0, none⟩) 1 1 (prV (⟨nm, ⟨kx, ix, tx, sx, lx⟩⟩, .slice Ax nx cx)) rfl HR7.out hone7 HAP.out.len HAP.out.bytes HAP.out.base ?_)
            intro v9 w9 hown9 hg9 hat9
            have HP9 := Lib.hid (HAP.out.post v9 w9 hown9 hg9 (by simpa using hat9))
            have HPa9 := Lib.hid HP9.out.1
            have HPb9 := Lib.hid HP9.out.2
            clear hown9 hg9 hat9 e1 e2
            go_wp2_with fail
            go_roundg (n - (k + 1))
            case measure => omega
            case rel => exact ⟨k + 1, v9, _, false, by omega, rfl, rfl, by go_num, HM3, HPa9, HPb9⟩
          · have hlt : Op.bytesLess nm.toList s.toList = false := by simpa using hlt
            have f3 : Op.bytesLess s.toList nm.toList = true := less_or hlt he
            have HM2 : Hid (spL (l.take (k + 1)) s ⟨vk, vi, vt, vs, vl⟩ = ((L ++ [((⟨s, ⟨vk, vi, vt, vs, vl⟩⟩ : Pr), Value.slice Av nv cv)]).map Prod.fst ++ [⟨nm, ⟨kx, ix, tx, sx, lx⟩⟩], true)) := HST.out.trans (by simp [spF, hlt, he])
            obtain ⟨O, hO⟩ : ∃ O, O = Obj.cells #[.string s, .int .i64 vk, .int .i64 vi, .int .i64 vt, .string vs, .slice Av nv cv] 116 := ⟨_, rfl⟩
            have HAP := Lib.hid (sp_app wb wa u L HOA.out HBA.out (⟨s, ⟨vk, vi, vt, vs, vl⟩⟩, .slice Av nv cv) (S := S) (HV.out.keep fun p hp => (HBB.out.trans (HBA.out.mono HBB.out.size)).cell (Nat.lt_of_lt_of_le (hS _ hp) hB)) (fun b hb => by have := hS b hb; have := HZB.out; omega) (by have := HLL.out; omega) O)
            have HR7 : Hid (Reads (wa.alloc O) (wa.heap.size + 1) 6 (some ⟨wa.heap.size, 0, none⟩) 1 (prV (⟨s, ⟨vk, vi, vt, vs, vl⟩⟩, .slice Av nv cv))) := by rw [hO]; exact Reads.blk (Blk.new _ _ _) rfl
            have hone7 := prV_one (⟨s, ⟨vk, vi, vt, vs, vl⟩⟩, .slice Av nv cv) ⟨_, _, _, rfl⟩
            have HUB : Hid (∀ g, u.ownBlock = some g → g < W1.heap.size) := fun g hg => (hown.out.blocks g hg).2
            have HQO := Lib.hid (Q0.out.alloc O)
            rw [hO] at HAP HR7 HQO
            clear hO
            go_wp2_with (at_builtin; refine wpList_append_any _ rfl _ _ 36 rfl wb.heap.size 116 i0 pZ 6 80 Tryz.underlying36 hi hq0 hq1 hq2 rfl (by decide) u L.length (L.flatMap prV) rfl HAP.out.own (wa.heap.size + 1) (some ⟨wa.heap.size, 0, none⟩) 1 1 (prV (⟨s, ⟨vk, vi, vt, vs, vl⟩⟩, .slice Av nv cv)) rfl HR7.out hone7 HAP.out.len HAP.out.bytes HAP.out.base ?_)
            intro v8 w8 hown8 hg8 hat8
            have HP8 := Lib.hid (HAP.out.post v8 w8 hown8 hg8 (by simpa using hat8))
            have HQ8 := Lib.hid (HQO.out.grown hg8 (fun e => by have := HUB.out _ e.symm; omega))
            obtain ⟨L2, hL2⟩ : ∃ L2, L2 = L ++ [((⟨s, ⟨vk, vi, vt, vs, vl⟩⟩ : Pr), Value.slice Av nv cv)] := ⟨_, rfl⟩
            have HL8 : Hid (L2.length ≤ L.length + 1) := by show _ ≤ _; rw [hL2, List.length_append]; exact Nat.le_refl _
            rw [← hL2] at HP8 HM2
            have HPa := Lib.hid HP8.out.1
            have HPb := Lib.hid HP8.out.2
            clear hown8 hg8 hat8 e1 e2 hL2 HAP HR7 hone7
            have e1 := fun i => HQ8.out.cell i
            have e2 : True := trivial
            obtain ⟨O, hO⟩ : ∃ O, O = Obj.cells #[.string nm, .int .i64 kx, .int .i64 ix, .int .i64 tx, .string sx, .slice Ax nx cx] 116 := ⟨_, rfl⟩
            have HM3 : Hid (spL (l.take (k + 1)) s ⟨vk, vi, vt, vs, vl⟩ = ((L2 ++ [((⟨nm, ⟨kx, ix, tx, sx, lx⟩⟩ : Pr), Value.slice Ax nx cx)]).map Prod.fst, true)) := HM2.out.trans (by rw [List.map_append]; rfl)
            have HAP := Lib.hid (sp_app wb w8 v8 L2 HPa.out HPb.out (⟨nm, ⟨kx, ix, tx, sx, lx⟩⟩, .slice Ax nx cx) (S := S) (HNY.out.keep fun p hp => (HBB.out.trans (HPb.out.mono HBB.out.size)).cell (Nat.lt_of_lt_of_le (hS _ hp) hB)) (fun b hb => by have := hS b hb; have := HZB.out; omega) (by have := HLL.out; have := HL8.out; omega) O)
            have HR7 : Hid (Reads (w8.alloc O) (w8.heap.size + 1) 6 (some ⟨w8.heap.size, 0, none⟩) 1 (prV (⟨nm, ⟨kx, ix, tx, sx, lx⟩⟩, .slice Ax nx cx))) := by rw [hO]; exact Reads.blk (Blk.new _ _ _) rfl
            have hone7 := prV_one (⟨nm, ⟨kx, ix, tx, sx, lx⟩⟩, .slice Ax nx cx) ⟨_, _, _, rfl⟩
            rw [hO] at HAP HR7
            go_wp2_with (at_builtin; refine wpList_append_any _ rfl _ _ 36 rfl wb.heap.size 116 i0 pZ 6 80 Tryz.underlying36 hi hq0 hq1 hq2 rfl (by decide) v8 L2.length (L2.flatMap prV) rfl HAP.out.own (w8.heap.size + 1) (some ⟨w8.heap.size, 0, none⟩) 1 1 (prV (⟨nm, ⟨kx, ix, tx, sx, lx⟩⟩, .slice Ax nx cx)) rfl HR7.out hone7 HAP.out.len HAP.out.bytes HAP.out.base ?_)
            intro v9 w9 hown9 hg9 hat9
            have HP9 := Lib.hid (HAP.out.post v9 w9 hown9 hg9 (by simpa using hat9))
            have HPa9 := Lib.hid HP9.out.1
            have HPb9 := Lib.hid HP9.out.2
            clear hown9 hg9 hat9 e1 e2
            go_wp2_with fail
            go_roundg (n - (k + 1))
            case measure => omega
            case rel => exact ⟨k + 1, v9, _, true, by omega, rfl, rfl, by go_num, HM3, HPa9, HPb9⟩
    · obtain rfl : n = k := by omega
      have HFL : Hid (spL l s ⟨vk, vi, vt, vs, vl⟩ = (L.map Prod.fst, d)) := by
        have := hL.out
        rw [List.take_of_length_le (by rw [← HLN.out]; exact Nat.le_refl _)] at this
        exact this
      have HSZ : Hid (L.length ≤ 100000) := by show _ ≤ _; have := HLL.out; omega
      have e1 := fun i => P1.out.cell i
      cases d with
      | true =>
        have HRES : Hid (L.map Prod.fst = setPr l s ⟨vk, vi, vt, vs, vl⟩) := by
          have := HEQ.out
          rw [HFL.out, if_neg (by simp)] at this
          exact this
        obtain ⟨Ar, cr, rfl, hrp⟩ := sp_done hown.out (Nat.le_succ_of_le HSZ.out)
        have HRP := Lib.hid hrp
        clear hrp
        go_wp2_with fail
        go_ret
        exact ⟨⟨Ar, L.length, cr, rfl, by rw [← HRES.out]; exact HRP.out.weak fun b hb => hb.imp id fun h => ⟨by have := HZB.out; omega, h.2⟩⟩, HBB.out.trans (hbel.out.mono HBB.out.size)⟩
      | false =>
        have HRES : Hid ((L ++ [((⟨s, ⟨vk, vi, vt, vs, vl⟩⟩ : Pr), Value.slice Av nv cv)]).map Prod.fst = setPr l s ⟨vk, vi, vt, vs, vl⟩) := by
          have := HEQ.out
          rw [HFL.out, if_pos rfl] at this
          show _ = _
          rw [← this, List.map_append]; rfl
        obtain ⟨O, hO⟩ : ∃ O, O = Obj.cells #[.string s, .int .i64 vk, .int .i64 vi, .int .i64 vt, .string vs, .slice Av nv cv] 116 := ⟨_, rfl⟩
        have HAP := Lib.hid (sp_app wb W1 u L hown.out hbel.out (⟨s, ⟨vk, vi, vt, vs, vl⟩⟩, .slice Av nv cv) (S := S) (HV.out.keep fun p hp => (HBB.out.trans (hbel.out.mono HBB.out.size)).cell (Nat.lt_of_lt_of_le (hS _ hp) hB)) (fun b hb => by have := hS b hb; have := HZB.out; omega) HSZ.out O)
        have HR7 : Hid (Reads (W1.alloc O) (W1.heap.size + 1) 6 (some ⟨W1.heap.size, 0, none⟩) 1 (prV (⟨s, ⟨vk, vi, vt, vs, vl⟩⟩, .slice Av nv cv))) := by rw [hO]; exact Reads.blk (Blk.new _ _ _) rfl
        have hone7 := prV_one (⟨s, ⟨vk, vi, vt, vs, vl⟩⟩, .slice Av nv cv) ⟨_, _, _, rfl⟩
        rw [hO] at HAP HR7
        go_wp2_with (at_builtin; refine wpList_append_any _ rfl _ _ 36 rfl wb.heap.size 116 i0 pZ 6 80 Tryz.underlying36 hi hq0 hq1 hq2 rfl (by decide) u L.length (L.flatMap prV) rfl HAP.out.own (W1.heap.size + 1) (some ⟨W1.heap.size, 0, none⟩) 1 1 (prV (⟨s, ⟨vk, vi, vt, vs, vl⟩⟩, .slice Av nv cv)) rfl HR7.out hone7 HAP.out.len HAP.out.bytes HAP.out.base ?_)
        intro v8 w8 hown8 hg8 hat8
        have HP8 := Lib.hid (HAP.out.post v8 w8 hown8 hg8 (by simpa using hat8))
        have hsz : (L ++ [((⟨s, ⟨vk, vi, vt, vs, vl⟩⟩ : Pr), Value.slice Av nv cv)]).length ≤ 100001 := by rw [List.length_append, List.length_singleton]; have := HSZ.out; omega
        obtain ⟨Ar, cr, rfl, hrp⟩ := sp_done HP8.out.1 hsz
        have HRP := Lib.hid hrp
        clear hrp hsz hown8 hg8 hat8 e1
        go_wp2_with fail
        go_ret
        exact ⟨⟨Ar, _, cr, rfl, by rw [← HRES.out]; exact HRP.out.weak fun b hb => hb.imp id fun h => ⟨by have := HZB.out; omega, h.2⟩⟩, HBB.out.trans (HP8.out.2.mono HBB.out.size)⟩
end Go.Proofs.YtmkicfjcgbfaaaaGreat
