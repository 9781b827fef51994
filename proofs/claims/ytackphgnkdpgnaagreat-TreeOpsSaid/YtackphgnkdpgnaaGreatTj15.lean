/-
  DERIVED. The walk of the reference's setProp. Conditions: sizes; the properties are right.
  What the reference's search in the depth keeps. Plain law. Conditions: none.
  The walk of the reference's reach. Conditions: sizes; a base whose kids are right.
  By an AI agent.
-/
import Derived.Test.YtackphgnkdpgnaaGreatTj14
import Derived.Test.YtackphgnkdpgnaaGreatTj13
import Derived.Test.YtackphgnkdpgnaaGreatTj05
import Derived.Test.YtackphgnkdpgnaaGreatTj02
namespace Go.Proofs.YtackphgnkdpgnaaGreat
open Go.RowKit

/-- properties in a row of the call's own whose items lie in blocks of a sort that stand -/
structure OutPS (S : Nat → Prop) (w : World) (base : Nat) (v : Value) (M : List (Pr × Value)) : Prop where
  own : w.ownsRow base 70 6 v M.length (M.flatMap prV)
  nest : ∀ x ∈ M, RVX w S x.2 x.1.val.items
theorem OutPS.start (S : Nat → Prop) (w : World) (base : Nat) : OutPS S w base (.slice none 0 0) [] := ⟨World.ownsRow_nil w base _ 6, fun x hx => by cases hx⟩
theorem OutPS.below {S : Nat → Prop} {w w' : World} {base : Nat} {v : Value} {M : List (Pr × Value)} (h : OutPS S w base v M) (hb : Below w.heap.size w w') (hS : ∀ b, S b → b < w.heap.size) : OutPS S w' base v M :=
  ⟨own_below h.own hb, fun x hx => (h.nest x hx).keep fun _ hp => hb.cell (hS _ hp)⟩
theorem OutPS.blocks {S : Nat → Prop} {w : World} {base : Nat} {v : Value} {M : List (Pr × Value)} (h : OutPS S w base v M) : ∀ g, v.ownBlock = some g → base ≤ g ∧ g < w.heap.size := own_block_lt h.own
/-- what the reference's setProp leaves -/
def SetPR (S : Nat → Prop) (l : List Pr) (w : World) (e : Ending) (w' : World) : Prop := (∃ A n c, e = .returned (.slice A n c) ∧ RPrX w' (fun b => S b ∨ w.heap.size ≤ b ∧ b < w'.heap.size) (.slice A n c) l) ∧ Below w.heap.size w w'
/-- one property put behind the row: what holds ahead of the append, and behind it -/
structure SpApp (S : Nat → Prop) (wb wn : World) (u : Value) (L : List (Pr × Value)) (x : Pr × Value) : Prop where
  own : wn.ownsRow wb.heap.size 70 6 u L.length (L.flatMap prV)
  base : wb.heap.size ≤ wn.heap.size
  len : L.length + 1 ≤ maxLen
  bytes : (L.length + 1) * 80 ≤ 140737488355328
  post : ∀ v' w', w'.ownsRow wb.heap.size 70 6 v' (L.length + 1) (L.flatMap prV ++ prV x) → wn.grownBy w' u.ownBlock → (v'.ownBlock = u.ownBlock ∨ v'.ownBlock = some wn.heap.size) → OutPS S w' wb.heap.size v' (L ++ [x]) ∧ Below wb.heap.size wb w'
theorem sp_app (wb wa : World) (u : Value) (L : List (Pr × Value)) {S : Nat → Prop} (hOA : OutPS S wa wb.heap.size u L) (hBA : Below wb.heap.size wb wa) (x : Pr × Value) (hx : RVX wa S x.2 x.1.val.items) (hS : ∀ b, S b → b < wb.heap.size) (hl : L.length ≤ 100000) (O : Obj) : SpApp S wb (wa.alloc O) u L x := by
  have ho := hOA.below ((Below.refl _ _).alloc (Nat.le_refl _) O) fun b hb => Nat.lt_of_lt_of_le (hS b hb) hBA.size
  have hb := hBA.alloc hBA.size O
  refine ⟨ho.own, hb.size, by unfold maxLen; omega, by omega, fun v' w' h1 h2 h3 => ?_⟩
  have hb' := hb.grown h2 hb.size fun g hg => (ho.blocks g hg).1
  have hkeep : ∀ p : Addr, S p.block → w'.cell? p = (wa.alloc O).cell? p := fun p hp => World.cell?_of_block (h2.block _ (Nat.lt_of_lt_of_le (hS _ hp) hb.size) fun e => by
    have := (ho.blocks _ e.symm).1
    have := hS _ hp
    omega)
  refine ⟨⟨by rw [List.length_append, List.flatMap_append]; simpa using h1, fun y hy => ?_⟩, hb'⟩
  rcases List.mem_append.1 hy with hy | hy
  · exact (ho.nest y hy).keep hkeep
  · obtain rfl : y = x := by simpa using hy
    exact (hx.keep fun p hp => World.cell?_alloc_lt _ _ _ (Nat.lt_of_lt_of_le (hS _ hp) hBA.size)).keep hkeep
theorem sp_done {S : Nat → Prop} {w : World} {base : Nat} {u : Value} {L : List (Pr × Value)} (h : OutPS S w base u L) (hl : L.length ≤ 100001) : ∃ A c, u = .slice A L.length c ∧ RPrX w (fun b => S b ∨ base ≤ b ∧ b < w.heap.size) (.slice A L.length c) (L.map Prod.fst) := by
  obtain ⟨A, c, e, hc, hr⟩ := RdX.of_own h.own
  exact ⟨A, c, e, A, L.length, c, L, rfl, rfl, rfl, ⟨hc, by omega⟩, hr.weak fun b hb => .inr hb.2, fun x hx => (h.nest x hx).weak fun b hb => .inl hb⟩

set_option maxRecDepth 100000 in
set_option maxHeartbeats 8000000 in
theorem setProp_any (l : List Pr) (s : ByteArray) (v : Vl) (A : Option Addr) (n c : Nat) (Av : Option Addr) (nv cv : Nat) (w : World) (B : Nat) (hB : B ≤ w.heap.size) (S : Nat → Prop) (hS : ∀ b, S b → b < B) (h : RPrX w S (.slice A n c) l) (hv : RVX w S (.slice Av nv cv) v.items) (hcp : cpErr l = 0) (hn : n ≤ 1000) :
    Calls Tryz.prog 39 #[.slice A n c, .string s, AV (v, .slice Av nv cv)] w (SetPR S (setPr l s v) w) := by
  obtain ⟨i0, hi, hq0, hq1, hq2⟩ := info_parts prop_info
  obtain ⟨A', n', c', M, hM, e, hnn, hcb, hrd, hnest⟩ := h
  injection e with e1 e2 e3
  subst e1 e2 e3
  have HEQ := Lib.hid (sp_eq (s := s) (v := v) hcp)
  have HMM := Lib.hid hM
  have HN := Lib.hid hnn
  have HR := Lib.hid (hrd.reads (B := B) hS)
  have HNE := Lib.hid hnest
  have HV := Lib.hid hv
  have HLN : Hid (n = l.length) := by show _ = _; rw [hnn, ← hM, List.length_map]
  obtain ⟨vk, vi, vt, vs, vl⟩ := v
  dsimp only [AV, Vl.kind, Vl.int_, Vl.to_, Vl.text]
  obtain ⟨wb, hwb⟩ : ∃ wb, wb = w.alloc (.cells #[.int .i64 vk, .int .i64 vi, .int .i64 vt, .string vs, .slice Av nv cv] 30) := ⟨_, rfl⟩
  have HBB : Hid (Below w.heap.size w wb) := by rw [hwb]; exact (Below.refl _ _).alloc (Nat.le_refl _) _
  have P0 : Hid (Blk wb w.heap.size 30 #[.int .i64 vk, .int .i64 vi, .int .i64 vt, .string vs, .slice Av nv cv]) := by rw [hwb]; exact Blk.new _ _ _
  have HZB : Hid (wb.heap.size = w.heap.size + 1) := by show _ = _; rw [hwb]; simp
  have HWB := Lib.hid hwb
  clear hv hcp hM hnn hrd hnest hwb
  go_enter Tryz.func39, Tryz.ntmps39
  go_upto_region 1 with fail
  rw [← HWB.out]
  have e0 := fun i => P0.out.cell i
  go_wp2_with fail
  go_loopg [7, 8, 16] n (fun gg s7 s8 s16 wr => ∃ (k : Nat) (u : Value) (L : List (Pr × Value)) (d : Bool), k + gg = n ∧ u = s7 ∧ s8 = .bool d ∧ s16 = .int .i64 (k : Int) ∧ Hid (spL (l.take k) s ⟨vk, vi, vt, vs, vl⟩ = (L.map Prod.fst, d)) ∧ Hid (OutPS S wr wb.heap.size u L) ∧ Hid (Below wb.heap.size wb wr))
  case atStart => exact ⟨0, _, [], vk == 0, by omega, rfl, rfl, rfl, Lib.hid rfl, OutPS.start _ _ _, Below.refl _ _⟩
  case round =>
    obtain ⟨k, u, L, d, hkg, rfl, rfl, rfl, hL, hown, hbel⟩ := hrel
    obtain ⟨W1, rfl⟩ : ∃ W1, W1 = wr := ⟨_, rfl⟩
    have hzr : wb.heap.size ≤ W1.heap.size := hbel.out.size
    have hkp : k < n → ∃ x, M[k]? = some x := fun hk => ⟨_, List.getElem?_eq_getElem (by have := HN.out; omega)⟩
    have HLL : Hid (L.length ≤ 2 * k) := by
      show _ ≤ _
      have := spL_len l s ⟨vk, vi, vt, vs, vl⟩ k
      rw [hL.out] at this
      simpa using this
    have P1 := Lib.hid (P0.out.below hbel.out (by have := HZB.out; omega))
    by_cases hk : k < n
    · obtain ⟨y, hy⟩ := hkp hk
      obtain ⟨b, off, rfl, hbb, hc⟩ := HR.out.plain_at (by omega) prV_len HN.out hy
      have hyl : l[k]? = some y.1 := by rw [← HMM.out, List.getElem?_map, hy]; rfl
      have HST : Hid (spL (l.take (k + 1)) s ⟨vk, vi, vt, vs, vl⟩ = spF s ⟨vk, vi, vt, vs, vl⟩ (L.map Prod.fst, d) y.1) := by
        show _ = _
        rw [spL_snoc hyl, hL.out]
      have HNY := Lib.hid (HNE.out _ (List.mem_of_getElem? hy))
      obtain ⟨⟨nm, ⟨kx, ix, tx, sx, lx⟩⟩, vx⟩ := y
      obtain ⟨Ax, nx, cx, rfl⟩ := HNY.out.slice
      have HBW : Hid (Below w.heap.size w W1) := HBB.out.trans (hbel.out.mono HBB.out.size)
      have g0 : W1.cell? ⟨b, off + k * 6, none⟩ = some (.string nm) := (HBW.out.cell (p := ⟨b, off + k * 6, none⟩) (by show b < _; omega)).trans (hc 0 _ rfl)
      have g1 : W1.cell? ⟨b, off + k * 6 + 1, none⟩ = some (.int .i64 kx) := (HBW.out.cell (p := ⟨b, off + k * 6 + 1, none⟩) (by show b < _; omega)).trans (hc 1 _ rfl)
      have g2 : W1.cell? ⟨b, off + k * 6 + 2, none⟩ = some (.int .i64 ix) := (HBW.out.cell (p := ⟨b, off + k * 6 + 2, none⟩) (by show b < _; omega)).trans (hc 2 _ rfl)
      have g3 : W1.cell? ⟨b, off + k * 6 + 3, none⟩ = some (.int .i64 tx) := (HBW.out.cell (p := ⟨b, off + k * 6 + 3, none⟩) (by show b < _; omega)).trans (hc 3 _ rfl)
      have g4 : W1.cell? ⟨b, off + k * 6 + 4, none⟩ = some (.string sx) := (HBW.out.cell (p := ⟨b, off + k * 6 + 4, none⟩) (by show b < _; omega)).trans (hc 4 _ rfl)
      have g5 : W1.cell? ⟨b, off + k * 6 + 5, none⟩ = some (.slice Ax nx cx) := (HBW.out.cell (p := ⟨b, off + k * 6 + 5, none⟩) (by show b < _; omega)).trans (hc 5 _ rfl)
      have j0 : (0 : Int) ≤ (k : Int) := by omega
      have j1 : (k : Int) < (n : Int) := by omega
      obtain ⟨wa, hwa⟩ : ∃ wa, wa = W1.alloc (.cells #[.string nm, .int .i64 kx, .int .i64 ix, .int .i64 tx, .string sx, .slice Ax nx cx] 70) := ⟨_, rfl⟩
      have hal : Below W1.heap.size W1 wa := by rw [hwa]; exact (Below.refl _ _).alloc (Nat.le_refl _) _
      have Q0 : Hid (Blk wa W1.heap.size 70 #[.string nm, .int .i64 kx, .int .i64 ix, .int .i64 tx, .string sx, .slice Ax nx cx]) := by rw [hwa]; exact Blk.new _ _ _
      have HWZ : Hid (wa.heap.size = W1.heap.size + 1) := by show _ = _; rw [hwa]; simp
      have HBA : Hid (Below wb.heap.size wb wa) := hbel.out.trans (hal.mono hzr)
      have HOA := Lib.hid (hown.out.below hal fun b hb => by have := hS b hb; have := HZB.out; omega)
      have PA := Lib.hid (P0.out.below HBA.out (by have := HZB.out; omega))
      have HWA := Lib.hid hwa
      clear hy hc hyl hwa hal hkp
      go_upto_region 6 with fail
      rw [← HWA.out]
      clear g0 g1 g2 g3 g4 g5
      have e1 := fun i => Q0.out.cell i
      have e2 := fun i => PA.out.cell i
      by_cases he : nm = s
      · have f0 : Op.bytesLess nm.toList s.toList = false := by rw [he]; exact less_irr _
        have f1 : (nm.toList == s.toList) = true := by rw [he]; simp
        have f2 : (s.toList == nm.toList) = true := by rw [he]; simp
        have HE := Lib.hid he
        cases d with
        | true =>
          have HM2 : Hid (spL (l.take (k + 1)) s ⟨vk, vi, vt, vs, vl⟩ = (L.map Prod.fst, true)) := HST.out.trans (by simp [spF, HE.out])
          clear he
          go_wp2_with fail
          go_roundg (n - (k + 1))
          case measure => omega
          case rel => exact ⟨k + 1, u, L, true, by omega, rfl, rfl, by go_num, HM2, HOA, HBA⟩
        | false =>
          have HM2 : Hid (spL (l.take (k + 1)) s ⟨vk, vi, vt, vs, vl⟩ = ((L ++ [((⟨s, ⟨vk, vi, vt, vs, vl⟩⟩ : Pr), Value.slice Av nv cv)]).map Prod.fst, true)) := HST.out.trans (by simp [spF, HE.out, less_irr])
          clear he
          obtain ⟨O, hO⟩ : ∃ O, O = Obj.cells #[.string s, .int .i64 vk, .int .i64 vi, .int .i64 vt, .string vs, .slice Av nv cv] 70 := ⟨_, rfl⟩
          have HAP := Lib.hid (sp_app wb wa u L HOA.out HBA.out (⟨s, ⟨vk, vi, vt, vs, vl⟩⟩, .slice Av nv cv) (S := S) (HV.out.keep fun p hp => (HBB.out.trans (HBA.out.mono HBB.out.size)).cell (Nat.lt_of_lt_of_le (hS _ hp) hB)) (fun b hb => by have := hS b hb; have := HZB.out; omega) (by have := HLL.out; omega) O)
          have HR7 : Hid (Reads (wa.alloc O) (wa.heap.size + 1) 6 (some ⟨wa.heap.size, 0, none⟩) 1 (prV (⟨s, ⟨vk, vi, vt, vs, vl⟩⟩, .slice Av nv cv))) := by rw [hO]; exact Reads.blk (Blk.new _ _ _) rfl
          have hone7 := prV_one (⟨s, ⟨vk, vi, vt, vs, vl⟩⟩, .slice Av nv cv) ⟨_, _, _, rfl⟩
          have HUB : Hid (∀ g, u.ownBlock = some g → g < W1.heap.size) := fun g hg => (hown.out.blocks g hg).2
          have HQO := Lib.hid (Q0.out.alloc O)
          rw [hO] at HAP HR7 HQO
          clear hO
          go_wp2_with (at_builtin; refine wpList_append_any _ rfl _ _ 43 rfl wb.heap.size 70 i0 pZ 6 80 Tryz.underlying43 hi hq0 hq1 hq2 rfl (by decide) u L.length (L.flatMap prV) rfl HAP.out.own (wa.heap.size + 1) (some ⟨wa.heap.size, 0, none⟩) 1 1 (prV (⟨s, ⟨vk, vi, vt, vs, vl⟩⟩, .slice Av nv cv)) rfl HR7.out hone7 HAP.out.len HAP.out.bytes HAP.out.base ?_)
          intro v8 w8 hown8 hg8 hat8
          have HP8 := Lib.hid (HAP.out.post v8 w8 hown8 hg8 (by simpa using hat8))
          have HQ8 := Lib.hid (HQO.out.grown hg8 (fun e => by have := HUB.out _ e.symm; omega))
          obtain ⟨L2, hL2⟩ : ∃ L2, L2 = L ++ [((⟨s, ⟨vk, vi, vt, vs, vl⟩⟩ : Pr), Value.slice Av nv cv)] := ⟨_, rfl⟩
          have HL8 : Hid (L2.length ≤ L.length + 1) := by show _ ≤ _; rw [hL2, List.length_append]; exact Nat.le_refl _
          rw [← hL2] at HP8 HM2
          have HPa := Lib.hid HP8.out.1
          have HPb := Lib.hid HP8.out.2
          clear hown8 hg8 hat8 e1 e2 hL2 HAP HR7 hone7
          have e1 := fun i => HQ8.out.cell i
          have e2 : True := trivial
          go_wp2_with fail
          go_roundg (n - (k + 1))
          case measure => omega
          case rel => exact ⟨k + 1, v8, L2, true, by omega, rfl, rfl, by go_num, HM2, HPa, HPb⟩
      · have f1 : (nm.toList == s.toList) = false := by rw [← dec_toList]; simpa using he
        have f2 : (s.toList == nm.toList) = false := by rw [← dec_toList]; simpa using fun e => he e.symm
        cases d with
        | true =>
          have HM2 : Hid (spL (l.take (k + 1)) s ⟨vk, vi, vt, vs, vl⟩ = (L.map Prod.fst ++ [⟨nm, ⟨kx, ix, tx, sx, lx⟩⟩], true)) := HST.out.trans (by simp [spF, he])
          obtain ⟨O, hO⟩ : ∃ O, O = Obj.cells #[.string nm, .int .i64 kx, .int .i64 ix, .int .i64 tx, .string sx, .slice Ax nx cx] 70 := ⟨_, rfl⟩
          have HM3 : Hid (spL (l.take (k + 1)) s ⟨vk, vi, vt, vs, vl⟩ = ((L ++ [((⟨nm, ⟨kx, ix, tx, sx, lx⟩⟩ : Pr), Value.slice Ax nx cx)]).map Prod.fst, true)) := HM2.out.trans (by rw [List.map_append]; rfl)
          have HAP := Lib.hid (sp_app wb wa u L HOA.out HBA.out (⟨nm, ⟨kx, ix, tx, sx, lx⟩⟩, .slice Ax nx cx) (S := S) (HNY.out.keep fun p hp => (HBB.out.trans (HBA.out.mono HBB.out.size)).cell (Nat.lt_of_lt_of_le (hS _ hp) hB)) (fun b hb => by have := hS b hb; have := HZB.out; omega) (by have := HLL.out; omega) O)
          have HR7 : Hid (Reads (wa.alloc O) (wa.heap.size + 1) 6 (some ⟨wa.heap.size, 0, none⟩) 1 (prV (⟨nm, ⟨kx, ix, tx, sx, lx⟩⟩, .slice Ax nx cx))) := by rw [hO]; exact Reads.blk (Blk.new _ _ _) rfl
          have hone7 := prV_one (⟨nm, ⟨kx, ix, tx, sx, lx⟩⟩, .slice Ax nx cx) ⟨_, _, _, rfl⟩
          rw [hO] at HAP HR7
          go_wp2_with (at_builtin; refine wpList_append_any _ rfl _ _ 43 rfl wb.heap.size 70 i0 pZ 6 80 Tryz.underlying43 hi hq0 hq1 hq2 rfl (by decide) u L.length (L.flatMap prV) rfl HAP.out.own (wa.heap.size + 1) (some ⟨wa.heap.size, 0, none⟩) 1 1 (prV (⟨nm, ⟨kx, ix, tx, sx, lx⟩⟩, .slice Ax nx cx)) rfl HR7.out hone7 HAP.out.len HAP.out.bytes HAP.out.base ?_)
          intro v9 w9 hown9 hg9 hat9
          have HP9 := Lib.hid (HAP.out.post v9 w9 hown9 hg9 (by simpa using hat9))
          have HPa9 := Lib.hid HP9.out.1
          have HPb9 := Lib.hid HP9.out.2
          clear hown9 hg9 hat9 e1 e2
          go_wp2_with fail
          go_roundg (n - (k + 1))
          case measure => omega
          case rel => exact ⟨k + 1, v9, _, true, by omega, rfl, rfl, by go_num, HM3, HPa9, HPb9⟩
        | false =>
          by_cases hlt : Op.bytesLess nm.toList s.toList = true
          · have f3 : Op.bytesLess s.toList nm.toList = false := less_asymm _ _ hlt
            have HM2 : Hid (spL (l.take (k + 1)) s ⟨vk, vi, vt, vs, vl⟩ = (L.map Prod.fst ++ [⟨nm, ⟨kx, ix, tx, sx, lx⟩⟩], false)) := HST.out.trans (by simp [spF, hlt, he])
            obtain ⟨O, hO⟩ : ∃ O, O = Obj.cells #[.string nm, .int .i64 kx, .int .i64 ix, .int .i64 tx, .string sx, .slice Ax nx cx] 70 := ⟨_, rfl⟩
            have HM3 : Hid (spL (l.take (k + 1)) s ⟨vk, vi, vt, vs, vl⟩ = ((L ++ [((⟨nm, ⟨kx, ix, tx, sx, lx⟩⟩ : Pr), Value.slice Ax nx cx)]).map Prod.fst, false)) := HM2.out.trans (by rw [List.map_append]; rfl)
            have HAP := Lib.hid (sp_app wb wa u L HOA.out HBA.out (⟨nm, ⟨kx, ix, tx, sx, lx⟩⟩, .slice Ax nx cx) (S := S) (HNY.out.keep fun p hp => (HBB.out.trans (HBA.out.mono HBB.out.size)).cell (Nat.lt_of_lt_of_le (hS _ hp) hB)) (fun b hb => by have := hS b hb; have := HZB.out; omega) (by have := HLL.out; omega) O)
            have HR7 : Hid (Reads (wa.alloc O) (wa.heap.size + 1) 6 (some ⟨wa.heap.size, 0, none⟩) 1 (prV (⟨nm, ⟨kx, ix, tx, sx, lx⟩⟩, .slice Ax nx cx))) := by rw [hO]; exact Reads.blk (Blk.new _ _ _) rfl
            have hone7 := prV_one (⟨nm, ⟨kx, ix, tx, sx, lx⟩⟩, .slice Ax nx cx) ⟨_, _, _, rfl⟩
            rw [hO] at HAP HR7
            go_wp2_with (at_builtin; refine wpList_append_any _ rfl _ _ 43 rfl wb.heap.size 70 i0 pZ 6 80 Tryz.underlying43 hi hq0 hq1 hq2 rfl (by decide) u L.length (L.flatMap prV) rfl HAP.out.own (wa.heap.size + 1) (some ⟨wa.heap.size, 0, none⟩) 1 1 (prV (⟨nm, ⟨kx, ix, tx, sx, lx⟩⟩, .slice Ax nx cx)) rfl HR7.out hone7 HAP.out.len HAP.out.bytes HAP.out.base ?_)
            intro v9 w9 hown9 hg9 hat9
            have HP9 := Lib.hid (HAP.out.post v9 w9 hown9 hg9 (by simpa using hat9))
            have HPa9 := Lib.hid HP9.out.1
            have HPb9 := Lib.hid HP9.out.2
            clear hown9 hg9 hat9 e1 e2
            go_wp2_with fail
            go_roundg (n - (k + 1))
            case measure => omega
            case rel => exact ⟨k + 1, v9, _, false, by omega, rfl, rfl, by go_num, HM3, HPa9, HPb9⟩
          · have hlt : Op.bytesLess nm.toList s.toList = false := by simpa using hlt
            have f3 : Op.bytesLess s.toList nm.toList = true := less_or hlt he
            have HM2 : Hid (spL (l.take (k + 1)) s ⟨vk, vi, vt, vs, vl⟩ = ((L ++ [((⟨s, ⟨vk, vi, vt, vs, vl⟩⟩ : Pr), Value.slice Av nv cv)]).map Prod.fst ++ [⟨nm, ⟨kx, ix, tx, sx, lx⟩⟩], true)) := HST.out.trans (by simp [spF, hlt, he])
            obtain ⟨O, hO⟩ : ∃ O, O = Obj.cells #[.string s, .int .i64 vk, .int .i64 vi, .int .i64 vt, .string vs, .slice Av nv cv] 70 := ⟨_, rfl⟩
            have HAP := Lib.hid (sp_app wb wa u L HOA.out HBA.out (⟨s, ⟨vk, vi, vt, vs, vl⟩⟩, .slice Av nv cv) (S := S) (HV.out.keep fun p hp => (HBB.out.trans (HBA.out.mono HBB.out.size)).cell (Nat.lt_of_lt_of_le (hS _ hp) hB)) (fun b hb => by have := hS b hb; have := HZB.out; omega) (by have := HLL.out; omega) O)
            have HR7 : Hid (Reads (wa.alloc O) (wa.heap.size + 1) 6 (some ⟨wa.heap.size, 0, none⟩) 1 (prV (⟨s, ⟨vk, vi, vt, vs, vl⟩⟩, .slice Av nv cv))) := by rw [hO]; exact Reads.blk (Blk.new _ _ _) rfl
            have hone7 := prV_one (⟨s, ⟨vk, vi, vt, vs, vl⟩⟩, .slice Av nv cv) ⟨_, _, _, rfl⟩
            have HUB : Hid (∀ g, u.ownBlock = some g → g < W1.heap.size) := fun g hg => (hown.out.blocks g hg).2
            have HQO := Lib.hid (Q0.out.alloc O)
            rw [hO] at HAP HR7 HQO
            clear hO
            go_wp2_with (at_builtin; refine wpList_append_any _ rfl _ _ 43 rfl wb.heap.size 70 i0 pZ 6 80 Tryz.underlying43 hi hq0 hq1 hq2 rfl (by decide) u L.length (L.flatMap prV) rfl HAP.out.own (wa.heap.size + 1) (some ⟨wa.heap.size, 0, none⟩) 1 1 (prV (⟨s, ⟨vk, vi, vt, vs, vl⟩⟩, .slice Av nv cv)) rfl HR7.out hone7 HAP.out.len HAP.out.bytes HAP.out.base ?_)
            intro v8 w8 hown8 hg8 hat8
            have HP8 := Lib.hid (HAP.out.post v8 w8 hown8 hg8 (by simpa using hat8))
            have HQ8 := Lib.hid (HQO.out.grown hg8 (fun e => by have := HUB.out _ e.symm; omega))
            obtain ⟨L2, hL2⟩ : ∃ L2, L2 = L ++ [((⟨s, ⟨vk, vi, vt, vs, vl⟩⟩ : Pr), Value.slice Av nv cv)] := ⟨_, rfl⟩
            have HL8 : Hid (L2.length ≤ L.length + 1) := by show _ ≤ _; rw [hL2, List.length_append]; exact Nat.le_refl _
            rw [← hL2] at HP8 HM2
            have HPa := Lib.hid HP8.out.1
            have HPb := Lib.hid HP8.out.2
            clear hown8 hg8 hat8 e1 e2 hL2 HAP HR7 hone7
            have e1 := fun i => HQ8.out.cell i
            have e2 : True := trivial
            obtain ⟨O, hO⟩ : ∃ O, O = Obj.cells #[.string nm, .int .i64 kx, .int .i64 ix, .int .i64 tx, .string sx, .slice Ax nx cx] 70 := ⟨_, rfl⟩
            have HM3 : Hid (spL (l.take (k + 1)) s ⟨vk, vi, vt, vs, vl⟩ = ((L2 ++ [((⟨nm, ⟨kx, ix, tx, sx, lx⟩⟩ : Pr), Value.slice Ax nx cx)]).map Prod.fst, true)) := HM2.out.trans (by rw [List.map_append]; rfl)
            have HAP := Lib.hid (sp_app wb w8 v8 L2 HPa.out HPb.out (⟨nm, ⟨kx, ix, tx, sx, lx⟩⟩, .slice Ax nx cx) (S := S) (HNY.out.keep fun p hp => (HBB.out.trans (HPb.out.mono HBB.out.size)).cell (Nat.lt_of_lt_of_le (hS _ hp) hB)) (fun b hb => by have := hS b hb; have := HZB.out; omega) (by have := HLL.out; have := HL8.out; omega) O)
            have HR7 : Hid (Reads (w8.alloc O) (w8.heap.size + 1) 6 (some ⟨w8.heap.size, 0, none⟩) 1 (prV (⟨nm, ⟨kx, ix, tx, sx, lx⟩⟩, .slice Ax nx cx))) := by rw [hO]; exact Reads.blk (Blk.new _ _ _) rfl
            have hone7 := prV_one (⟨nm, ⟨kx, ix, tx, sx, lx⟩⟩, .slice Ax nx cx) ⟨_, _, _, rfl⟩
            rw [hO] at HAP HR7
            go_wp2_with (at_builtin; refine wpList_append_any _ rfl _ _ 43 rfl wb.heap.size 70 i0 pZ 6 80 Tryz.underlying43 hi hq0 hq1 hq2 rfl (by decide) v8 L2.length (L2.flatMap prV) rfl HAP.out.own (w8.heap.size + 1) (some ⟨w8.heap.size, 0, none⟩) 1 1 (prV (⟨nm, ⟨kx, ix, tx, sx, lx⟩⟩, .slice Ax nx cx)) rfl HR7.out hone7 HAP.out.len HAP.out.bytes HAP.out.base ?_)
            intro v9 w9 hown9 hg9 hat9
            have HP9 := Lib.hid (HAP.out.post v9 w9 hown9 hg9 (by simpa using hat9))
            have HPa9 := Lib.hid HP9.out.1
            have HPb9 := Lib.hid HP9.out.2
            clear hown9 hg9 hat9 e1 e2
            go_wp2_with fail
            go_roundg (n - (k + 1))
            case measure => omega
            case rel => exact ⟨k + 1, v9, _, true, by omega, rfl, rfl, by go_num, HM3, HPa9, HPb9⟩
    · obtain rfl : n = k := by omega
      have HFL : Hid (spL l s ⟨vk, vi, vt, vs, vl⟩ = (L.map Prod.fst, d)) := by
        have := hL.out
        rw [List.take_of_length_le (by rw [← HLN.out]; exact Nat.le_refl _)] at this
        exact this
      have HSZ : Hid (L.length ≤ 100000) := by show _ ≤ _; have := HLL.out; omega
      have e1 := fun i => P1.out.cell i
      cases d with
      | true =>
        have HRES : Hid (L.map Prod.fst = setPr l s ⟨vk, vi, vt, vs, vl⟩) := by
          have := HEQ.out
          rw [HFL.out, if_neg (by simp)] at this
          exact this
        obtain ⟨Ar, cr, rfl, hrp⟩ := sp_done hown.out (Nat.le_succ_of_le HSZ.out)
        have HRP := Lib.hid hrp
        clear hrp
        go_wp2_with fail
        go_ret
        exact ⟨⟨Ar, L.length, cr, rfl, by rw [← HRES.out]; exact HRP.out.weak fun b hb => hb.imp id fun h => ⟨by have := HZB.out; omega, h.2⟩⟩, HBB.out.trans (hbel.out.mono HBB.out.size)⟩
      | false =>
        have HRES : Hid ((L ++ [((⟨s, ⟨vk, vi, vt, vs, vl⟩⟩ : Pr), Value.slice Av nv cv)]).map Prod.fst = setPr l s ⟨vk, vi, vt, vs, vl⟩) := by
          have := HEQ.out
          rw [HFL.out, if_pos rfl] at this
          show _ = _
          rw [← this, List.map_append]; rfl
        obtain ⟨O, hO⟩ : ∃ O, O = Obj.cells #[.string s, .int .i64 vk, .int .i64 vi, .int .i64 vt, .string vs, .slice Av nv cv] 70 := ⟨_, rfl⟩
        have HAP := Lib.hid (sp_app wb W1 u L hown.out hbel.out (⟨s, ⟨vk, vi, vt, vs, vl⟩⟩, .slice Av nv cv) (S := S) (HV.out.keep fun p hp => (HBB.out.trans (hbel.out.mono HBB.out.size)).cell (Nat.lt_of_lt_of_le (hS _ hp) hB)) (fun b hb => by have := hS b hb; have := HZB.out; omega) HSZ.out O)
        have HR7 : Hid (Reads (W1.alloc O) (W1.heap.size + 1) 6 (some ⟨W1.heap.size, 0, none⟩) 1 (prV (⟨s, ⟨vk, vi, vt, vs, vl⟩⟩, .slice Av nv cv))) := by rw [hO]; exact Reads.blk (Blk.new _ _ _) rfl
        have hone7 := prV_one (⟨s, ⟨vk, vi, vt, vs, vl⟩⟩, .slice Av nv cv) ⟨_, _, _, rfl⟩
        rw [hO] at HAP HR7
        go_wp2_with (at_builtin; refine wpList_append_any _ rfl _ _ 43 rfl wb.heap.size 70 i0 pZ 6 80 Tryz.underlying43 hi hq0 hq1 hq2 rfl (by decide) u L.length (L.flatMap prV) rfl HAP.out.own (W1.heap.size + 1) (some ⟨W1.heap.size, 0, none⟩) 1 1 (prV (⟨s, ⟨vk, vi, vt, vs, vl⟩⟩, .slice Av nv cv)) rfl HR7.out hone7 HAP.out.len HAP.out.bytes HAP.out.base ?_)
        intro v8 w8 hown8 hg8 hat8
        have HP8 := Lib.hid (HAP.out.post v8 w8 hown8 hg8 (by simpa using hat8))
        have hsz : (L ++ [((⟨s, ⟨vk, vi, vt, vs, vl⟩⟩ : Pr), Value.slice Av nv cv)]).length ≤ 100001 := by rw [List.length_append, List.length_singleton]; have := HSZ.out; omega
        obtain ⟨Ar, cr, rfl, hrp⟩ := sp_done HP8.out.1 hsz
        have HRP := Lib.hid hrp
        clear hrp hsz hown8 hg8 hat8 e1
        go_wp2_with fail
        go_ret
        exact ⟨⟨Ar, _, cr, rfl, by rw [← HRES.out]; exact HRP.out.weak fun b hb => hb.imp id fun h => ⟨by have := HZB.out; omega, h.2⟩⟩, HBB.out.trans (HP8.out.2.mono HBB.out.size)⟩
end Go.Proofs.YtackphgnkdpgnaaGreat
namespace Go.Proofs.YtackphgnkdpgnaaGreat

def zeros (D : List Int) : Nat := (D.filter (· == 0)).length
theorem zeros_set {D : List Int} {p : Nat} {v : Int} (h : D[p]? = some 0) (hv : v ≠ 0) : zeros (D.set p v) + 1 = zeros D := by
  induction D generalizing p with
  | nil => simp at h
  | cons a D ih =>
    rcases p with _ | p
    · obtain rfl : a = 0 := by simpa using h
      simp [zeros, hv]
    · have := ih (by simpa using h)
      unfold zeros at this ⊢
      rw [List.set_cons_succ, List.filter_cons, List.filter_cons]
      split
      · rw [List.length_cons, List.length_cons]; omega
      · exact this
theorem zeros_le (D : List Int) : zeros D ≤ D.length := List.length_filter_le _ _
theorem zeros_pos {D : List Int} {p : Nat} (h : D[p]? = some 0) : 1 ≤ zeros D := by
  have := zeros_set h (v := 1) (by omega)
  omega
/-- depths that are right -/
structure Rch (l : List Bl) (D : List Int) : Prop where
  len : D.length = l.length
  sound : ∀ (i : Nat) (d : Int), D[i]? = some d → d ≠ 0 → ∃ (y : Bl) (n : Nat), l[i]? = some y ∧ d = (n : Int) ∧ Dp l y.id n
/-- a kid has its depth -/
def Mk (l : List Bl) (D : List Int) (k : Int) : Prop := ∃ (p : Nat) (d : Int), posOf l k = (p : Int) ∧ D[p]? = some d ∧ d ≠ 0
/-- what has been done since D, of the first j kids of x -/
structure RchTo (l : List Bl) (D D' : List Int) (kids : List Int) : Prop where
  rch : Rch l D'
  mono : ∀ (j : Nat) (d : Int), D[j]? = some d → d ≠ 0 → D'[j]? = some d
  fresh : ∀ (j : Nat) (d : Int) (y : Bl), D[j]? = some 0 → D'[j]? = some d → d ≠ 0 → l[j]? = some y → ∀ k ∈ y.kids, Mk l D' k
  kids : ∀ k ∈ kids, Mk l D' k
  less : zeros D' ≤ zeros D
section
variable {l : List Bl} {D D' D2 : List Int} {ks : List Int}
theorem RchTo.start (h : Rch l D) : RchTo l D D [] where
  rch := h
  mono _ _ h _ := h
  fresh j d y h h' hd := by rw [h] at h'; injection h' with h'; exact absurd h'.symm hd
  kids k hk := by cases hk
  less := Nat.le_refl _
theorem Mk.mono (h : RchTo l D D' ks) {k : Int} (hm : Mk l D k) : Mk l D' k := by
  obtain ⟨p, d, h1, h2, h3⟩ := hm
  exact ⟨p, d, h1, h.mono p d h2 h3, h3⟩
theorem RchTo.skip (h : RchTo l D D' ks) {k : Int} {p : Nat} {d : Int} (hp : posOf l k = (p : Int)) (hd : D'[p]? = some d) (h0 : d ≠ 0) : RchTo l D D' (ks ++ [k]) where
  rch := h.rch
  mono := h.mono
  fresh := h.fresh
  kids z hz := by
    rcases List.mem_append.1 hz with hz | hz
    · exact h.kids z hz
    · obtain rfl : z = k := by simpa using hz
      exact ⟨p, d, hp, hd, h0⟩
  less := h.less
theorem Rch.set (h : Rch l D) {x y : Bl} (hx : x ∈ l) {k : Int} (hk : k ∈ x.kids) {n : Nat} (hn : Dp l x.id n) {p : Nat} (hy : l[p]? = some y) (hyk : y.id = k) : Rch l (D.set p ((n : Int) + 1)) where
  len := by rw [List.length_set]; exact h.len
  sound i d hi hd := by
    rw [List.getElem?_set] at hi
    split at hi
    · rename_i e
      subst e
      split at hi
      · injection hi with hi
        exact ⟨y, n + 1, hy, by omega, by rw [hyk]; exact .step x n k hn hx hk⟩
      · cases hi
    · exact h.sound i d hi hd
theorem RchTo.down (h : RchTo l D D' ks) {k : Int} {p : Nat} (hp : posOf l k = (p : Int)) {y : Bl} (hy : l[p]? = some y) (h0 : D'[p]? = some 0) {v : Int} (hv : v ≠ 0) (h2 : RchTo l (D'.set p v) D2 y.kids) : RchTo l D D2 (ks ++ [k]) := by
  have hpl : p < D'.length := (List.getElem?_eq_some_iff.1 h0).1
  have hset : ∀ (j : Nat) (d : Int), D'[j]? = some d → d ≠ 0 → D2[j]? = some d := fun j d hj hd => by
    refine h2.mono j d ?_ hd
    rw [List.getElem?_set]
    split
    · rename_i e
      subst e
      rw [h0] at hj; injection hj with hj; exact absurd hj.symm hd
    · exact hj
  have hmk : ∀ k, Mk l D' k → Mk l D2 k := fun k ⟨p, d, a, b, c⟩ => ⟨p, d, a, hset p d b c, c⟩
  have hp2 : D2[p]? = some v := h2.mono p v (by rw [List.getElem?_set_self hpl]) hv
  refine ⟨h2.rch, fun j d hj hd => hset j d (h.mono j d hj hd) hd, fun j d z hj hj2 hd hz k hk => ?_, fun z hz => ?_, ?_⟩
  · obtain ⟨d', hd'⟩ : ∃ d', D'[j]? = some d' := ⟨_, List.getElem?_eq_getElem (by rw [h.rch.len]; exact (List.getElem?_eq_some_iff.1 hz).1)⟩
    by_cases e : d' = 0
    · subst e
      by_cases ej : j = p
      · subst ej
        rw [hy] at hz
        obtain rfl := Option.some.inj hz
        exact h2.kids k hk
      · exact h2.fresh j d z (by rw [List.getElem?_set_ne (fun e => ej e.symm)]; exact hd') hj2 hd hz k hk
    · exact hmk k (h.fresh j d' z hj hd' e hz k hk)
  · rcases List.mem_append.1 hz with hz | hz
    · exact hmk z (h.kids z hz)
    · obtain rfl : z = k := by simpa using hz
      exact ⟨p, v, hp, hp2, hv⟩
  · have := zeros_set h0 hv
    have := h2.less
    have := h.less
    omega
/-- what the search from the root has found -/
theorem RchTo.isDep (K : Kids l) {f : Int → Option Int} (hf : IsDep l f) {r : Bl} (hr : l[0]? = some r) (hD : ∀ (j : Nat) (d : Int), D[j]? = some d → d = 0) (hl : D.length = l.length) (h : RchTo l D D' r.kids) : ∀ (i : Nat) (x : Bl), l[i]? = some x → i ≠ 0 → ∃ d, D'[i]? = some d ∧ (d = 0 → f x.id = none) ∧ (d ≠ 0 → f x.id = some d) := by
  have hr0 : r.id = 0 := by
    obtain ⟨r', h1, h2, _⟩ := K.root
    rw [hr] at h1
    rw [Option.some.inj h1]; exact h2
  have key : ∀ {id : Int} {n : Nat}, Dp l id n → id ≠ 0 → Mk l D' id := by
    intro id n hd
    induction hd with
    | root => intro h0; exact absurd rfl h0
    | step b d k hd hb hk ih =>
      intro _
      by_cases e : b.id = 0
      · have : b = r := K.rise.inj hb (List.mem_of_getElem? hr) (e.trans hr0.symm)
        subst this
        exact h.kids k hk
      · obtain ⟨p, v, h1, h2, h3⟩ := ih e
        obtain ⟨q, hq, hqe⟩ := List.mem_iff_getElem.1 hb
        have hbq : l[q]? = some b := by rw [List.getElem?_eq_getElem hq, hqe]
        have hpq : p = q := by
          have := posOf_of K.rise hbq
          rw [h1] at this
          omega
        subst hpq
        have hz : D[p]? = some 0 := by
          obtain ⟨z, hz⟩ : ∃ z, D[p]? = some z := ⟨_, List.getElem?_eq_getElem (by rw [hl]; exact hq)⟩
          rw [hz, hD p z hz]
        exact h.fresh p v b hz h2 h3 hbq k hk
  intro i x hx hi
  have hil := (List.getElem?_eq_some_iff.1 hx).1
  obtain ⟨d, hd⟩ : ∃ d, D'[i]? = some d := ⟨_, List.getElem?_eq_getElem (by rw [h.rch.len]; exact hil)⟩
  have hx0 : x.id ≠ 0 := by
    have := K.rise 0 i r x (by omega) hr hx
    omega
  refine ⟨d, hd, fun h0 => ?_, fun h0 => ?_⟩
  · cases hfx : f x.id with
    | none => rfl
    | some v =>
      obtain ⟨n, _, hn⟩ := (hf _ _).1 hfx
      obtain ⟨p, v', h1, h2, h3⟩ := key hn hx0
      have := posOf_of K.rise hx
      rw [h1] at this
      have hpi : p = i := by omega
      subst hpi
      rw [hd] at h2
      injection h2 with h2
      exact absurd (h2.symm.trans h0) h3
  · obtain ⟨y, n, h1, h2, h3⟩ := h.rch.sound i d hd h0
    rw [hx] at h1
    obtain rfl := Option.some.inj h1
    exact (hf _ _).2 ⟨n, h2, h3⟩
end
end Go.Proofs.YtackphgnkdpgnaaGreat
namespace Go.Proofs.YtackphgnkdpgnaaGreat
open Go.RowKit

def ints (D : List Int) : Array Value := (D.map (Value.int .i64)).toArray
theorem ints_at {D : List Int} {p : Nat} {d : Int} (h : D[p]? = some d) : (ints D)[p]? = some (.int .i64 d) := by
  unfold ints; simp [h]
theorem ints_set (D : List Int) (p : Nat) (d : Int) : (ints D).setIfInBounds p (.int .i64 d) = ints (D.set p d) := by
  unfold ints
  apply Array.ext'
  simp [List.map_set]
/-- what reach leaves -/
def ReachP (l : List Bl) (D : List Int) (kids : List Int) (g : Nat) (w : World) (e : Ending) (w' : World) : Prop :=
  e = .returned (.tuple #[]) ∧ ∃ D', RchTo l D D' kids ∧ Blk w' g 3 (ints D') ∧ w.grownBy w' (some g)
theorem grown_refl (w : World) (r : Option Nat) : w.grownBy w r := ⟨rfl, rfl, rfl, Nat.le_refl _, fun _ _ _ => rfl⟩
theorem below_of_grown {w w' : World} {g B : Nat} (h : w.grownBy w' (some g)) (hB : B ≤ g) (hw : B ≤ w.heap.size) : Below B w w' :=
  (Below.refl B w).grown h hw (fun k hk => by injection hk with hk; omega)
theorem grown_of_below {w w1 w2 : World} {r : Option Nat} (h : w.grownBy w1 r) (hb : Below w1.heap.size w1 w2) : w.grownBy w2 r :=
  h.trans ⟨hb.os, hb.tape, hb.output, hb.size, fun k hk _ => hb.block k hk⟩

set_option maxHeartbeats 4000000 in
theorem reach_walk (l : List Bl) (K : Kids l) (A : Option Addr) (n c : Nat) (B : Nat) (D : List Int) (i dd : Nat) (x : Bl) (g : Nat) (w : World) (h : RB w B (.slice A n c) l) (hBg : B ≤ g) (hx : l[i]? = some x) (hdp : Dp l x.id dd) (hdz : dd + zeros D ≤ n) (hg : Blk w g 3 (ints D)) (hD : Rch l D)
    (IH : ∀ (D1 : List Int) (p : Nat) (y : Bl) (W : World), zeros D1 + 1 ≤ zeros D → RB W B (.slice A n c) l → l[p]? = some y → Dp l y.id (dd + 1) → Blk W g 3 (ints D1) → Rch l D1 → Calls Tryz.prog 17 #[.slice A n c, .int .i64 p, .int .i64 ((dd : Int) + 1), .slice (some ⟨g, 0, none⟩) n n] W (ReachP l D1 y.kids g W)) :
    Calls Tryz.prog 17 #[.slice A n c, .int .i64 i, .int .i64 dd, .slice (some ⟨g, 0, none⟩) n n] w (ReachP l D x.kids g w) := by
  have hbg : n * 80 ≤ 140737488351232 := h.len.2.2
  have hgw : g < w.heap.size := hg.lt
  have hil := (List.getElem?_eq_some_iff.1 hx).1
  have hin : i < n := by have := h.len.1; omega
  obtain ⟨b, off, Ak, nk, ck, Ap, np, cp, rfl, hbb, g0, g1, g2, g3, g4, hK, _⟩ := h.at_ hx
  have HN := Lib.hid h.len
  have HAT := Lib.hid fun (id : Int) (W : World) (hW : Below B w W) => at_any l (some ⟨b, off, none⟩) n c id W B (by have := hW.size; omega) (h.below hW)
  have H := Lib.hid h
  have HK := Lib.hid hK
  have HKL := Lib.hid hK.len
  have HX := Lib.hid hx
  have HDP := Lib.hid hdp
  have HDZ := Lib.hid hdz
  have HG := Lib.hid hg
  have HS := Lib.hid (RchTo.start hD)
  have HI := Lib.hid IH
  have KK := Lib.hid K
  have hdn : dd ≤ n := by omega
  have i0 : (0 : Int) ≤ (i : Int) := by omega
  have i1 : (i : Int) < (n : Int) := by omega
  clear h hK hx hdp hdz hg hD IH g0 g1 g3 g4
  go_enter Tryz.func17, Tryz.ntmps17
  go_wp2_with fail
  go_loopg [17] nk (fun gg s17 wr => ∃ (j : Nat) (D' : List Int), j + gg = nk ∧ s17 = .int .i64 (j : Int) ∧ Hid (RchTo l D D' (x.kids.take j)) ∧ Hid (Blk wr g 3 (ints D')) ∧ Hid (w.grownBy wr (some g)))
  case atStart => exact ⟨0, D, by omega, rfl, HS.out, HG, grown_refl _ _⟩
  case round =>
    obtain ⟨j, D', hjg, rfl, hr, hb, hgr⟩ := hrel
    have hbk : nk ≤ ck ∧ nk * 8 ≤ 140737488351232 := HKL.out.2
    have HBW : Hid (Below B w wr) := below_of_grown hgr.out hBg (by omega)
    by_cases hj : j < nk
    case neg =>
      obtain rfl : j = nk := by omega
      have hr' := hr.out
      rw [List.take_of_length_le (by rw [← HKL.out.1]; exact Nat.le_refl _)] at hr'
      have HR := Lib.hid hr'
      clear hr'
      go_wp2_with fail
      go_end0
      exact ⟨rfl, D', HR.out, hb.out, hgr.out⟩
    obtain ⟨k, hkk⟩ : ∃ k, x.kids[j]? = some k := ⟨_, List.getElem?_eq_getElem (by have := HKL.out.1; omega)⟩
    obtain ⟨bk, ok, rfl, hbk2, q0⟩ := HK.out.at_ hkk
    have q0 := (HBW.out.cell (p := ⟨bk, ok + j, none⟩) (by show bk < _; omega)).trans q0
    have z0 : (0 : Int) ≤ (j : Int) := by omega
    have z1 : (j : Int) < (nk : Int) := by omega
    have hkm := List.mem_of_getElem? hkk
    have hxm := List.mem_of_getElem? HX.out
    obtain ⟨_, y, hy, hyk, _⟩ := KK.out.kid x hxm k hkm
    obtain ⟨p, hpl, hpe⟩ := List.mem_iff_getElem.1 hy
    have hly : l[p]? = some y := by rw [List.getElem?_eq_getElem hpl, hpe]
    have hpos : posOf l k = (p : Int) := by rw [← hyk]; exact posOf_of KK.out.rise hly
    have HA := HAT.out k wr HBW.out
    rw [hpos] at HA
    have HA := Lib.hid HA
    have hpn : p < n := by have := HN.out.1; omega
    have p0 : (0 : Int) ≤ (p : Int) := by omega
    have p1 : (p : Int) < (n : Int) := by omega
    obtain ⟨d, hd⟩ : ∃ d, D'[p]? = some d := ⟨_, List.getElem?_eq_getElem (by rw [hr.out.rch.len]; exact hpl)⟩
    have HT : Hid (x.kids.take (j + 1) = x.kids.take j ++ [k]) := by
      show _ = _
      obtain ⟨hk, e⟩ := List.getElem?_eq_some_iff.1 hkk
      rw [List.take_succ_eq_append_getElem hk, e]
    have hgl : g < wr.heap.size := hb.out.lt
    have HY := Lib.hid hly
    have HYK := Lib.hid hyk
    have HKM := Lib.hid hkm
    have HXM := Lib.hid hxm
    have HPOS := Lib.hid hpos
    have HD := Lib.hid hd
    clear hkk hy hyk hpl hpe hly hpos hkm hxm hd
    by_cases h0 : d = 0
    case neg =>
      have HSK : Hid (RchTo l D D' (x.kids.take (j + 1))) := by rw [HT.out]; exact hr.out.skip HPOS.out HD.out h0
      have h0' : (d == 0) = false := by simpa using h0
      clear h0
      go_wp2_with fail
      refine HA.out.mono ?_
      rintro e w2 ⟨rfl, hb2⟩
      have HB2 : Hid (Blk w2 g 3 (ints D')) := hb.out.below hb2 hgl
      have HG2 : Hid (w.grownBy w2 (some g)) := grown_of_below hgr.out hb2
      have c0 : w2.cell? ⟨g, p, none⟩ = some (.int .i64 d) := (HB2.out.cell p).trans (ints_at HD.out)
      clear hb2
      go_wp2_with fail
      go_roundg (nk - (j + 1))
      case measure => omega
      case rel => exact ⟨j + 1, D', by omega, by go_num, HSK, HB2, HG2⟩
    case pos =>
      subst h0
      have hz1 := zeros_pos HD.out
      have hzl := hr.out.less
      have hdz := HDZ.out
      have hne : ((dd : Int) + 1) ≠ 0 := by omega
      have hzs := zeros_set HD.out hne
      have HST := Lib.hid (hr.out.rch.set HXM.out HKM.out HDP.out HY.out HYK.out)
      have HDY : Hid (Dp l y.id (dd + 1)) := by rw [HYK.out]; exact .step x dd k HDP.out HXM.out HKM.out
      have HZL : Hid (zeros (D'.set p ((dd : Int) + 1)) + 1 ≤ zeros D) := by show _ ≤ _; omega
      have HFIN : Hid (∀ D2, RchTo l (D'.set p ((dd : Int) + 1)) D2 y.kids → RchTo l D D2 (x.kids.take (j + 1))) := fun D2 h2 => by rw [HT.out]; exact hr.out.down HPOS.out HY.out HD.out hne h2
      clear hz1 hzl hdz hzs hne
      go_wp2_with fail
      refine HA.out.mono ?_
      rintro e w2 ⟨rfl, hb2⟩
      have HB2 : Hid (Blk w2 g 3 (ints D')) := hb.out.below hb2 hgl
      have HG2 : Hid (w.grownBy w2 (some g)) := grown_of_below hgr.out hb2
      have c0 : w2.cell? ⟨g, p, none⟩ = some (.int .i64 0) := (HB2.out.cell p).trans (ints_at HD.out)
      have f0 : w2.frozen? ⟨g, p, none⟩ = false := HB2.out.frozen p
      have HB3 : Hid (Blk (w2.setCell ⟨g, p, none⟩ (.int .i64 ((dd : Int) + 1))) g 3 (ints (D'.set p ((dd : Int) + 1)))) := by
        have := HB2.out.set_ p (.int .i64 ((dd : Int) + 1))
        rwa [ints_set] at this
      have HG3 : Hid (w.grownBy (w2.setCell ⟨g, p, none⟩ (.int .i64 ((dd : Int) + 1))) (some g)) := HG2.out.trans ⟨rfl, rfl, rfl, by simp [World.setCell], fun k hk hne => Below.heap_setCell w2 ⟨g, p, none⟩ _ k (fun e => hne (by rw [e]))⟩
      have HRC := Lib.hid (HI.out _ p y _ HZL.out (H.out.below (below_of_grown HG3.out hBg (by omega))) HY.out HDY.out HB3.out HST.out)
      clear hb2
      go_wp2_with fail
      refine HRC.out.mono ?_
      rintro e w3 ⟨rfl, D2, h2, hb3, hg3⟩
      have HR2 := Lib.hid (HFIN.out D2 h2)
      have HB4 := Lib.hid hb3
      have HG4 : Hid (w.grownBy w3 (some g)) := HG3.out.trans hg3
      clear h2 hb3 hg3
      go_wp2_with fail
      go_roundg (nk - (j + 1))
      case measure => omega
      case rel => exact ⟨j + 1, D2, by omega, by go_num, HR2, HB4, HG4⟩
/-- the reference's reach -/
theorem reach_any (l : List Bl) (K : Kids l) (A : Option Addr) (n c : Nat) (B g : Nat) (hBg : B ≤ g) : ∀ (m : Nat) (D : List Int) (i dd : Nat) (x : Bl) (w : World), zeros D ≤ m → RB w B (.slice A n c) l → l[i]? = some x → Dp l x.id dd → dd + zeros D ≤ n → Blk w g 3 (ints D) → Rch l D →
    Calls Tryz.prog 17 #[.slice A n c, .int .i64 i, .int .i64 dd, .slice (some ⟨g, 0, none⟩) n n] w (ReachP l D x.kids g w)
  | 0, D, i, dd, x, w, hm, h, hx, hdp, hdz, hg, hD => reach_walk l K A n c B D i dd x g w h hBg hx hdp hdz hg hD fun D1 p y W hz => by omega
  | m + 1, D, i, dd, x, w, hm, h, hx, hdp, hdz, hg, hD => reach_walk l K A n c B D i dd x g w h hBg hx hdp hdz hg hD fun D1 p y W hz h' hy hdy hg' hD' => reach_any l K A n c B g hBg m D1 p (dd + 1) y W (by omega) h' hy hdy (by omega) hg' hD'
end Go.Proofs.YtackphgnkdpgnaaGreat
