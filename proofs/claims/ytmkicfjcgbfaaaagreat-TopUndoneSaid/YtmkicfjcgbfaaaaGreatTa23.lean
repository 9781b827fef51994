/-
  DERIVED. The walk of tree.copyBase: a base of the call's own. Conditions: sizes.
  The walks of tree.all and tree.All. Conditions: sizes; a base without error.
  The walks of tree.All and tree.Apply. Conditions: sizes.
  By an AI agent.
-/
import Derived.Test.YtmkicfjcgbfaaaaGreatTa13
import Derived.Test.YtmkicfjcgbfaaaaGreatTa22
import Derived.Laws.OwnMore
import Derived.Test.YtmkicfjcgbfaaaaGreatTa20
import Derived.Test.YtmkicfjcgbfaaaaGreatTa10
namespace Go.Proofs.YtmkicfjcgbfaaaaGreat
open Go.RowKit

section
variable {w : World} {g cap : Nat} {M : List BK}
theorem set_same {k : Nat} {x : BK} (hx : M[k]? = some x) : M.set k x = M := by
  obtain ⟨hk, rfl⟩ := List.getElem?_eq_some_iff.1 hx
  exact List.set_getElem_self hk
theorem size_put (w : World) (a : Addr) (u : Value) : (w.setCell a u).heap.size = w.heap.size := by simp [World.setCell]
/-- a block stored whole, with other kids' and properties' memory -/
theorem RowB.putKP (h : RowB w g cap M) {k : Nat} {x : BK} {kv pv : Value} (hx : M[k]? = some x) (hk : RInX w (fun b => b < w.heap.size ∧ b ≠ g) kv x.1.kids) (hp : RPrX w (fun b => b < w.heap.size ∧ b ≠ g) pv x.1.props) :
    RowB (((((w.setCell ⟨g, k * 5, none⟩ (.int .i64 x.1.id)).setCell ⟨g, k * 5 + 1, none⟩ (.int .i64 x.1.parent)).setCell ⟨g, k * 5 + 2, none⟩ kv).setCell ⟨g, k * 5 + 3, none⟩ (.string x.1.text)).setCell ⟨g, k * 5 + 4, none⟩ pv) g cap (M.set k (x.1, kv, pv)) := by
  have hm := List.mem_of_getElem? hx
  have hkl := (List.getElem?_eq_some_iff.1 hx).1
  have o : ∀ (w : World) (i : Nat) (u : Value) (p : Addr), p.block ≠ g → (w.setCell ⟨g, i, none⟩ u).cell? p = w.cell? p := fun w i u p hne => World.cell?_setCell_other _ _ p _ (by intro e; subst e; exact hne rfl)
  have s0 := h.store hx (j := 0) (y := x) (u := .int .i64 x.1.id) (by omega) rfl (h.nest x hm)
  rw [set_same hx] at s0
  have s1 := s0.store hx (j := 1) (y := x) (u := .int .i64 x.1.parent) (by omega) rfl (s0.nest x hm)
  rw [set_same hx] at s1
  have s2 := s1.store hx (j := 2) (y := (x.1, kv, x.2.2)) (u := kv) (by omega) rfl ⟨(hk.keep fun p hp => by rw [o _ _ _ _ hp.2, o _ _ _ _ hp.2]).weak fun b hb => ⟨by rw [size_put, size_put]; exact hb.1, hb.2⟩, (s1.nest x hm).2⟩
  have hx2 : (M.set k (x.1, kv, x.2.2))[k]? = some (x.1, kv, x.2.2) := by rw [List.getElem?_set, if_pos rfl, if_pos hkl]
  have s3 := s2.store hx2 (j := 3) (y := (x.1, kv, x.2.2)) (u := .string x.1.text) (by omega) rfl (s2.nest _ (List.mem_of_getElem? hx2))
  rw [set_same hx2] at s3
  have s4 := s3.store hx2 (j := 4) (y := (x.1, kv, pv)) (u := pv) (by omega) rfl ⟨(s3.nest _ (List.mem_of_getElem? hx2)).1, (hp.keep fun p hp => by rw [o _ _ _ _ hp.2, o _ _ _ _ hp.2, o _ _ _ _ hp.2, o _ _ _ _ hp.2]).weak fun b hb => ⟨by rw [size_put, size_put, size_put, size_put]; exact hb.1, hb.2⟩⟩
  rw [List.set_set] at s4
  exact s4
end

theorem blV_one (x : BK) (h1 : ∃ A n c, x.2.1 = .slice A n c) (h2 : ∃ A n c, x.2.2 = .slice A n c) : ∀ v ∈ blV x, v.oneCell' = true := by
  obtain ⟨x, k, p⟩ := x
  obtain ⟨A, n, c, rfl⟩ : ∃ A n c, k = .slice A n c := h1
  obtain ⟨A', n', c', rfl⟩ : ∃ A n c, p = .slice A n c := h2
  intro v hv
  simp only [blV, List.mem_cons, List.not_mem_nil, or_false] at hv
  rcases hv with rfl | rfl | rfl | rfl | rfl <;> rfl
theorem NB_put {w : World} {g : Nat} {S : Nat → Prop} {x : BK} (h : NB w (fun b => (b < w.heap.size ∧ b ≠ g) ∧ S b) x) (i : Nat) (u : Value) : NB (w.setCell ⟨g, i, none⟩ u) (fun b => (b < (w.setCell ⟨g, i, none⟩ u).heap.size ∧ b ≠ g) ∧ S b) x :=
  NB_ok _ _ _ _ x h (fun p hp => World.cell?_setCell_other _ _ p _ (by intro e; subst e; exact hp.1.2 rfl)) fun b hb => ⟨⟨by rw [size_put]; exact hb.1.1, hb.1.2⟩, hb.2⟩
/-- what copyBase leaves, its nested memory new -/
def CopyBaseS (l : List Bl) (w : World) (e : Ending) (w' : World) : Prop := ∃ (g n : Nat) (M : List BK), e = .returned (.slice (some ⟨g, 0, none⟩) n n) ∧ M.length = n ∧ M.map Prod.fst = l ∧ w.heap.size ≤ g ∧ RowS (fun b => w.heap.size ≤ b) w' g n M ∧ Below w.heap.size w w'
/-- what copyBase leaves -/
def CopyBaseR (l : List Bl) (w : World) (e : Ending) (w' : World) : Prop := ∃ (g n : Nat) (M : List BK), e = .returned (.slice (some ⟨g, 0, none⟩) n n) ∧ M.length = n ∧ M.map Prod.fst = l ∧ w.heap.size ≤ g ∧ RowB w' g n M ∧ Below w.heap.size w w'
set_option maxRecDepth 100000 in
set_option maxHeartbeats 4000000 in
/-- tree.copyBase -/
theorem copyBaseS_any (l : List Bl) (A : Option Addr) (n c : Nat) (w : World) (B : Nat) (hB : B ≤ w.heap.size) (h : RB w B (.slice A n c) l) (hn0 : 0 < n) (hn1 : n ≤ 100000) :
    Calls Tryz.prog 62 #[.slice A n c] w (CopyBaseS l w) := by
  obtain ⟨A', n', c', M0, hM, e, hn, hnc, hr, hnest⟩ := h
  injection e with e1 e2 e3
  subst e1 e2 e3
  obtain ⟨i0, hi0, hz0, hz1, hz2⟩ := info_parts block_info
  obtain ⟨ad, rfl, hab, hcells⟩ := hr.2 hn0
  have hcl : (M0.flatMap blV).length = n * 5 := hr.1
  obtain ⟨mk, hmk0⟩ : ∃ mk, mk = madeCells bZ.cells (n * 5) := ⟨_, rfl⟩
  have hmks : mk.size = n * 5 := by rw [hmk0, size_madeCells]
  have hmk : (Instr.makeSlice 22 (.int .i64 (n : Int)) (.int .i64 (n : Int))).run Tryz.prog w = .ok (.slice (some ⟨w.heap.size, 0, none⟩) n n) (w.alloc (.cells mk 38)) := by
    have := run_make (P := Tryz.prog) w 22 38 i0 bZ Tryz.underlying22 hi0 hz0 .i64 .i64 n n (by omega) (Int.le_refl _) (by rw [hz2]; omega) (by omega)
    simp only [Int.toNat_natCast, hz1, ← hmk0] at this
    exact this
  obtain ⟨w1, hw1⟩ : ∃ w1, w1 = w.alloc (.cells mk 38) := ⟨_, rfl⟩
  have hb1 : Below w.heap.size w w1 := by rw [hw1]; exact (Below.refl _ _).alloc (Nat.le_refl _) _
  have hk1 : Blk w1 w.heap.size 38 mk := by rw [hw1]; exact Blk.new w _ _
  obtain ⟨g, hg⟩ : ∃ g, g = w.heap.size := ⟨_, rfl⟩
  rw [← hw1] at hmk
  rw [← hg] at hk1
  have hzz : (Tryz.prog.info? 38).map (·.size) = some 5 := by rw [hi0]; simp [hz1]
  obtain ⟨w2, hw2⟩ : ∃ w2, w2 = w1.setRow g (M0.flatMap blV).toArray := ⟨_, rfl⟩
  have hcp : ∀ ty, (Builtin.copy_ #[22, 22] ty #[.slice (some ⟨g, 0, none⟩) n n, .slice (some ad) n c]).run Tryz.prog w1 = .ok (goInt (Nat.min n n)) w2 := fun ty => by
    have := run_copy_rowN (P := Tryz.prog) w1 22 22 ty 38 g 0 n n ad n c 5 mk 38 (M0.flatMap blV) Tryz.underlying22 hzz hk1 (by rw [hcl]; show _ = min n n * 5; rw [Nat.min_self]) (fun j v hj => by
      rw [hb1.cell (by rw [block_of_add]; omega)]; exact hcells j v hj) (by rw [hcl, hmks]; omega) (fun v hv => by
      obtain ⟨x, hx, hv⟩ := List.mem_flatMap.1 hv
      exact blV_one x (by obtain ⟨A, n, c, e, _⟩ := (hnest x hx).1; exact ⟨A, n, c, e⟩) (hnest x hx).2.slice v hv)
    rw [hcl, List.take_zero, List.nil_append, List.drop_of_length_le (by rw [Array.length_toList, hmks]; omega), List.append_nil, ← hw2] at this
    exact this
  have hR2 : RowB w2 g n M0 := by
    refine ⟨⟨[], by rw [hw2, List.append_nil]; exact setRow_heap w1 g _ _ _ _ hk1, by rw [← hn]; rfl⟩, by unfold maxLen; omega, by omega, fun x hx => ?_⟩
    have hk : ∀ p : Addr, p.block < B → w2.cell? p = w.cell? p := fun p hp => by
      rw [hw2, cell_setRow_other _ _ _ _ (by omega)]; exact hb1.cell (by omega)
    have hsz : w2.heap.size = w1.heap.size := by rw [hw2, setRow_size]
    have hz : w.heap.size ≤ w1.heap.size := hb1.size
    exact ⟨((RInX.of (hnest x hx).1).keep hk).weak fun b hb => ⟨by omega, by omega⟩, ((RPrX.of (hnest x hx).2).keep hk).weak fun b hb => ⟨by omega, by omega⟩⟩
  have HR2 := Lib.hid hR2
  have HB2 : Hid (Below w.heap.size w w2) := by
    show Below _ _ _
    rw [hw2]
    exact ⟨hb1.os, hb1.tape, hb1.output, by rw [setRow_size]; exact hb1.size, fun k hk => (setRow_other _ _ _ _ (by omega)).trans (hb1.block k hk)⟩
  have HML := Lib.hid hM
  have HN := Lib.hid hn
  have HG := Lib.hid hg
  have HGE : Hid (w.heap.size ≤ g) := by show _ ≤ _; omega
  clear hR2 hw2 hk1 hb1 hmks hmk0 hcl hr hnest hcells hM hn hzz hi0 hz0 hz1 hz2 hab
  go_enter Tryz.func62, Tryz.ntmps62
  rw [hg] at hcp
  clear hg hw1
  go_upto_region 2 with fail
  go_wp2_with (at_builtin; refine wpList_copy_runI _ rfl _ _ 22 22 rfl _ _ rfl rfl (hcp _) ?_)
  obtain ⟨gg0, hgg0⟩ : ∃ gg0, gg0 = w.heap.size := ⟨_, rfl⟩
  have HGG := Lib.hid hgg0
  rw [← hgg0]
  clear hgg0 hcp hmk
  go_loopg [13] n (fun gg s13 wr => ∃ (k : Nat) (M : List BK), k + gg = n ∧ s13 = .int .i64 (k : Int) ∧ Hid (M.length = n) ∧ Hid (M.map Prod.fst = l) ∧ Hid (RowB wr gg0 n M) ∧ Hid (Below w.heap.size w wr) ∧ Hid (∀ (j : Nat) (x : BK), j < k → M[j]? = some x → NB wr (fun b => (b < wr.heap.size ∧ b ≠ gg0) ∧ w.heap.size ≤ b) x))
  case atStart => exact ⟨0, M0, by omega, rfl, HN.out.symm, HML, by rw [HGG.out, ← HG.out]; exact HR2, HB2, fun j x hj => by omega⟩
  case round =>
    obtain ⟨k, M, hkg, rfl, hml, hmm, hrow, hbel, hfar⟩ := hrel
    have hgw := hrow.out.lt
    by_cases hk : k < n
    · obtain ⟨⟨x, xk, xp⟩, hx⟩ : ∃ x, M[k]? = some x := ⟨_, List.getElem?_eq_getElem (by have := hml.out; omega)⟩
      have hns := hrow.out.nest _ (List.mem_of_getElem? hx)
      obtain ⟨hnk, hnp⟩ := hns
      obtain ⟨Kx, nx, cx, rfl⟩ : ∃ A n c, xk = .slice A n c := by
        obtain ⟨A, n, c, e, _⟩ := hnk
        exact ⟨A, n, c, e⟩
      obtain ⟨Px, mx, ex, rfl⟩ : ∃ A n c, xp = .slice A n c := (hnp.reads (B := wr.heap.size) fun b hb => hb.1).slice
      have HCB := Lib.hid (copyBlock_any x Kx Px nx cx mx ex wr wr.heap.size (Nat.le_refl _) (hnk.reads fun b hb => hb.1) (hnp.reads fun b hb => hb.1))
      dsimp only [AB] at HCB
      have HX := Lib.hid hx
      have c0 : wr.cell? ⟨gg0, k * 5, none⟩ = some (.int .i64 x.id) := hrow.out.cell (i := 0) hx rfl
      have c1 : wr.cell? ⟨gg0, k * 5 + 1, none⟩ = some (.int .i64 x.parent) := hrow.out.cell hx rfl
      have c2 : wr.cell? ⟨gg0, k * 5 + 2, none⟩ = some (.slice Kx nx cx) := hrow.out.cell hx rfl
      have c3 : wr.cell? ⟨gg0, k * 5 + 3, none⟩ = some (.string x.text) := hrow.out.cell hx rfl
      have c4 : wr.cell? ⟨gg0, k * 5 + 4, none⟩ = some (.slice Px mx ex) := hrow.out.cell hx rfl
      have j0 : (0 : Int) ≤ (k : Int) := by omega
      have j1 : (k : Int) < (n : Int) := by omega
      clear hx hnk hnp
      go_wp2_with fail
      refine HCB.out.mono ?_
      rintro e w3 ⟨⟨K', n', c', P', m', e', rfl, hk', hp'⟩, hb3⟩
      dsimp only [AB]
      have HR3 := Lib.hid (hrow.out.below hb3)
      have HB3 : Hid (Below w.heap.size w w3) := hbel.out.trans (hb3.mono hbel.out.size)
      have HK3 : Hid (RInX w3 (fun b => b < w3.heap.size ∧ b ≠ gg0) (.slice K' n' c') x.kids) := hk'.weak fun b hb => ⟨hb.2, by omega⟩
      have HP3 : Hid (RPrX w3 (fun b => b < w3.heap.size ∧ b ≠ gg0) (.slice P' m' e') x.props) := hp'.weak fun b hb => ⟨hb.2, by omega⟩
      have HF3 : Hid (∀ (j : Nat) (y : BK), j < k → M[j]? = some y → NB w3 (fun b => (b < w3.heap.size ∧ b ≠ gg0) ∧ w.heap.size ≤ b) y) := fun j y hj hy => NB_ok _ _ _ _ y (hfar.out j y hj hy) (fun p hp => hb3.cell hp.1.1) fun b hb => ⟨⟨Nat.lt_of_lt_of_le hb.1.1 hb3.size, hb.1.2⟩, hb.2⟩
      have hzr := hbel.out.size
      have HN3 : Hid (NB w3 (fun b => (b < w3.heap.size ∧ b ≠ gg0) ∧ w.heap.size ≤ b) ((x, Value.slice K' n' c', Value.slice P' m' e') : BK)) := ⟨hk'.weak fun b hb => ⟨⟨hb.2, by omega⟩, by omega⟩, hp'.weak fun b hb => ⟨⟨hb.2, by omega⟩, by omega⟩⟩
      clear hb3 hk' hp' hzr c0 c1 c2 c3 c4
      have c0 : w3.cell? ⟨gg0, k * 5, none⟩ = some (.int .i64 x.id) := HR3.out.cell (i := 0) HX.out rfl
      have c1 : w3.cell? ⟨gg0, k * 5 + 1, none⟩ = some (.int .i64 x.parent) := HR3.out.cell HX.out rfl
      have c2 : w3.cell? ⟨gg0, k * 5 + 2, none⟩ = some (.slice Kx nx cx) := HR3.out.cell HX.out rfl
      have c3 : w3.cell? ⟨gg0, k * 5 + 3, none⟩ = some (.string x.text) := HR3.out.cell HX.out rfl
      have c4 : w3.cell? ⟨gg0, k * 5 + 4, none⟩ = some (.slice Px mx ex) := HR3.out.cell HX.out rfl
      have f0 := HR3.out.frozen (k * 5)
      have f1 := HR3.out.frozen (k * 5 + 1)
      have f2 := HR3.out.frozen (k * 5 + 2)
      have f3 := HR3.out.frozen (k * 5 + 3)
      have f4 := HR3.out.frozen (k * 5 + 4)
      go_wp2_with fail
      go_roundg (n - (k + 1))
      case measure => omega
      case rel =>
        have hge : w.heap.size ≤ gg0 := by rw [HGG.out]; exact Nat.le_refl _
        have hC := HR3.out.putKP HX.out HK3.out HP3.out
        dsimp only at hC
        have hD := ((((HB3.out.setCell (p := ⟨gg0, k * 5, none⟩) hge (.int .i64 x.id)).setCell (p := ⟨gg0, k * 5 + 1, none⟩) hge (.int .i64 x.parent)).setCell (p := ⟨gg0, k * 5 + 2, none⟩) hge (.slice K' n' c')).setCell (p := ⟨gg0, k * 5 + 3, none⟩) hge (.string x.text)).setCell (p := ⟨gg0, k * 5 + 4, none⟩) hge (.slice P' m' e')
        have hA : (M.set k (x, Value.slice K' n' c', Value.slice P' m' e')).length = n := by rw [List.length_set]; exact hml.out
        have hE : (M.set k (x, Value.slice K' n' c', Value.slice P' m' e')).map Prod.fst = l := by
          rw [← hmm.out, List.map_set]
          obtain ⟨hkk, hke⟩ := List.getElem?_eq_some_iff.1 HX.out
          refine List.ext_getElem? fun i => ?_
          rw [List.getElem?_set]
          split
          · rename_i e
            subst e
            rw [if_pos (by rw [List.length_map]; exact hkk), List.getElem?_map, HX.out]; rfl
          · rfl
        have hFF : ∀ (j : Nat) (y : BK), j < k + 1 → (M.set k (x, Value.slice K' n' c', Value.slice P' m' e'))[j]? = some y → NB (((((w3.setCell ⟨gg0, k * 5, none⟩ (.int .i64 x.id)).setCell ⟨gg0, k * 5 + 1, none⟩ (.int .i64 x.parent)).setCell ⟨gg0, k * 5 + 2, none⟩ (.slice K' n' c')).setCell ⟨gg0, k * 5 + 3, none⟩ (.string x.text)).setCell ⟨gg0, k * 5 + 4, none⟩ (.slice P' m' e')) (fun b => (b < (((((w3.setCell ⟨gg0, k * 5, none⟩ (.int .i64 x.id)).setCell ⟨gg0, k * 5 + 1, none⟩ (.int .i64 x.parent)).setCell ⟨gg0, k * 5 + 2, none⟩ (.slice K' n' c')).setCell ⟨gg0, k * 5 + 3, none⟩ (.string x.text)).setCell ⟨gg0, k * 5 + 4, none⟩ (.slice P' m' e')).heap.size ∧ b ≠ gg0) ∧ w.heap.size ≤ b) y := fun j y hj hy => by
          refine NB_put (NB_put (NB_put (NB_put (NB_put ?_ _ _) _ _) _ _) _ _) _ _
          rw [List.getElem?_set] at hy
          split at hy
          · split at hy
            · obtain rfl := Option.some.inj hy
              exact HN3.out
            · cases hy
          · exact HF3.out j y (by omega) hy
        have HFF := Lib.hid hFF
        have HA := Lib.hid hA
        have HC := Lib.hid hC
        have HD := Lib.hid hD
        have HE := Lib.hid hE
        have hs : k + 1 + (n - (k + 1)) = n := by omega
        have hv : Value.int .i64 ((k : Int) + 1) = Value.int .i64 ((k + 1 : Nat) : Int) := by go_num
        exact ⟨k + 1, _, hs, hv, HA, HE, HC, HD, HFF⟩
    · obtain rfl : n = k := by omega
      go_wp2_with fail
      go_ret
      exact ⟨gg0, n, M, rfl, hml.out, hmm.out, by rw [HGG.out]; exact Nat.le_refl _, ⟨hrow.out, fun y hy => by
        obtain ⟨j, hj⟩ := List.mem_iff_getElem?.1 hy
        have hjl := (List.getElem?_eq_some_iff.1 hj).1
        exact hfar.out j y (by have := hml.out; omega) hj⟩, hbel.out⟩
/-- tree.copyBase -/
theorem copyBase_any (l : List Bl) (A : Option Addr) (n c : Nat) (w : World) (B : Nat) (hB : B ≤ w.heap.size) (h : RB w B (.slice A n c) l) (hn0 : 0 < n) (hn1 : n ≤ 100000) :
    Calls Tryz.prog 62 #[.slice A n c] w (CopyBaseR l w) := by
  refine (copyBaseS_any l A n c w B hB h hn0 hn1).mono ?_
  rintro e w' ⟨g, n, M, h1, h2, h3, h4, h5, h6⟩
  exact ⟨g, n, M, h1, h2, h3, h4, h5.toRowB, h6⟩
end Go.Proofs.YtmkicfjcgbfaaaaGreat
namespace Go.Proofs.YtmkicfjcgbfaaaaGreat
open Go.RowKit

theorem take_take {α : Type} (l : List α) {i k : Nat} (h : i ≤ k) : (l.take k).take i = l.take i := by
  rw [List.take_take, Nat.min_eq_left h]
theorem OkAll.pre {l : List Bl} {os : List Opn} (h : OkAll l os) (k : Nat) : OkAll l (os.take k) := fun i o hi => by
  rw [List.getElem?_take] at hi
  split at hi
  · rename_i hik
    rw [take_take os (Nat.le_of_lt hik)]
    exact h i o hi
  · cases hi
theorem OkAll.snoc {l : List Bl} {os : List Opn} {k : Nat} {o : Opn} (h : OkAll l (os.take k)) (hk : os[k]? = some o) {f : Int → Option Int} (G : Good (applL l (os.take k)) f) (he : opErr (applL l (os.take k)) f o = 0) : OkAll l (os.take (k + 1)) := fun i x hi => by
  rw [List.getElem?_take] at hi
  split at hi
  · rename_i hik
    rw [take_take os (by omega)]
    by_cases e : i < k
    · have h' := h i x (by rw [List.getElem?_take, if_pos e]; exact hi)
      rwa [take_take os (Nat.le_of_lt e)] at h'
    · obtain rfl : i = k := by omega
      obtain rfl : o = x := by rw [hk] at hi; exact Option.some.inj hi
      exact ⟨f, G, he⟩
  · cases hi
theorem OkAll.good {l : List Bl} {f : Int → Option Int} (G : Good l f) {os : List Opn} (h : OkAll l os) : ∀ k : Nat, k ≤ os.length → ∃ f', Good (applL l (os.take k)) f'
  | 0, _ => ⟨f, G⟩
  | k + 1, hk => by
    have hk' : os[k]? = some os[k] := List.getElem?_eq_getElem (by omega)
    obtain ⟨f', G', he⟩ := h k _ hk'
    obtain ⟨f2, _, G2⟩ := G'.applied he
    exact ⟨f2, by rw [applL_snoc hk']; exact G2⟩
/-- the first operation that is refused, and why -/
def BadAt (l : List Bl) (os : List Opn) (k : Nat) (er : Int) : Prop := ∃ o f, os[k]? = some o ∧ Good (applL l (os.take k)) f ∧ opErr (applL l (os.take k)) f o = er ∧ er ≠ 0
/-- what all leaves -/
def AllR (l : List Bl) (os : List Opn) (g : Option Nat) (w : World) (e : Ending) (w' : World) : Prop :=
  ((∃ (k : Nat) (er : Int), OkAll l (os.take k) ∧ BadAt l os k er ∧ e = .returned (.tuple #[.slice none 0 0, .int .i64 k, .int .i64 er])) ∨ (OkAll l os ∧ ∃ (g' cap' n : Nat) (M : List BK), e = .returned (.tuple #[.slice (some ⟨g', 0, none⟩) n cap', .int .i64 0, .int .i64 0]) ∧ M.length = n ∧ M.map Prod.fst = applL l os ∧ RowB w' g' cap' M ∧ (some g' = g ∨ w.heap.size ≤ g'))) ∧ w.grownBy w' g

set_option maxRecDepth 100000 in
set_option maxHeartbeats 8000000 in
/-- tree.all -/
theorem allIn_any (w : World) (g cap n : Nat) (M : List BK) (l : List Bl) (f : Int → Option Int) (os : List Opn) (h : RowB w g cap M) (hn : M.length = n) (hl : M.map Prod.fst = l) (G : Good l f) (Ao : Option Addr) (no co : Nat) (ho : ROsX w (fun b => b < w.heap.size ∧ b ≠ g) (.slice Ao no co) os) :
    Calls Tryz.prog 93 #[.slice (some ⟨g, 0, none⟩) n cap, .slice Ao no co] w (AllR l os (some g) w) := by
  have hnol := (ho.reads (B := w.heap.size) fun b hb => hb.1).len
  have hno : no * 144 ≤ 140737488351232 := hnol.2.2
  have HNO : Hid (no = os.length) := hnol.1
  have HO := Lib.hid ho
  have HG0 := Lib.hid G
  have H0 := Lib.hid h
  have HL0 : Hid (M.map Prod.fst = applL l (os.take 0)) := hl
  have HN0 := Lib.hid hn
  have HGR : Hid (w.grownBy w (some g)) := grown_below (Below.refl _ _) _
  have HOK0 : Hid (OkAll l (os.take 0)) := fun i o hi => by simp at hi
  clear hnol ho h hl hn G
  go_enter Tryz.func93, Tryz.ntmps93
  go_wp2_with fail
  go_loopg [0, 12] no (fun gg s0 s12 wr => ∃ (k g' cap' nM : Nat) (M' : List BK), k + gg = no ∧ s12 = .int .i64 (k : Int) ∧ s0 = .slice (some ⟨g', 0, none⟩) nM cap' ∧ Hid (M'.length = nM) ∧ Hid (M'.map Prod.fst = applL l (os.take k)) ∧ Hid (RowB wr g' cap' M') ∧ Hid (w.grownBy wr (some g)) ∧ Hid (g' = g ∨ w.heap.size ≤ g') ∧ Hid (OkAll l (os.take k)))
  case atStart => exact ⟨0, g, cap, n, M, by omega, rfl, rfl, HN0, HL0, H0, HGR, .inl rfl, HOK0⟩
  case round =>
    obtain ⟨k, g', cap', nM, M', hkg, rfl, rfl, hml, hmm, hrow, hgr, hgg, hok⟩ := hrel
    obtain ⟨W1, rfl⟩ : ∃ W1, W1 = wr := ⟨_, rfl⟩
    have hgw := hrow.out.lt
    by_cases hk : k < no
    · obtain ⟨o, hko⟩ : ∃ o, os[k]? = some o := ⟨_, List.getElem?_eq_getElem (by have := HNO.out; omega)⟩
      obtain ⟨f', G⟩ := hok.out.good HG0.out k (by rw [List.length_take, ← HNO.out]; omega)
      rw [take_take os (Nat.le_refl k)] at G
      have HWZ : w.heap.size ≤ W1.heap.size := hgr.out.size
      have HKP : ∀ p : Addr, p.block < w.heap.size ∧ p.block ≠ g → W1.cell? p = w.cell? p := fun p hp => World.cell?_of_block (hgr.out.block _ hp.1 fun e => hp.2 (Option.some.inj e))
      obtain ⟨b, off, Av, nv, cv, rfl, hSb, hc, hrv, hoi⟩ := (HO.out.keep (W' := W1) HKP).at_ (B := w.heap.size) (fun b hb => hb.1) hko
      have HRV : Hid (RVX W1 (fun b => b < W1.heap.size ∧ b ≠ g') (.slice Av nv cv) o.val.items) := hrv.weak fun b hb => ⟨by omega, fun e => by
        rcases hgg.out with r | r
        · exact hb.2 (by rw [e, r])
        · omega⟩
      obtain ⟨er, her⟩ : ∃ er, er = opErr (applL l (os.take k)) f' o := ⟨_, rfl⟩
      have HER := Lib.hid her
      have HG := Lib.hid G
      have HKO := Lib.hid hko
      have HOI := Lib.hid hoi
      have j0 : (0 : Int) ≤ (k : Int) := by omega
      have j1 : (k : Int) < (no : Int) := by omega
      obtain ⟨oc, hoc⟩ : ∃ oc, oc = opC o (.slice Av nv cv) := ⟨_, rfl⟩
      have g0 : W1.cell? ⟨b, off + k * 13, none⟩ = some (.int .i64 o.kind) := hc 0 _ rfl
      have g1 : W1.cell? ⟨b, off + k * 13 + 1, none⟩ = some (.int .i64 o.id) := hc 1 _ rfl
      have g2 : W1.cell? ⟨b, off + k * 13 + 2, none⟩ = some (.int .i64 o.parent) := hc 2 _ rfl
      have g3 : W1.cell? ⟨b, off + k * 13 + 3, none⟩ = some (.int .i64 o.at_) := hc 3 _ rfl
      have g4 : W1.cell? ⟨b, off + k * 13 + 4, none⟩ = some (.int .i64 o.from_) := hc 4 _ rfl
      have g5 : W1.cell? ⟨b, off + k * 13 + 5, none⟩ = some (.int .i64 o.to_) := hc 5 _ rfl
      have g6 : W1.cell? ⟨b, off + k * 13 + 6, none⟩ = some (.string o.text) := hc 6 _ rfl
      have g7 : W1.cell? ⟨b, off + k * 13 + 7, none⟩ = some (.string o.name) := hc 7 _ rfl
      have g8 : W1.cell? ⟨b, off + k * 13 + 8, none⟩ = some (.int .i64 o.val.kind) := hc 8 _ rfl
      have g9 : W1.cell? ⟨b, off + k * 13 + 9, none⟩ = some (.int .i64 o.val.int_) := hc 9 _ rfl
      have g10 : W1.cell? ⟨b, off + k * 13 + 10, none⟩ = some (.int .i64 o.val.to_) := hc 10 _ rfl
      have g11 : W1.cell? ⟨b, off + k * 13 + 11, none⟩ = some (.string o.val.text) := hc 11 _ rfl
      have g12 : W1.cell? ⟨b, off + k * 13 + 12, none⟩ = some (.slice Av nv cv) := hc 12 _ rfl
      obtain ⟨wa, hwa⟩ : ∃ wa, wa = W1.alloc (.cells (opC o (.slice Av nv cv)) 31) := ⟨_, rfl⟩
      have hal : Below W1.heap.size W1 wa := by rw [hwa]; exact (Below.refl _ _).alloc (Nat.le_refl _) _
      have hza : W1.heap.size < wa.heap.size := by rw [hwa]; simp
      have P0 : Hid (Blk wa W1.heap.size 31 (opC o (.slice Av nv cv))) := by rw [hwa]; exact Blk.new _ _ _
      have HRA := Lib.hid (hrow.out.below hal)
      have HCO := Lib.hid (checkOp_any (M'.map Prod.fst) f' (by rw [hmm.out]; exact G) (some ⟨g', 0, none⟩) M'.length cap' o Av nv cv wa wa.heap.size (Nat.le_refl _) HRA.out.rb hoi (((HRV.out.reads (B := W1.heap.size) fun b hb => hb.1).below hal).more hal.size))
      rw [hml.out, hmm.out, ← her] at HCO
      have HAL := Lib.hid hal
      have HWA := Lib.hid hwa
      clear hko G hSb hc hrv hoi hal hwa HKP her hoc
      dsimp only [AO] at HCO
      go_upto_region 4 with fail
      rw [← HWA.out]
      clear g0 g1 g2 g3 g4 g5 g6 g7 g8 g9 g10 g11 g12
      have e0 := fun i => P0.out.cell i
      go_wp2_with fail
      refine HCO.out.mono ?_
      rintro e w2 ⟨rfl, hb2⟩
      have HB2 : Hid (Below W1.heap.size W1 w2) := HAL.out.trans (hb2.mono HAL.out.size)
      have P2 := Lib.hid (P0.out.below hb2 P0.out.lt)
      have HR2 := Lib.hid (hrow.out.below HB2.out)
      have hz2 := HB2.out.size
      have HW2 : Hid (w.grownBy w2 (some g)) := Lib.grownBy_trans hgr.out (grown_below HB2.out _)
      clear hb2 e0
      have e0 := fun i => P2.out.cell i
      by_cases h0 : er = 0
      · subst h0
        have HOK' : Hid (OkAll l (os.take (k + 1))) := hok.out.snoc HKO.out HG.out HER.out.symm
        have HSN : Hid (applL l (os.take (k + 1)) = applL (applL l (os.take k)) [o]) := applL_snoc HKO.out
        obtain ⟨wc, hwc⟩ : ∃ wc, wc = w2.alloc (.cells (opC o (.slice Av nv cv)) 31) := ⟨_, rfl⟩
        have hbc : Below w2.heap.size w2 wc := by rw [hwc]; exact (Below.refl _ _).alloc (Nat.le_refl _) _
        have hzc : wc.heap.size = w2.heap.size + 1 := by rw [hwc]; simp
        have hkc : Blk wc w2.heap.size 31 (opV (o, .slice Av nv cv)).toArray := by rw [hwc]; exact Blk.new _ _ _
        have hros : ROsX wc (fun b => b < wc.heap.size ∧ b ≠ g') (.slice (some ⟨w2.heap.size, 0, none⟩) 1 1) [o] := ROsX.one hkc ⟨by omega, by omega⟩ ((HRV.out.keep fun p hp => (HB2.out.trans (hbc.mono HB2.out.size)).cell hp.1).weak fun b hb => ⟨by omega, hb.2⟩) HOI.out
        have HDN := Lib.hid (done_any wc g' cap' nM M' (applL l (os.take k)) [o] (HR2.out.below hbc) hml.out hmm.out _ _ _ hros (OkAll.one HG.out HER.out.symm))
        rw [hwc] at HDN
        have HWC : Hid (w.grownBy (w2.alloc (.cells (opC o (.slice Av nv cv)) 31)) (some g)) := by
          rw [hwc] at hbc
          exact Lib.grownBy_trans HW2.out (grown_below hbc _)
        have hwz := HWC.out.size
        clear hwc hbc hzc hkc hros
        go_wp2_with fail
        refine HDN.out.mono ?_
        rintro e w3 ⟨g3, cap3, n3, M3, rfl, hl3, hm3, hr3, hg3, hat3⟩
        have HW3 : Hid (w.grownBy w3 (some g)) := grown_more HWC.out hg3 hgg.out
        have HL3 := Lib.hid hl3
        have HM3 : Hid (M3.map Prod.fst = applL l (os.take (k + 1))) := hm3.trans HSN.out.symm
        have HR3 := Lib.hid hr3
        have HGG3 : Hid (g3 = g ∨ w.heap.size ≤ g3) := by
          rcases hat3 with e | e
          · rw [e]; exact hgg.out
          · exact .inr (Nat.le_trans hwz e)
        clear hg3 hat3 hl3 hm3 hr3 hwz e0
        go_wp2_with fail
        go_roundg (no - (k + 1))
        case measure => omega
        case rel => exact ⟨k + 1, g3, cap3, n3, M3, by omega, by go_num, rfl, HL3, HM3, HR3, HW3, HGG3, HOK'⟩
      · have h0' : (er != 0) = true := by simpa using h0
        have HBAD : Hid (BadAt l os k er) := ⟨o, f', HKO.out, HG.out, HER.out.symm, h0⟩
        clear h0
        go_wp2_with fail
        go_ret3
        exact ⟨.inl ⟨k, er, hok.out, HBAD.out, rfl⟩, HW2.out⟩
    · obtain rfl : no = k := by omega
      have HOKF : Hid (OkAll l os) := by
        have := hok.out
        rw [HNO.out, List.take_length] at this
        exact this
      have HMF : Hid (M'.map Prod.fst = applL l os) := by
        have := hmm.out
        rw [HNO.out, List.take_length] at this
        exact this
      go_wp2_with fail
      go_ret3
      exact ⟨.inr ⟨HOKF.out, g', cap', nM, M', rfl, hml.out, HMF.out, hrow.out, hgg.out.imp (fun e => by rw [e]) id⟩, hgr.out⟩
end Go.Proofs.YtmkicfjcgbfaaaaGreat
namespace Go.Proofs.YtmkicfjcgbfaaaaGreat
open Go.RowKit

theorem below_grown {w w' : World} (h : w.grownBy w' none) : Below w.heap.size w w' := ⟨h.os, h.tape, h.output, h.size, fun i hi => h.block i hi (by simp)⟩
theorem below_own {w w1 w2 : World} {g : Nat} (h : Below w.heap.size w w1) (k : w1.grownBy w2 (some g)) (hg : w.heap.size ≤ g) : Below w.heap.size w w2 :=
  h.trans ⟨k.os, k.tape, k.output, k.size, fun i hi => k.block i (Nat.lt_of_lt_of_le hi h.size) fun e => by have : i = g := Option.some.inj e; omega⟩

set_option maxRecDepth 100000 in
set_option maxHeartbeats 4000000 in
/-- tree.All at a base with an error -/
theorem allTop_bad (l : List Bl) (f : Int → Option Int) (hf : DepOk l f) (A : Option Addr) (n c : Nat) (os : Value) (w : World) (B : Nat) (hB : B ≤ w.heap.size) (h : RB w B (.slice A n c) l) (hne : baseE l f ≠ 0) :
    Calls Tryz.prog 32 #[.slice A n c, os] w fun e w' => e = .returned (.tuple #[.slice none 0 0, .int .i64 0, .int .i64 (baseE l f)]) ∧ Below w.heap.size w w' := by
  have HC := Lib.hid (treeCheck_any l f A n c w B hB h hf)
  obtain ⟨er, her⟩ : ∃ er, er = baseE l f := ⟨_, rfl⟩
  rw [← her] at HC hne ⊢
  have h0' : (er != 0) = true := by simpa using hne
  clear her hne h
  go_enter Tryz.func32, Tryz.ntmps32
  go_wp2_with fail
  refine HC.out.mono ?_
  rintro e w1 ⟨rfl, hb1⟩
  have HB1 := Lib.hid hb1
  clear hb1
  go_wp2_with fail
  go_ret3
  exact ⟨rfl, HB1.out⟩
set_option maxRecDepth 100000 in
set_option maxHeartbeats 4000000 in
/-- tree.All at a base without error -/
theorem allTop_any (l : List Bl) (f : Int → Option Int) (G : Good l f) (A : Option Addr) (n c : Nat) (os : List Opn) (Ao : Option Addr) (no co : Nat) (w : World) (B : Nat) (hB : B ≤ w.heap.size) (h : RB w B (.slice A n c) l) (ho : ROs w B (.slice Ao no co) os) :
    Calls Tryz.prog 32 #[.slice A n c, .slice Ao no co] w (AllR l os none w) := by
  have HC := Lib.hid (treeCheck_any l f A n c w B hB h fun _ => G.dep)
  rw [G.clean] at HC
  have hn0 : 0 < n := by
    obtain ⟨r, hr, _⟩ := G.kids.root
    have := (List.getElem?_eq_some_iff.1 hr).1
    have := h.len.1
    omega
  have hn1 : n ≤ 100000 := by have := G.kids.short; have := h.len.1; omega
  have HCB := Lib.hid fun W (hW : Below w.heap.size w W) => copyBase_any l A n c W B (Nat.le_trans hB hW.size) (h.below (hW.mono hB)) hn0 hn1
  have HO := Lib.hid ho
  have HG := Lib.hid G
  clear h ho G hn0 hn1
  go_enter Tryz.func32, Tryz.ntmps32
  go_wp2_with fail
  refine HC.out.mono ?_
  rintro e w1 ⟨rfl, hb1⟩
  have HB1 := Lib.hid hb1
  clear hb1
  go_wp2_with fail
  refine (HCB.out w1 HB1.out).mono ?_
  rintro e w2 ⟨g, n2, M, rfl, hl2, hm2, hg2, hr2, hb2⟩
  have HB2 : Hid (Below w.heap.size w w2) := HB1.out.trans (hb2.mono HB1.out.size)
  have hz1 := HB1.out.size
  have hz2 := HB2.out.size
  have hgl : w.heap.size ≤ g := Nat.le_trans hz1 hg2
  have HA := Lib.hid (allIn_any w2 g n2 n2 M l f os hr2 hl2 hm2 HG.out Ao no co (((ROsX.of HO.out).keep fun p hp => HB2.out.cell (by have hp : p.block < B := hp; omega)).weak fun b hb => ⟨by have hb : b < B := hb; omega, by have hb : b < B := hb; omega⟩))
  clear hb2 hl2 hm2 hr2
  go_wp2_with fail
  refine HA.out.mono ?_
  rintro e w3 ⟨hcase, hg3⟩
  have HB3 : Hid (w.grownBy w3 none) := grown_below (below_own HB2.out hg3 hgl) _
  rcases hcase with ⟨k, er, h1, h2, rfl⟩ | ⟨h1, g', cap', n3, M3, rfl, h3, h4, h5, h6⟩
  · have H1 := Lib.hid h1
    have H2 := Lib.hid h2
    clear h1 h2 hg3
    go_wp2_with fail
    go_ret3
    exact ⟨.inl ⟨k, er, H1.out, H2.out, rfl⟩, HB3.out⟩
  · have H1 := Lib.hid h1
    have H3 := Lib.hid h3
    have H4 := Lib.hid h4
    have H5 := Lib.hid h5
    have H6 : Hid (some g' = (none : Option Nat) ∨ w.heap.size ≤ g') := .inr (by
      rcases h6 with e | e
      · obtain rfl := Option.some.inj e
        exact hgl
      · omega)
    clear h1 h3 h4 h5 h6 hg3
    go_wp2_with fail
    go_ret3
    exact ⟨.inr ⟨H1.out, g', cap', n3, M3, rfl, H3.out, H4.out, H5.out, H6.out⟩, HB3.out⟩
/-- what Apply leaves -/
def ApplyR (l : List Bl) (w : World) (e : Ending) (w' : World) : Prop := (∃ (g cap n : Nat) (M : List BK), e = .returned (.tuple #[.slice (some ⟨g, 0, none⟩) n cap, .int .i64 0]) ∧ M.length = n ∧ M.map Prod.fst = l ∧ RowS (fun b => w.heap.size ≤ b) w' g cap M ∧ w.heap.size ≤ g) ∧ Below w.heap.size w w'
set_option maxRecDepth 100000 in
set_option maxHeartbeats 4000000 in
/-- tree.Apply where the operation is refused -/
theorem applyTop_bad (l : List Bl) (f : Int → Option Int) (G : Good l f) (A : Option Addr) (n c : Nat) (o : Opn) (Av : Option Addr) (nv cv : Nat) (w : World) (B : Nat) (hB : B ≤ w.heap.size) (h : RB w B (.slice A n c) l) (hoi : OI o) (hv : RV w B (.slice Av nv cv) o.val.items) (hne : opErr l f o ≠ 0) :
    Calls Tryz.prog 11 #[.slice A n c, AO (o, .slice Av nv cv)] w fun e w' => e = .returned (.tuple #[.slice none 0 0, .int .i64 (opErr l f o)]) ∧ Below w.heap.size w w' := by
  obtain ⟨wb, hwb⟩ : ∃ wb, wb = w.alloc (.cells (opC o (.slice Av nv cv)) 31) := ⟨_, rfl⟩
  have HWB0 : Hid (Below w.heap.size w wb) := by rw [hwb]; exact (Below.refl _ _).alloc (Nat.le_refl _) _
  have P0 : Hid (Blk wb w.heap.size 31 (opC o (.slice Av nv cv))) := by rw [hwb]; exact Blk.new _ _ _
  have HC := Lib.hid (treeCheck_any l f A n c wb B (Nat.le_trans hB HWB0.out.size) (h.below (HWB0.out.mono hB)) fun _ => G.dep)
  rw [G.clean] at HC
  have HCO := Lib.hid fun W (hW : Below w.heap.size w W) => checkOp_any l f G A n c o Av nv cv W B (Nat.le_trans hB hW.size) (h.below (hW.mono hB)) hoi (hv.below (hW.mono hB))
  obtain ⟨er, her⟩ : ∃ er, er = opErr l f o := ⟨_, rfl⟩
  rw [← her] at HCO hne ⊢
  have h0' : (er != 0) = true := by simpa using hne
  have HWB := Lib.hid hwb
  dsimp only [AO] at HCO ⊢
  clear her hne h hv hwb
  go_enter Tryz.func11, Tryz.ntmps11
  go_upto_region 1 with fail
  rw [← HWB.out]
  go_wp2_with fail
  refine HC.out.mono ?_
  rintro e w1 ⟨rfl, hb1⟩
  have HB1 : Hid (Below w.heap.size w w1) := HWB0.out.trans (hb1.mono HWB0.out.size)
  have P1 := Lib.hid (P0.out.below hb1 P0.out.lt)
  clear hb1
  have e0 := fun i => P1.out.cell i
  go_wp2_with fail
  refine (HCO.out w1 HB1.out).mono ?_
  rintro e w2 ⟨rfl, hb2⟩
  have HB2 : Hid (Below w.heap.size w w2) := HB1.out.trans (hb2.mono HB1.out.size)
  clear hb2 e0
  go_wp2_with fail
  go_ret2
  exact ⟨rfl, HB2.out⟩
set_option maxRecDepth 100000 in
set_option maxHeartbeats 8000000 in
/-- tree.Apply without an error -/
theorem applyTop_any (l : List Bl) (f : Int → Option Int) (G : Good l f) (A : Option Addr) (n c : Nat) (o : Opn) (Av : Option Addr) (nv cv : Nat) (w : World) (B : Nat) (hB : B ≤ w.heap.size) (h : RB w B (.slice A n c) l) (hoi : OI o) (hv : RV w B (.slice Av nv cv) o.val.items) (h0 : opErr l f o = 0) :
    Calls Tryz.prog 11 #[.slice A n c, AO (o, .slice Av nv cv)] w (ApplyR (applied l o) w) := by
  obtain ⟨wb, hwb⟩ : ∃ wb, wb = w.alloc (.cells (opC o (.slice Av nv cv)) 31) := ⟨_, rfl⟩
  have HWB0 : Hid (Below w.heap.size w wb) := by rw [hwb]; exact (Below.refl _ _).alloc (Nat.le_refl _) _
  have P0 : Hid (Blk wb w.heap.size 31 (opC o (.slice Av nv cv))) := by rw [hwb]; exact Blk.new _ _ _
  have HC := Lib.hid (treeCheck_any l f A n c wb B (Nat.le_trans hB HWB0.out.size) (h.below (HWB0.out.mono hB)) fun _ => G.dep)
  rw [G.clean] at HC
  have HCO := Lib.hid fun W (hW : Below w.heap.size w W) => checkOp_any l f G A n c o Av nv cv W B (Nat.le_trans hB hW.size) (h.below (hW.mono hB)) hoi (hv.below (hW.mono hB))
  rw [h0] at HCO
  have hn0 : 0 < n := by
    obtain ⟨r, hr, _⟩ := G.kids.root
    have := (List.getElem?_eq_some_iff.1 hr).1
    have := h.len.1
    omega
  have hn1 : n ≤ 100000 := by have := G.kids.short; have := h.len.1; omega
  have HCB := Lib.hid fun W (hW : Below w.heap.size w W) => copyBaseS_any l A n c W B (Nat.le_trans hB hW.size) (h.below (hW.mono hB)) hn0 hn1
  have HDN : Hid (∀ (W : World) (g n2 blk : Nat) (M : List BK), RowS (fun b => w.heap.size ≤ b) W g n2 M → M.length = n2 → M.map Prod.fst = l → Below w.heap.size w W → w.heap.size ≤ g → Blk W blk 31 (opC o (.slice Av nv cv)) → blk ≠ g →
      Calls Tryz.prog 61 #[.slice (some ⟨g, 0, none⟩) n2 n2, .slice (some ⟨blk, 0, none⟩) 1 1] W fun e w' => ∃ (g' cap' n' : Nat) (M' : List BK), e = .returned (.slice (some ⟨g', 0, none⟩) n' cap') ∧ (M'.length = n' ∧ M'.map Prod.fst = applied l o ∧ RowS (fun b => w.heap.size ≤ b) w' g' cap' M' ∧ w.heap.size ≤ g') ∧ Below w.heap.size w w') := by
    intro W g n2 blk M hr hl hm hW hg hk hne
    have hzz := hW.size
    refine (doneS_any W (fun b hb => Nat.le_trans hW.size hb) g n2 n2 M l [o] hr hl hm _ 1 1 (ROsX.one (u := .slice Av nv cv) hk ⟨hk.lt, hne⟩ (((RVX.of hv).keep fun p hp => hW.cell (by have hp : p.block < B := hp; omega)).weak fun b hb => ⟨by have hb : b < B := hb; omega, by have hb : b < B := hb; omega⟩) hoi) (OkAll.one G h0)).mono ?_
    rintro e w' ⟨g', cap', n', M', rfl, h1, h2, h3, h4, h5⟩
    refine ⟨g', cap', n', M', rfl, ⟨h1, h2, h3, ?_⟩, below_own hW h4 hg⟩
    rcases h5 with e | e
    · rw [e]; exact hg
    · omega
  have HWB := Lib.hid hwb
  obtain ⟨L', hL'⟩ : ∃ L', L' = applied l o := ⟨_, rfl⟩
  rw [← hL'] at HDN ⊢
  dsimp only [AO] at HCO ⊢
  clear h0 h hv hwb hn0 hn1 hL'
  go_enter Tryz.func11, Tryz.ntmps11
  go_upto_region 1 with fail
  rw [← HWB.out]
  go_wp2_with fail
  refine HC.out.mono ?_
  rintro e w1 ⟨rfl, hb1⟩
  have HB1 : Hid (Below w.heap.size w w1) := HWB0.out.trans (hb1.mono HWB0.out.size)
  have P1 := Lib.hid (P0.out.below hb1 P0.out.lt)
  clear hb1
  have e0 := fun i => P1.out.cell i
  go_wp2_with fail
  refine (HCO.out w1 HB1.out).mono ?_
  rintro e w2 ⟨rfl, hb2⟩
  have HB2 : Hid (Below w.heap.size w w2) := HB1.out.trans (hb2.mono HB1.out.size)
  have P2 := Lib.hid (P1.out.below hb2 P1.out.lt)
  have hz2 := HB2.out.size
  clear hb2 e0
  have e0 := fun i => P2.out.cell i
  have QA : Hid (Below w.heap.size w w2.drew) := HB2.out.drew
  have QB : Hid (Below w.heap.size w (w2.alloc (.cells (opC o (.slice Av nv cv)) 31)).drew) := (HB2.out.alloc HB2.out.size _).drew
  have PB : Hid (Blk (w2.alloc (.cells (opC o (.slice Av nv cv)) 31)).drew w2.heap.size 31 (opC o (.slice Av nv cv))) := (Blk.new w2 _ _).drew
  go_upto_region 7 with fail
  go_region_with (first
    | (go_at_call 62; (with_reducible refine (HCB.out w2.drew QA.out).mono ?_); rintro e w3 ⟨g3, n3, M3, rfl, hl3, hm3, hg3, hr3, hb3⟩; have HB3 : Hid (Below w.heap.size w w3) := QA.out.trans (hb3.mono hz2); have HL3 := Lib.hid hl3; have HM3 := Lib.hid hm3; have hgz : w2.heap.size ≤ g3 := hg3; have hr3 := hr3.weak (S' := fun b => w.heap.size ≤ b) (fun b _ hb => Nat.le_trans hz2 hb); have HR3 := Lib.hid hr3; have P3 : Hid (Blk w3 w.heap.size 31 (opC o (.slice Av nv cv))) := P2.out.drew.below hb3 P2.out.lt; have HDA := Lib.hid (HDN.out (w3.alloc (.cells (opC o (.slice Av nv cv)) 31)) g3 n3 w3.heap.size M3 (hr3.below ((Below.refl _ _).alloc (Nat.le_refl _) _)) hl3 hm3 (HB3.out.alloc HB3.out.size _) (by omega) (Blk.new _ _ _) (by have := hr3.lt; omega)); have e3 := fun i => P3.out.cell i; clear hb3 hl3 hm3 hg3 hr3)
    | (go_at_call 62; (with_reducible refine (HCB.out _ QB.out).mono ?_); rintro e w3 ⟨g3, n3, M3, rfl, hl3, hm3, hg3, hr3, hb3⟩; have HB3 : Hid (Below w.heap.size w w3) := QB.out.trans (hb3.mono QB.out.size); have hgz : w2.heap.size + 1 ≤ g3 := (by simpa using hg3); have hr3 := hr3.weak (S' := fun b => w.heap.size ≤ b) (fun b _ hb => Nat.le_trans QB.out.size hb); have HDA := Lib.hid (HDN.out w3 g3 n3 w2.heap.size M3 hr3 hl3 hm3 HB3.out (by omega) (PB.out.below hb3 PB.out.lt) (by omega)); clear hb3 hl3 hm3 hg3 hr3)
    | (go_at_call 61; refine HDA.out.mono ?_; rintro e w4 ⟨g4, cap4, n4, M4, rfl, hh4, hb4⟩; have HH4 := Lib.hid hh4; have HB4 := Lib.hid hb4; clear hh4 hb4))
  all_goals
    go_wp2_with fail
    go_ret2
    exact ⟨⟨g4, cap4, n4, M4, rfl, HH4.out⟩, HB4.out⟩
end Go.Proofs.YtmkicfjcgbfaaaaGreat
