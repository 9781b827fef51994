/-
  DERIVED. A number in a row: the walks of slices.Index and Contains at ints, the reference's hasNumber and without. Conditions: sizes.
  The walk of tree.copyBase: a base of the call's own. Conditions: sizes.
  By an AI agent.
-/
import Derived.Test.YtmkicfjcgbfaaaaGreatDoorTc20
import Derived.Test.YtmkicfjcgbfaaaaGreatDoorTc09
import Derived.Deep.LoopGhost
import Derived.Test.YtmkicfjcgbfaaaaGreatDoorTc13
import Derived.Test.YtmkicfjcgbfaaaaGreatDoorTc10
import Derived.Test.YtmkicfjcgbfaaaaGreatDoorTc17
import Derived.Laws.OwnMore
namespace Go.Proofs.YtmkicfjcgbfaaaaGreatDoor
open Go.RowKit

/-- the place of the first such number, from a place on -/
def ixFrom : List Int → Int → Nat → Int
  | [], _, _ => -1
  | a :: l, x, k => if x = a then (k : Int) else ixFrom l x (k + 1)
def ixOf (l : List Int) (x : Int) : Int := ixFrom l x 0
theorem ixFrom_at {l : List Int} {k : Nat} {a : Int} (h : l[k]? = some a) (x : Int) : ixFrom (l.drop k) x k = if x = a then (k : Int) else ixFrom (l.drop (k + 1)) x (k + 1) := by
  obtain ⟨hk, e⟩ := List.getElem?_eq_some_iff.1 h
  rw [List.drop_eq_getElem_cons hk, ixFrom, e]
theorem ixFrom_spec : ∀ (l : List Int) (x : Int) (k : Nat), (ixFrom l x k = -1 ∧ x ∉ l) ∨ ∃ i : Nat, ixFrom l x k = ((k + i : Nat) : Int) ∧ l[i]? = some x ∧ x ∉ l.take i
  | [], x, k => .inl ⟨rfl, by simp⟩
  | a :: l, x, k => by
    rw [ixFrom]
    by_cases h : x = a
    · rw [if_pos h]; exact .inr ⟨0, rfl, by rw [h]; rfl, by simp⟩
    · rw [if_neg h]
      rcases ixFrom_spec l x (k + 1) with ⟨h1, h2⟩ | ⟨i, h1, h2, h3⟩
      · exact .inl ⟨h1, by rw [List.mem_cons]; exact fun e => e.elim h h2⟩
      · exact .inr ⟨i + 1, by rw [h1]; congr 1; omega, by simpa using h2, by rw [List.take_succ_cons, List.mem_cons]; exact fun e => e.elim h h3⟩
theorem ixOf_spec (l : List Int) (x : Int) : (ixOf l x = -1 ∧ x ∉ l) ∨ ∃ i : Nat, ixOf l x = (i : Int) ∧ l[i]? = some x ∧ x ∉ l.take i := by
  rcases ixFrom_spec l x 0 with h | ⟨i, h1, h2⟩
  · exact .inl h
  · exact .inr ⟨i, by rw [ixOf, h1]; congr 1; omega, h2⟩
theorem ixOf_has (l : List Int) (x : Int) : decide (0 ≤ ixOf l x) = decide (x ∈ l) := by
  rcases ixOf_spec l x with ⟨h1, h2⟩ | ⟨i, h1, h2, _⟩
  · rw [decide_eq_false (by omega), decide_eq_false h2]
  · rw [decide_eq_true (by omega), decide_eq_true (List.mem_of_getElem? h2)]

set_option maxHeartbeats 1000000 in
/-- slices.Index at ints -/
theorem indexI_any (l : List Int) (A : Option Addr) (n c : Nat) (x : Int) (w : World) (B : Nat) (h : RIn w B (.slice A n c) l) :
    Calls Tryz.prog 105 #[.slice A n c, .int .i64 x] w fun e w' => e = .returned (.int .i64 (ixOf l x)) ∧ w' = w := by
  obtain ⟨V, hV⟩ : ∃ V, V = ixOf l x := ⟨_, rfl⟩
  rw [← hV]
  have HV : Hid (V = ixFrom (l.drop 0) x 0) := hV
  have HN := Lib.hid h.len
  have H := Lib.hid h
  clear h hV
  go_enter Tryz.func105, Tryz.ntmps105
  go_wp2_with fail
  go_loopg [8] n (fun gg s8 wr => ∃ k : Nat, k + gg = n ∧ s8 = .int .i64 (k : Int) ∧ Hid (V = ixFrom (l.drop k) x k) ∧ Hid (wr = w))
  case atStart => exact ⟨0, by omega, rfl, HV, rfl⟩
  case round =>
    obtain ⟨k, hkg, rfl, hno, hw⟩ := hrel
    obtain rfl : w = wr := hw.out.symm
    clear hw
    have hbg : n ≤ c ∧ n * 8 ≤ 140737488351232 := HN.out.2
    by_cases hk : k < n
    · obtain ⟨a, ha⟩ : ∃ a, l[k]? = some a := ⟨_, List.getElem?_eq_getElem (by have := HN.out.1; omega)⟩
      obtain ⟨b, off, rfl, hbb, g0⟩ := H.out.at_ ha
      have hst := hno.out.trans (ixFrom_at ha x)
      have j0 : (0 : Int) ≤ (k : Int) := by omega
      have j1 : (k : Int) < (n : Int) := by omega
      clear ha
      by_cases he : x = a
      · have HL := Lib.hid (hst.trans (if_pos he))
        have he' : (x == a) = true := by simpa using he
        clear hst he
        go_wp2_with fail
        go_ret
        exact ⟨by rw [HL.out]; rfl, rfl⟩
      · have HL := Lib.hid (hst.trans (if_neg he))
        have he' : (x == a) = false := by simpa using he
        clear hst he
        go_wp2_with fail
        go_roundg (n - (k + 1))
        case measure => omega
        case rel => exact ⟨k + 1, by omega, by go_num, HL, rfl⟩
    · obtain rfl : k = n := by omega
      have HZ : Hid (V = -1) := hno.out.trans (by rw [List.drop_of_length_le (by rw [← HN.out.1]; exact Nat.le_refl _)]; rfl)
      go_wp2_with fail
      go_ret
      exact ⟨by rw [HZ.out]; rfl, rfl⟩
set_option maxHeartbeats 400000 in
/-- slices.Contains at ints -/
theorem containsI_any (l : List Int) (A : Option Addr) (n c : Nat) (x : Int) (w : World) (B : Nat) (h : RIn w B (.slice A n c) l) :
    Calls Tryz.prog 84 #[.slice A n c, .int .i64 x] w fun e w' => e = .returned (.bool (decide (x ∈ l))) ∧ w' = w := by
  have HX := Lib.hid (indexI_any l A n c x w B h)
  rw [← ixOf_has]
  obtain ⟨V, hV⟩ : ∃ V, V = ixOf l x := ⟨_, rfl⟩
  rw [← hV] at HX ⊢
  clear h hV
  go_enter Tryz.func84, Tryz.ntmps84
  go_wp2_with fail
  refine HX.out.mono ?_
  rintro e w1 ⟨rfl, hw⟩
  rw [hw]
  clear hw
  go_wp2_with fail
  go_ret
  exact ⟨rfl, rfl⟩
end Go.Proofs.YtmkicfjcgbfaaaaGreatDoor
namespace Go.Proofs.YtmkicfjcgbfaaaaGreatDoor
open Go.RowKit

section
variable {w : World} {g cap : Nat} {M : List BK}
theorem set_same {k : Nat} {x : BK} (hx : M[k]? = some x) : M.set k x = M := by
  obtain ⟨hk, rfl⟩ := List.getElem?_eq_some_iff.1 hx
  exact List.set_getElem_self hk
theorem size_put (w : World) (a : Addr) (u : Value) : (w.setCell a u).heap.size = w.heap.size := by simp [World.setCell]
/-- a block stored whole, with other kids' and properties' memory -/
theorem RowB.putKP (h : RowB w g cap M) {k : Nat} {x : BK} {kv pv : Value} (hx : M[k]? = some x) (hk : RInX w (fun b => b < w.heap.size ∧ b ≠ g) kv x.1.kids) (hp : RPrX w (fun b => b < w.heap.size ∧ b ≠ g) pv x.1.props) :
    RowB (((((w.setCell ⟨g, k * 5, none⟩ (.int .i64 x.1.id)).setCell ⟨g, k * 5 + 1, none⟩ (.int .i64 x.1.parent)).setCell ⟨g, k * 5 + 2, none⟩ kv).setCell ⟨g, k * 5 + 3, none⟩ (.string x.1.text)).setCell ⟨g, k * 5 + 4, none⟩ pv) g cap (M.set k (x.1, kv, pv)) := by
  have hm := List.mem_of_getElem? hx
  have hkl := (List.getElem?_eq_some_iff.1 hx).1
  have o : ∀ (w : World) (i : Nat) (u : Value) (p : Addr), p.block ≠ g → (w.setCell ⟨g, i, none⟩ u).cell? p = w.cell? p := fun w i u p hne => World.cell?_setCell_other _ _ p _ (by intro e; subst e; exact hne rfl)
  have s0 := h.store hx (j := 0) (y := x) (u := .int .i64 x.1.id) (by omega) rfl (h.nest x hm)
  rw [set_same hx] at s0
  have s1 := s0.store hx (j := 1) (y := x) (u := .int .i64 x.1.parent) (by omega) rfl (s0.nest x hm)
  rw [set_same hx] at s1
  have s2 := s1.store hx (j := 2) (y := (x.1, kv, x.2.2)) (u := kv) (by omega) rfl ⟨(hk.keep fun p hp => by rw [o _ _ _ _ hp.2, o _ _ _ _ hp.2]).weak fun b hb => ⟨by rw [size_put, size_put]; exact hb.1, hb.2⟩, (s1.nest x hm).2⟩
  have hx2 : (M.set k (x.1, kv, x.2.2))[k]? = some (x.1, kv, x.2.2) := by rw [List.getElem?_set, if_pos rfl, if_pos hkl]
  have s3 := s2.store hx2 (j := 3) (y := (x.1, kv, x.2.2)) (u := .string x.1.text) (by omega) rfl (s2.nest _ (List.mem_of_getElem? hx2))
  rw [set_same hx2] at s3
  have s4 := s3.store hx2 (j := 4) (y := (x.1, kv, pv)) (u := pv) (by omega) rfl ⟨(s3.nest _ (List.mem_of_getElem? hx2)).1, (hp.keep fun p hp => by rw [o _ _ _ _ hp.2, o _ _ _ _ hp.2, o _ _ _ _ hp.2, o _ _ _ _ hp.2]).weak fun b hb => ⟨by rw [size_put, size_put, size_put, size_put]; exact hb.1, hb.2⟩⟩
  rw [List.set_set] at s4
  exact s4
end

theorem blV_one (x : BK) (h1 : ∃ A n c, x.2.1 = .slice A n c) (h2 : ∃ A n c, x.2.2 = .slice A n c) : ∀ v ∈ blV x, v.oneCell' = true := by
  obtain ⟨x, k, p⟩ := x
  obtain ⟨A, n, c, rfl⟩ : ∃ A n c, k = .slice A n c := h1
  obtain ⟨A', n', c', rfl⟩ : ∃ A n c, p = .slice A n c := h2
  intro v hv
  simp only [blV, List.mem_cons, List.not_mem_nil, or_false] at hv
  rcases hv with rfl | rfl | rfl | rfl | rfl <;> rfl
theorem NB_put {w : World} {g : Nat} {S : Nat → Prop} {x : BK} (h : NB w (fun b => (b < w.heap.size ∧ b ≠ g) ∧ S b) x) (i : Nat) (u : Value) : NB (w.setCell ⟨g, i, none⟩ u) (fun b => (b < (w.setCell ⟨g, i, none⟩ u).heap.size ∧ b ≠ g) ∧ S b) x :=
  NB_ok _ _ _ _ x h (fun p hp => World.cell?_setCell_other _ _ p _ (by intro e; subst e; exact hp.1.2 rfl)) fun b hb => ⟨⟨by rw [size_put]; exact hb.1.1, hb.1.2⟩, hb.2⟩
/-- what copyBase leaves, its nested memory new -/
def CopyBaseS (l : List Bl) (w : World) (e : Ending) (w' : World) : Prop := ∃ (g n : Nat) (M : List BK), e = .returned (.slice (some ⟨g, 0, none⟩) n n) ∧ M.length = n ∧ M.map Prod.fst = l ∧ w.heap.size ≤ g ∧ RowS (fun b => w.heap.size ≤ b) w' g n M ∧ Below w.heap.size w w'
/-- what copyBase leaves -/
def CopyBaseR (l : List Bl) (w : World) (e : Ending) (w' : World) : Prop := ∃ (g n : Nat) (M : List BK), e = .returned (.slice (some ⟨g, 0, none⟩) n n) ∧ M.length = n ∧ M.map Prod.fst = l ∧ w.heap.size ≤ g ∧ RowB w' g n M ∧ Below w.heap.size w w'
set_option maxRecDepth 100000 in
set_option maxHeartbeats 4000000 in
/-- tree.copyBase -/
theorem copyBaseS_any (l : List Bl) (A : Option Addr) (n c : Nat) (w : World) (B : Nat) (hB : B ≤ w.heap.size) (h : RB w B (.slice A n c) l) (hn0 : 0 < n) (hn1 : n ≤ 100000) :
    Calls Tryz.prog 26 #[.slice A n c] w (CopyBaseS l w) := by
  obtain ⟨A', n', c', M0, hM, e, hn, hnc, hr, hnest⟩ := h
  injection e with e1 e2 e3
  subst e1 e2 e3
  obtain ⟨i0, hi0, hz0, hz1, hz2⟩ := info_parts block_info
  obtain ⟨ad, rfl, hab, hcells⟩ := hr.2 hn0
  have hcl : (M0.flatMap blV).length = n * 5 := hr.1
  obtain ⟨mk, hmk0⟩ : ∃ mk, mk = madeCells bZ.cells (n * 5) := ⟨_, rfl⟩
  have hmks : mk.size = n * 5 := by rw [hmk0, size_madeCells]
  have hmk : (Instr.makeSlice 22 (.int .i64 (n : Int)) (.int .i64 (n : Int))).run Tryz.prog w = .ok (.slice (some ⟨w.heap.size, 0, none⟩) n n) (w.alloc (.cells mk 52)) := by
    have := run_make (P := Tryz.prog) w 22 52 i0 bZ Tryz.underlying22 hi0 hz0 .i64 .i64 n n (by omega) (Int.le_refl _) (by rw [hz2]; omega) (by omega)
    simp only [Int.toNat_natCast, hz1, ← hmk0] at this
    exact this
  obtain ⟨w1, hw1⟩ : ∃ w1, w1 = w.alloc (.cells mk 52) := ⟨_, rfl⟩
  have hb1 : Below w.heap.size w w1 := by rw [hw1]; exact (Below.refl _ _).alloc (Nat.le_refl _) _
  have hk1 : Blk w1 w.heap.size 52 mk := by rw [hw1]; exact Blk.new w _ _
  obtain ⟨g, hg⟩ : ∃ g, g = w.heap.size := ⟨_, rfl⟩
  rw [← hw1] at hmk
  rw [← hg] at hk1
  have hzz : (Tryz.prog.info? 52).map (·.size) = some 5 := by rw [hi0]; simp [hz1]
  obtain ⟨w2, hw2⟩ : ∃ w2, w2 = w1.setRow g (M0.flatMap blV).toArray := ⟨_, rfl⟩
  have hcp : ∀ ty, (Builtin.copy_ #[22, 22] ty #[.slice (some ⟨g, 0, none⟩) n n, .slice (some ad) n c]).run Tryz.prog w1 = .ok (goInt (Nat.min n n)) w2 := fun ty => by
    have := run_copy_rowN (P := Tryz.prog) w1 22 22 ty 52 g 0 n n ad n c 5 mk 52 (M0.flatMap blV) Tryz.underlying22 hzz hk1 (by rw [hcl]; show _ = min n n * 5; rw [Nat.min_self]) (fun j v hj => by
      rw [hb1.cell (by rw [block_of_add]; omega)]; exact hcells j v hj) (by rw [hcl, hmks]; omega) (fun v hv => by
      obtain ⟨x, hx, hv⟩ := List.mem_flatMap.1 hv
      exact blV_one x (by obtain ⟨A, n, c, e, _⟩ := (hnest x hx).1; exact ⟨A, n, c, e⟩) (hnest x hx).2.slice v hv)
    rw [hcl, List.take_zero, List.nil_append, List.drop_of_length_le (by rw [Array.length_toList, hmks]; omega), List.append_nil, ← hw2] at this
    exact this
  have hR2 : RowB w2 g n M0 := by
    refine ⟨⟨[], by rw [hw2, List.append_nil]; exact setRow_heap w1 g _ _ _ _ hk1, by rw [← hn]; rfl⟩, by unfold maxLen; omega, by omega, fun x hx => ?_⟩
    have hk : ∀ p : Addr, p.block < B → w2.cell? p = w.cell? p := fun p hp => by
      rw [hw2, cell_setRow_other _ _ _ _ (by omega)]; exact hb1.cell (by omega)
    have hsz : w2.heap.size = w1.heap.size := by rw [hw2, setRow_size]
    have hz : w.heap.size ≤ w1.heap.size := hb1.size
    exact ⟨((RInX.of (hnest x hx).1).keep hk).weak fun b hb => ⟨by omega, by omega⟩, ((RPrX.of (hnest x hx).2).keep hk).weak fun b hb => ⟨by omega, by omega⟩⟩
  have HR2 := Lib.hid hR2
  have HB2 : Hid (Below w.heap.size w w2) := by
    show Below _ _ _
    rw [hw2]
    exact ⟨hb1.os, hb1.tape, hb1.output, by rw [setRow_size]; exact hb1.size, fun k hk => (setRow_other _ _ _ _ (by omega)).trans (hb1.block k hk)⟩
  have HML := Lib.hid hM
  have HN := Lib.hid hn
  have HG := Lib.hid hg
  have HGE : Hid (w.heap.size ≤ g) := by show _ ≤ _; omega
  clear hR2 hw2 hk1 hb1 hmks hmk0 hcl hr hnest hcells hM hn hzz hi0 hz0 hz1 hz2 hab
  go_enter Tryz.func26, Tryz.ntmps26
  rw [hg] at hcp
  clear hg hw1
  go_upto_region 2 with fail
  go_wp2_with (at_builtin; refine wpList_copy_runI _ rfl _ _ 22 22 rfl _ _ rfl rfl (hcp _) ?_)
  obtain ⟨gg0, hgg0⟩ : ∃ gg0, gg0 = w.heap.size := ⟨_, rfl⟩
  have HGG := Lib.hid hgg0
  rw [← hgg0]
  clear hgg0 hcp hmk
  go_loopg [13] n (fun gg s13 wr => ∃ (k : Nat) (M : List BK), k + gg = n ∧ s13 = .int .i64 (k : Int) ∧ Hid (M.length = n) ∧ Hid (M.map Prod.fst = l) ∧ Hid (RowB wr gg0 n M) ∧ Hid (Below w.heap.size w wr) ∧ Hid (∀ (j : Nat) (x : BK), j < k → M[j]? = some x → NB wr (fun b => (b < wr.heap.size ∧ b ≠ gg0) ∧ w.heap.size ≤ b) x))
  case atStart => exact ⟨0, M0, by omega, rfl, HN.out.symm, HML, by rw [HGG.out, ← HG.out]; exact HR2, HB2, fun j x hj => by omega⟩
  case round =>
    obtain ⟨k, M, hkg, rfl, hml, hmm, hrow, hbel, hfar⟩ := hrel
    have hgw := hrow.out.lt
    by_cases hk : k < n
    · obtain ⟨⟨x, xk, xp⟩, hx⟩ : ∃ x, M[k]? = some x := ⟨_, List.getElem?_eq_getElem (by have := hml.out; omega)⟩
      have hns := hrow.out.nest _ (List.mem_of_getElem? hx)
      obtain ⟨hnk, hnp⟩ := hns
      obtain ⟨Kx, nx, cx, rfl⟩ : ∃ A n c, xk = .slice A n c := by
        obtain ⟨A, n, c, e, _⟩ := hnk
        exact ⟨A, n, c, e⟩
      obtain ⟨Px, mx, ex, rfl⟩ : ∃ A n c, xp = .slice A n c := (hnp.reads (B := wr.heap.size) fun b hb => hb.1).slice
      have HCB := Lib.hid (copyBlock_any x Kx Px nx cx mx ex wr wr.heap.size (Nat.le_refl _) (hnk.reads fun b hb => hb.1) (hnp.reads fun b hb => hb.1))
      dsimp only [AB] at HCB
      have HX := Lib.hid hx
      have c0 : wr.cell? ⟨gg0, k * 5, none⟩ = some (.int .i64 x.id) := hrow.out.cell (i := 0) hx rfl
      have c1 : wr.cell? ⟨gg0, k * 5 + 1, none⟩ = some (.int .i64 x.parent) := hrow.out.cell hx rfl
      have c2 : wr.cell? ⟨gg0, k * 5 + 2, none⟩ = some (.slice Kx nx cx) := hrow.out.cell hx rfl
      have c3 : wr.cell? ⟨gg0, k * 5 + 3, none⟩ = some (.string x.text) := hrow.out.cell hx rfl
      have c4 : wr.cell? ⟨gg0, k * 5 + 4, none⟩ = some (.slice Px mx ex) := hrow.out.cell hx rfl
      have j0 : (0 : Int) ≤ (k : Int) := by omega
      have j1 : (k : Int) < (n : Int) := by omega
      clear hx hnk hnp
      go_wp2_with fail
      refine HCB.out.mono ?_
      rintro e w3 ⟨⟨K', n', c', P', m', e', rfl, hk', hp'⟩, hb3⟩
      dsimp only [AB]
      have HR3 := Lib.hid (hrow.out.below hb3)
      have HB3 : Hid (Below w.heap.size w w3) := hbel.out.trans (hb3.mono hbel.out.size)
      have HK3 : Hid (RInX w3 (fun b => b < w3.heap.size ∧ b ≠ gg0) (.slice K' n' c') x.kids) := hk'.weak fun b hb => ⟨hb.2, by omega⟩
      have HP3 : Hid (RPrX w3 (fun b => b < w3.heap.size ∧ b ≠ gg0) (.slice P' m' e') x.props) := hp'.weak fun b hb => ⟨hb.2, by omega⟩
      have HF3 : Hid (∀ (j : Nat) (y : BK), j < k → M[j]? = some y → NB w3 (fun b => (b < w3.heap.size ∧ b ≠ gg0) ∧ w.heap.size ≤ b) y) := fun j y hj hy => NB_ok _ _ _ _ y (hfar.out j y hj hy) (fun p hp => hb3.cell hp.1.1) fun b hb => ⟨⟨Nat.lt_of_lt_of_le hb.1.1 hb3.size, hb.1.2⟩, hb.2⟩
      have hzr := hbel.out.size
      have HN3 : Hid (NB w3 (fun b => (b < w3.heap.size ∧ b ≠ gg0) ∧ w.heap.size ≤ b) ((x, Value.slice K' n' c', Value.slice P' m' e') : BK)) := ⟨hk'.weak fun b hb => ⟨⟨hb.2, by omega⟩, by omega⟩, hp'.weak fun b hb => ⟨⟨hb.2, by omega⟩, by omega⟩⟩
      clear hb3 hk' hp' hzr c0 c1 c2 c3 c4
      have c0 : w3.cell? ⟨gg0, k * 5, none⟩ = some (.int .i64 x.id) := HR3.out.cell (i := 0) HX.out rfl
      have c1 : w3.cell? ⟨gg0, k * 5 + 1, none⟩ = some (.int .i64 x.parent) := HR3.out.cell HX.out rfl
      have c2 : w3.cell? ⟨gg0, k * 5 + 2, none⟩ = some (.slice Kx nx cx) := HR3.out.cell HX.out rfl
      have c3 : w3.cell? ⟨gg0, k * 5 + 3, none⟩ = some (.string x.text) := HR3.out.cell HX.out rfl
      have c4 : w3.cell? ⟨gg0, k * 5 + 4, none⟩ = some (.slice Px mx ex) := HR3.out.cell HX.out rfl
      have f0 := HR3.out.frozen (k * 5)
      have f1 := HR3.out.frozen (k * 5 + 1)
      have f2 := HR3.out.frozen (k * 5 + 2)
      have f3 := HR3.out.frozen (k * 5 + 3)
      have f4 := HR3.out.frozen (k * 5 + 4)
      go_wp2_with fail
      go_roundg (n - (k + 1))
      case measure => omega
      case rel =>
        have hge : w.heap.size ≤ gg0 := by rw [HGG.out]; exact Nat.le_refl _
        have hC := HR3.out.putKP HX.out HK3.out HP3.out
        dsimp only at hC
        have hD := ((((HB3.out.setCell (p := ⟨gg0, k * 5, none⟩) hge (.int .i64 x.id)).setCell (p := ⟨gg0, k * 5 + 1, none⟩) hge (.int .i64 x.parent)).setCell (p := ⟨gg0, k * 5 + 2, none⟩) hge (.slice K' n' c')).setCell (p := ⟨gg0, k * 5 + 3, none⟩) hge (.string x.text)).setCell (p := ⟨gg0, k * 5 + 4, none⟩) hge (.slice P' m' e')
        have hA : (M.set k (x, Value.slice K' n' c', Value.slice P' m' e')).length = n := by rw [List.length_set]; exact hml.out
        have hE : (M.set k (x, Value.slice K' n' c', Value.slice P' m' e')).map Prod.fst = l := by
          rw [← hmm.out, List.map_set]
          obtain ⟨hkk, hke⟩ := List.getElem?_eq_some_iff.1 HX.out
          refine List.ext_getElem? fun i => ?_
          rw [List.getElem?_set]
          split
          · rename_i e
            subst e
            rw [if_pos (by rw [List.length_map]; exact hkk), List.getElem?_map, HX.out]; rfl
          · rfl
        have hFF : ∀ (j : Nat) (y : BK), j < k + 1 → (M.set k (x, Value.slice K' n' c', Value.slice P' m' e'))[j]? = some y → NB (((((w3.setCell ⟨gg0, k * 5, none⟩ (.int .i64 x.id)).setCell ⟨gg0, k * 5 + 1, none⟩ (.int .i64 x.parent)).setCell ⟨gg0, k * 5 + 2, none⟩ (.slice K' n' c')).setCell ⟨gg0, k * 5 + 3, none⟩ (.string x.text)).setCell ⟨gg0, k * 5 + 4, none⟩ (.slice P' m' e')) (fun b => (b < (((((w3.setCell ⟨gg0, k * 5, none⟩ (.int .i64 x.id)).setCell ⟨gg0, k * 5 + 1, none⟩ (.int .i64 x.parent)).setCell ⟨gg0, k * 5 + 2, none⟩ (.slice K' n' c')).setCell ⟨gg0, k * 5 + 3, none⟩ (.string x.text)).setCell ⟨gg0, k * 5 + 4, none⟩ (.slice P' m' e')).heap.size ∧ b ≠ gg0) ∧ w.heap.size ≤ b) y := fun j y hj hy => by
          refine NB_put (NB_put (NB_put (NB_put (NB_put ?_ _ _) _ _) _ _) _ _) _ _
          rw [List.getElem?_set] at hy
          split at hy
          · split at hy
            · obtain rfl := Option.some.inj hy
              exact HN3.out
            · cases hy
          · exact HF3.out j y (by omega) hy
        have HFF := Lib.hid hFF
        have HA := Lib.hid hA
        have HC := Lib.hid hC
        have HD := Lib.hid hD
        have HE := Lib.hid hE
        have hs : k + 1 + (n - (k + 1)) = n := by omega
        have hv : Value.int .i64 ((k : Int) + 1) = Value.int .i64 ((k + 1 : Nat) : Int) := by go_num
        exact ⟨k + 1, _, hs, hv, HA, HE, HC, HD, HFF⟩
    · obtain rfl : n = k := by omega
      go_wp2_with fail
      go_ret
      exact ⟨gg0, n, M, rfl, hml.out, hmm.out, by rw [HGG.out]; exact Nat.le_refl _, ⟨hrow.out, fun y hy => by
        obtain ⟨j, hj⟩ := List.mem_iff_getElem?.1 hy
        have hjl := (List.getElem?_eq_some_iff.1 hj).1
        exact hfar.out j y (by have := hml.out; omega) hj⟩, hbel.out⟩
/-- tree.copyBase -/
theorem copyBase_any (l : List Bl) (A : Option Addr) (n c : Nat) (w : World) (B : Nat) (hB : B ≤ w.heap.size) (h : RB w B (.slice A n c) l) (hn0 : 0 < n) (hn1 : n ≤ 100000) :
    Calls Tryz.prog 26 #[.slice A n c] w (CopyBaseR l w) := by
  refine (copyBaseS_any l A n c w B hB h hn0 hn1).mono ?_
  rintro e w' ⟨g, n, M, h1, h2, h3, h4, h5, h6⟩
  exact ⟨g, n, M, h1, h2, h3, h4, h5.toRowB, h6⟩
end Go.Proofs.YtmkicfjcgbfaaaaGreatDoor
