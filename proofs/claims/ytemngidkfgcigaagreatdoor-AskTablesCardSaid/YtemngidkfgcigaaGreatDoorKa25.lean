/-
  DERIVED. The walk of text.Spans. Conditions: the text's size.
  The walks of strings.Builder's copyCheck, WriteString, String, of a builder that lies ahead of the rows that it is given. Conditions: Go's own limit. By an AI agent (after the shelf's own proofs, turned to this program).
  The walks of strings.Builder's WriteString and String. Conditions: Go's own limit. By an AI agent (after the shelf's own proofs, turned to this program).
  The walk of strings.Builder's String of whatever it holds. Conditions: none. By an AI agent (after the shelf's own proofs, turned to this program).
  The walk of text.each, for whatever closure keeps a relation. Conditions: the text's size.
  By an AI agent.
-/
import Derived.Test.YtemngidkfgcigaaGreatDoorKa22
import Derived.Deep.QuietTactic
import Derived.BigQuiet
import Derived.Lib.Builder
import Derived.Lib.AppendStr
import Derived.Lib.UnsafeStr
import Derived.Laws.Externs
namespace Go.Proofs.YtemngidkfgcigaaGreatDoor
open Go.RowKit

theorem own_shape {w : World} {B n : Nat} {e : TypeId} {v : Value} {xs : List Value} (h : w.ownsRow B e 7 v n xs) : ∃ A c, v = .slice A n c ∧ n ≤ c ∧ (0 < n → ∃ g, A = some ⟨g, 0, none⟩) := by
  rcases h.2 with ⟨rfl, h0⟩ | ⟨g, cap, cur, hv, _, _, hc, _⟩
  · subst h0; exact ⟨_, _, rfl, Nat.le_refl _, fun h => absurd h (Nat.lt_irrefl _)⟩
  · exact ⟨_, _, hv, hc, fun _ => ⟨g, rfl⟩⟩

theorem sp_cells {w w' : World} {B g k : Nat} {c : Nat} {L : List Sp} {x : Sp} {e : TypeId} (h : w.ownsRow B e 7 (.slice (some ⟨g, 0, none⟩) L.length c) L.length (flatC L)) (hb : Below w.heap.size w w') (hx : L[k]? = some x) :
    w'.cell? ⟨g, k * 7, none⟩ = some (.int .i64 x.kind) ∧ w'.cell? ⟨g, k * 7 + 1, none⟩ = some (.int .i64 x.frm) ∧ w'.cell? ⟨g, k * 7 + 2, none⟩ = some (.int .i64 x.to_) ∧ w'.cell? ⟨g, k * 7 + 3, none⟩ = some (.string x.text) ∧
    w'.cell? ⟨g, k * 7 + 4, none⟩ = some (.string x.show_) ∧ w'.cell? ⟨g, k * 7 + 5, none⟩ = some (.int .i64 x.id) ∧ w'.cell? ⟨g, k * 7 + 6, none⟩ = some (.bool x.strong) := by
  have hg := (h.lt g rfl).2
  have key : ∀ i u, i < 7 → (spCells x)[i]? = some u → w'.cell? ⟨g, k * 7 + i, none⟩ = some u := by
    intro i u hi hu
    have := h.cells (g := g) rfl (k * 7 + i) u (by rw [flatC_at hx hi]; exact hu)
    rw [Addr.add_lit] at this
    have h2 : w.cell? ⟨g, k * 7 + i, none⟩ = some u := by simpa using this
    exact (hb.cell (p := ⟨g, k * 7 + i, none⟩) hg).trans h2
  exact ⟨key 0 _ (by omega) rfl, key 1 _ (by omega) rfl, key 2 _ (by omega) rfl, key 3 _ (by omega) rfl, key 4 _ (by omega) rfl, key 5 _ (by omega) rfl, key 6 _ (by omega) rfl⟩

theorem _root_.Go.World.ownsRow.drewK {w : World} {B n size : Nat} {e : TypeId} {v : Value} {xs : List Value} (h : w.ownsRow B e size v n xs) (k : Nat) : (w.drewN k).ownsRow B e size v n xs := h
/-- .. where the round drew an order in between -/
theorem span_step_d {w w1 w2 : World} {B n q : Nat} {l : List Sp} {x : Sp} {v v2 : Value} {o1 o2 : Obj} (_hw : B ≤ w.heap.size)
    (hown2 : w2.ownsRow B 79 7 v2 (n + 1) (flatC l ++ spCells x)) (hg2 : (((w1.alloc o1).drewN q).alloc o2).grownBy w2 v.ownBlock) (hb : Below w.heap.size w w1) (_hown1 : w1.ownsRow B 79 7 v n (flatC l))
    (hv : ∀ g, v.ownBlock = some g → w.heap.size ≤ g) :
    w2.ownsRow B 79 7 v2 (n + 1) (flatC (l ++ [x])) ∧ Below w.heap.size w w2 := by
  have hs := hb.size
  exact ⟨by rw [flatC_snoc]; exact hown2, ((bdrew (hb.alloc (by omega) o1) q).alloc (by simp; omega) o2).grown hg2 (by simp; omega) hv⟩

set_option maxHeartbeats 1000000 in
set_option maxRecDepth 100000 in
theorem spans_any (s : ByteArray) (w : World) (hs : s.size ≤ 4294967280) :
    Calls Tryz.prog 64 #[.string s] w fun e w' => ∃ v, e = .returned v ∧ w'.ownsRow w.heap.size 79 7 v (spans s).length (flatC (spans s)) ∧ Below w.heap.size w w' := by
  obtain ⟨i0, hi, hz0, hz1, hz2⟩ := info_parts span_info
  obtain ⟨l0, hl0⟩ : ∃ l0, l0 = toks s 0 := ⟨_, rfl⟩
  obtain ⟨l, hl1⟩ : ∃ l, l = strong l0 := ⟨_, rfl⟩
  have hl : l0.length ≤ s.size := by rw [hl0]; exact toks_len s
  have hw : Hid (∀ x ∈ l0, x.strong = false) := by rw [hl0]; exact toks_weak s 0
  have HR : Hid ((merge [] l).map (fillT s) = spans s) := by show _ = _; rw [hl1, hl0]; rfl
  have HC : Hid (Cont 0 (merge [] l) s.size) := by show Cont _ _ _; rw [hl1, hl0]; exact merge_cont (a := 0) (b := 0) rfl (strong_cont (toks_cont s _ 0 rfl (Nat.zero_le _)))
  have hll : l.length = l0.length := by rw [hl1]; exact strong_len l0
  have HL := Lib.hid hl1
  have HL0 := Lib.hid hl0
  have HLL := Lib.hid hll
  clear hl0 hl1 hll
  go_enter Tryz.func64, Tryz.ntmps64
  go_wp2_with fail
  refine (tokens_any s _ hs).mono ?_
  rintro e w1 ⟨v, rfl, hown1, hb1⟩
  rw [← HL0.out] at hown1
  obtain ⟨A, c, rfl, hnc, hA⟩ := own_shape hown1
  have HO := Lib.hid hown1
  clear hown1
  go_wp2_with fail
  refine (strengthen_any l0 _ _ _ HO.out hw.out (by omega)).mono ?_
  rintro e w2 ⟨rfl, hown2, hb2⟩
  rw [← HL.out] at hown2
  rw [← HLL.out] at hown2 hnc hA hl
  rw [← HLL.out]
  have hb := hb1.trans hb2
  have hsz := hb.size
  have hln : l.length ≤ 4294967280 := by omega
  clear HO hb1 hb2 HL HL0 HLL
  go_wp2
  go_loopg [4, 15] l.length (fun gg s4 s15 wr => ∃ (k : Nat) (acc : List Sp), k + gg = l.length ∧ s15 = .int .i64 k ∧ acc.length ≤ k ∧ Hid (merge acc (l.drop k) = merge [] l) ∧ wr.ownsRow w2.heap.size 79 7 s4 acc.length (flatC acc) ∧ Below w2.heap.size w2 wr)
  case atStart => exact ⟨0, [], by omega, rfl, Nat.le_refl _, rfl, World.ownsRow_nil _ _ _ _, Below.refl _ _⟩
  case round =>
    obtain ⟨k, acc, hkg, rfl, hak, HM, hown, hbel⟩ := hrel
    obtain ⟨A3, cap3, rfl, hac, hA3⟩ := own_shape hown
    by_cases hkl : k < l.length
    · obtain ⟨g, rfl⟩ := hA (by omega)
      obtain ⟨x, hx⟩ : ∃ x, l[k]? = some x := ⟨_, List.getElem?_eq_getElem hkl⟩
      obtain ⟨c0, c1, c2, c3, c4, c5, c6⟩ := sp_cells hown2 hbel hx
      have hdrop : l.drop k = x :: l.drop (k + 1) := by
        rw [List.drop_eq_getElem_cons hkl]
        rw [List.getElem?_eq_getElem hkl] at hx
        injection hx with hx
        rw [hx]
      have HM' : Hid (merge (mstep acc x) (l.drop (k + 1)) = merge [] l) := by
        show _ = _
        rw [← HM.out, hdrop]; rfl
      have ik : (k : Int) < (l.length : Int) := by omega
      have ik0 : (0 : Int) ≤ (k : Int) := by omega
      have hwz := hbel.size
      clear hx hdrop HM
      cases hk : (x.kind == 1)
      · have HS : Hid (mstep acc x = acc ++ [x]) := mstep_no (fun r y _ => by rw [hk]; rfl)
        go_upto_region 8 with (fail)
        go_quiet (fail)
        have KB := (Blk.new wr 79 #[.int .i64 x.kind, .int .i64 x.frm, .int .i64 x.to_, .string x.text, .string x.show_, .int .i64 x.id, .bool x.strong]).drewN nq
        have q0 := KB.cell 0
        have q1 := KB.cell 1
        have q2 := KB.cell 2
        have q3 := KB.cell 3
        have q4 := KB.cell 4
        have q5 := KB.cell 5
        have q6 := KB.cell 6
        clear KB
        go_wp2_with (at_builtin; refine wpList_append_own_at _ rfl _ _ 76 rfl w2.heap.size 79 i0 spZ 7 72 Tryz.underlying76 hi hz0 hz1 hz2 rfl (by decide) _ acc.length _ rfl (((hown.alloc _).drewK nq).alloc _) ⟨wr.heap.size + 1, 0, none⟩ 1 1 (spCells x) rfl rfl (cells_new _ _ (spCells x) _ (by simp)) (sp_oneCell _) (by unfold maxLen; omega) (by omega) (by simp; omega) ?_; intro v3 w3 hown3 hg3 _ _)
        have R := span_step_d (Nat.le_refl _) hown3 hg3 hbel hown (fun g h => (hown.lt g h).1)
        rw [← HS.out] at R
        clear hown3 hg3
        go_roundg (l.length - (k + 1))
        case measure => omega
        case rel => exact ⟨k + 1, mstep acc x, by omega, by go_num, Nat.le_trans (mstep_len acc x) (by omega), HM', by rw [HS.out]; rw [HS.out] at R; simpa using R.1, R.2⟩
      · rcases acc.eq_nil_or_concat with hr | ⟨r, y, hr⟩
        · have HS : Hid (mstep acc x = acc ++ [x]) := mstep_no (fun r y h => by rw [hr] at h; simp at h)
          have hrl : acc.length = 0 := by rw [hr]; rfl
          have iz : decide ((1 : Int) ≤ (acc.length : Int)) = false := by simp; omega
          clear hr hrl
          go_upto_region 8 with (fail)
          go_quiet (fail)
          have KB := (Blk.new wr 79 #[.int .i64 x.kind, .int .i64 x.frm, .int .i64 x.to_, .string x.text, .string x.show_, .int .i64 x.id, .bool x.strong]).drewN nq
          have q0 := KB.cell 0
          have q1 := KB.cell 1
          have q2 := KB.cell 2
          have q3 := KB.cell 3
          have q4 := KB.cell 4
          have q5 := KB.cell 5
          have q6 := KB.cell 6
          clear KB
          go_wp2_with (at_builtin; refine wpList_append_own_at _ rfl _ _ 76 rfl w2.heap.size 79 i0 spZ 7 72 Tryz.underlying76 hi hz0 hz1 hz2 rfl (by decide) _ acc.length _ rfl (((hown.alloc _).drewK nq).alloc _) ⟨wr.heap.size + 1, 0, none⟩ 1 1 (spCells x) rfl rfl (cells_new _ _ (spCells x) _ (by simp)) (sp_oneCell _) (by unfold maxLen; omega) (by omega) (by simp; omega) ?_; intro v3 w3 hown3 hg3 _ _)
          have R := span_step_d (Nat.le_refl _) hown3 hg3 hbel hown (fun g h => (hown.lt g h).1)
          rw [← HS.out] at R
          clear hown3 hg3
          go_roundg (l.length - (k + 1))
          case measure => omega
          case rel => exact ⟨k + 1, mstep acc x, by omega, by go_num, Nat.le_trans (mstep_len acc x) (by omega), HM', by rw [HS.out]; rw [HS.out] at R; simpa using R.1, R.2⟩
        · simp only [List.concat_eq_append] at hr
          obtain ⟨g3, rfl⟩ := hA3 (by rw [hr]; simp)
          have hrl : acc.length = r.length + 1 := by rw [hr]; simp
          have hy : acc[r.length]? = some y := by rw [hr]; simp
          have hlt3 := (hown.lt g3 rfl).2
          have ia : (0 : Int) ≤ (acc.length : Int) - 1 := by omega
          have iz : decide ((1 : Int) ≤ (acc.length : Int)) = true := by simp; omega
          have ib : (acc.length : Int) - 1 < (acc.length : Int) := by omega
          have it : ((acc.length : Int) - 1).toNat = r.length := by omega
          obtain ⟨d0, d1, d2, d3, d4, d5, d6⟩ := sp_cells hown (Below.refl _ _) hy
          have e0 : ∀ o, (wr.alloc o).cell? ⟨g3, r.length * 7, none⟩ = some (.int .i64 y.kind) := fun o => (World.cell?_alloc_lt wr o _ hlt3).trans d0
          have e6 : ∀ o, (wr.alloc o).cell? ⟨g3, r.length * 7 + 6, none⟩ = some (.bool y.strong) := fun o => (World.cell?_alloc_lt wr o _ hlt3).trans d6
          cases hyk : (y.kind == 1)
          · have HS : Hid (mstep acc x = acc ++ [x]) := mstep_no (fun r' y' h => by rw [hr] at h; obtain ⟨_, h2⟩ := List.append_inj' h rfl; injection h2 with h2; subst h2; rw [hyk]; simp)
            clear hr hrl hy d0 d1 d2 d3 d4 d5 d6
            go_upto_region 8 with (fail)
            go_quiet (fail)
            have KB := (Blk.new wr 79 #[.int .i64 x.kind, .int .i64 x.frm, .int .i64 x.to_, .string x.text, .string x.show_, .int .i64 x.id, .bool x.strong]).drewN nq
            have q0 := KB.cell 0
            have q1 := KB.cell 1
            have q2 := KB.cell 2
            have q3 := KB.cell 3
            have q4 := KB.cell 4
            have q5 := KB.cell 5
            have q6 := KB.cell 6
            clear KB
            go_wp2_with (at_builtin; refine wpList_append_own_at _ rfl _ _ 76 rfl w2.heap.size 79 i0 spZ 7 72 Tryz.underlying76 hi hz0 hz1 hz2 rfl (by decide) _ acc.length _ rfl (((hown.alloc _).drewK nq).alloc _) ⟨wr.heap.size + 1, 0, none⟩ 1 1 (spCells x) rfl rfl (cells_new _ _ (spCells x) _ (by simp)) (sp_oneCell _) (by unfold maxLen; omega) (by omega) (by simp; omega) ?_; intro v3 w3 hown3 hg3 _ _)
            have R := span_step_d (Nat.le_refl _) hown3 hg3 hbel hown (fun g h => (hown.lt g h).1)
            rw [← HS.out] at R
            clear hown3 hg3
            go_roundg (l.length - (k + 1))
            case measure => omega
            case rel => exact ⟨k + 1, mstep acc x, by omega, by go_num, Nat.le_trans (mstep_len acc x) (by omega), HM', by rw [HS.out]; rw [HS.out] at R; simpa using R.1, R.2⟩
          · cases hys : (y.strong == x.strong)
            · have HS : Hid (mstep acc x = acc ++ [x]) := mstep_no (fun r' y' h => by rw [hr] at h; obtain ⟨_, h2⟩ := List.append_inj' h rfl; injection h2 with h2; subst h2; rw [hys]; simp)
              clear hr hrl hy d0 d1 d2 d3 d4 d5 d6
              go_upto_region 8 with (fail)
              go_quiet (fail)
              have KB := (Blk.new wr 79 #[.int .i64 x.kind, .int .i64 x.frm, .int .i64 x.to_, .string x.text, .string x.show_, .int .i64 x.id, .bool x.strong]).drewN nq
              have q0 := KB.cell 0
              have q1 := KB.cell 1
              have q2 := KB.cell 2
              have q3 := KB.cell 3
              have q4 := KB.cell 4
              have q5 := KB.cell 5
              have q6 := KB.cell 6
              clear KB
              go_wp2_with (at_builtin; refine wpList_append_own_at _ rfl _ _ 76 rfl w2.heap.size 79 i0 spZ 7 72 Tryz.underlying76 hi hz0 hz1 hz2 rfl (by decide) _ acc.length _ rfl (((hown.alloc _).drewK nq).alloc _) ⟨wr.heap.size + 1, 0, none⟩ 1 1 (spCells x) rfl rfl (cells_new _ _ (spCells x) _ (by simp)) (sp_oneCell _) (by unfold maxLen; omega) (by omega) (by simp; omega) ?_; intro v3 w3 hown3 hg3 _ _)
              have R := span_step_d (Nat.le_refl _) hown3 hg3 hbel hown (fun g h => (hown.lt g h).1)
              rw [← HS.out] at R
              clear hown3 hg3
              go_roundg (l.length - (k + 1))
              case measure => omega
              case rel => exact ⟨k + 1, mstep acc x, by omega, by go_num, Nat.le_trans (mstep_len acc x) (by omega), HM', by rw [HS.out]; rw [HS.out] at R; simpa using R.1, R.2⟩
            · have HS : Hid (acc.set r.length { y with to_ := x.to_ } = mstep acc x) := by
                show _ = _
                rw [hr, mstep_yes (by rw [hk, hyk, hys]; rfl)]; simp
              have HY := Lib.hid hy
              clear hr hy d0 d1 d3 d4 d5 d6
              go_upto_region 8 with (fail)
              go_quiet (fail)
              have KB := (Blk.new wr 79 #[.int .i64 x.kind, .int .i64 x.frm, .int .i64 x.to_, .string x.text, .string x.show_, .int .i64 x.id, .bool x.strong]).drewN nq
              have q2 := KB.cell 2
              clear KB e0 e6
              have hownD := (hown.alloc (.cells #[.int .i64 x.kind, .int .i64 x.frm, .int .i64 x.to_, .string x.text, .string x.show_, .int .i64 x.id, .bool x.strong] 79)).drewK nq
              have hbelD := bdrew (hbel.alloc (by omega) (.cells #[.int .i64 x.kind, .int .i64 x.frm, .int .i64 x.to_, .string x.text, .string x.show_, .int .i64 x.id, .bool x.strong] 79)) nq
              have y2 : ((wr.alloc (.cells #[.int .i64 x.kind, .int .i64 x.frm, .int .i64 x.to_, .string x.text, .string x.show_, .int .i64 x.id, .bool x.strong] 79)).drewN nq).cell? ⟨g3, r.length * 7 + 2, none⟩ = some (.int .i64 y.to_) := (World.cell?_alloc_lt wr _ _ hlt3).trans d2
              have f2 := hownD.frozenAt (r.length * 7 + 2)
              have R := store_sp (i := 2) (y := { y with to_ := x.to_ }) (u := .int .i64 x.to_) hownD hbelD HY.out (by omega) rfl
              rw [HS.out] at R
              have hml : (mstep acc x).length = acc.length := by rw [← HS.out]; simp
              have R := Lib.hid R
              have HML := Lib.hid hml
              clear hownD hbelD d2 hml
              go_wp2
              go_roundg (l.length - (k + 1))
              case measure => omega
              case rel => exact ⟨k + 1, mstep acc x, by omega, by go_num, by rw [HML.out]; omega, HM', by rw [HML.out]; exact R.out.1, R.out.2⟩
    · obtain rfl : k = l.length := by omega
      have HM2 : Hid (acc = merge [] l) := by
        show _ = _
        rw [← HM.out, List.drop_eq_nil_of_le (Nat.le_refl _)]; rfl
      clear HM hown2 hA
      have hwb := hbel.size
      have hbel' : Below w.heap.size w wr := hb.trans (hbel.mono hsz)
      rw [← HM2.out] at HR HC
      clear HM2
      go_wp2
      go_loopg [60] acc.length (fun gg s60 wi => ∃ i : Nat, i + gg = acc.length ∧ s60 = .int .i64 i ∧ wi.ownsRow w2.heap.size 79 7 (.slice A3 acc.length cap3) acc.length (flatC (fillI acc s i)) ∧ Below w.heap.size w wi)
      case atStart => exact ⟨0, by omega, rfl, by rw [fillI_zero]; exact hown, hbel'⟩
      case round =>
        obtain ⟨i, hig, rfl, hown4, hbel4⟩ := hrel
        clear hown hbel hbel'
        by_cases hil : i < acc.length
        · obtain ⟨g3, rfl⟩ := hA3 (by omega)
          obtain ⟨y, hy⟩ : ∃ y, acc[i]? = some y := ⟨_, List.getElem?_eq_getElem hil⟩
          obtain ⟨_, m1, m2⟩ := cont_mem HC.out y (List.mem_of_getElem? hy)
          have hyF := fillI_at (s := s) hy
          obtain ⟨c0, c1, c2, c3, c4, c5, c6⟩ := sp_cells (L := fillI acc s i) (by rw [fillI_len]; exact hown4) (Below.refl _ _) hyF
          have ii : (i : Int) < (acc.length : Int) := by omega
          have ii0 : (0 : Int) ≤ (i : Int) := by omega
          have m0 : (0 : Int) ≤ (y.frm : Int) := by omega
          have m1' : (y.frm : Int) ≤ (y.to_ : Int) := by omega
          have m2' : (y.to_ : Int) ≤ (s.size : Int) := by omega
          cases hk : (y.kind == 1)
          · have R : wr.ownsRow w2.heap.size 79 7 (.slice (some ⟨g3, 0, none⟩) acc.length cap3) acc.length (flatC (fillI acc s (i + 1))) := by
              rw [← fillI_same hy (by simpa using hk)]; exact hown4
            have R := Lib.hid R
            clear hy hyF hown4 HC HR
            go_wp2
            go_roundg (acc.length - (i + 1))
            case measure => omega
            case rel => exact ⟨i + 1, by omega, by go_num, R.out, hbel4⟩
          · have f3 := hown4.frozenAt (i * 7 + 3)
            have R := And.intro (store_sp (i := 3) (y := fillT s y) (u := .string (s.extract y.frm y.to_)) hown4 (Below.refl _ _) hyF (by omega) (by unfold fillT; rw [if_pos (by simpa using hk)]; rfl)).1 (hbel4.setCell (p := ⟨g3, i * 7 + 3, none⟩) (Nat.le_trans hsz (own_ge hown4)) (.string (s.extract y.frm y.to_)))
            rw [fillI_set hy] at R
            have R := Lib.hid R
            clear hy hyF hown4 HC HR
            go_upto_region 16 with (fail)
            go_region
            go_wp2
            go_roundg (acc.length - (i + 1))
            case measure => omega
            case rel => exact ⟨i + 1, by omega, by go_num, R.out.1.drew, R.out.2.drew⟩
        · obtain rfl : i = acc.length := by omega
          rw [fillI_all, HR.out] at hown4
          have hle : acc.length = (spans s).length := by rw [← HR.out]; simp
          rw [hle] at hown4
          have H4 := Lib.hid hown4
          rw [hle]
          clear hown4 hle
          go_wp2
          go_ret
          exact ⟨_, rfl, H4.out.mono hsz, hbel4⟩
end Go.Proofs.YtemngidkfgcigaaGreatDoor
namespace Go.Proofs.YtemngidkfgcigaaGreatDoor
open Go.RowKit

theorem bld_size : (Tryz.prog.info? 88).map (·.size) = some 2 := by kernel_rfl
theorem bld_lies : liesAt Tryz.prog Tryz.prog.depth 88 (2 / Tryz.prog.cellsOf 88) 0 88 1 = true := by kernel_rfl
theorem byte_info : (Tryz.prog.info? 5).map (fun i => (i.zero, i.size, i.bytes)) = some (some (.int .u8 0), 1, 1) := by kernel_rfl
theorem byte_cells : Tryz.prog.cellsOf 5 = 1 := by kernel_rfl

/-- a builder in block b; its bytes lie from block B on -/
def Bld (b B : Nat) (bs : List Value) (w : World) : Prop :=
  b < B ∧ ∃ p v, (p = .pointer none ∨ p = .pointer (some ⟨b, 0, none⟩)) ∧ w.heap[b]? = some (.cells #[p, v] 88 (0, 0)) ∧ w.ownsRow B 5 1 v bs.length bs

/-- nothing turned but block b and blocks from B on -/
def Keep (b B : Nat) (w w' : World) : Prop := Below b w w' ∧ ∀ k, k < B → k ≠ b → w'.heap[k]? = w.heap[k]?
theorem Keep.refl (b B : Nat) (w : World) : Keep b B w w := ⟨Below.refl _ _, fun _ _ _ => rfl⟩
theorem Keep.trans {b B : Nat} {a w w' : World} (h : Keep b B a w) (k : Keep b B w w') : Keep b B a w' := ⟨h.1.trans k.1, fun i hi hne => (k.2 i hi hne).trans (h.2 i hi hne)⟩
theorem Keep.alloc {b B : Nat} {a w : World} (h : Keep b B a w) (hB : B ≤ w.heap.size) (hb : b ≤ w.heap.size) (o : Obj) : Keep b B a (w.alloc o) :=
  ⟨h.1.alloc hb o, fun i hi hne => (Below.heap_alloc w o i (by omega)).trans (h.2 i hi hne)⟩
theorem Keep.cell {b B : Nat} {a w : World} (h : Keep b B a w) {p : Addr} (hp : p.block < B) (hne : p.block ≠ b) : w.cell? p = a.cell? p := World.cell?_of_block (h.2 p.block hp hne)
theorem Keep.frozen {b B : Nat} {a w : World} (h : Keep b B a w) {p : Addr} (hp : p.block < B) (hne : p.block ≠ b) : w.frozen? p = a.frozen? p := World.frozen?_of_block (h.2 p.block hp hne)
theorem Bld.alloc {b B : Nat} {bs : List Value} {w : World} (h : Bld b B bs w) (hB : B ≤ w.heap.size) (o : Obj) : Bld b B bs (w.alloc o) := by
  obtain ⟨hb, p, v, hp, hbk, hown⟩ := h
  exact ⟨hb, p, v, hp, (Below.heap_alloc w o b (by omega)).trans hbk, hown.alloc o⟩
theorem Bld.fresh {b B : Nat} {w : World} (hb : b < B) (h : w.heap[b]? = some (.cells #[.pointer none, .slice none 0 0] 88 (0, 0))) : Bld b B [] w :=
  ⟨hb, _, _, .inl rfl, h, World.ownsRow_nil _ _ _ _⟩

set_option maxHeartbeats 1000000 in
set_option maxRecDepth 100000 in
theorem copyCheck_used (b : Nat) (w : World) (h0 : w.cell? ⟨b, 0, none⟩ = some (.pointer (some ⟨b, 0, none⟩))) :
    Calls Tryz.prog 65 #[.pointer (some ⟨b, 0, none⟩)] w fun e w' => e = .returned (.tuple #[]) ∧ w' = w := by
  obtain ⟨j, hj, _⟩ := Option.map_eq_some_iff.1 bld_size
  go_enter Tryz.func65, Tryz.ntmps65
  go_wp2
  rw [Lib.run_neq_ptr_same w _ Tryz.underlying85 hj]
  go_wp2
  go_end0
  exact ⟨rfl, rfl⟩

set_option maxHeartbeats 1000000 in
set_option maxRecDepth 100000 in
theorem copyCheck_fresh (b : Nat) (w : World) (h0 : w.cell? ⟨b, 0, none⟩ = some (.pointer none)) (hsh : w.shape? b = some (88, 2)) (hfz : w.frozen? ⟨b, 0, none⟩ = false) :
    Calls Tryz.prog 65 #[.pointer (some ⟨b, 0, none⟩)] w fun e w' => e = .returned (.tuple #[]) ∧ w' = w.setCell ⟨b, 0, none⟩ (.pointer (some ⟨b, 0, none⟩)) := by
  obtain ⟨j, hj, hjs⟩ := Option.map_eq_some_iff.1 bld_size
  go_enter Tryz.func65, Tryz.ntmps65
  go_wp2
  rw [Lib.run_to_unsafe w ⟨b, 0, none⟩ Tryz.underlying85 Tryz.underlying113 hj (by rw [hjs]; decide) hsh (Nat.zero_lt_succ 1)]
  simp only [Result.andThen]
  rw [Oper.upon_value]
  go_wp2
  rw [run_callFunc_extern Tryz.func79 (by kernel_rfl) (by kernel_rfl) (by kernel_rfl) (e := Extern.AbiNoEscape.same) (by kernel_rfl)]
  rw [Lib.run_noEscape]
  simp only [Result.andThen]
  rw [Oper.upon_value]
  go_wp2
  rw [Lib.run_from_unsafe w ⟨b, 0, none⟩ Tryz.underlying113 Tryz.underlying85 hj hsh bld_lies]
  simp only [Result.andThen]
  rw [Oper.upon_value]
  go_wp2
  go_end0
  exact ⟨rfl, rfl⟩

/-- .. of either: behind it the builder is used -/
theorem copyCheck_any (b B : Nat) (bs : List Value) (w : World) (h : Bld b B bs w) :
    Calls Tryz.prog 65 #[.pointer (some ⟨b, 0, none⟩)] w fun e w' => e = .returned (.tuple #[]) ∧ w'.heap.size = w.heap.size ∧ Keep b B w w' ∧ (∃ v, w'.heap[b]? = some (.cells #[.pointer (some ⟨b, 0, none⟩), v] 88 (0, 0)) ∧ w'.ownsRow B 5 1 v bs.length bs) := by
  obtain ⟨hbB, p, v, hp, hbk, hown⟩ := h
  rcases hp with rfl | rfl
  · refine (copyCheck_fresh b w (by rw [Lib.cell_of_heap hbk]; rfl) (by simp [World.shape?, hbk]) (Lib.frozen_of_heap hbk 0)).mono ?_
    rintro e w' ⟨rfl, rfl⟩
    refine ⟨rfl, by simp [World.setCell], ⟨(Below.refl _ _).setCell (p := ⟨b, 0, none⟩) (Nat.le_refl _) _, fun k _ hne => Below.heap_setCell _ _ _ _ (fun e => hne (by simp [e]))⟩, v, ?_, ?_⟩
    · simp [World.setCell, Array.getElem?_modify, hbk]
    · exact ownsRow_setCell_below hown hbB _
  · refine (copyCheck_used b w (by rw [Lib.cell_of_heap hbk]; rfl)).mono ?_
    rintro e w' ⟨rfl, rfl⟩
    exact ⟨rfl, rfl, Keep.refl _ _ _, v, hbk, hown⟩
end Go.Proofs.YtemngidkfgcigaaGreatDoor
namespace Go.Proofs.YtemngidkfgcigaaGreatDoor
open Go.RowKit

set_option maxHeartbeats 2000000 in
set_option maxRecDepth 100000 in
theorem writeString_any (b B : Nat) (bs : List Value) (s : ByteArray) (w : World) (h : Bld b B bs w) (hlen : bs.length + s.size ≤ 140737488355328) (hBw : B ≤ w.heap.size) :
    Calls Tryz.prog 52 #[.pointer (some ⟨b, 0, none⟩), .string s] w fun e w' => e = .returned (.tuple #[.int .i64 s.size, .nilIface]) ∧ Bld b B (bs ++ Lib.strCells s) w' ∧ Keep b B w w' := by
  obtain ⟨i0, hi, hz0, hz1, hz2⟩ := info_parts byte_info
  have hbB := h.1
  go_enter Tryz.func52, Tryz.ntmps52
  go_wp2_with fail
  refine (copyCheck_any b B bs _ h).mono ?_
  rintro e w1 ⟨rfl, hsz, hk, v, hbk, hown⟩
  have c0 : w1.cell? ⟨b, 0, none⟩ = some (.pointer (some ⟨b, 0, none⟩)) := by rw [Lib.cell_of_heap hbk]; rfl
  have c1 : w1.cell? ⟨b, 1, none⟩ = some v := by rw [Lib.cell_of_heap hbk]; rfl
  go_wp2_with (at_builtin; refine Lib.wpList_append_own_string _ rfl _ _ 86 9 rfl B 5 i0 Tryz.underlying86 Tryz.underlying9 hi hz0 hz1 hz2 _ _ _ rfl hown s rfl (by unfold maxLen; omega) (by omega) (by omega) ?_)
  intro v' w2 hown' hgrow _
  have hlt : b < w1.heap.size := by omega
  have hne : v.ownBlock ≠ some b := fun e => by have := (hown.lt b e).1; omega
  have hb2 : w2.heap[b]? = some (.cells #[.pointer (some ⟨b, 0, none⟩), v] 88 (0, 0)) := by
    rw [hgrow.block b hlt (fun e => hne e.symm)]
    exact hbk
  have d0 : w2.cell? ⟨b, 0, none⟩ = some (.pointer (some ⟨b, 0, none⟩)) := by rw [Lib.cell_of_heap hb2]; rfl
  have d1 : w2.cell? ⟨b, 1, none⟩ = some v := by rw [Lib.cell_of_heap hb2]; rfl
  have f1 : w2.frozen? ⟨b, 1, none⟩ = false := Lib.frozen_of_heap hb2 1
  obtain ⟨ao, n', cap, rfl⟩ : ∃ ao n' cap, v' = .slice ao n' cap := by
    rcases hown'.2 with ⟨hv, _⟩ | ⟨g, cap, cur, hv, _⟩
    · exact ⟨_, _, _, hv⟩
    · exact ⟨_, _, _, hv⟩
  have HK := Lib.hid hk
  clear hk
  go_wp2
  go_ret2
  refine ⟨rfl, ⟨hbB, _, .slice ao n' cap, .inr rfl, ?_, ?_⟩, HK.out.trans ⟨?_, ?_⟩⟩
  · simp [World.setCell, Array.getElem?_modify, hb2]
  · exact ownsRow_setCell_below (by simpa [Lib.strCells_length] using hown') hbB _
  · exact ((Below.refl b _).grown hgrow (by omega) (fun k hk => by have := (hown.lt k hk).1; omega)).setCell (p := ⟨b, 1, none⟩) (Nat.le_refl _) _
  · intro k hk hne'
    refine (Below.heap_setCell _ _ _ _ (fun e => hne' (by simp [e]))).trans (hgrow.block k (by omega) (fun e => by have := (hown.lt k e.symm).1; omega))

theorem strCells_byte (t : ByteArray) : Lib.strCells t = Lib.byteCells t.data.toList := rfl

set_option maxHeartbeats 1000000 in
set_option maxRecDepth 100000 in
theorem string_some (b B : Nat) (l : List UInt8) (w : World) (h : Bld b B (Lib.byteCells l) w) (h0 : l ≠ []) :
    Calls Tryz.prog 53 #[.pointer (some ⟨b, 0, none⟩)] w fun e w' => e = .returned (.string ⟨l.toArray⟩) ∧ Below b w w' := by
  obtain ⟨hbB, p, v, _, hbk, hown⟩ := h
  have hl0 : l.length ≠ 0 := by simpa using h0
  rw [Lib.byteCells_length] at hown
  obtain ⟨g, cap, cur, rfl, hbg, hg, hnc, hcm, hcs, htake⟩ : ∃ g cap cur, v = .slice (some ⟨g, 0, none⟩) l.length cap ∧ B ≤ g ∧ w.heap[g]? = some (.cells cur 5 (0, 0)) ∧ l.length ≤ cap ∧ cap ≤ maxLen ∧ cur.size = cap * 1 ∧ cur.toList.take (l.length * 1) = Lib.byteCells l := by
    rcases hown.2 with ⟨_, hz⟩ | ⟨g, cap, cur, hv, r⟩
    · exact absurd hz hl0
    · exact ⟨g, cap, cur, hv, r⟩
  have c1 : w.drew.cell? ⟨b, 1, none⟩ = some (.slice (some ⟨g, 0, none⟩) l.length cap) := by
    have : w.drew.heap[b]? = some (.cells #[p, .slice (some ⟨g, 0, none⟩) l.length cap] 88 (0, 0)) := hbk
    rw [Lib.cell_of_heap this]; rfl
  have hSD : (Builtin.unsafeSliceData_ #[86] 104 #[.slice (some ⟨g, 0, none⟩) l.length cap]).run Tryz.prog w.drew = .ok (.pointer (some ⟨g, 0, none⟩)) w.drew :=
    Lib.run_unsafeSliceData_row _ _ _ _ _ _ (by omega)
  have hUS : (Builtin.unsafeString_ #[104, 3] 9 #[.pointer (some ⟨g, 0, none⟩), .int .i64 l.length]).run Tryz.prog w.drew = .ok (.string ⟨l.toArray⟩) (w.drew.freeze ⟨g, 0, none⟩ l.length) := by
    refine Lib.run_unsafeString_row w.drew 104 3 9 5 Tryz.underlying104 byte_cells g cur.size (by have hg' : w.drew.heap[g]? = some (.cells cur 5 (0, 0)) := hg; simp [World.shape?, hg']) l h0 (by omega) (by unfold maxLen at hcm; omega) ?_
    intro j x hx
    have := hown.cells (g := g) rfl j (.int .u8 x.toNat) (by simp [Lib.byteCells, hx])
    exact this
  have hbg' : b ≤ g := by omega
  clear hown htake hcs hnc hcm hg hbk h0 hl0
  go_enter Tryz.func53, Tryz.ntmps53
  go_wp2
  go_region
  all_goals (go_wp2; go_ret; exact ⟨rfl, Lib.below_freeze (Below.drew (Below.refl b w)) (p := ⟨g, 0, none⟩) hbg' _⟩)
end Go.Proofs.YtemngidkfgcigaaGreatDoor
namespace Go.Proofs.YtemngidkfgcigaaGreatDoor
open Go.RowKit

theorem us_none (W : World) (q : Option Addr) : (Builtin.unsafeString_ #[104, 3] 9 #[.pointer q, .int .i64 0]).run Tryz.prog W = .ok (.string .empty) W :=
  Lib.run_unsafeString_none W _ _ _ q

set_option maxHeartbeats 1000000 in
set_option maxRecDepth 100000 in
theorem string_nil (b : Nat) (p : Value) (w : World) (hbk : w.heap[b]? = some (.cells #[p, .slice none 0 0] 88 (0, 0))) :
    Calls Tryz.prog 53 #[.pointer (some ⟨b, 0, none⟩)] w fun e w' => e = .returned (.string ⟨#[]⟩) ∧ Below b w w' := by
  have hUS := us_none
  have c1 : w.drew.cell? ⟨b, 1, none⟩ = some (.slice none 0 0) := by
    have : w.drew.heap[b]? = some (.cells #[p, .slice none 0 0] 88 (0, 0)) := hbk
    rw [Lib.cell_of_heap this]; rfl
  have hSD : (Builtin.unsafeSliceData_ #[86] 104 #[.slice none 0 0]).run Tryz.prog w.drew = .ok (.pointer none) w.drew := rfl
  go_enter Tryz.func53, Tryz.ntmps53
  go_wp2
  go_region
  all_goals (go_wp2; go_ret; exact ⟨rfl, Below.drew (Below.refl b w)⟩)

set_option maxHeartbeats 1000000 in
set_option maxRecDepth 100000 in
theorem string_noroom (b g : Nat) (p : Value) (cur : Array Value) (w : World) (hbk : w.heap[b]? = some (.cells #[p, .slice (some ⟨g, 0, none⟩) 0 0] 88 (0, 0))) (hg : w.heap[g]? = some (.cells cur 5 (0, 0))) :
    Calls Tryz.prog 53 #[.pointer (some ⟨b, 0, none⟩)] w fun e w' => e = .returned (.string ⟨#[]⟩) ∧ Below b w w' := by
  have hUS := us_none
  have hlt : b < w.heap.size := by
    rcases Nat.lt_or_ge b w.heap.size with h' | h'
    · exact h'
    · simp [Array.getElem?_eq_none h'] at hbk
  have hBw : b ≤ w.heap.size := by omega
  have c1 : w.drew.cell? ⟨b, 1, none⟩ = some (.slice (some ⟨g, 0, none⟩) 0 0) := by
    have : w.drew.heap[b]? = some (.cells #[p, .slice (some ⟨g, 0, none⟩) 0 0] 88 (0, 0)) := hbk
    rw [Lib.cell_of_heap this]; rfl
  have hSD : (Builtin.unsafeSliceData_ #[86] 104 #[.slice (some ⟨g, 0, none⟩) 0 0]).run Tryz.prog w.drew = .ok (.pointer (some ⟨w.drew.heap.size, 0, none⟩)) (w.drew.alloc (.view ⟨g, 0, none⟩ 5)) :=
    Lib.run_unsafeSliceData_zero w.drew _ _ 5 Tryz.underlying104 ⟨g, 0, none⟩ 0 (5, cur.size) (by have hg' : w.drew.heap[g]? = some (.cells cur 5 (0, 0)) := hg; simp [World.shape?, hg'])
  have c2 : (w.drew.alloc (.view ⟨g, 0, none⟩ 5)).cell? ⟨b, 1, none⟩ = some (.slice (some ⟨g, 0, none⟩) 0 0) := by
    have : (w.drew.alloc (.view ⟨g, 0, none⟩ 5)).heap[b]? = _ := (Lib.alloc_old w.drew _ b hlt).trans hbk
    rw [Lib.cell_of_heap this]; rfl
  have c3 : (w.alloc (.view ⟨g, 0, none⟩ 5)).drew.cell? ⟨b, 1, none⟩ = some (.slice (some ⟨g, 0, none⟩) 0 0) := c2
  have c0 : w.cell? ⟨b, 1, none⟩ = some (.slice (some ⟨g, 0, none⟩) 0 0) := c1
  go_enter Tryz.func53, Tryz.ntmps53
  go_wp2
  go_region
  all_goals (go_wp2; go_ret; exact ⟨rfl, (Below.drew (Below.refl b w)).alloc hBw _⟩)

set_option maxHeartbeats 1000000 in
set_option maxRecDepth 100000 in
theorem string_room (b g cap : Nat) (p : Value) (w : World) (hc0 : cap ≠ 0) (hbk : w.heap[b]? = some (.cells #[p, .slice (some ⟨g, 0, none⟩) 0 cap] 88 (0, 0))) :
    Calls Tryz.prog 53 #[.pointer (some ⟨b, 0, none⟩)] w fun e w' => e = .returned (.string ⟨#[]⟩) ∧ Below b w w' := by
  have hUS := us_none
  have c1 : w.drew.cell? ⟨b, 1, none⟩ = some (.slice (some ⟨g, 0, none⟩) 0 cap) := by
    have : w.drew.heap[b]? = some (.cells #[p, .slice (some ⟨g, 0, none⟩) 0 cap] 88 (0, 0)) := hbk
    rw [Lib.cell_of_heap this]; rfl
  have hSD : (Builtin.unsafeSliceData_ #[86] 104 #[.slice (some ⟨g, 0, none⟩) 0 cap]).run Tryz.prog w.drew = .ok (.pointer (some ⟨g, 0, none⟩)) w.drew :=
    Lib.run_unsafeSliceData_row _ _ _ _ _ _ hc0
  clear hc0
  go_enter Tryz.func53, Tryz.ntmps53
  go_wp2
  go_region
  all_goals (go_wp2; go_ret; exact ⟨rfl, Below.drew (Below.refl b w)⟩)

theorem string_any (b B : Nat) (t : ByteArray) (w : World) (h : Bld b B (Lib.strCells t) w) :
    Calls Tryz.prog 53 #[.pointer (some ⟨b, 0, none⟩)] w fun e w' => e = .returned (.string t) ∧ Below b w w' := by
  rw [strCells_byte] at h
  by_cases h0 : t.data.toList = []
  · have ht : t = ⟨#[]⟩ := by
      cases t with
      | mk d => cases d with | mk l => simp at h0; subst h0; rfl
    subst ht
    obtain ⟨hbB, p, v, hp, hbk, hown⟩ := h
    rcases hown.2 with ⟨rfl, _⟩ | ⟨g, cap, cur, rfl, _, hg, _, _, _, _⟩
    · exact string_nil b p w hbk
    · by_cases hc : cap = 0
      · subst hc
        exact string_noroom b g p cur w hbk hg
      · exact string_room b g cap p w hc hbk
  · have := string_some b B _ w h h0
    exact this
end Go.Proofs.YtemngidkfgcigaaGreatDoor
namespace Go.Proofs.YtemngidkfgcigaaGreatDoor
open Go.RowKit

set_option maxHeartbeats 1000000 in
set_option maxRecDepth 100000 in
theorem each_any (s : ByteArray) (f : FuncId) (caps : Array Value) (w : World) (hs : s.size ≤ 4294967280) (I : World → List Sp → World → Prop) (he : ∀ args w, (callFunc f args).run Tryz.prog w = .ok (.enter f args) w)
    (h0 : ∀ w1, Below w.heap.size w w1 → I w1 [] w1)
    (hal : ∀ w1 l w2 o, Below w.heap.size w w1 → I w1 l w2 → I w1 l (w2.alloc o))
    (hrd : ∀ w1 l w2, I w1 l w2 → w1.heap.size ≤ w2.heap.size ∧ ∀ p : Addr, w.heap.size ≤ p.block → p.block < w1.heap.size → w2.cell? p = w1.cell? p)
    (hst : ∀ w1 l x w2, Below w.heap.size w w1 → I w1 l w2 → (∃ r, spans s = l ++ x :: r) → Calls Tryz.prog f (#[spV x] ++ caps) w2 fun e w3 => e = .returned (.tuple #[]) ∧ I w1 (l ++ [x]) w3) :
    Calls Tryz.prog 49 #[.string s, .func (.func f) #[] caps] w fun e w' => e = .returned (.tuple #[]) ∧ ∃ w1, Below w.heap.size w w1 ∧ I w1 (spans s) w' := by
  have H0 := Lib.hid h0
  have HAL := Lib.hid hal
  have HRD := Lib.hid hrd
  have HST := Lib.hid hst
  clear h0 hal hrd hst
  go_enter Tryz.func49, Tryz.ntmps49
  go_wp2_with fail
  refine (spans_any s _ hs).mono ?_
  rintro e w1 ⟨v, rfl, hown, hb⟩
  obtain ⟨A, c, rfl, hnc, hA⟩ := own_shape hown
  obtain ⟨L, hL⟩ : ∃ L, L = spans s := ⟨_, rfl⟩
  rw [← hL] at hown hnc hA
  have HL := Lib.hid hL
  rw [← hL]
  clear hL
  have hlen : L.length ≤ 4294967280 := by
    rw [HL.out]; have := (cont_le (spans_cont s)).2; omega
  go_wp2
  go_loopg [9] L.length (fun gg s9 wr => ∃ k : Nat, k + gg = L.length ∧ s9 = .int .i64 k ∧ Hid (I w1 (L.take k) wr))
  case atStart => exact ⟨0, by omega, rfl, by rw [List.take_zero]; exact H0.out w1 hb⟩
  case round =>
    obtain ⟨k, hkg, rfl, HI⟩ := hrel
    by_cases hk : k < L.length
    · obtain ⟨g, rfl⟩ := hA (by omega)
      obtain ⟨x, hx⟩ : ∃ x, L[k]? = some x := ⟨_, List.getElem?_eq_getElem hk⟩
      obtain ⟨z1, z2⟩ := HRD.out w1 _ wr HI.out
      have hg := hown.lt g rfl
      obtain ⟨c0, c1, c2, c3, c4, c5, c6⟩ : wr.cell? ⟨g, k * 7, none⟩ = some (.int .i64 x.kind) ∧ wr.cell? ⟨g, k * 7 + 1, none⟩ = some (.int .i64 x.frm) ∧ wr.cell? ⟨g, k * 7 + 2, none⟩ = some (.int .i64 x.to_) ∧ wr.cell? ⟨g, k * 7 + 3, none⟩ = some (.string x.text) ∧
          wr.cell? ⟨g, k * 7 + 4, none⟩ = some (.string x.show_) ∧ wr.cell? ⟨g, k * 7 + 5, none⟩ = some (.int .i64 x.id) ∧ wr.cell? ⟨g, k * 7 + 6, none⟩ = some (.bool x.strong) := by
        obtain ⟨c0, c1, c2, c3, c4, c5, c6⟩ := sp_cells hown (Below.refl _ _) hx
        refine ⟨?_, ?_, ?_, ?_, ?_, ?_, ?_⟩
        all_goals first
          | exact (z2 ⟨g, k * 7, none⟩ hg.1 hg.2).trans c0
          | exact (z2 ⟨g, k * 7 + 1, none⟩ hg.1 hg.2).trans c1
          | exact (z2 ⟨g, k * 7 + 2, none⟩ hg.1 hg.2).trans c2
          | exact (z2 ⟨g, k * 7 + 3, none⟩ hg.1 hg.2).trans c3
          | exact (z2 ⟨g, k * 7 + 4, none⟩ hg.1 hg.2).trans c4
          | exact (z2 ⟨g, k * 7 + 5, none⟩ hg.1 hg.2).trans c5
          | exact (z2 ⟨g, k * 7 + 6, none⟩ hg.1 hg.2).trans c6
      have HX := Lib.hid hx
      have ik : (k : Int) < (L.length : Int) := by omega
      have ik0 : (0 : Int) ≤ (k : Int) := by omega
      have HC := fun o => HST.out w1 (L.take k) x (wr.alloc o) hb (HAL.out w1 _ wr o hb HI.out) ⟨L.drop (k + 1), by
        rw [← HL.out]
        have e1 := List.take_append_drop k L
        rw [List.drop_eq_getElem_cons hk] at e1
        rw [List.getElem?_eq_getElem hk] at hx
        injection hx with hx
        rw [hx] at e1
        exact e1.symm⟩
      have HC := Lib.hid HC
      clear hx z1 z2
      go_wp2_with fail
      refine (HC.out _).mono ?_
      rintro e w3 ⟨rfl, hi3⟩
      have HI3 : Hid (I w1 (L.take (k + 1)) w3) := by
        show I _ _ _
        rw [List.take_add_one, HX.out]; exact hi3
      clear hi3 HC HI
      go_wp2
      go_roundg (L.length - (k + 1))
      case measure => omega
      case rel => exact ⟨k + 1, by omega, by go_num, HI3⟩
    · obtain rfl : k = L.length := by omega
      have HE : Hid (∃ w1, Below w.heap.size w w1 ∧ I w1 (spans s) wr) := ⟨w1, hb, by rw [← HL.out]; have := HI.out; rwa [List.take_length] at this⟩
      clear HI
      go_wp2
      go_end0
      exact ⟨rfl, HE.out⟩
end Go.Proofs.YtemngidkfgcigaaGreatDoor
