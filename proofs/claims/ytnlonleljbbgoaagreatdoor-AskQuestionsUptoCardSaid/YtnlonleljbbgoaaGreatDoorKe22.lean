/-
  DERIVED. The walk of text.Spans. Conditions: the text's size.
  By an AI agent.
-/
import Derived.Test.YtnlonleljbbgoaaGreatDoorKe21
import Derived.Deep.QuietTactic
import Derived.BigQuiet
namespace Go.Proofs.YtnlonleljbbgoaaGreatDoor
open Go.RowKit

theorem own_shape {w : World} {B n : Nat} {e : TypeId} {v : Value} {xs : List Value} (h : w.ownsRow B e 7 v n xs) : ∃ A c, v = .slice A n c ∧ n ≤ c ∧ (0 < n → ∃ g, A = some ⟨g, 0, none⟩) := by
  rcases h.2 with ⟨rfl, h0⟩ | ⟨g, cap, cur, hv, _, _, hc, _⟩
  · subst h0; exact ⟨_, _, rfl, Nat.le_refl _, fun h => absurd h (Nat.lt_irrefl _)⟩
  · exact ⟨_, _, hv, hc, fun _ => ⟨g, rfl⟩⟩

theorem sp_cells {w w' : World} {B g k : Nat} {c : Nat} {L : List Sp} {x : Sp} {e : TypeId} (h : w.ownsRow B e 7 (.slice (some ⟨g, 0, none⟩) L.length c) L.length (flatC L)) (hb : Below w.heap.size w w') (hx : L[k]? = some x) :
    w'.cell? ⟨g, k * 7, none⟩ = some (.int .i64 x.kind) ∧ w'.cell? ⟨g, k * 7 + 1, none⟩ = some (.int .i64 x.frm) ∧ w'.cell? ⟨g, k * 7 + 2, none⟩ = some (.int .i64 x.to_) ∧ w'.cell? ⟨g, k * 7 + 3, none⟩ = some (.string x.text) ∧
    w'.cell? ⟨g, k * 7 + 4, none⟩ = some (.string x.show_) ∧ w'.cell? ⟨g, k * 7 + 5, none⟩ = some (.int .i64 x.id) ∧ w'.cell? ⟨g, k * 7 + 6, none⟩ = some (.bool x.strong) := by
  have hg := (h.lt g rfl).2
  have key : ∀ i u, i < 7 → (spCells x)[i]? = some u → w'.cell? ⟨g, k * 7 + i, none⟩ = some u := by
    intro i u hi hu
    have := h.cells (g := g) rfl (k * 7 + i) u (by rw [flatC_at hx hi]; exact hu)
    rw [Addr.add_lit] at this
    have h2 : w.cell? ⟨g, k * 7 + i, none⟩ = some u := by simpa using this
    exact (hb.cell (p := ⟨g, k * 7 + i, none⟩) hg).trans h2
  exact ⟨key 0 _ (by omega) rfl, key 1 _ (by omega) rfl, key 2 _ (by omega) rfl, key 3 _ (by omega) rfl, key 4 _ (by omega) rfl, key 5 _ (by omega) rfl, key 6 _ (by omega) rfl⟩

theorem _root_.Go.World.ownsRow.drewK {w : World} {B n size : Nat} {e : TypeId} {v : Value} {xs : List Value} (h : w.ownsRow B e size v n xs) (k : Nat) : (w.drewN k).ownsRow B e size v n xs := h
/-- .. where the round drew an order in between -/
theorem span_step_d {w w1 w2 : World} {B n q : Nat} {l : List Sp} {x : Sp} {v v2 : Value} {o1 o2 : Obj} (_hw : B ≤ w.heap.size)
    (hown2 : w2.ownsRow B 132 7 v2 (n + 1) (flatC l ++ spCells x)) (hg2 : (((w1.alloc o1).drewN q).alloc o2).grownBy w2 v.ownBlock) (hb : Below w.heap.size w w1) (_hown1 : w1.ownsRow B 132 7 v n (flatC l))
    (hv : ∀ g, v.ownBlock = some g → w.heap.size ≤ g) :
    w2.ownsRow B 132 7 v2 (n + 1) (flatC (l ++ [x])) ∧ Below w.heap.size w w2 := by
  have hs := hb.size
  exact ⟨by rw [flatC_snoc]; exact hown2, ((bdrew (hb.alloc (by omega) o1) q).alloc (by simp; omega) o2).grown hg2 (by simp; omega) hv⟩

set_option maxHeartbeats 1000000 in
set_option maxRecDepth 100000 in
theorem spans_any (s : ByteArray) (w : World) (hs : s.size ≤ 4294967280) :
    Calls Tryz.prog 243 #[.string s] w fun e w' => ∃ v, e = .returned v ∧ w'.ownsRow w.heap.size 132 7 v (spans s).length (flatC (spans s)) ∧ Below w.heap.size w w' := by
  obtain ⟨i0, hi, hz0, hz1, hz2⟩ := info_parts span_info
  obtain ⟨l0, hl0⟩ : ∃ l0, l0 = toks s 0 := ⟨_, rfl⟩
  obtain ⟨l, hl1⟩ : ∃ l, l = strong l0 := ⟨_, rfl⟩
  have hl : l0.length ≤ s.size := by rw [hl0]; exact toks_len s
  have hw : Hid (∀ x ∈ l0, x.strong = false) := by rw [hl0]; exact toks_weak s 0
  have HR : Hid ((merge [] l).map (fillT s) = spans s) := by show _ = _; rw [hl1, hl0]; rfl
  have HC : Hid (Cont 0 (merge [] l) s.size) := by show Cont _ _ _; rw [hl1, hl0]; exact merge_cont (a := 0) (b := 0) rfl (strong_cont (toks_cont s _ 0 rfl (Nat.zero_le _)))
  have hll : l.length = l0.length := by rw [hl1]; exact strong_len l0
  have HL := Lib.hid hl1
  have HL0 := Lib.hid hl0
  have HLL := Lib.hid hll
  clear hl0 hl1 hll
  go_enter Tryz.func243, Tryz.ntmps243
  go_wp2_with fail
  refine (tokens_any s _ hs).mono ?_
  rintro e w1 ⟨v, rfl, hown1, hb1⟩
  rw [← HL0.out] at hown1
  obtain ⟨A, c, rfl, hnc, hA⟩ := own_shape hown1
  have HO := Lib.hid hown1
  clear hown1
  go_wp2_with fail
  refine (strengthen_any l0 _ _ _ HO.out hw.out (by omega)).mono ?_
  rintro e w2 ⟨rfl, hown2, hb2⟩
  rw [← HL.out] at hown2
  rw [← HLL.out] at hown2 hnc hA hl
  rw [← HLL.out]
  have hb := hb1.trans hb2
  have hsz := hb.size
  have hln : l.length ≤ 4294967280 := by omega
  clear HO hb1 hb2 HL HL0 HLL
  go_wp2
  go_loopg [4, 15] l.length (fun gg s4 s15 wr => ∃ (k : Nat) (acc : List Sp), k + gg = l.length ∧ s15 = .int .i64 k ∧ acc.length ≤ k ∧ Hid (merge acc (l.drop k) = merge [] l) ∧ wr.ownsRow w2.heap.size 132 7 s4 acc.length (flatC acc) ∧ Below w2.heap.size w2 wr)
  case atStart => exact ⟨0, [], by omega, rfl, Nat.le_refl _, rfl, World.ownsRow_nil _ _ _ _, Below.refl _ _⟩
  case round =>
    obtain ⟨k, acc, hkg, rfl, hak, HM, hown, hbel⟩ := hrel
    obtain ⟨A3, cap3, rfl, hac, hA3⟩ := own_shape hown
    by_cases hkl : k < l.length
    · obtain ⟨g, rfl⟩ := hA (by omega)
      obtain ⟨x, hx⟩ : ∃ x, l[k]? = some x := ⟨_, List.getElem?_eq_getElem hkl⟩
      obtain ⟨c0, c1, c2, c3, c4, c5, c6⟩ := sp_cells hown2 hbel hx
      have hdrop : l.drop k = x :: l.drop (k + 1) := by
        rw [List.drop_eq_getElem_cons hkl]
        rw [List.getElem?_eq_getElem hkl] at hx
        injection hx with hx
        rw [hx]
      have HM' : Hid (merge (mstep acc x) (l.drop (k + 1)) = merge [] l) := by
        show _ = _
        rw [← HM.out, hdrop]; rfl
      have ik : (k : Int) < (l.length : Int) := by omega
      have ik0 : (0 : Int) ≤ (k : Int) := by omega
      have hwz := hbel.size
      clear hx hdrop HM
      cases hk : (x.kind == 1)
      · have HS : Hid (mstep acc x = acc ++ [x]) := mstep_no (fun r y _ => by rw [hk]; rfl)
        go_upto_region 8 with (fail)
        go_quiet (fail)
        have KB := (Blk.new wr 132 #[.int .i64 x.kind, .int .i64 x.frm, .int .i64 x.to_, .string x.text, .string x.show_, .int .i64 x.id, .bool x.strong]).drewN nq
        have q0 := KB.cell 0
        have q1 := KB.cell 1
        have q2 := KB.cell 2
        have q3 := KB.cell 3
        have q4 := KB.cell 4
        have q5 := KB.cell 5
        have q6 := KB.cell 6
        clear KB
        go_wp2_with (at_builtin; refine wpList_append_own_at _ rfl _ _ 129 rfl w2.heap.size 132 i0 spZ 7 72 Tryz.underlying129 hi hz0 hz1 hz2 rfl (by decide) _ acc.length _ rfl (((hown.alloc _).drewK nq).alloc _) ⟨wr.heap.size + 1, 0, none⟩ 1 1 (spCells x) rfl rfl (cells_new _ _ (spCells x) _ (by simp)) (sp_oneCell _) (by unfold maxLen; omega) (by omega) (by simp; omega) ?_; intro v3 w3 hown3 hg3 _ _)
        have R := span_step_d (Nat.le_refl _) hown3 hg3 hbel hown (fun g h => (hown.lt g h).1)
        rw [← HS.out] at R
        clear hown3 hg3
        go_roundg (l.length - (k + 1))
        case measure => omega
        case rel => exact ⟨k + 1, mstep acc x, by omega, by go_num, Nat.le_trans (mstep_len acc x) (by omega), HM', by rw [HS.out]; rw [HS.out] at R; simpa using R.1, R.2⟩
      · rcases acc.eq_nil_or_concat with hr | ⟨r, y, hr⟩
        · have HS : Hid (mstep acc x = acc ++ [x]) := mstep_no (fun r y h => by rw [hr] at h; simp at h)
          have hrl : acc.length = 0 := by rw [hr]; rfl
          have iz : decide ((1 : Int) ≤ (acc.length : Int)) = false := by simp; omega
          clear hr hrl
          go_upto_region 8 with (fail)
          go_quiet (fail)
          have KB := (Blk.new wr 132 #[.int .i64 x.kind, .int .i64 x.frm, .int .i64 x.to_, .string x.text, .string x.show_, .int .i64 x.id, .bool x.strong]).drewN nq
          have q0 := KB.cell 0
          have q1 := KB.cell 1
          have q2 := KB.cell 2
          have q3 := KB.cell 3
          have q4 := KB.cell 4
          have q5 := KB.cell 5
          have q6 := KB.cell 6
          clear KB
          go_wp2_with (at_builtin; refine wpList_append_own_at _ rfl _ _ 129 rfl w2.heap.size 132 i0 spZ 7 72 Tryz.underlying129 hi hz0 hz1 hz2 rfl (by decide) _ acc.length _ rfl (((hown.alloc _).drewK nq).alloc _) ⟨wr.heap.size + 1, 0, none⟩ 1 1 (spCells x) rfl rfl (cells_new _ _ (spCells x) _ (by simp)) (sp_oneCell _) (by unfold maxLen; omega) (by omega) (by simp; omega) ?_; intro v3 w3 hown3 hg3 _ _)
          have R := span_step_d (Nat.le_refl _) hown3 hg3 hbel hown (fun g h => (hown.lt g h).1)
          rw [← HS.out] at R
          clear hown3 hg3
          go_roundg (l.length - (k + 1))
          case measure => omega
          case rel => exact ⟨k + 1, mstep acc x, by omega, by go_num, Nat.le_trans (mstep_len acc x) (by omega), HM', by rw [HS.out]; rw [HS.out] at R; simpa using R.1, R.2⟩
        · simp only [List.concat_eq_append] at hr
          obtain ⟨g3, rfl⟩ := hA3 (by rw [hr]; simp)
          have hrl : acc.length = r.length + 1 := by rw [hr]; simp
          have hy : acc[r.length]? = some y := by rw [hr]; simp
          have hlt3 := (hown.lt g3 rfl).2
          have ia : (0 : Int) ≤ (acc.length : Int) - 1 := by omega
          have iz : decide ((1 : Int) ≤ (acc.length : Int)) = true := by simp; omega
          have ib : (acc.length : Int) - 1 < (acc.length : Int) := by omega
          have it : ((acc.length : Int) - 1).toNat = r.length := by omega
          obtain ⟨d0, d1, d2, d3, d4, d5, d6⟩ := sp_cells hown (Below.refl _ _) hy
          have e0 : ∀ o, (wr.alloc o).cell? ⟨g3, r.length * 7, none⟩ = some (.int .i64 y.kind) := fun o => (World.cell?_alloc_lt wr o _ hlt3).trans d0
          have e6 : ∀ o, (wr.alloc o).cell? ⟨g3, r.length * 7 + 6, none⟩ = some (.bool y.strong) := fun o => (World.cell?_alloc_lt wr o _ hlt3).trans d6
          cases hyk : (y.kind == 1)
          · have HS : Hid (mstep acc x = acc ++ [x]) := mstep_no (fun r' y' h => by rw [hr] at h; obtain ⟨_, h2⟩ := List.append_inj' h rfl; injection h2 with h2; subst h2; rw [hyk]; simp)
            clear hr hrl hy d0 d1 d2 d3 d4 d5 d6
            go_upto_region 8 with (fail)
            go_quiet (fail)
            have KB := (Blk.new wr 132 #[.int .i64 x.kind, .int .i64 x.frm, .int .i64 x.to_, .string x.text, .string x.show_, .int .i64 x.id, .bool x.strong]).drewN nq
            have q0 := KB.cell 0
            have q1 := KB.cell 1
            have q2 := KB.cell 2
            have q3 := KB.cell 3
            have q4 := KB.cell 4
            have q5 := KB.cell 5
            have q6 := KB.cell 6
            clear KB
            go_wp2_with (at_builtin; refine wpList_append_own_at _ rfl _ _ 129 rfl w2.heap.size 132 i0 spZ 7 72 Tryz.underlying129 hi hz0 hz1 hz2 rfl (by decide) _ acc.length _ rfl (((hown.alloc _).drewK nq).alloc _) ⟨wr.heap.size + 1, 0, none⟩ 1 1 (spCells x) rfl rfl (cells_new _ _ (spCells x) _ (by simp)) (sp_oneCell _) (by unfold maxLen; omega) (by omega) (by simp; omega) ?_; intro v3 w3 hown3 hg3 _ _)
            have R := span_step_d (Nat.le_refl _) hown3 hg3 hbel hown (fun g h => (hown.lt g h).1)
            rw [← HS.out] at R
            clear hown3 hg3
            go_roundg (l.length - (k + 1))
            case measure => omega
            case rel => exact ⟨k + 1, mstep acc x, by omega, by go_num, Nat.le_trans (mstep_len acc x) (by omega), HM', by rw [HS.out]; rw [HS.out] at R; simpa using R.1, R.2⟩
          · cases hys : (y.strong == x.strong)
            · have HS : Hid (mstep acc x = acc ++ [x]) := mstep_no (fun r' y' h => by rw [hr] at h; obtain ⟨_, h2⟩ := List.append_inj' h rfl; injection h2 with h2; subst h2; rw [hys]; simp)
              clear hr hrl hy d0 d1 d2 d3 d4 d5 d6
              go_upto_region 8 with (fail)
              go_quiet (fail)
              have KB := (Blk.new wr 132 #[.int .i64 x.kind, .int .i64 x.frm, .int .i64 x.to_, .string x.text, .string x.show_, .int .i64 x.id, .bool x.strong]).drewN nq
              have q0 := KB.cell 0
              have q1 := KB.cell 1
              have q2 := KB.cell 2
              have q3 := KB.cell 3
              have q4 := KB.cell 4
              have q5 := KB.cell 5
              have q6 := KB.cell 6
              clear KB
              go_wp2_with (at_builtin; refine wpList_append_own_at _ rfl _ _ 129 rfl w2.heap.size 132 i0 spZ 7 72 Tryz.underlying129 hi hz0 hz1 hz2 rfl (by decide) _ acc.length _ rfl (((hown.alloc _).drewK nq).alloc _) ⟨wr.heap.size + 1, 0, none⟩ 1 1 (spCells x) rfl rfl (cells_new _ _ (spCells x) _ (by simp)) (sp_oneCell _) (by unfold maxLen; omega) (by omega) (by simp; omega) ?_; intro v3 w3 hown3 hg3 _ _)
              have R := span_step_d (Nat.le_refl _) hown3 hg3 hbel hown (fun g h => (hown.lt g h).1)
              rw [← HS.out] at R
              clear hown3 hg3
              go_roundg (l.length - (k + 1))
              case measure => omega
              case rel => exact ⟨k + 1, mstep acc x, by omega, by go_num, Nat.le_trans (mstep_len acc x) (by omega), HM', by rw [HS.out]; rw [HS.out] at R; simpa using R.1, R.2⟩
            · have HS : Hid (acc.set r.length { y with to_ := x.to_ } = mstep acc x) := by
                show _ = _
                rw [hr, mstep_yes (by rw [hk, hyk, hys]; rfl)]; simp
              have HY := Lib.hid hy
              clear hr hy d0 d1 d3 d4 d5 d6
              go_upto_region 8 with (fail)
              go_quiet (fail)
              have KB := (Blk.new wr 132 #[.int .i64 x.kind, .int .i64 x.frm, .int .i64 x.to_, .string x.text, .string x.show_, .int .i64 x.id, .bool x.strong]).drewN nq
              have q2 := KB.cell 2
              clear KB e0 e6
              have hownD := (hown.alloc (.cells #[.int .i64 x.kind, .int .i64 x.frm, .int .i64 x.to_, .string x.text, .string x.show_, .int .i64 x.id, .bool x.strong] 132)).drewK nq
              have hbelD := bdrew (hbel.alloc (by omega) (.cells #[.int .i64 x.kind, .int .i64 x.frm, .int .i64 x.to_, .string x.text, .string x.show_, .int .i64 x.id, .bool x.strong] 132)) nq
              have y2 : ((wr.alloc (.cells #[.int .i64 x.kind, .int .i64 x.frm, .int .i64 x.to_, .string x.text, .string x.show_, .int .i64 x.id, .bool x.strong] 132)).drewN nq).cell? ⟨g3, r.length * 7 + 2, none⟩ = some (.int .i64 y.to_) := (World.cell?_alloc_lt wr _ _ hlt3).trans d2
              have f2 := hownD.frozenAt (r.length * 7 + 2)
              have R := store_sp (i := 2) (y := { y with to_ := x.to_ }) (u := .int .i64 x.to_) hownD hbelD HY.out (by omega) rfl
              rw [HS.out] at R
              have hml : (mstep acc x).length = acc.length := by rw [← HS.out]; simp
              have R := Lib.hid R
              have HML := Lib.hid hml
              clear hownD hbelD d2 hml
              go_wp2
              go_roundg (l.length - (k + 1))
              case measure => omega
              case rel => exact ⟨k + 1, mstep acc x, by omega, by go_num, by rw [HML.out]; omega, HM', by rw [HML.out]; exact R.out.1, R.out.2⟩
    · obtain rfl : k = l.length := by omega
      have HM2 : Hid (acc = merge [] l) := by
        show _ = _
        rw [← HM.out, List.drop_eq_nil_of_le (Nat.le_refl _)]; rfl
      clear HM hown2 hA
      have hwb := hbel.size
      have hbel' : Below w.heap.size w wr := hb.trans (hbel.mono hsz)
      rw [← HM2.out] at HR HC
      clear HM2
      go_wp2
      go_loopg [60] acc.length (fun gg s60 wi => ∃ i : Nat, i + gg = acc.length ∧ s60 = .int .i64 i ∧ wi.ownsRow w2.heap.size 132 7 (.slice A3 acc.length cap3) acc.length (flatC (fillI acc s i)) ∧ Below w.heap.size w wi)
      case atStart => exact ⟨0, by omega, rfl, by rw [fillI_zero]; exact hown, hbel'⟩
      case round =>
        obtain ⟨i, hig, rfl, hown4, hbel4⟩ := hrel
        clear hown hbel hbel'
        by_cases hil : i < acc.length
        · obtain ⟨g3, rfl⟩ := hA3 (by omega)
          obtain ⟨y, hy⟩ : ∃ y, acc[i]? = some y := ⟨_, List.getElem?_eq_getElem hil⟩
          obtain ⟨_, m1, m2⟩ := cont_mem HC.out y (List.mem_of_getElem? hy)
          have hyF := fillI_at (s := s) hy
          obtain ⟨c0, c1, c2, c3, c4, c5, c6⟩ := sp_cells (L := fillI acc s i) (by rw [fillI_len]; exact hown4) (Below.refl _ _) hyF
          have ii : (i : Int) < (acc.length : Int) := by omega
          have ii0 : (0 : Int) ≤ (i : Int) := by omega
          have m0 : (0 : Int) ≤ (y.frm : Int) := by omega
          have m1' : (y.frm : Int) ≤ (y.to_ : Int) := by omega
          have m2' : (y.to_ : Int) ≤ (s.size : Int) := by omega
          cases hk : (y.kind == 1)
          · have R : wr.ownsRow w2.heap.size 132 7 (.slice (some ⟨g3, 0, none⟩) acc.length cap3) acc.length (flatC (fillI acc s (i + 1))) := by
              rw [← fillI_same hy (by simpa using hk)]; exact hown4
            have R := Lib.hid R
            clear hy hyF hown4 HC HR
            go_wp2
            go_roundg (acc.length - (i + 1))
            case measure => omega
            case rel => exact ⟨i + 1, by omega, by go_num, R.out, hbel4⟩
          · have f3 := hown4.frozenAt (i * 7 + 3)
            have R := And.intro (store_sp (i := 3) (y := fillT s y) (u := .string (s.extract y.frm y.to_)) hown4 (Below.refl _ _) hyF (by omega) (by unfold fillT; rw [if_pos (by simpa using hk)]; rfl)).1 (hbel4.setCell (p := ⟨g3, i * 7 + 3, none⟩) (Nat.le_trans hsz (own_ge hown4)) (.string (s.extract y.frm y.to_)))
            rw [fillI_set hy] at R
            have R := Lib.hid R
            clear hy hyF hown4 HC HR
            go_upto_region 16 with (fail)
            go_region
            go_wp2
            go_roundg (acc.length - (i + 1))
            case measure => omega
            case rel => exact ⟨i + 1, by omega, by go_num, R.out.1.drew, R.out.2.drew⟩
        · obtain rfl : i = acc.length := by omega
          rw [fillI_all, HR.out] at hown4
          have hle : acc.length = (spans s).length := by rw [← HR.out]; simp
          rw [hle] at hown4
          have H4 := Lib.hid hown4
          rw [hle]
          clear hown4 hle
          go_wp2
          go_ret
          exact ⟨_, rfl, H4.out.mono hsz, hbel4⟩
end Go.Proofs.YtnlonleljbbgoaaGreatDoor
