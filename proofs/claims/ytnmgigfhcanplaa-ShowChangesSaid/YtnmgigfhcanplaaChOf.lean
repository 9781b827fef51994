/-
  DERIVED. The walk of florref1.ChangesOf at two lists of at most 500 files: their merge. Conditions: a list's slice is not longer than its room. By an AI agent.
-/
import Derived.Test.YtnmgigfhcanplaaChErr
namespace Go.Proofs.Ytnmgigfhcanplaa
open Go.RowKit

def chZ : Value := .agg #[.string ⟨#[]⟩, .int .i64 0]
def chV (x : C) : List Value := [.string x.1, .int .i64 x.2]
def rowsC (M : List C) : List Value := M.flatMap chV
theorem rowsC_snoc (M : List C) (x : C) : rowsC (M ++ [x]) = rowsC M ++ chV x := by simp [rowsC]
theorem ch_info : (Try.prog.info? 30).map (fun i => (i.zero, i.size, i.bytes)) = some (some chZ, 2, 24) := by kernel_rfl
theorem ch_one (x : C) : ∀ u ∈ chV x, u.oneCell' = true := by
  intro u hu
  unfold chV at hu
  simp only [List.mem_cons, List.not_mem_nil, or_false] at hu
  rcases hu with rfl | rfl <;> rfl
theorem new_cells (w : World) (g : Nat) (cs : List Value) (t : TypeId) (hg : g = w.heap.size) : ∀ j u, cs[j]? = some u → (w.alloc (.cells cs.toArray t)).cell? ((⟨g, 0, none⟩ : Addr).add j) = some u := by
  subst hg
  intro j u hu
  rw [Addr.add_lit, Nat.zero_add, (Blk.new w t cs.toArray).cell j]
  simpa using hu
theorem rowsF_drop (a : F) (L : List F) : (rowsF (a :: L)).drop (1 * 2) = rowsF L := rfl
theorem file_zero {w : World} {B : Nat} {A : Option Addr} {a : F} {L : List F} {n : Nat} (h : Reads w B 2 A n (rowsF (a :: L))) (hn : n = L.length + 1) :
    ∃ ad, A = some ad ∧ ad.block < B ∧ w.cell? ad = some (.string a.1) ∧ w.cell? (ad.add 1) = some (.string a.2) := by
  subst hn
  obtain ⟨ad, e, hb, c0, c1⟩ := Reads.file (L := a :: L) h (k := 0) (by simp)
  exact ⟨ad, e, hb, c0, c1⟩

/-- what is left of two lists, what has been written, where it lies -/
def OfR (M : List C) (w wr : World) (s0 s1 v : Value) (gg : Nat) : Prop :=
  ∃ (xs ys : List F) (done : List C) (A1 A2 : Option Addr) (n1 n2 c1 c2 k : Nat), s0 = .slice A1 n1 c1 ∧ s1 = .slice A2 n2 c2 ∧ xs.length = n1 ∧ ys.length = n2 ∧ n1 ≤ c1 ∧ n2 ≤ c2 ∧ c1 ≤ maxLen ∧ c2 ≤ maxLen ∧ n1 + n2 = gg ∧ done.length = k ∧ k + n1 + n2 ≤ 1000 ∧
    Reads w w.heap.size 2 A1 n1 (rowsF xs) ∧ Reads w w.heap.size 2 A2 n2 (rowsF ys) ∧ done ++ mergeC xs ys = M ∧ wr.ownsRow w.heap.size 30 2 v k (rowsC done) ∧ Below w.heap.size w wr

set_option maxHeartbeats 8000000 in
set_option maxRecDepth 100000 in
theorem changesOf_any (A1 A2 : Option Addr) (c1 c2 : Nat) (L1 L2 : List F) (w : World) (hr1 : Reads w w.heap.size 2 A1 L1.length (rowsF L1)) (hr2 : Reads w w.heap.size 2 A2 L2.length (rowsF L2))
    (hl1 : L1.length ≤ 500) (hl2 : L2.length ≤ 500) (hc1 : L1.length ≤ c1) (hc2 : L2.length ≤ c2) (hm1 : c1 ≤ maxLen) (hm2 : c2 ≤ maxLen) :
    Calls Try.prog 7 #[.slice A1 L1.length c1, .slice A2 L2.length c2] w fun e w' => ∃ v, e = .returned v ∧ w'.ownsRow w.heap.size 30 2 v (mergeC L1 L2).length (rowsC (mergeC L1 L2)) ∧ Below w.heap.size w w' := by
  obtain ⟨i0, hi, hz0, hz1, hz2⟩ := info_parts ch_info
  obtain ⟨M, hM⟩ : ∃ M, M = mergeC L1 L2 := ⟨_, rfl⟩
  have R0 : Hid (∀ s0 s1 v, s0 = .slice A1 L1.length c1 → s1 = .slice A2 L2.length c2 → v = .slice none 0 0 → OfR M w w s0 s1 v (L1.length + L2.length)) := by
    rintro s0 s1 v rfl rfl rfl
    exact ⟨L1, L2, [], A1, A2, _, _, c1, c2, 0, rfl, rfl, rfl, rfl, hc1, hc2, hm1, hm2, rfl, rfl, by omega, hr1, hr2, hM.symm, World.ownsRow_nil _ _ _ _, Below.refl _ _⟩
  obtain ⟨G, hG⟩ : ∃ G, G = L1.length + L2.length := ⟨_, rfl⟩
  rw [← hG] at R0
  rw [← hM]
  clear hr1 hr2 hl1 hl2 hc1 hc2 hm1 hm2 hM hG
  go_enter Try.func7, Try.ntmps7
  go_wp2_with fail
  go_loopg [0, 1, 5] G (fun gg s0 s1 s5 wr => OfR M w wr s0 s1 s5 gg)
  case atStart => exact R0.out _ _ _ rfl rfl rfl
  case round =>
    clear R0
    obtain ⟨xs, ys, done, A1, A2, n1, n2, c1, c2, k, rfl, rfl, e1, e2, hc1, hc2, hm1, hm2, hgg, hk, hk3, hr1, hr2, hM, hown, hbel⟩ := hrel
    have hzz := hbel.size
    have HM := Lib.hid hM
    have HK := Lib.hid hk
    have HC := Lib.hid (And.intro hm1 hm2)
    have hcl := hown.lt
    have HCL := Lib.hid hcl
    have HB := Lib.hid hbel
    unfold maxLen at hm1 hm2
    clear hM hk hcl
    match xs, ys, e1, e2 with
    | [], [], e1, e2 =>
      obtain rfl : n1 = 0 := e1.symm
      obtain rfl : n2 = 0 := e2.symm
      have HE : Hid (M = done) := by show M = done; rw [← HM.out]; simp [mergeC]
      clear e1 e2 hbel hr1 hr2
      go_wp2_with fail
      go_ret
      exact ⟨_, rfl, by rw [HE.out, HK.out]; exact hown, HB.out⟩
    | [], b :: ys, e1, e2 =>
      obtain rfl : n1 = 0 := e1.symm
      obtain ⟨ad, rfl, hab, k0, _⟩ := file_zero hr2 e2.symm
      replace k0 := (hbel.cell (p := ad) hab).trans k0
      have HR := Lib.hid (hr2.cut (k := 1) (by simp at e2; omega) hc2)
      have HR1 := Lib.hid hr1
      obtain ⟨p, hp⟩ : ∃ p, p = b.1 := ⟨_, rfl⟩
      rw [← hp] at k0
      have HE : Hid (done ++ [(p, 1)] ++ mergeC [] ys = M) := by show _ = M; rw [← HM.out, hp]; simp [mergeC]
      have HL2 : Hid (ys.length = n2 - 1) := by show _ = _; simp at e2; omega
      have hn2 : 1 ≤ n2 := by simp at e2; omega
      have i1 : (0 : Int) < (n2 : Int) := by omega
      have i2 : (1 : Int) ≤ (n2 : Int) := by omega
      have i3 : (n2 : Int) ≤ (c2 : Int) := by omega
      clear hr1 hr2 hp e1 e2 hbel
      go_wp2
      go_quiet (fail)
      go_wp2_with (at_builtin; refine wpList_append_own_at _ rfl _ _ 23 rfl w.heap.size 30 i0 chZ 2 24 Try.underlying23 hi hz0 hz1 hz2 rfl (by decide) _ k _ rfl (hown.alloc _) ⟨wr.heap.size, 0, none⟩ 1 1 [.string p, .int .i64 1] rfl rfl (new_cells _ _ [.string p, .int .i64 1] _ (by simp)) (ch_one (p, 1)) (by unfold maxLen; omega) (by omega) (by simp; omega) ?_; intro v7 w7 hown7 hg7 _ _)
      all_goals have R : Hid (w7.ownsRow w.heap.size 30 2 v7 (k + 1) (rowsC (done ++ [(p, 1)])) ∧ Below w.heap.size w w7) :=
        ⟨by rw [rowsC_snoc]; exact hown7, ((bdrew HB.out _).alloc hzz _).grown hg7 (by simp; omega) (fun g h => (HCL.out g h).1)⟩
      all_goals clear hown7 hg7 hown
      all_goals try go_wp2_with fail
      all_goals
        go_roundg (gk - 1)
        case measure => omega
        case rel =>
          refine ⟨[], ys, done ++ [(p, 1)], _, _, _, _, _, _, k + 1, rfl, rfl, ?_, ?_, ?_, ?_, ?_, ?_, ?_, ?_, ?_, ?_, ?_, HE.out, R.out.1, R.out.2⟩
          · rfl
          · exact HL2.out
          · omega
          · omega
          · have := HC.out; omega
          · have := HC.out; omega
          · omega
          · simp [HK.out]
          · omega
          · exact HR1.out
          · first | exact (by have := HR.out; rw [if_pos (by assumption)] at this; exact this) | exact (by have := HR.out; rw [if_neg (by assumption)] at this; exact this)
    | a :: xs, [], e1, e2 =>
      obtain rfl : n2 = 0 := e2.symm
      obtain ⟨ad, rfl, hab, k0, _⟩ := file_zero hr1 e1.symm
      replace k0 := (hbel.cell (p := ad) hab).trans k0
      have HR := Lib.hid (hr1.cut (k := 1) (by simp at e1; omega) hc1)
      have HR2 := Lib.hid hr2
      obtain ⟨p, hp⟩ : ∃ p, p = a.1 := ⟨_, rfl⟩
      rw [← hp] at k0
      have HE : Hid (done ++ [(p, 3)] ++ mergeC xs [] = M) := by show _ = M; rw [← HM.out, hp]; simp [mergeC]
      have HL1 : Hid (xs.length = n1 - 1) := by show _ = _; simp at e1; omega
      have hn1 : 1 ≤ n1 := by simp at e1; omega
      have i1 : (0 : Int) < (n1 : Int) := by omega
      have i2 : (1 : Int) ≤ (n1 : Int) := by omega
      have i3 : (n1 : Int) ≤ (c1 : Int) := by omega
      have i4 : ¬ (n1 : Int) = 0 := by omega
      have i5 : ((n1 : Int) == 0) = false := by simpa using i4
      have i6 : ¬ n1 = 0 := by omega
      clear hr1 hr2 hp e1 e2 hbel
      go_wp2
      go_quiet (fail)
      go_wp2
      go_quiet (fail)
      go_wp2_with (at_builtin; refine wpList_append_own_at _ rfl _ _ 23 rfl w.heap.size 30 i0 chZ 2 24 Try.underlying23 hi hz0 hz1 hz2 rfl (by decide) _ k _ rfl (hown.alloc _) ⟨wr.heap.size, 0, none⟩ 1 1 [.string p, .int .i64 3] rfl rfl (new_cells _ _ [.string p, .int .i64 3] _ (by simp)) (ch_one (p, 3)) (by unfold maxLen; omega) (by omega) (by simp; omega) ?_; intro v7 w7 hown7 hg7 _ _)
      all_goals have R : Hid (w7.ownsRow w.heap.size 30 2 v7 (k + 1) (rowsC (done ++ [(p, 3)])) ∧ Below w.heap.size w w7) :=
        ⟨by rw [rowsC_snoc]; exact hown7, ((bdrew HB.out _).alloc hzz _).grown hg7 (by simp; omega) (fun g h => (HCL.out g h).1)⟩
      all_goals clear hown7 hg7 hown
      all_goals try go_wp2_with fail
      all_goals
        go_roundg (gk - 1)
        case measure => omega
        case rel =>
          refine ⟨xs, [], done ++ [(p, 3)], _, _, _, _, _, _, k + 1, rfl, rfl, ?_, ?_, ?_, ?_, ?_, ?_, ?_, ?_, ?_, ?_, ?_, HE.out, R.out.1, R.out.2⟩
          · exact HL1.out
          · rfl
          · omega
          · omega
          · have := HC.out; omega
          · have := HC.out; omega
          · omega
          · simp [HK.out]
          · omega
          · first | exact (by have := HR.out; rw [if_pos (by assumption)] at this; exact this) | exact (by have := HR.out; rw [if_neg (by assumption)] at this; exact this)
          · exact HR2.out
    | a :: xs, b :: ys, e1, e2 =>
      obtain ⟨ad, rfl, hab, k0, k1⟩ := file_zero hr1 e1.symm
      obtain ⟨bd, rfl, hbb, j0, j1⟩ := file_zero hr2 e2.symm
      replace k0 := (hbel.cell (p := ad) hab).trans k0
      replace j0 := (hbel.cell (p := bd) hbb).trans j0
      replace k1 := (hbel.cell (p := ad.add 1) (by rw [block_of_add]; exact hab)).trans k1
      replace j1 := (hbel.cell (p := bd.add 1) (by rw [block_of_add]; exact hbb)).trans j1
      have HR1 := Lib.hid (hr1.cut (k := 1) (by simp at e1; omega) hc1)
      have HR2 := Lib.hid (hr2.cut (k := 1) (by simp at e2; omega) hc2)
      have HK1 := Lib.hid hr1
      have HK2 := Lib.hid hr2
      have HL1 : Hid (xs.length = n1 - 1) := by show _ = _; simp at e1; omega
      have hn1 : 1 ≤ n1 := by simp at e1; omega
      have HL2 : Hid (ys.length = n2 - 1) := by show _ = _; simp at e2; omega
      have hn2 : 1 ≤ n2 := by simp at e2; omega
      have HX1 := Lib.hid e1
      have HX2 := Lib.hid e2
      obtain ⟨p, u⟩ := a
      obtain ⟨q, v⟩ := b
      simp only at k0 k1 j0 j1
      have k2 : wr.cell? ⟨ad.block, ad.off + 1, none⟩ = some (.string u) := k1
      have j2 : wr.cell? ⟨bd.block, bd.off + 1, none⟩ = some (.string v) := j1
      have i1 : (0 : Int) < (n1 : Int) := by omega
      have i2 : (1 : Int) ≤ (n1 : Int) := by omega
      have i3 : (n1 : Int) ≤ (c1 : Int) := by omega
      have i4 : ¬ (n1 : Int) = 0 := by omega
      have i5 : ((n1 : Int) == 0) = false := by simpa using i4
      have i6 : ¬ n1 = 0 := by omega
      have l1 : (0 : Int) < (n2 : Int) := by omega
      have l2 : (1 : Int) ≤ (n2 : Int) := by omega
      have l3 : (n2 : Int) ≤ (c2 : Int) := by omega
      have l4 : ¬ (n2 : Int) = 0 := by omega
      have l5 : ((n2 : Int) == 0) = false := by simpa using l4
      have l6 : ¬ n2 = 0 := by omega
      have m1 : 0 < n1 := by omega
      have m1' : decide (0 < n1) = true := decide_eq_true m1
      have m1'' : decide ((0 : Int) < (n1 : Int)) = true := decide_eq_true i1
      have m2 : 0 < n2 := by omega
      have m2' : decide (0 < n2) = true := decide_eq_true m2
      have m2'' : decide ((0 : Int) < (n2 : Int)) = true := decide_eq_true l1
      clear hr1 hr2 e1 e2 hbel
      cases hb : bl q p
      · have hb' : Op.bytesLess q.toList p.toList = false := hb
        cases ha : bl p q
        · have ha' : Op.bytesLess p.toList q.toList = false := ha
          have he : p = q := bl_tri ha hb
          by_cases huv : u = v
          · have HE : Hid (done ++ mergeC xs ys = M) := by show _ = M; rw [← HM.out]; simp [mergeC, ha, hb, huv]
            have f2 : (u.toList == v.toList) = true := by rw [huv]; simp
            clear ha hb he huv
            go_wp2
            go_quiet (fail)
            go_wp2
            go_quiet (fail)
            go_wp2
            go_quiet (fail)
            go_wp2
            go_quiet (fail)
            go_wp2_with fail
            all_goals
              go_roundg (gk - 2)
              case measure => omega
              case rel =>
                refine ⟨xs, ys, done, _, _, _, _, _, _, k, rfl, rfl, ?_, ?_, ?_, ?_, ?_, ?_, ?_, ?_, ?_, ?_, ?_, HE.out, hown, (bdrew HB.out _)⟩
                · exact HL1.out
                · exact HL2.out
                · omega
                · omega
                · have := HC.out; omega
                · have := HC.out; omega
                · omega
                · simp [HK.out]
                · omega
                · first | exact (by have := HR1.out; rw [if_pos (by assumption)] at this; exact this) | exact (by have := HR1.out; rw [if_neg (by assumption)] at this; exact this)
                · first | exact (by have := HR2.out; rw [if_pos (by assumption)] at this; exact this) | exact (by have := HR2.out; rw [if_neg (by assumption)] at this; exact this)
          · have HE : Hid (done ++ [(p, 2)] ++ mergeC xs ys = M) := by show _ = M; rw [← HM.out]; simp [mergeC, ha, hb, huv]
            have f2 : (u.toList == v.toList) = false := by
              cases hx : u.toList == v.toList
              · rfl
              · exact absurd (tl_inj (by simpa using hx)) huv
            clear ha hb he huv
            go_wp2
            go_quiet (fail)
            go_wp2
            go_quiet (fail)
            go_wp2
            go_quiet (fail)
            go_wp2_with (at_builtin; refine wpList_append_own_at _ rfl _ _ 23 rfl w.heap.size 30 i0 chZ 2 24 Try.underlying23 hi hz0 hz1 hz2 rfl (by decide) _ k _ rfl (hown.alloc _) ⟨wr.heap.size, 0, none⟩ 1 1 [.string p, .int .i64 2] rfl rfl (new_cells _ _ [.string p, .int .i64 2] _ (by simp)) (ch_one (p, 2)) (by unfold maxLen; omega) (by omega) (by simp; omega) ?_; intro v7 w7 hown7 hg7 _ _)
            all_goals have R : Hid (w7.ownsRow w.heap.size 30 2 v7 (k + 1) (rowsC (done ++ [(p, 2)])) ∧ Below w.heap.size w w7) :=
              ⟨by rw [rowsC_snoc]; exact hown7, ((bdrew HB.out _).alloc hzz _).grown hg7 (by simp; omega) (fun g h => (HCL.out g h).1)⟩
            all_goals clear hown7 hg7 hown
            go_wp2
            go_quiet (fail)
            go_wp2_with fail
            all_goals
              go_roundg (gk - 2)
              case measure => omega
              case rel =>
                refine ⟨xs, ys, done ++ [(p, 2)], _, _, _, _, _, _, k + 1, rfl, rfl, ?_, ?_, ?_, ?_, ?_, ?_, ?_, ?_, ?_, ?_, ?_, HE.out, R.out.1, (bdrew R.out.2 _)⟩
                · exact HL1.out
                · exact HL2.out
                · omega
                · omega
                · have := HC.out; omega
                · have := HC.out; omega
                · omega
                · simp [HK.out]
                · omega
                · first | exact (by have := HR1.out; rw [if_pos (by assumption)] at this; exact this) | exact (by have := HR1.out; rw [if_neg (by assumption)] at this; exact this)
                · first | exact (by have := HR2.out; rw [if_pos (by assumption)] at this; exact this) | exact (by have := HR2.out; rw [if_neg (by assumption)] at this; exact this)
        · have ha' : Op.bytesLess p.toList q.toList = true := ha
          have HE : Hid (done ++ [(p, 3)] ++ mergeC xs ((q, v) :: ys) = M) := by show _ = M; rw [← HM.out]; simp [mergeC, ha, hb]
          clear ha hb
          go_wp2
          go_quiet (fail)
          go_wp2
          go_quiet (fail)
          go_wp2_with (at_builtin; refine wpList_append_own_at _ rfl _ _ 23 rfl w.heap.size 30 i0 chZ 2 24 Try.underlying23 hi hz0 hz1 hz2 rfl (by decide) _ k _ rfl (hown.alloc _) ⟨wr.heap.size, 0, none⟩ 1 1 [.string p, .int .i64 3] rfl rfl (new_cells _ _ [.string p, .int .i64 3] _ (by simp)) (ch_one (p, 3)) (by unfold maxLen; omega) (by omega) (by simp; omega) ?_; intro v7 w7 hown7 hg7 _ _)
          all_goals have R : Hid (w7.ownsRow w.heap.size 30 2 v7 (k + 1) (rowsC (done ++ [(p, 3)])) ∧ Below w.heap.size w w7) :=
            ⟨by rw [rowsC_snoc]; exact hown7, ((bdrew HB.out _).alloc hzz _).grown hg7 (by simp; omega) (fun g h => (HCL.out g h).1)⟩
          all_goals clear hown7 hg7 hown
          all_goals try go_wp2_with fail
          all_goals
            go_roundg (gk - 1)
            case measure => omega
            case rel =>
              refine ⟨xs, (q, v) :: ys, done ++ [(p, 3)], _, _, _, _, _, _, k + 1, rfl, rfl, ?_, ?_, ?_, ?_, ?_, ?_, ?_, ?_, ?_, ?_, ?_, HE.out, R.out.1, R.out.2⟩
              · exact HL1.out
              · exact HX2.out
              · omega
              · omega
              · have := HC.out; omega
              · have := HC.out; omega
              · omega
              · simp [HK.out]
              · omega
              · first | exact (by have := HR1.out; rw [if_pos (by assumption)] at this; exact this) | exact (by have := HR1.out; rw [if_neg (by assumption)] at this; exact this)
              · exact HK2.out
      · have hb' : Op.bytesLess q.toList p.toList = true := hb
        have HE : Hid (done ++ [(q, 1)] ++ mergeC ((p, u) :: xs) ys = M) := by show _ = M; rw [← HM.out]; simp [mergeC, hb]
        clear hb
        go_wp2
        go_quiet (fail)
        go_wp2_with (at_builtin; refine wpList_append_own_at _ rfl _ _ 23 rfl w.heap.size 30 i0 chZ 2 24 Try.underlying23 hi hz0 hz1 hz2 rfl (by decide) _ k _ rfl (hown.alloc _) ⟨wr.heap.size, 0, none⟩ 1 1 [.string q, .int .i64 1] rfl rfl (new_cells _ _ [.string q, .int .i64 1] _ (by simp)) (ch_one (q, 1)) (by unfold maxLen; omega) (by omega) (by simp; omega) ?_; intro v7 w7 hown7 hg7 _ _)
        all_goals have R : Hid (w7.ownsRow w.heap.size 30 2 v7 (k + 1) (rowsC (done ++ [(q, 1)])) ∧ Below w.heap.size w w7) :=
          ⟨by rw [rowsC_snoc]; exact hown7, ((bdrew HB.out _).alloc hzz _).grown hg7 (by simp; omega) (fun g h => (HCL.out g h).1)⟩
        all_goals clear hown7 hg7 hown
        all_goals try go_wp2_with fail
        all_goals
          go_roundg (gk - 1)
          case measure => omega
          case rel =>
            refine ⟨(p, u) :: xs, ys, done ++ [(q, 1)], _, _, _, _, _, _, k + 1, rfl, rfl, ?_, ?_, ?_, ?_, ?_, ?_, ?_, ?_, ?_, ?_, ?_, HE.out, R.out.1, R.out.2⟩
            · exact HX1.out
            · exact HL2.out
            · omega
            · omega
            · have := HC.out; omega
            · have := HC.out; omega
            · omega
            · simp [HK.out]
            · omega
            · exact HK1.out
            · first | exact (by have := HR2.out; rw [if_pos (by assumption)] at this; exact this) | exact (by have := HR2.out; rw [if_neg (by assumption)] at this; exact this)
end Go.Proofs.Ytnmgigfhcanplaa
