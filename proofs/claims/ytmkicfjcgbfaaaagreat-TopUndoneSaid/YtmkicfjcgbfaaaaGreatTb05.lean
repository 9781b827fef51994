/-
  DERIVED. The walks of tree.copyOp and slices.Clone, Clip at operations. Conditions: sizes.
  By an AI agent.
-/
import Derived.Test.YtmkicfjcgbfaaaaGreatTb01
import Derived.Test.YtmkicfjcgbfaaaaGreatTa16
import Derived.Test.YtmkicfjcgbfaaaaGreatTa15
import Derived.Test.YtmkicfjcgbfaaaaGreatTa08
import Derived.Lib.SliceRun
import Derived.Laws.IdiomCopy
import Derived.Maps.AppendAt
namespace Go.Proofs.YtmkicfjcgbfaaaaGreat
open Go.RowKit

def opZ : Value := .agg #[.int .i64 0, .int .i64 0, .int .i64 0, .int .i64 0, .int .i64 0, .int .i64 0, .string ⟨#[]⟩, .string ⟨#[]⟩, .int .i64 0, .int .i64 0, .int .i64 0, .string ⟨#[]⟩, .slice none 0 0]
theorem op_info : (Tryz.prog.info? 31).map (fun i => (i.zero, i.size, i.bytes)) = some (some opZ, 13, 144) := by kernel_rfl
theorem opV_one (x : Opn × Value) (h : ∃ A n c, x.2 = .slice A n c) : ∀ u ∈ opV x, u.oneCell' = true := by
  obtain ⟨o, v⟩ := x
  obtain ⟨A, n, c, rfl⟩ : ∃ A n c, v = .slice A n c := h
  intro u hu
  simp only [opV, List.mem_cons, List.not_mem_nil, or_false] at hu
  rcases hu with rfl | rfl | rfl | rfl | rfl | rfl | rfl | rfl | rfl | rfl | rfl | rfl | rfl <;> rfl
theorem opsV_one (M : List (Opn × Value)) (h : ∀ x ∈ M, ∃ A n c, x.2 = .slice A n c) : ∀ u ∈ M.flatMap opV, u.oneCell' = true := by
  intro u hu
  obtain ⟨x, hx, hu⟩ := List.mem_flatMap.1 hu
  exact opV_one x (h x hx) u hu
set_option maxRecDepth 100000 in
set_option maxHeartbeats 2000000 in
/-- slices.Clone at operations -/
theorem cloneO_any (A : Option Addr) (n c : Nat) (M : List (Opn × Value)) (w : World) (hn : n = M.length) (hs : n ≤ 100000) (hA : A = none → n = 0) (hr : Reads w w.heap.size 13 A n (M.flatMap opV)) (ho : ∀ x ∈ M, ∃ A n c, x.2 = .slice A n c) :
    Calls Tryz.prog 87 #[.slice A n c] w fun e w' => ∃ v, e = .returned v ∧ w'.ownsRow w.heap.size 31 13 v n (M.flatMap opV) ∧ Below w.heap.size w w' := by
  obtain ⟨i0, hi, hz0, hz1, hz2⟩ := info_parts op_info
  have q22 : ∀ (w : World) (a : Option Addr) (n c n' c' : Nat), (binOp .eql 23 (.slice a n c) (.slice none n' c')).run Tryz.prog w = .ok (.bool a.isNone) w := fun w a n c n' c' => Lib.run_eql_slice_nil w _ _ a n c n' c' Tryz.underlying23
  rcases A with _ | ad
  · have h0 := hA rfl
    subst h0
    have hL : M = [] := List.eq_nil_of_length_eq_zero hn.symm
    subst hL
    clear hr hi hz0 hz1 hz2 hA hn
    go_enter Tryz.func87, Tryz.ntmps87
    go_wp2_with fail
    go_ret
    exact ⟨_, rfl, World.ownsRow_nil _ _ _ _, Below.refl _ _⟩
  · have HR := Lib.hid hr
    have HN := Lib.hid hn
    have HO := Lib.hid (opsV_one M ho)
    clear hr hn hA ho
    go_enter Tryz.func87, Tryz.ntmps87
    go_wp2_with (at_builtin; refine wpList_append_any _ rfl _ _ 23 rfl w.heap.size 31 i0 opZ 13 144 Tryz.underlying23 hi hz0 hz1 hz2 rfl (by decide) _ 0 [] rfl (World.ownsRow_made w #[] 0 (Nat.le_refl _) (Nat.zero_le _) (by simp)) w.heap.size (some ad) n c (M.flatMap opV) rfl (HR.out.alloc (Nat.le_refl _) _) HO.out (by unfold maxLen; omega) (by omega) (by simp) ?_; intro v' w1 hown hgrow _)
    go_wp2_with fail
    go_ret
    exact ⟨_, rfl, by simpa using hown, ((Below.refl _ w).alloc (Nat.le_refl _) _).grown hgrow (by simp) (fun k hk => by have : some w.heap.size = some k := hk; injection this with this; omega)⟩
set_option maxHeartbeats 1000000 in
/-- slices.Clip at operations -/
theorem clipO_any (A : Option Addr) (n c : Nat) (w : World) (h : n ≤ c) (hA : A = none → n = 0 ∧ c = 0) :
    Calls Tryz.prog 90 #[.slice A n c] w fun e w' => e = .returned (.slice A n n) ∧ w' = w := by
  rcases A with _ | ad
  · obtain ⟨rfl, rfl⟩ := hA rfl
    clear hA
    go_enter Tryz.func90, Tryz.ntmps90
    go_wp2_with fail
    go_ret
    exact ⟨rfl, rfl⟩
  · clear hA
    go_enter Tryz.func90, Tryz.ntmps90
    go_wp2_with fail
    go_ret
    exact ⟨rfl, rfl⟩
/-- what copyOp leaves -/
def CopyOR (o : Opn) (w : World) (e : Ending) (w' : World) : Prop := (∃ A n c, e = .returned (AO (o, .slice A n c)) ∧ RVX w' (fun b => w.heap.size ≤ b ∧ b < w'.heap.size) (.slice A n c) o.val.items) ∧ Below w.heap.size w w'
set_option maxRecDepth 100000 in
set_option maxHeartbeats 4000000 in
/-- tree.copyOp -/
theorem copyOp_any (o : Opn) (Av : Option Addr) (nv cv : Nat) (w : World) (B : Nat) (hB : B ≤ w.heap.size) (hv : RV w B (.slice Av nv cv) o.val.items) :
    Calls Tryz.prog 88 #[AO (o, .slice Av nv cv)] w (CopyOR o w) := by
  obtain ⟨d, hvd⟩ := hv
  obtain ⟨w1, hw1⟩ : ∃ w1, w1 = (w.alloc (.cells (opC o (.slice Av nv cv)) 31)).alloc (.cells #[.int .i64 0, .int .i64 0, .int .i64 0, .int .i64 0, .int .i64 0, .int .i64 0, .string ⟨#[]⟩, .string ⟨#[]⟩, .int .i64 0, .int .i64 0, .int .i64 0, .string ⟨#[]⟩, .slice none 0 0] 31) := ⟨_, rfl⟩
  have hb0 : Below w.heap.size w (w.alloc (.cells (opC o (.slice Av nv cv)) 31)) := (Below.refl _ _).alloc (Nat.le_refl _) _
  have hb1 : Below w.heap.size w w1 := by rw [hw1]; exact hb0.alloc hb0.size _
  have P0 : Hid (Blk w1 w.heap.size 31 (opC o (.slice Av nv cv))) := by rw [hw1]; exact (Blk.new w _ _).alloc _
  have P1 : Hid (Blk w1 (w.heap.size + 1) 31 #[.int .i64 0, .int .i64 0, .int .i64 0, .int .i64 0, .int .i64 0, .int .i64 0, .string ⟨#[]⟩, .string ⟨#[]⟩, .int .i64 0, .int .i64 0, .int .i64 0, .string ⟨#[]⟩, .slice none 0 0]) := by
    rw [hw1]
    have := Blk.new (w.alloc (.cells (opC o (.slice Av nv cv)) 31)) 31 #[.int .i64 0, .int .i64 0, .int .i64 0, .int .i64 0, .int .i64 0, .int .i64 0, .string ⟨#[]⟩, .string ⟨#[]⟩, .int .i64 0, .int .i64 0, .int .i64 0, .string ⟨#[]⟩, .slice none 0 0]
    have h2 : (w.alloc (.cells (opC o (.slice Av nv cv)) 31)).heap.size = w.heap.size + 1 := by simp
    rw [h2] at this
    exact this
  have hz1 : w1.heap.size = w.heap.size + 2 := by rw [hw1]; simp
  have HCV := Lib.hid (copyValue_any d (o.val, .slice Av nv cv) w1 B (by omega) (hvd.below (hb1.mono hB)))
  obtain ⟨ok, oi, op, oa, of, ot, ox, on, ⟨vk, vi, vt, vs, vl⟩⟩ := o
  unfold CopyR at HCV
  dsimp only [AV, AO, opC, Vl.kind, Vl.int_, Vl.to_, Vl.text, Vl.items] at HCV hw1 P0 ⊢
  have HB1 := Lib.hid hb1
  have HW1 := Lib.hid hw1
  have HZ1 := Lib.hid hz1
  clear hvd hb0 hb1 hw1 hz1
  go_enter Tryz.func88, Tryz.ntmps88
  go_upto_region 1 with fail
  rw [← HW1.out]
  have e0 := fun i => P0.out.cell i
  go_wp2_with fail
  refine HCV.out.mono ?_
  rintro e w2 ⟨⟨A2, n2, c2, rfl, hr2⟩, hb2⟩
  have hz1 := HZ1.out
  have HB2 : Hid (Below w.heap.size w w2) := HB1.out.trans (hb2.mono (by omega))
  have Q0 := Lib.hid (P0.out.below hb2 (by omega))
  have Q1 := Lib.hid (P1.out.below hb2 (by omega))
  have HR2 : Hid (RVX w2 (fun b => w.heap.size + 2 ≤ b ∧ b < w2.heap.size) (.slice A2 n2 c2) vl) := hr2.weak fun b hb => ⟨by omega, hb.2⟩
  clear hb2 hr2 e0 hz1
  have e0 := fun i => Q0.out.cell i
  have f0 := fun i => Q0.out.frozen i
  have e1 := fun i => Q1.out.cell i
  have f1 := fun i => Q1.out.frozen i
  go_wp2_with fail
  obtain ⟨wy, hwy⟩ : ∃ wy, wy = ((((w2.setCell ⟨w.heap.size, 8, none⟩ (.int .i64 vk)).setCell ⟨w.heap.size, 9, none⟩ (.int .i64 vi)).setCell ⟨w.heap.size, 10, none⟩ (.int .i64 vt)).setCell ⟨w.heap.size, 11, none⟩ (.string vs)).setCell ⟨w.heap.size, 12, none⟩ (.slice A2 n2 c2) := ⟨_, rfl⟩
  have hg1 : w.heap.size ≤ w.heap.size + 1 := Nat.le_succ _
  have hne : w.heap.size + 1 ≠ w.heap.size := by omega
  have RD : Blk wy (w.heap.size + 1) 31 #[.int .i64 0, .int .i64 0, .int .i64 0, .int .i64 0, .int .i64 0, .int .i64 0, .string ⟨#[]⟩, .string ⟨#[]⟩, .int .i64 0, .int .i64 0, .int .i64 0, .string ⟨#[]⟩, .slice none 0 0] := by
    rw [hwy]
    exact ((((Q1.out.far (p := ⟨w.heap.size, 8, none⟩) hne _).far (p := ⟨w.heap.size, 9, none⟩) hne _).far (p := ⟨w.heap.size, 10, none⟩) hne _).far (p := ⟨w.heap.size, 11, none⟩) hne _).far (p := ⟨w.heap.size, 12, none⟩) hne _
  have HBD : Below w.heap.size w wy := by
    rw [hwy]
    exact ((((HB2.out.setCell (p := ⟨w.heap.size, 8, none⟩) (Nat.le_refl _) _).setCell (p := ⟨w.heap.size, 9, none⟩) (Nat.le_refl _) _).setCell (p := ⟨w.heap.size, 10, none⟩) (Nat.le_refl _) _).setCell (p := ⟨w.heap.size, 11, none⟩) (Nat.le_refl _) _).setCell (p := ⟨w.heap.size, 12, none⟩) (Nat.le_refl _) _
  have hys : wy.heap.size = w2.heap.size := by rw [hwy]; simp [World.setCell]
  have hyc : ∀ p : Addr, w.heap.size + 2 ≤ p.block → wy.cell? p = w2.cell? p := fun p hp => by
    rw [hwy]
    repeat rw [World.cell?_setCell_other _ _ p _ (by intro e; subst e; dsimp only at hp; omega)]
  have PF := putO_blk (.int .i64 ok) (.int .i64 oi) (.int .i64 op) (.int .i64 oa) (.int .i64 of) (.int .i64 ot) (.string ox) (.string on) (.int .i64 vk) (.int .i64 vi) (.int .i64 vt) (.string vs) (.slice A2 n2 c2) RD rfl
  have HBF := putO_below (.int .i64 ok) (.int .i64 oi) (.int .i64 op) (.int .i64 oa) (.int .i64 of) (.int .i64 ot) (.string ox) (.string on) (.int .i64 vk) (.int .i64 vi) (.int .i64 vt) (.string vs) (.slice A2 n2 c2) HBD hg1
  have hfs := putO_size wy (w.heap.size + 1) (.int .i64 ok) (.int .i64 oi) (.int .i64 op) (.int .i64 oa) (.int .i64 of) (.int .i64 ot) (.string ox) (.string on) (.int .i64 vk) (.int .i64 vi) (.int .i64 vt) (.string vs) (.slice A2 n2 c2)
  have hfc := fun p => putO_cell wy (w.heap.size + 1) (.int .i64 ok) (.int .i64 oi) (.int .i64 op) (.int .i64 oa) (.int .i64 of) (.int .i64 ot) (.string ox) (.string on) (.int .i64 vk) (.int .i64 vi) (.int .i64 vt) (.string vs) (.slice A2 n2 c2) p
  obtain ⟨wf, hF⟩ : ∃ wf, wf = putO wy (w.heap.size + 1) (.int .i64 ok) (.int .i64 oi) (.int .i64 op) (.int .i64 oa) (.int .i64 of) (.int .i64 ot) (.string ox) (.string on) (.int .i64 vk) (.int .i64 vi) (.int .i64 vt) (.string vs) (.slice A2 n2 c2) := ⟨_, rfl⟩
  rw [← hF] at PF HBF hfs
  rw [← hF] at hfc
  unfold putO at hF
  rw [hwy] at hF
  rw [← hF]
  obtain ⟨r0, r1, r2, r3, r4, r5, r6, r7, r8, r9, r10, r11, r12⟩ := op_cells PF
  refine bodyPost_ret (v := .agg #[.int .i64 ok, .int .i64 oi, .int .i64 op, .int .i64 oa, .int .i64 of, .int .i64 ot, .string ox, .string on, .int .i64 vk, .int .i64 vi, .int .i64 vt, .string vs, .slice A2 n2 c2]) (by simp [results, Tryz.results88, go_sem, r0, r1, r2, r3, r4, r5, r6, r7, r8, r9, r10, r11, r12]) rfl ⟨⟨A2, n2, c2, rfl, ?_⟩, HBF⟩
  exact (HR2.out.keep fun p hp => (hfc p (by have hp := hp.1; omega)).trans (hyc p hp.1)).weak fun b hb => ⟨by omega, by rw [hfs, hys]; exact hb.2⟩
end Go.Proofs.YtmkicfjcgbfaaaaGreat
