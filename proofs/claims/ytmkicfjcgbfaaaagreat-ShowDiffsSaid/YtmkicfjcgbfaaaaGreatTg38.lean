/-
  DERIVED. The walks of tree.copyOp and slices.Clone, Clip at operations. Conditions: sizes.
  The walk of the reference's Applied, kind 1. Conditions: sizes; an operation without error.
  By an AI agent.
-/
import Derived.Test.YtmkicfjcgbfaaaaGreatTg28
import Derived.Test.YtmkicfjcgbfaaaaGreatTg29
import Derived.Test.YtmkicfjcgbfaaaaGreatTg12
import Derived.Lib.SliceRun
import Derived.Laws.IdiomCopy
import Derived.Maps.AppendAt
import Derived.Test.YtmkicfjcgbfaaaaGreatTg35
namespace Go.Proofs.YtmkicfjcgbfaaaaGreat
open Go.RowKit

def opZ : Value := .agg #[.int .i64 0, .int .i64 0, .int .i64 0, .int .i64 0, .int .i64 0, .int .i64 0, .string ⟨#[]⟩, .string ⟨#[]⟩, .int .i64 0, .int .i64 0, .int .i64 0, .string ⟨#[]⟩, .slice none 0 0]
theorem op_info : (Tryz.prog.info? 31).map (fun i => (i.zero, i.size, i.bytes)) = some (some opZ, 13, 144) := by kernel_rfl
theorem opV_one (x : Opn × Value) (h : ∃ A n c, x.2 = .slice A n c) : ∀ u ∈ opV x, u.oneCell' = true := by
  obtain ⟨o, v⟩ := x
  obtain ⟨A, n, c, rfl⟩ : ∃ A n c, v = .slice A n c := h
  intro u hu
  simp only [opV, List.mem_cons, List.not_mem_nil, or_false] at hu
  rcases hu with rfl | rfl | rfl | rfl | rfl | rfl | rfl | rfl | rfl | rfl | rfl | rfl | rfl <;> rfl
theorem opsV_one (M : List (Opn × Value)) (h : ∀ x ∈ M, ∃ A n c, x.2 = .slice A n c) : ∀ u ∈ M.flatMap opV, u.oneCell' = true := by
  intro u hu
  obtain ⟨x, hx, hu⟩ := List.mem_flatMap.1 hu
  exact opV_one x (h x hx) u hu
set_option maxRecDepth 100000 in
set_option maxHeartbeats 2000000 in
/-- slices.Clone at operations -/
theorem cloneO_any (A : Option Addr) (n c : Nat) (M : List (Opn × Value)) (w : World) (hn : n = M.length) (hs : n ≤ 100000) (hA : A = none → n = 0) (hr : Reads w w.heap.size 13 A n (M.flatMap opV)) (ho : ∀ x ∈ M, ∃ A n c, x.2 = .slice A n c) :
    Calls Tryz.prog 87 #[.slice A n c] w fun e w' => ∃ v, e = .returned v ∧ w'.ownsRow w.heap.size 31 13 v n (M.flatMap opV) ∧ Below w.heap.size w w' := by
  obtain ⟨i0, hi, hz0, hz1, hz2⟩ := info_parts op_info
  have q22 : ∀ (w : World) (a : Option Addr) (n c n' c' : Nat), (binOp .eql 23 (.slice a n c) (.slice none n' c')).run Tryz.prog w = .ok (.bool a.isNone) w := fun w a n c n' c' => Lib.run_eql_slice_nil w _ _ a n c n' c' Tryz.underlying23
  rcases A with _ | ad
  · have h0 := hA rfl
    subst h0
    have hL : M = [] := List.eq_nil_of_length_eq_zero hn.symm
    subst hL
    clear hr hi hz0 hz1 hz2 hA hn
    go_enter Tryz.func87, Tryz.ntmps87
    go_wp2_with fail
    go_ret
    exact ⟨_, rfl, World.ownsRow_nil _ _ _ _, Below.refl _ _⟩
  · have HR := Lib.hid hr
    have HN := Lib.hid hn
    have HO := Lib.hid (opsV_one M ho)
    clear hr hn hA ho
    go_enter Tryz.func87, Tryz.ntmps87
    go_wp2_with (at_builtin; refine wpList_append_any _ rfl _ _ 23 rfl w.heap.size 31 i0 opZ 13 144 Tryz.underlying23 hi hz0 hz1 hz2 rfl (by decide) _ 0 [] rfl (World.ownsRow_made w #[] 0 (Nat.le_refl _) (Nat.zero_le _) (by simp)) w.heap.size (some ad) n c (M.flatMap opV) rfl (HR.out.alloc (Nat.le_refl _) _) HO.out (by unfold maxLen; omega) (by omega) (by simp) ?_; intro v' w1 hown hgrow _)
    go_wp2_with fail
    go_ret
    exact ⟨_, rfl, by simpa using hown, ((Below.refl _ w).alloc (Nat.le_refl _) _).grown hgrow (by simp) (fun k hk => by have : some w.heap.size = some k := hk; injection this with this; omega)⟩
set_option maxHeartbeats 1000000 in
/-- slices.Clip at operations -/
theorem clipO_any (A : Option Addr) (n c : Nat) (w : World) (h : n ≤ c) (hA : A = none → n = 0 ∧ c = 0) :
    Calls Tryz.prog 90 #[.slice A n c] w fun e w' => e = .returned (.slice A n n) ∧ w' = w := by
  rcases A with _ | ad
  · obtain ⟨rfl, rfl⟩ := hA rfl
    clear hA
    go_enter Tryz.func90, Tryz.ntmps90
    go_wp2_with fail
    go_ret
    exact ⟨rfl, rfl⟩
  · clear hA
    go_enter Tryz.func90, Tryz.ntmps90
    go_wp2_with fail
    go_ret
    exact ⟨rfl, rfl⟩
/-- what copyOp leaves -/
def CopyOR (o : Opn) (w : World) (e : Ending) (w' : World) : Prop := (∃ A n c, e = .returned (AO (o, .slice A n c)) ∧ RVX w' (fun b => w.heap.size ≤ b ∧ b < w'.heap.size) (.slice A n c) o.val.items) ∧ Below w.heap.size w w'
set_option maxRecDepth 100000 in
set_option maxHeartbeats 4000000 in
/-- tree.copyOp -/
theorem copyOp_any (o : Opn) (Av : Option Addr) (nv cv : Nat) (w : World) (B : Nat) (hB : B ≤ w.heap.size) (hv : RV w B (.slice Av nv cv) o.val.items) :
    Calls Tryz.prog 88 #[AO (o, .slice Av nv cv)] w (CopyOR o w) := by
  obtain ⟨d, hvd⟩ := hv
  obtain ⟨w1, hw1⟩ : ∃ w1, w1 = (w.alloc (.cells (opC o (.slice Av nv cv)) 31)).alloc (.cells #[.int .i64 0, .int .i64 0, .int .i64 0, .int .i64 0, .int .i64 0, .int .i64 0, .string ⟨#[]⟩, .string ⟨#[]⟩, .int .i64 0, .int .i64 0, .int .i64 0, .string ⟨#[]⟩, .slice none 0 0] 31) := ⟨_, rfl⟩
  have hb0 : Below w.heap.size w (w.alloc (.cells (opC o (.slice Av nv cv)) 31)) := (Below.refl _ _).alloc (Nat.le_refl _) _
  have hb1 : Below w.heap.size w w1 := by rw [hw1]; exact hb0.alloc hb0.size _
  have P0 : Hid (Blk w1 w.heap.size 31 (opC o (.slice Av nv cv))) := by rw [hw1]; exact (Blk.new w _ _).alloc _
  have P1 : Hid (Blk w1 (w.heap.size + 1) 31 #[.int .i64 0, .int .i64 0, .int .i64 0, .int .i64 0, .int .i64 0, .int .i64 0, .string ⟨#[]⟩, .string ⟨#[]⟩, .int .i64 0, .int .i64 0, .int .i64 0, .string ⟨#[]⟩, .slice none 0 0]) := by
    rw [hw1]
    have := Blk.new (w.alloc (.cells (opC o (.slice Av nv cv)) 31)) 31 #[.int .i64 0, .int .i64 0, .int .i64 0, .int .i64 0, .int .i64 0, .int .i64 0, .string ⟨#[]⟩, .string ⟨#[]⟩, .int .i64 0, .int .i64 0, .int .i64 0, .string ⟨#[]⟩, .slice none 0 0]
    have h2 : (w.alloc (.cells (opC o (.slice Av nv cv)) 31)).heap.size = w.heap.size + 1 := by simp
    rw [h2] at this
    exact this
  have hz1 : w1.heap.size = w.heap.size + 2 := by rw [hw1]; simp
  have HCV := Lib.hid (copyValue_any d (o.val, .slice Av nv cv) w1 B (by omega) (hvd.below (hb1.mono hB)))
  obtain ⟨ok, oi, op, oa, of, ot, ox, on, ⟨vk, vi, vt, vs, vl⟩⟩ := o
  unfold CopyR at HCV
  dsimp only [AV, AO, opC, Vl.kind, Vl.int_, Vl.to_, Vl.text, Vl.items] at HCV hw1 P0 ⊢
  have HB1 := Lib.hid hb1
  have HW1 := Lib.hid hw1
  have HZ1 := Lib.hid hz1
  clear hvd hb0 hb1 hw1 hz1
  go_enter Tryz.func88, Tryz.ntmps88
  go_upto_region 1 with fail
  rw [← HW1.out]
  have e0 := fun i => P0.out.cell i
  go_wp2_with fail
  refine HCV.out.mono ?_
  rintro e w2 ⟨⟨A2, n2, c2, rfl, hr2⟩, hb2⟩
  have hz1 := HZ1.out
  have HB2 : Hid (Below w.heap.size w w2) := HB1.out.trans (hb2.mono (by omega))
  have Q0 := Lib.hid (P0.out.below hb2 (by omega))
  have Q1 := Lib.hid (P1.out.below hb2 (by omega))
  have HR2 : Hid (RVX w2 (fun b => w.heap.size + 2 ≤ b ∧ b < w2.heap.size) (.slice A2 n2 c2) vl) := hr2.weak fun b hb => ⟨by omega, hb.2⟩
  clear hb2 hr2 e0 hz1
  have e0 := fun i => Q0.out.cell i
  have f0 := fun i => Q0.out.frozen i
  have e1 := fun i => Q1.out.cell i
  have f1 := fun i => Q1.out.frozen i
  go_wp2_with fail
  obtain ⟨wy, hwy⟩ : ∃ wy, wy = ((((w2.setCell ⟨w.heap.size, 8, none⟩ (.int .i64 vk)).setCell ⟨w.heap.size, 9, none⟩ (.int .i64 vi)).setCell ⟨w.heap.size, 10, none⟩ (.int .i64 vt)).setCell ⟨w.heap.size, 11, none⟩ (.string vs)).setCell ⟨w.heap.size, 12, none⟩ (.slice A2 n2 c2) := ⟨_, rfl⟩
  have hg1 : w.heap.size ≤ w.heap.size + 1 := Nat.le_succ _
  have hne : w.heap.size + 1 ≠ w.heap.size := by omega
  have RD : Blk wy (w.heap.size + 1) 31 #[.int .i64 0, .int .i64 0, .int .i64 0, .int .i64 0, .int .i64 0, .int .i64 0, .string ⟨#[]⟩, .string ⟨#[]⟩, .int .i64 0, .int .i64 0, .int .i64 0, .string ⟨#[]⟩, .slice none 0 0] := by
    rw [hwy]
    exact ((((Q1.out.far (p := ⟨w.heap.size, 8, none⟩) hne _).far (p := ⟨w.heap.size, 9, none⟩) hne _).far (p := ⟨w.heap.size, 10, none⟩) hne _).far (p := ⟨w.heap.size, 11, none⟩) hne _).far (p := ⟨w.heap.size, 12, none⟩) hne _
  have HBD : Below w.heap.size w wy := by
    rw [hwy]
    exact ((((HB2.out.setCell (p := ⟨w.heap.size, 8, none⟩) (Nat.le_refl _) _).setCell (p := ⟨w.heap.size, 9, none⟩) (Nat.le_refl _) _).setCell (p := ⟨w.heap.size, 10, none⟩) (Nat.le_refl _) _).setCell (p := ⟨w.heap.size, 11, none⟩) (Nat.le_refl _) _).setCell (p := ⟨w.heap.size, 12, none⟩) (Nat.le_refl _) _
  have hys : wy.heap.size = w2.heap.size := by rw [hwy]; simp [World.setCell]
  have hyc : ∀ p : Addr, w.heap.size + 2 ≤ p.block → wy.cell? p = w2.cell? p := fun p hp => by
    rw [hwy]
    repeat rw [World.cell?_setCell_other _ _ p _ (by intro e; subst e; dsimp only at hp; omega)]
  have PF := putO_blk (.int .i64 ok) (.int .i64 oi) (.int .i64 op) (.int .i64 oa) (.int .i64 of) (.int .i64 ot) (.string ox) (.string on) (.int .i64 vk) (.int .i64 vi) (.int .i64 vt) (.string vs) (.slice A2 n2 c2) RD rfl
  have HBF := putO_below (.int .i64 ok) (.int .i64 oi) (.int .i64 op) (.int .i64 oa) (.int .i64 of) (.int .i64 ot) (.string ox) (.string on) (.int .i64 vk) (.int .i64 vi) (.int .i64 vt) (.string vs) (.slice A2 n2 c2) HBD hg1
  have hfs := putO_size wy (w.heap.size + 1) (.int .i64 ok) (.int .i64 oi) (.int .i64 op) (.int .i64 oa) (.int .i64 of) (.int .i64 ot) (.string ox) (.string on) (.int .i64 vk) (.int .i64 vi) (.int .i64 vt) (.string vs) (.slice A2 n2 c2)
  have hfc := fun p => putO_cell wy (w.heap.size + 1) (.int .i64 ok) (.int .i64 oi) (.int .i64 op) (.int .i64 oa) (.int .i64 of) (.int .i64 ot) (.string ox) (.string on) (.int .i64 vk) (.int .i64 vi) (.int .i64 vt) (.string vs) (.slice A2 n2 c2) p
  obtain ⟨wf, hF⟩ : ∃ wf, wf = putO wy (w.heap.size + 1) (.int .i64 ok) (.int .i64 oi) (.int .i64 op) (.int .i64 oa) (.int .i64 of) (.int .i64 ot) (.string ox) (.string on) (.int .i64 vk) (.int .i64 vi) (.int .i64 vt) (.string vs) (.slice A2 n2 c2) := ⟨_, rfl⟩
  rw [← hF] at PF HBF hfs
  rw [← hF] at hfc
  unfold putO at hF
  rw [hwy] at hF
  rw [← hF]
  obtain ⟨r0, r1, r2, r3, r4, r5, r6, r7, r8, r9, r10, r11, r12⟩ := op_cells PF
  refine bodyPost_ret (v := .agg #[.int .i64 ok, .int .i64 oi, .int .i64 op, .int .i64 oa, .int .i64 of, .int .i64 ot, .string ox, .string on, .int .i64 vk, .int .i64 vi, .int .i64 vt, .string vs, .slice A2 n2 c2]) (by simp [results, Tryz.results88, go_sem, r0, r1, r2, r3, r4, r5, r6, r7, r8, r9, r10, r11, r12]) rfl ⟨⟨A2, n2, c2, rfl, ?_⟩, HBF⟩
  exact (HR2.out.keep fun p hp => (hfc p (by have hp := hp.1; omega)).trans (hyc p hp.1)).weak fun b hb => ⟨by omega, by rw [hfs, hys]; exact hb.2⟩
end Go.Proofs.YtmkicfjcgbfaaaaGreat
namespace Go.Proofs.YtmkicfjcgbfaaaaGreat
open Go.RowKit

theorem low_of {L : List Bl} {id : Int} {k : Nat} (hr : Rise L) (hk : k ≤ L.length) (h1 : ∀ (j : Nat) (x : Bl), k ≤ j → L[j]? = some x → id < x.id) (h2 : ∀ x : Bl, 0 < k → L[k - 1]? = some x → x.id ≤ id) (hne : ∀ x ∈ L, x.id ≠ id) : LowB L id k := by
  refine ⟨hk, fun j x hj hx => ?_, fun j x hj hx => Int.le_of_lt (h1 j x hj hx)⟩
  obtain ⟨y, hy⟩ : ∃ y, L[k - 1]? = some y := ⟨_, List.getElem?_eq_getElem (by omega)⟩
  have hle := h2 y (by omega) hy
  have hney := hne y (List.mem_of_getElem? hy)
  rcases Nat.lt_or_ge j (k - 1) with h | h
  · have := hr j (k - 1) x y h hx hy
    omega
  · have : j = k - 1 := by omega
    subst this
    rw [hx] at hy
    obtain rfl := Option.some.inj hy
    omega
set_option maxRecDepth 100000 in
set_option maxHeartbeats 8000000 in
/-- the reference's Applied, kind 1 -/
theorem appliedR1 (l : List Bl) (f : Int → Option Int) (G : Good l f) (A : Option Addr) (n c : Nat) (o : Opn) (hk : o.kind = 1) (Av : Option Addr) (nv cv : Nat) (w : World) (B : Nat) (hB : B ≤ w.heap.size) (h : RB w B (.slice A n c) l) (hv : RV w B (.slice Av nv cv) o.val.items) (hoi : OI o) (he : opErr l f o = 0) :
    Calls Tryz.prog 22 #[.slice A n c, AO (o, .slice Av nv cv)] w (ApplR (applied l o) w) := by
  obtain ⟨hne, q, y, hy, hyi, ha, hka, h5, hl2⟩ : (∀ x ∈ l, x.id ≠ o.id) ∧ ∃ (q : Nat) (y : Bl), l[q]? = some y ∧ y.id = o.parent ∧ 0 ≤ o.at_ ∧ o.at_.toNat ≤ y.kids.length ∧ y.kids.length < 500 ∧ l.length < 2000 := by
    cases G.op_facts he with
    | ins h hn hid q y hy hyi ha hka h5 hl => exact ⟨hn, q, y, hy, hyi, ha, hka, h5, hl⟩
    | rem h => omega
    | mov h => omega
    | edit h => omega
    | set h => omega
  have hpy : posOf l o.parent = (q : Int) := by rw [← hyi]; exact posOf_of G.kids.rise hy
  have HY := Lib.hid hy
  have HYI := Lib.hid hyi
  have HPY := Lib.hid hpy
  have HA := Lib.hid ha
  have HKA := Lib.hid hka
  have HK5 := Lib.hid h5
  have HNE := Lib.hid hne
  have HAPP : Hid (applied l o = insB ⟨o.id, o.parent, [], o.text, []⟩ (upd l o.parent fun b => b.withKids (plusK b.kids o.at_.toNat o.id))) := by
    show _ = _
    unfold applied insL
    rw [if_pos hk]
  have hn0 : 0 < n := by
    obtain ⟨r, hr, _⟩ := G.kids.root
    have := (List.getElem?_eq_some_iff.1 hr).1
    have := h.len.1
    omega
  have hn1 : n ≤ 2000 := by have := G.kids.short; have := h.len.1; omega
  obtain ⟨wa, hwa⟩ : ∃ wa, wa = w.alloc (.cells (opC o (.slice Av nv cv)) 31) := ⟨_, rfl⟩
  have HBA : Hid (Below w.heap.size w wa) := by rw [hwa]; exact (Below.refl _ _).alloc (Nat.le_refl _) _
  have P0 : Hid (Blk wa w.heap.size 31 (opC o (.slice Av nv cv))) := by rw [hwa]; exact Blk.new _ _ _
  have HZA : Hid (wa.heap.size = w.heap.size + 1) := by show _ = _; rw [hwa]; simp
  have HCO := Lib.hid (copied_any l A n c wa B (Nat.le_trans hB HBA.out.size) (h.below (HBA.out.mono hB)) hn0 (by omega))
  have HRI : Hid (Rise l ∧ IdsIn l) := ⟨G.kids.rise, G.kids.ids⟩
  have HLN : Hid (n = l.length) := h.len.1
  have HV := Lib.hid hv
  have HOI := Lib.hid hoi
  have HWA := Lib.hid hwa
  obtain ⟨ip, hip⟩ : ∃ ip, ip = posOf l o.id := ⟨_, rfl⟩
  obtain ⟨pp, hpp⟩ : ∃ pp, pp = posOf l o.parent := ⟨_, rfl⟩
  have HIP := Lib.hid hip
  have HPP := Lib.hid hpp
  have HK := Lib.hid hk
  obtain ⟨ok, oi, op, oa, of, ot, ox, on, ⟨vk, vi, vt, vs, vl⟩⟩ := o
  have hk : ok = 1 := HK.out
  subst hk
  dsimp only [AO, opC, Vl.kind, Vl.int_, Vl.to_, Vl.text, Vl.items] at P0 HWA HV HIP HPP ⊢
  clear hne hy hyi hpy ha hka h5 hl2 G h hv hoi he hwa hip hpp hn0 HK
  go_enter Tryz.func22, Tryz.ntmps22
  go_upto_region 1 with fail
  rw [← HWA.out]
  go_wp2_with fail
  refine HCO.out.mono ?_
  rintro e w1 ⟨g1, cap1, n1, M1, rfl, hml1, hm1, hg1, hr1, hb1⟩
  have HB1 : Hid (Below w.heap.size w w1) := HBA.out.trans (hb1.mono HBA.out.size)
  have HG1 : Hid (w.heap.size < g1) := by show _ < _; have := HZA.out; omega
  have P1 := Lib.hid (P0.out.below hb1 P0.out.lt)
  have HML := Lib.hid hml1
  have HMM := Lib.hid hm1
  have HR1 := Lib.hid hr1
  have HAT : Hid (∀ id W, Below w1.heap.size w1 W → Calls Tryz.prog 71 #[.slice (some ⟨g1, 0, none⟩) n1 cap1, .int .i64 id] W fun e w' => e = .returned (.int .i64 (posOf l id)) ∧ Below w1.heap.size w1 w') := fun id W hW => by
    have := at_any (M1.map Prod.fst) (some ⟨g1, 0, none⟩) M1.length cap1 id W W.heap.size (Nat.le_refl _) ((HR1.out.below hW).rb)
    rw [HML.out, HMM.out] at this
    exact this.mono fun e w' h => ⟨h.1, hW.trans (h.2.mono hW.size)⟩
  have KS : Hid (∀ W, Below w1.heap.size w1 W → ∀ i, W.cell? ⟨w.heap.size, i, none⟩ = (#[.int .i64 1, .int .i64 oi, .int .i64 op, .int .i64 oa, .int .i64 of, .int .i64 ot, .string ox, .string on, .int .i64 vk, .int .i64 vi, .int .i64 vt, .string vs, .slice Av nv cv] : Array Value)[i]?) := fun W hW => fun i => (P1.out.below hW P1.out.lt).cell i
  have HAI := Lib.hid (HAT.out oi)
  have HAP := Lib.hid (HAT.out op)
  rw [← HIP.out] at HAI
  rw [← HPP.out] at HAP
  have e0 := KS.out w1 (Below.refl _ _)
  clear hml1 hm1 hg1 hr1 hb1
  go_upto_region 2 with fail
  go_cut [6, 7] (fun s6 s7 wd => s6 = .int .i64 ip ∧ s7 = .int .i64 pp ∧ Hid (Below w1.heap.size w1 wd))
  case first =>
    go_region_with (first
      | (go_at_call 71; (with_reducible refine Calls.mono (HAI.out _ ?hb) ?_); (case hb => first | exact HB9.out | with_reducible exact (Below.refl _ _).drew | with_reducible exact Below.refl _ _ | exact (Below.refl _ _).drew); rintro e w9 ⟨rfl, hb9⟩; have HB9 := Lib.hid hb9; have r0 := KS.out w9 hb9; clear hb9)
      | (go_at_call 71; (with_reducible refine Calls.mono (HAP.out _ ?hb) ?_); (case hb => first | exact HB9.out | with_reducible exact (Below.refl _ _).drew | with_reducible exact Below.refl _ _ | exact (Below.refl _ _).drew); rintro e w9 ⟨rfl, hb9⟩; have HB9 := Lib.hid hb9; have r0 := KS.out w9 hb9; clear hb9))
    all_goals
      go_wp2_with fail
      go_meet
      exact ⟨rfl, rfl, HB9⟩
  case rest =>
  obtain ⟨rfl, rfl, hbd⟩ := hcut
  obtain ⟨w2, rfl⟩ : ∃ w2, w2 = wc := ⟨_, rfl⟩
  have HB2 : Hid (Below w.heap.size w w2) := HB1.out.trans (hbd.out.mono HB1.out.size)
  have HR2 := Lib.hid (HR1.out.below hbd.out)
  have HKS := Lib.hid fun W (hW : Below w2.heap.size w2 W) => KS.out W (hbd.out.trans (hW.mono hbd.out.size))
  have HHAT : Hid (∀ id W, Below w2.heap.size w2 W → Calls Tryz.prog 71 #[.slice (some ⟨g1, 0, none⟩) n1 cap1, .int .i64 id] W fun e w' => e = .returned (.int .i64 (posOf l id)) ∧ Below w2.heap.size w2 w') := fun id W hW => by
    have := at_any (M1.map Prod.fst) (some ⟨g1, 0, none⟩) M1.length cap1 id W W.heap.size (Nat.le_refl _) ((HR2.out.below hW).rb)
    rw [HML.out, HMM.out] at this
    exact this.mono fun e w' h => ⟨h.1, hW.trans (h.2.mono hW.size)⟩
  have hzz := HB2.out.size
  have hg2 := HR2.out.lt
  have hg1 := HG1.out
  have HRR : Hid (Rise (M1.map Prod.fst)) := by show Rise _; rw [HMM.out]; exact HRI.out.1
  clear e0
  have e0 := HKS.out w2 (Below.refl _ _)
  have hppp : pp = (q : Int) := HPP.out.trans HPY.out
  subst hppp
  obtain ⟨a, rfl⟩ : ∃ a : Nat, oa = (a : Int) := ⟨oa.toNat, (Int.toNat_of_nonneg HA.out).symm⟩
  obtain ⟨yk, hyk, hye⟩ := row_at HMM.out HY.out
  subst hye
  have hql : q < n1 := by have := (List.getElem?_eq_some_iff.1 hyk).1; have := HML.out; omega
  have HYK := Lib.hid hyk
  have i2 : (0 : Int) ≤ (q : Int) := by omega
  have i3 : (q : Int) < (n1 : Int) := by omega
  obtain ⟨⟨yid, ypar, yks, ytx, yps⟩, ykv, ypv⟩ := yk
  have hnby := HR2.out.nest _ (List.mem_of_getElem? HYK.out)
  have hky : RInX w2 _ ykv yks := hnby.1
  obtain ⟨Ak, nk, ck, rfl⟩ := (hky.reads (B := w2.heap.size) fun b hb => hb.1).slice
  have HKY := Lib.hid hky
  have HNK : Hid (nk = yks.length) := ((hky.reads (B := w2.heap.size) fun b hb => hb.1).len).1
  have HYID : Hid (yid = op) := HYI.out
  have HKA2 : Hid (a ≤ yks.length) := by
    have h : ((a : Int)).toNat ≤ yks.length := HKA.out
    rw [Int.toNat_natCast] at h
    exact h
  have HKL2 : Hid (yks.length < 500) := HK5.out
  have hn1x : n1 < 3000 := by
    have h1 := HML.out
    have h2 := congrArg List.length HMM.out
    rw [List.length_map] at h2
    have := HLN.out
    omega
  have hoi64 : I64 oi := HOI.out.1
  have HWI : Hid (∀ W, Below w2.heap.size w2 W → Calls Tryz.prog 84 #[.slice Ak nk ck, .int .i64 a, .int .i64 oi] W fun e w' => ∃ A n c, e = .returned (.slice A n c) ∧ RInX w' (fun b => w2.heap.size ≤ b ∧ b < w'.heap.size) (.slice A n c) (plusK yks a oi) ∧ Below w2.heap.size w2 w') := fun W hW => by
    refine (withI_any yks Ak nk ck a oi W w2.heap.size hW.size ((HKY.out.reads (B := w2.heap.size) fun b hb => hb.1).below hW) (by have := HNK.out; have := HKA2.out; omega) (by have := HNK.out; have := HKL2.out; omega) hoi64).mono ?_
    rintro e w' ⟨⟨A, n, c, rfl, _, h1, _⟩, h2⟩
    exact ⟨A, n, c, rfl, h1.weak fun b hb => ⟨Nat.le_trans hW.size hb.1, hb.2⟩, hW.trans (h2.mono hW.size)⟩
  have HRW4 : Hid (∀ W, Below w2.heap.size w2 W → W.cell? ⟨g1, q * 5 + 2, none⟩ = some (.slice Ak nk ck) ∧ W.frozen? ⟨g1, q * 5 + 2, none⟩ = false ∧ ∀ i, W.cell? ⟨w.heap.size, i, none⟩ = (#[.int .i64 1, .int .i64 oi, .int .i64 op, .int .i64 a, .int .i64 of, .int .i64 ot, .string ox, .string on, .int .i64 vk, .int .i64 vi, .int .i64 vt, .string vs, .slice Av nv cv] : Array Value)[i]?) := fun W hW =>
    have hr := HR2.out.below hW
    ⟨hr.cell HYK.out rfl, hr.frozen _, HKS.out W hW⟩
  have HFIN4 : Hid (∀ W A n c, Below w2.heap.size w2 W → RInX W (fun b => w2.heap.size ≤ b ∧ b < W.heap.size) (.slice A n c) (plusK yks a oi) → RowB (W.setCell ⟨g1, q * 5 + 2, none⟩ (.slice A n c)) g1 cap1 (M1.set q (⟨yid, ypar, plusK yks a oi, ytx, yps⟩, .slice A n c, ypv)) ∧ Below w.heap.size w (W.setCell ⟨g1, q * 5 + 2, none⟩ (.slice A n c)) ∧ Blk (W.setCell ⟨g1, q * 5 + 2, none⟩ (.slice A n c)) w.heap.size 31 #[.int .i64 1, .int .i64 oi, .int .i64 op, .int .i64 a, .int .i64 of, .int .i64 ot, .string ox, .string on, .int .i64 vk, .int .i64 vi, .int .i64 vt, .string vs, .slice Av nv cv]) := fun W A n c hW hp => by
    have hr := HR2.out.below hW
    have hnb := hr.nest _ (List.mem_of_getElem? HYK.out)
    have hlt := HR2.out.lt
    refine ⟨hr.store HYK.out (j := 2) (u := .slice A n c) (y := (⟨yid, ypar, plusK yks a oi, ytx, yps⟩, .slice A n c, ypv)) (by omega) rfl ⟨hp.weak fun b hb => ⟨hb.2, by omega⟩, hnb.2⟩, (HB2.out.trans (hW.mono HB2.out.size)).setCell (p := ⟨g1, q * 5 + 2, none⟩) (by show w.heap.size ≤ g1; omega) _, ?_⟩
    exact ((P1.out.below hbd.out P1.out.lt).below hW (P1.out.below hbd.out P1.out.lt).lt).far (p := ⟨g1, q * 5 + 2, none⟩) (by show w.heap.size ≠ g1; omega) _
  obtain ⟨q0, q1, q2⟩ := HRW4.out w2 (Below.refl _ _)
  clear hyk hnby hky
  go_upto_region 5 with fail
  go_cut [7] (fun s7 wd => s7 = .int .i64 (q : Int) ∧ ∃ kv, Hid (RowB wd g1 cap1 (M1.set q (⟨yid, ypar, plusK yks a oi, ytx, yps⟩, kv, ypv))) ∧ Hid (Below w.heap.size w wd) ∧ Hid (Blk wd w.heap.size 31 #[.int .i64 1, .int .i64 oi, .int .i64 op, .int .i64 a, .int .i64 of, .int .i64 ot, .string ox, .string on, .int .i64 vk, .int .i64 vi, .int .i64 vt, .string vs, .slice Av nv cv]))
  case first =>
    go_region_with (go_at_call 84; refine (HWI.out _ (by first | with_reducible exact (Below.refl _ _).drew | with_reducible exact Below.refl _ _ | exact (Below.refl _ _).drew)).mono ?_; rintro e w9 ⟨A8, n8, c8, rfl, hp9, hb9⟩; have HB9 := Lib.hid hb9; have HP9 := Lib.hid hp9; obtain ⟨r0, r1, r2⟩ := HRW4.out w9 hb9; clear hb9 hp9)
    all_goals
      obtain ⟨hf9, hf10, hf11⟩ := HFIN4.out _ A8 n8 c8 HB9.out HP9.out
      have HF9 := Lib.hid hf9
      have HF10 := Lib.hid hf10
      have HF11 := Lib.hid hf11
      clear q0 q1 q2 r0 r1 r2 e0 hf9 hf10 hf11
      go_wp2_with fail
      go_meet
      exact ⟨rfl, _, HF9, HF10, HF11⟩
  case rest =>
  obtain ⟨rfl, kv4, hr4, hb4, hp4⟩ := hcut
  obtain ⟨w4, rfl⟩ : ∃ w4, w4 = wc := ⟨_, rfl⟩
  clear q0 q1 q2 e0
  have hm4 := map_upd HRR.out HYK.out (fun b => b.withKids (plusK b.kids a oi)) kv4 ypv
  dsimp only [Bl.withKids] at hm4
  rw [HMM.out, HYID.out] at hm4
  obtain ⟨M4, hM4⟩ : ∃ M4, M4 = M1.set q (⟨yid, ypar, plusK yks a oi, ytx, yps⟩, kv4, ypv) := ⟨_, rfl⟩
  have hl4 : M4.length = n1 := by rw [hM4, List.length_set]; exact HML.out
  obtain ⟨L3, hL3⟩ : ∃ L3, L3 = upd l op fun b => b.withKids (plusK b.kids a oi) := ⟨_, rfl⟩
  have hm4 : M4.map Prod.fst = L3 := by rw [hM4, hL3]; refine Eq.trans ?_ hm4; rw [HYID.out]
  rw [← hM4] at hr4
  have HAPL : Hid (applied l ⟨1, oi, op, (a : Int), of, ot, ox, on, ⟨vk, vi, vt, vs, vl⟩⟩ = insB ⟨oi, op, [], ox, []⟩ L3) := by
    show _ = _
    rw [hL3]; exact HAPP.out
  have hr3 : Rise L3 := by rw [hL3]; exact HRI.out.1.upd fun b => rfl
  have hne3 : ∀ x ∈ L3, x.id ≠ oi := fun x hx => by
    rw [hL3] at hx
    obtain ⟨b, hb, e⟩ := upd_mem.1 hx
    have := HNE.out b hb
    rw [e]
    split <;> exact this
  have hl3 : L3.length = n1 := by rw [← hm4, List.length_map, hl4]
  have HM4 := Lib.hid hm4
  have HL4 := Lib.hid hl4
  have HR3 := Lib.hid hr3
  have HNE3 := Lib.hid hne3
  have HLL3 := Lib.hid hl3
  clear hm4 hM4 hl4 hL3 hr3 hne3 hl3
  go_wp2_with fail
  go_loopg [8] n1 (fun gg s8 wr => ∃ k : Nat, k = gg ∧ s8 = .int .i64 (k : Int) ∧ k ≤ n1 ∧ Hid (∀ (j : Nat) (x : Bl), k ≤ j → L3[j]? = some x → oi < x.id) ∧ Hid (Below w4.heap.size w4 wr))
  case atStart => exact ⟨n1, rfl, rfl, Nat.le_refl _, fun j x hj hx => absurd (List.getElem?_eq_some_iff.1 hx).1 (by have := HLL3.out; omega), Below.refl _ _⟩
  case round =>
    obtain ⟨k, rfl, rfl, hkn, hab, hbel⟩ := hrel
    obtain ⟨W1, rfl⟩ : ∃ W1, W1 = wr := ⟨_, rfl⟩
    have HRW := Lib.hid (hr4.out.below hbel.out)
    have HPW := Lib.hid (hp4.out.below hbel.out hp4.out.lt)
    obtain ⟨t, ht⟩ : ∃ t : Bool, t = true ↔ 0 < k ∧ ∀ x, L3[k - 1]? = some x → oi < x.id := by
      by_cases hc : 0 < k ∧ ∀ x, L3[k - 1]? = some x → oi < x.id
      · exact ⟨true, fun _ => hc, fun _ => rfl⟩
      · refine ⟨false, ?_⟩
        constructor
        · intro h; cases h
        · intro h; exact absurd h hc
    have HT := Lib.hid ht
    have e1 := HPW.out.cell 1
    go_upto_region 7 with fail
    go_cut [53] (fun s53 wd => s53 = .bool t ∧ Hid (Below w4.heap.size w4 wd))
    case first =>
      have QD : Hid (Below w4.heap.size w4 W1.drew) := hbel.out.drew
      cases k with
      | zero =>
        obtain rfl : t = false := Bool.eq_false_iff.2 fun h => absurd (HT.out.1 h).1 (by omega)
        clear ht HT
        go_quiet (fail)
        go_wp2_with fail
        go_meet
        exact ⟨rfl, ⟨hbel.out.os, hbel.out.tape, hbel.out.output, hbel.out.size, hbel.out.block⟩⟩
      | succ k =>
        obtain ⟨xk, hxk⟩ : ∃ xk, M4[k]? = some xk := ⟨_, List.getElem?_eq_getElem (by have := HL4.out; omega)⟩
        have hx3 : L3[k]? = some xk.1 := by rw [← HM4.out, List.getElem?_map, hxk]; rfl
        obtain ⟨⟨xid, xpar, xks, xtx, xps⟩, xkv, xpv⟩ := xk
        have c0 : W1.cell? ⟨g1, k * 5, none⟩ = some (.int .i64 xid) := HRW.out.cell (i := 0) hxk rfl
        have j0 : (0 : Int) ≤ (k : Int) := by omega
        have j1 : (k : Int) < (n1 : Int) := by omega
        have HX3 := Lib.hid hx3
        clear hxk hx3 ht
        by_cases hlt : oi < xid
        · obtain rfl : t = true := HT.out.2 ⟨Nat.succ_pos _, fun x hx => by
            rw [Nat.add_sub_cancel, HX3.out] at hx
            obtain rfl := Option.some.inj hx
            exact hlt⟩
          clear HT
          have hlt' : xid > oi := hlt
          go_quiet (fail)
          go_wp2_with fail
          go_meet
          exact ⟨rfl, ⟨hbel.out.os, hbel.out.tape, hbel.out.output, hbel.out.size, hbel.out.block⟩⟩
        · obtain rfl : t = false := Bool.eq_false_iff.2 fun h => hlt ((HT.out.1 h).2 _ (by rw [Nat.add_sub_cancel]; exact HX3.out))
          clear HT
          have hlt' : ¬ xid > oi := hlt
          go_quiet (fail)
          go_wp2_with fail
          go_meet
          exact ⟨rfl, ⟨hbel.out.os, hbel.out.tape, hbel.out.output, hbel.out.size, hbel.out.block⟩⟩
    case rest =>
    obtain ⟨rfl, hbw⟩ := hcut
    obtain ⟨w5, rfl⟩ : ∃ w5, w5 = wc := ⟨_, rfl⟩
    clear e1 ht
    cases t with
    | true =>
      have hk0 := (HT.out.1 rfl).1
      have hkl := (HT.out.1 rfl).2
      have HAB2 : Hid (∀ (j : Nat) (x : Bl), k - 1 ≤ j → L3[j]? = some x → oi < x.id) := fun j x hj hx => by
        rcases Nat.lt_or_ge j k with h | h
        · have : j = k - 1 := by omega
          subst this
          exact hkl x hx
        · exact hab.out j x h hx
      clear hkl
      obtain ⟨k, rfl⟩ : ∃ k', k = k' + 1 := ⟨k - 1, by omega⟩
      go_wp2_with fail
      go_roundg k
      case measure => omega
      case rel => exact ⟨k, rfl, by go_num, by omega, HAB2, hbw⟩
    | false =>
      have HLOW : Hid (LowB L3 oi k) := low_of HR3.out (by have := HLL3.out; omega) hab.out (fun x h0 hx => by
        rcases Int.lt_or_le oi x.id with h | h
        · have := HT.out.2 ⟨h0, fun x' hx' => by rw [hx] at hx'; obtain rfl := Option.some.inj hx'; exact h⟩
          cases this
        · exact h) HNE3.out
      have HR5 := Lib.hid (hr4.out.below hbw.out)
      have HP5 := Lib.hid (hp4.out.below hbw.out hp4.out.lt)
      have HB5 : Hid (Below w.heap.size w w5) := hb4.out.trans (hbw.out.mono hb4.out.size)
      obtain ⟨i0, hi0, hq0, hq1, hq2⟩ := info_parts block_info
      obtain ⟨O, hO⟩ : ∃ O, O = Obj.cells #[.int .i64 0, .int .i64 0, .slice none 0 0, .string ⟨#[]⟩, .slice none 0 0] 38 := ⟨_, rfl⟩
      have hb6 : Below w5.heap.size w5 (w5.alloc O) := (Below.refl _ _).alloc (Nat.le_refl _) O
      have HR6 := Lib.hid (HR5.out.below hb6)
      have HP6 := Lib.hid (HP5.out.below hb6 HP5.out.lt)
      have HB6 : Hid (Below w.heap.size w (w5.alloc O)) := HB5.out.trans (hb6.mono HB5.out.size)
      have HO6 := Lib.hid (HR6.out.own (base := w.heap.size) (by omega))
      rw [HL4.out] at HO6
      have HR7 : Hid (Reads (w5.alloc O) (w5.heap.size + 1) 5 (some ⟨w5.heap.size, 0, none⟩) 1 (blV (newB 0 0 ⟨#[]⟩))) := by rw [hO]; exact Reads.blk (Blk.new _ _ _) rfl
      have hone7 := blk_one (newB 0 0 ⟨#[]⟩) ⟨_, _, _, rfl⟩ ⟨_, _, _, rfl⟩
      have HC7 : Hid (n1 + 1 ≤ maxLen) := by show _ ≤ _; unfold maxLen; omega
      have HC8 : Hid ((n1 + 1) * 80 ≤ 140737488355328) := by show _ ≤ _; omega
      have HZ6 : Hid (w.heap.size ≤ (w5.alloc O).heap.size) := HB6.out.size
      rw [hO] at HR6 HP6 HB6 HO6 HR7 HZ6
      clear hb6 hO
      go_wp2_with (at_builtin; refine wpList_append_any _ rfl _ _ 22 rfl w.heap.size 38 i0 bZ 5 80 Tryz.underlying22 hi0 hq0 hq1 hq2 rfl (by decide) (.slice (some ⟨g1, 0, none⟩) n1 cap1) n1 (M4.flatMap blV) rfl HO6.out (w5.heap.size + 1) (some ⟨w5.heap.size, 0, none⟩) 1 1 (blV (newB 0 0 ⟨#[]⟩)) rfl HR7.out hone7 HC7.out HC8.out HZ6.out ?_)
      intro v8 w8 hown8 hg8 hat8
      have hg8' : World.grownBy _ w8 (some g1) := hg8
      obtain ⟨g2, cap2, rfl, hgb, hr8⟩ := HR6.out.app1 (v' := v8) (x := newB 0 0 ⟨#[]⟩) (by have := HL4.out; omega) (newB_nest _ _ _ _ _) (by rw [HL4.out]; exact hown8) hg8' (by
        rcases hat8 with h | h
        · exact .inl h
        · exact .inr (by rw [h]; simp))
      have hp8 := HP6.out.grown hg8' (fun e => by have := Option.some.inj e; omega)
      have hb8 : Below w.heap.size w w8 := HB6.out.grown hg8' HB6.out.size (fun g hg => by have := Option.some.inj hg; omega)
      have HR8 := Lib.hid hr8
      have HP8 := Lib.hid hp8
      have HB8 := Lib.hid hb8
      have hg2w : w.heap.size < g2 := by
        have hne : g2 ≠ w.heap.size := fun e => by
          obtain ⟨sp, h1, _⟩ := hr8.row
          rw [e] at h1
          exact absurd rfl (hp8.ne_ h1 (by decide))
        omega
      rw [HL4.out]
      clear hown8 hg8 hg8' hat8 hr8 hp8 hb8 hone7
      have hcap2 : n1 + 1 ≤ cap2 := by have := HR8.out.len; rw [List.length_append, HL4.out] at this; exact this
      have hcm2 := HR8.out.room
      have ww1 : IntKind.i64.wrap ((k : Int) + 1) = (k : Int) + 1 := IntWalk.i64_in _ (by omega)
      have ww2 : (0 : Int) ≤ (k : Int) + 1 := by omega
      have ww3 : ((k : Int) + 1).toNat = k + 1 := by omega
      have z0 : (0 : Int) ≤ (k : Int) := by omega
      have z1 : ¬ cap2 = k := by omega
      have z2 : (k : Int) ≤ (n1 : Int) + 1 := by omega
      have z3 : (k : Int) + 1 ≤ (n1 : Int) + 1 := by omega
      have z4 : (k : Int) ≤ (n1 : Int) := by omega
      go_upto_region 10 with fail
      go_cut [8] (fun s8 wd => s8 = .int .i64 (k : Int) ∧ ∃ y, Hid (RowB wd g2 cap2 (M4.take k ++ y :: M4.drop k)) ∧ Hid (Below w.heap.size w wd) ∧ Hid (Blk wd w.heap.size 31 #[.int .i64 1, .int .i64 oi, .int .i64 op, .int .i64 a, .int .i64 of, .int .i64 ot, .string ox, .string on, .int .i64 vk, .int .i64 vi, .int .i64 vt, .string vs, .slice Av nv cv]))
      case first =>
        have HFS : Hid (∀ R y, RowB (w8.drew.setRow g2 R) g2 cap2 (M4.take k ++ y :: M4.drop k) → Hid (Below w.heap.size w (w8.drew.setRow g2 R)) ∧ Hid (Blk (w8.drew.setRow g2 R) w.heap.size 31 #[.int .i64 1, .int .i64 oi, .int .i64 op, .int .i64 a, .int .i64 of, .int .i64 ot, .string ox, .string on, .int .i64 vk, .int .i64 vi, .int .i64 vt, .string vs, .slice Av nv cv])) := fun R y _ => ⟨HB8.out.drew.trans ⟨rfl, rfl, rfl, by rw [setRow_size]; exact Nat.le_refl _, fun k hk => setRow_other _ _ _ _ (by omega)⟩, (setRow_other w8.drew g2 _ _ (by omega)).trans HP8.out.drew⟩
        by_cases hc : cap2 = k + 1
        · obtain ⟨R, y, hrow, hrun⟩ := (HR8.out.below (Below.refl _ _).drew).shift (k := k) (by have := HL4.out; omega) 0 (by have := HL4.out; omega) (by omega)
          rw [HL4.out] at hrun
          have HROW := Lib.hid hrow
          have HHH := Lib.hid (HFS.out R y hrow)
          subst hc
          clear hrow z1
          have z1 : ¬ k + 1 = k := by omega
          have z5 : (k : Int) + 1 ≤ (k : Int) + 1 := by omega
          have z6 : (k : Int) ≤ (k : Int) + 1 := by omega
          have HRUN : ∀ ty, (Builtin.copy_ #[22, 22] ty #[.slice (some ⟨g2, 0, none⟩) 0 0, .slice (some ⟨g2, k * 5, none⟩) (n1 + 1 - k) 1]).run Tryz.prog w8.drew = .ok (goInt ((n1 + 1 - (k + 1) : Nat) : Int)) (w8.drew.setRow g2 R) := fun ty => by
            have h := hrun ty 0 1
            have e9 : n1 + 1 - (k + 1) = 0 := by omega
            rw [e9] at h ⊢
            exact h
          clear hrun
          go_region_law (refine step_copy_runI rfl _ _ 22 22 rfl (.slice (some ⟨g2, 0, none⟩) 0 0) (.slice (some ⟨g2, k * 5, none⟩) (n1 + 1 - k) 1) (by simp [Act.eval, Act.put]) (by simp [Act.eval, Act.put]) (HRUN _) ?_)
          all_goals
            go_wp2_with fail
            go_meet
            exact ⟨rfl, y, HROW, HHH.out.1, HHH.out.2⟩
        · obtain ⟨R, y, hrow, hrun⟩ := (HR8.out.below (Below.refl _ _).drew).shift (k := k) (by have := HL4.out; omega) ((k + 1) * 5) (fun _ => rfl) (by omega)
          rw [HL4.out] at hrun
          have HROW := Lib.hid hrow
          have HHH := Lib.hid (HFS.out R y hrow)
          clear hrow
          have z5 : (k : Int) + 1 ≤ (cap2 : Int) := by omega
          have z6 : (k : Int) ≤ (cap2 : Int) := by omega
          have HRUN : ∀ ty c0, (Builtin.copy_ #[22, 22] ty #[.slice (some ⟨g2, (k + 1) * 5, none⟩) (n1 - k) (cap2 - (k + 1)), .slice (some ⟨g2, k * 5, none⟩) (n1 + 1 - k) c0]).run Tryz.prog w8.drew = .ok (goInt ((n1 + 1 - (k + 1) : Nat) : Int)) (w8.drew.setRow g2 R) := fun ty c0 => by
            have h := hrun ty (cap2 - (k + 1)) c0
            have e9 : n1 + 1 - (k + 1) = n1 - k := by omega
            rw [e9] at h ⊢
            exact h
          clear hrun
          go_region_law (refine step_copy_runI rfl _ _ 22 22 rfl (.slice (some ⟨g2, (k + 1) * 5, none⟩) (n1 - k) (cap2 - (k + 1))) (.slice (some ⟨g2, k * 5, none⟩) (n1 + 1 - k) (cap2 - k)) (by simp [Act.eval, Act.put]) (by simp [Act.eval, Act.put]) (HRUN _ _) ?_)
          all_goals
            go_wp2_with fail
            go_meet
            exact ⟨rfl, y, HROW, HHH.out.1, HHH.out.2⟩
      case rest =>
      obtain ⟨rfl, y, hr9, hb9, hp9⟩ := hcut
      obtain ⟨w9, rfl⟩ : ∃ w9, w9 = wc := ⟨_, rfl⟩
      have hln9 : (M4.take k ++ y :: M4.drop k).length = n1 + 1 := by
        have := HL4.out
        rw [List.length_append, List.length_cons, List.length_take, List.length_drop]; omega
      have hy9 : (M4.take k ++ y :: M4.drop k)[k]? = some y := put_new (by have := HL4.out; omega) y
      have hput := hr9.out.putNew hy9 oi op ox
      have hset : (M4.take k ++ y :: M4.drop k).set k (newB oi op ox) = M4.take k ++ newB oi op ox :: M4.drop k := by
        have hl : (M4.take k).length = k := by rw [List.length_take]; have := HL4.out; omega
        rw [List.set_append_right _ _ (by omega), hl, Nat.sub_self]; rfl
      rw [hset] at hput
      have hrb := hput.rb
      rw [map_put (x := newB oi op ox) (by rw [HM4.out]; exact HLOW.out), HM4.out] at hrb
      have hl9 : (M4.take k ++ newB oi op ox :: M4.drop k).length = n1 + 1 := by
        have := HL4.out
        rw [List.length_append, List.length_cons, List.length_take, List.length_drop]; omega
      rw [hl9] at hrb
      obtain ⟨wf, hF⟩ : ∃ wf, wf = ((((w9.setCell ⟨g2, k * 5, none⟩ (.int .i64 oi)).setCell ⟨g2, k * 5 + 1, none⟩ (.int .i64 op)).setCell ⟨g2, k * 5 + 2, none⟩ (.slice none 0 0)).setCell ⟨g2, k * 5 + 3, none⟩ (.string ox)).setCell ⟨g2, k * 5 + 4, none⟩ (.slice none 0 0) := ⟨_, rfl⟩
      have hge : w.heap.size ≤ g2 := by omega
      have hbf : Below w.heap.size w wf := by
        rw [hF]
        exact ((((hb9.out.setCell (p := ⟨g2, k * 5, none⟩) hge _).setCell (p := ⟨g2, k * 5 + 1, none⟩) hge _).setCell (p := ⟨g2, k * 5 + 2, none⟩) hge _).setCell (p := ⟨g2, k * 5 + 3, none⟩) hge _).setCell (p := ⟨g2, k * 5 + 4, none⟩) hge _
      rw [← hF] at hrb
      have HFN : Hid (RB wf wf.heap.size (.slice (some ⟨g2, 0, none⟩) (n1 + 1) cap2) (applied l ⟨1, oi, op, (a : Int), of, ot, ox, on, ⟨vk, vi, vt, vs, vl⟩⟩) ∧ Below w.heap.size w wf) := ⟨by rw [HAPL.out]; exact hrb, hbf⟩
      obtain ⟨⟨uid, upar, uks, utx, ups⟩, ukv, upv⟩ := y
      have c0 : w9.cell? ⟨g2, k * 5, none⟩ = some (.int .i64 uid) := hr9.out.cell (i := 0) hy9 rfl
      have c1 : w9.cell? ⟨g2, k * 5 + 1, none⟩ = some (.int .i64 upar) := hr9.out.cell hy9 rfl
      have c2 : w9.cell? ⟨g2, k * 5 + 2, none⟩ = some ukv := hr9.out.cell hy9 rfl
      have c3 : w9.cell? ⟨g2, k * 5 + 3, none⟩ = some (.string utx) := hr9.out.cell hy9 rfl
      have c4 : w9.cell? ⟨g2, k * 5 + 4, none⟩ = some upv := hr9.out.cell hy9 rfl
      have f0 := hr9.out.frozen (k * 5)
      have f1 := hr9.out.frozen (k * 5 + 1)
      have f2 := hr9.out.frozen (k * 5 + 2)
      have f3 := hr9.out.frozen (k * 5 + 3)
      have f4 := hr9.out.frozen (k * 5 + 4)
      have b1 := hp9.out.cell 1
      have b2 := hp9.out.cell 2
      have b6 := hp9.out.cell 6
      have z7 : (k : Int) < (n1 : Int) + 1 := by omega
      have HF := Lib.hid hF
      clear hln9 hy9 hput hset hrb hl9 hF hbf hge
      go_wp2_with fail
      rw [← HF.out]
      go_ret
      exact ⟨some ⟨g2, 0, none⟩, n1 + 1, cap2, rfl, HFN.out.1, HFN.out.2⟩
end Go.Proofs.YtmkicfjcgbfaaaaGreat
