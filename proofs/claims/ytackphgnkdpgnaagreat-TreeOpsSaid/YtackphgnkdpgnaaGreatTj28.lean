/-
  DERIVED. The walk of the reference's InverseOf, kinds 4. Conditions: sizes; an operation without error.
  By an AI agent.
-/
import Derived.Test.YtackphgnkdpgnaaGreatTj25
import Derived.Test.YtackphgnkdpgnaaGreatTj27
import Derived.BigRegion
namespace Go.Proofs.YtackphgnkdpgnaaGreat
open Go.RowKit

set_option maxRecDepth 100000 in
set_option maxHeartbeats 8000000 in
theorem inverseOf_k4 (l : List Bl) (f : Int → Option Int) (G : Good l f) (A : Option Addr) (n c : Nat) (o : Opn) (hk : o.kind = 4) (Av : Option Addr) (nv cv : Nat) (w : World) (B : Nat) (hB : B ≤ w.heap.size) (h : RB w B (.slice A n c) l) (hoi : OI o) (he : opErr l f o = 0) :
    Calls Tryz.prog 10 #[.slice A n c, AO (o, .slice Av nv cv)] w (InvR (invO l o) w) := by
  obtain ⟨p, x, hx, hxi, hed⟩ : ∃ (p : Nat) (x : Bl), l[p]? = some x ∧ x.id = o.id ∧ edErr x.text o.text o.from_ o.to_ = 0 := by
    cases G.op_facts he with
    | ins h => omega
    | rem h => omega
    | mov h => omega
    | edit h p x hx hxi he2 => exact ⟨p, x, hx, hxi, he2⟩
    | set h => omega
  have hxp : posOf l o.id = (p : Int) := by rw [← hxi]; exact posOf_of G.kids.rise hx
  have htx := txt_size (G.tree.loc _ (List.mem_of_getElem? hx)).1
  have HTX := Lib.hid htx
  have HED := Lib.hid hed
  have hei : invO l o = (⟨4, o.id, 0, 0, o.from_, o.from_ + o.text.size, x.text.extract o.from_.toNat o.to_.toNat, ⟨#[]⟩, zV⟩, 0) := by
    unfold invO
    rw [if_neg (by omega), if_neg (by omega), if_neg (by omega), if_pos hk, blkAt_of hxp hx]
  have HOI := Lib.hid hoi
  have HRI := Lib.hid G.kids.rise
  have hpn : p < n := by have := (List.getElem?_eq_some_iff.1 hx).1; have := h.len.1; omega
  have hpx : posOf l o.id = (p : Int) := by rw [← hxi]; exact posOf_of G.kids.rise hx
  have HPX := Lib.hid hpx
  obtain ⟨b, off, Kx, nkx, ckx, Px, npx, cpx, rfl, hbb, g0, g1, g2, g3, g4, hKx, hPx⟩ := h.at_ hx
  have HNP : Hid (npx = x.props.length) := (hPx.len).1
  have HPX2 := Lib.hid hPx
  obtain ⟨xid, xpar, xks, xtx, xps⟩ := x
  dsimp only at g0 g1 g2 g3 g4 HNP HPX2
  have G1 := Lib.hid g1
  have G3 := Lib.hid g3
  have G4 := Lib.hid g4
  have i0 : (0 : Int) ≤ (p : Int) := by omega
  have i1 : (p : Int) < (n : Int) := by omega
  have HB := Lib.hid h
  have HK := Lib.hid hk
  have HEI := Lib.hid hei
  obtain ⟨ok, oi, op, oa, of, ot, ox, on, ⟨vk, vi, vt, vs, vl⟩⟩ := o
  have hk : ok = 4 := HK.out
  subst hk
  obtain ⟨wb, hwb⟩ : ∃ wb, wb = (w.alloc (.cells #[.int .i64 4, .int .i64 oi, .int .i64 op, .int .i64 oa, .int .i64 of, .int .i64 ot, .string ox, .string on, .int .i64 vk, .int .i64 vi, .int .i64 vt, .string vs, .slice Av nv cv] 32)).alloc (.cells #[.int .i64 0, .int .i64 0, .int .i64 0, .int .i64 0, .int .i64 0, .int .i64 0, .string ⟨#[]⟩, .string ⟨#[]⟩, .int .i64 0, .int .i64 0, .int .i64 0, .string ⟨#[]⟩, .slice none 0 0] 32) := ⟨_, rfl⟩
  have HB0 : Hid (Below w.heap.size w wb) := by rw [hwb]; exact ((Below.refl _ _).alloc (Nat.le_refl _) _).alloc (by simp) _
  have P0 : Hid (Blk wb w.heap.size 32 #[.int .i64 4, .int .i64 oi, .int .i64 op, .int .i64 oa, .int .i64 of, .int .i64 ot, .string ox, .string on, .int .i64 vk, .int .i64 vi, .int .i64 vt, .string vs, .slice Av nv cv]) := by rw [hwb]; exact (Blk.new _ _ _).alloc _
  have R0 : Hid (Blk wb (w.heap.size + 1) 32 #[.int .i64 0, .int .i64 0, .int .i64 0, .int .i64 0, .int .i64 0, .int .i64 0, .string ⟨#[]⟩, .string ⟨#[]⟩, .int .i64 0, .int .i64 0, .int .i64 0, .string ⟨#[]⟩, .slice none 0 0]) := by
    show Blk _ _ _ _
    rw [hwb]
    have h := Blk.new (w.alloc (.cells #[.int .i64 4, .int .i64 oi, .int .i64 op, .int .i64 oa, .int .i64 of, .int .i64 ot, .string ox, .string on, .int .i64 vk, .int .i64 vi, .int .i64 vt, .string vs, .slice Av nv cv] 32)) 32 #[.int .i64 0, .int .i64 0, .int .i64 0, .int .i64 0, .int .i64 0, .int .i64 0, .string ⟨#[]⟩, .string ⟨#[]⟩, .int .i64 0, .int .i64 0, .int .i64 0, .string ⟨#[]⟩, .slice none 0 0]
    simpa only [World.size_alloc] using h
  have HAT := Lib.hid (at_any l _ n c oi wb B (Nat.le_trans hB HB0.out.size) (HB.out.below (HB0.out.mono hB)))
  obtain ⟨ip, hip⟩ : ∃ ip, ip = posOf l oi := ⟨_, rfl⟩
  rw [← hip] at HAT
  have HIP := Lib.hid hip
  have HWB := Lib.hid hwb
  dsimp only [AO, Vl.kind, Vl.int_, Vl.to_, Vl.text]
  clear hx hxi hxp hed htx hpx hKx hPx g0 g1 g2 g3 g4 G h hoi he hwb hip HK hei
  go_enter Tryz.func10, Tryz.ntmps10
  go_upto_region 1 with fail
  rw [← HWB.out]
  have e0 := fun i => P0.out.cell i
  go_wp2_with fail
  refine HAT.out.mono ?_
  rintro e w1 ⟨rfl, hb1⟩
  have HB1 : Hid (Below w.heap.size w w1) := HB0.out.trans (hb1.mono HB0.out.size)
  have P1 := Lib.hid (P0.out.below hb1 P0.out.lt)
  have R1 := Lib.hid (R0.out.below hb1 R0.out.lt)
  have hg1 : w.heap.size ≤ w.heap.size + 1 := Nat.le_succ _
  clear hb1 e0
  have e0 := fun i => P1.out.cell i
  have rd := fun i => R1.out.cell i
  have fd := fun i => R1.out.frozen i
  have hipp : ip = (p : Int) := HIP.out.trans HPX.out
  subst hipp
  have d1 : w1.cell? ⟨b, off + p * 5 + 1, none⟩ = some (.int .i64 xpar) := (HB1.out.cell (p := ⟨b, off + p * 5 + 1, none⟩) (by show b < _; omega)).trans G1.out
  have d3 : w1.cell? ⟨b, off + p * 5 + 3, none⟩ = some (.string xtx) := (HB1.out.cell (p := ⟨b, off + p * 5 + 3, none⟩) (by show b < _; omega)).trans G3.out
  have d4 : w1.cell? ⟨b, off + p * 5 + 4, none⟩ = some (.slice Px npx cpx) := (HB1.out.cell (p := ⟨b, off + p * 5 + 4, none⟩) (by show b < _; omega)).trans G4.out
  have hed : edErr xtx ox of ot = 0 := HED.out
  obtain ⟨h0, h1, h2, _⟩ := edErr_ok hed
  have htx : xtx.size ≤ 65536 := HTX.out
  have hox : ox.size ≤ 140737488351232 := HOI.out.2.2.2.2.2
  obtain ⟨a, rfl⟩ := Int.eq_ofNat_of_zero_le h0
  obtain ⟨t, rfl⟩ := Int.eq_ofNat_of_zero_le (Int.le_trans h0 h1)
  have HE : Hid (invO l ⟨4, oi, op, oa, (a : Int), (t : Int), ox, on, ⟨vk, vi, vt, vs, vl⟩⟩ = (⟨4, oi, 0, 0, (a : Int), (a : Int) + ox.size, xtx.extract a t, ⟨#[]⟩, zV⟩, 0)) := HEI.out
  have ww1 : IntKind.i64.wrap ((a : Int) + (ox.size : Int)) = (a : Int) + (ox.size : Int) := IntWalk.i64_in _ (by omega)
  have j0 : (0 : Int) ≤ (a : Int) := by omega
  have j1 : (a : Int) ≤ (t : Int) := h1
  have j2 : (t : Int) ≤ (xtx.size : Int) := h2
  have j3 : (0 : Int) ≤ (t : Int) := by omega
  clear hed h0 h1 h2 hox htx
  go_upto_region 12 with fail
  go_big_region
  all_goals
    go_wp2_with fail
    have PF := putO_blk (.int .i64 4) (.int .i64 oi) (.int .i64 0) (.int .i64 0) (.int .i64 (a : Int)) (.int .i64 ((a : Int) + (ox.size : Int))) (.string (xtx.extract a t)) (.string ⟨#[]⟩) (.int .i64 0) (.int .i64 0) (.int .i64 0) (.string ⟨#[]⟩) (.slice none 0 0) R1.out rfl
    have HBF := putO_below (.int .i64 4) (.int .i64 oi) (.int .i64 0) (.int .i64 0) (.int .i64 (a : Int)) (.int .i64 ((a : Int) + (ox.size : Int))) (.string (xtx.extract a t)) (.string ⟨#[]⟩) (.int .i64 0) (.int .i64 0) (.int .i64 0) (.string ⟨#[]⟩) (.slice none 0 0) HB1.out hg1
    obtain ⟨wf, hF⟩ : ∃ wf, wf = putO w1 (w.heap.size + 1) (.int .i64 4) (.int .i64 oi) (.int .i64 0) (.int .i64 0) (.int .i64 (a : Int)) (.int .i64 ((a : Int) + (ox.size : Int))) (.string (xtx.extract a t)) (.string ⟨#[]⟩) (.int .i64 0) (.int .i64 0) (.int .i64 0) (.string ⟨#[]⟩) (.slice none 0 0) := ⟨_, rfl⟩
    rw [← hF] at PF HBF
    unfold putO at hF
    rw [← hF]
    obtain ⟨r0, r1, r2, r3, r4, r5, r6, r7, r8, r9, r10, r11, r12⟩ := op_cells PF
    rw [HE.out]
    exact bodyPost_ret (v := .tuple #[AO (⟨4, oi, 0, 0, (a : Int), (a : Int) + ox.size, xtx.extract a t, ⟨#[]⟩, zV⟩, .slice none 0 0), .int .i64 0]) (by simp [results, Tryz.results10, go_sem, r0, r1, r2, r3, r4, r5, r6, r7, r8, r9, r10, r11, r12, AO, zV,  Vl.kind, Vl.int_, Vl.to_, Vl.text]) rfl ⟨⟨none, 0, 0, rfl, RVX.nil _ _⟩, HBF.drew⟩
end Go.Proofs.YtackphgnkdpgnaaGreat
