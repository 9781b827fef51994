/-
  DERIVED. The walk of the reference's InverseOf, kinds 5. Conditions: sizes; an operation without error.
  By an AI agent.
-/
import Derived.Test.YtackphgnkdpgnaaGreatTj25
import Derived.Test.YtackphgnkdpgnaaGreatTj27
namespace Go.Proofs.YtackphgnkdpgnaaGreat
open Go.RowKit

theorem put5_cell (W : World) (g : Nat) (a0 a1 a2 a3 a4 : Value) (p : Addr) (hp : p.block ≠ g) : (((((W.setCell ⟨g, 0, none⟩ a0).setCell ⟨g, 1, none⟩ a1).setCell ⟨g, 2, none⟩ a2).setCell ⟨g, 3, none⟩ a3).setCell ⟨g, 4, none⟩ a4).cell? p = W.cell? p := by
  have h : ∀ (w : World) (i : Nat) (u : Value), (w.setCell ⟨g, i, none⟩ u).cell? p = w.cell? p := fun w i u => World.cell?_setCell_other _ _ p _ (by intro e; subst e; exact hp rfl)
  rw [h, h, h, h, h]
theorem RVX.put {w : World} {S : Nat → Prop} {v : Value} {l : List Vl} (h : RVX w S v l) (p : Addr) (u : Value) (hS : ∀ b, S b → b ≠ p.block) : RVX (w.setCell p u) S v l := h.keep fun q hq => World.cell?_setCell_other _ _ q _ (by intro e; subst e; exact hS _ hq rfl)
set_option maxRecDepth 100000 in
set_option maxHeartbeats 8000000 in
theorem inverseOf_k5 (l : List Bl) (f : Int → Option Int) (G : Good l f) (A : Option Addr) (n c : Nat) (o : Opn) (hk : o.kind = 5) (Av : Option Addr) (nv cv : Nat) (w : World) (B : Nat) (hB : B ≤ w.heap.size) (h : RB w B (.slice A n c) l) (hoi : OI o) (he : opErr l f o = 0) :
    Calls Tryz.prog 10 #[.slice A n c, AO (o, .slice Av nv cv)] w (InvR (invO l o) w) := by
  obtain ⟨p, x, hx, hxi⟩ : ∃ (p : Nat) (x : Bl), l[p]? = some x ∧ x.id = o.id := by
    cases G.op_facts he with
    | ins h => omega
    | rem h => omega
    | mov h => omega
    | edit h => omega
    | set h p x hx hxi hnm hve hcp hsl => exact ⟨p, x, hx, hxi⟩
  have hxp : posOf l o.id = (p : Int) := by rw [← hxi]; exact posOf_of G.kids.rise hx
  have hei : invO l o = (⟨5, o.id, 0, 0, 0, 0, ⟨#[]⟩, o.name, getP x.props o.name⟩, 0) := by
    unfold invO
    rw [if_neg (by omega), if_neg (by omega), if_neg (by omega), if_neg (by omega), blkAt_of hxp hx]
  have HOI := Lib.hid hoi
  have HRI := Lib.hid G.kids.rise
  have hpn : p < n := by have := (List.getElem?_eq_some_iff.1 hx).1; have := h.len.1; omega
  have hpx : posOf l o.id = (p : Int) := by rw [← hxi]; exact posOf_of G.kids.rise hx
  have HPX := Lib.hid hpx
  obtain ⟨b, off, Kx, nkx, ckx, Px, npx, cpx, rfl, hbb, g0, g1, g2, g3, g4, hKx, hPx⟩ := h.at_ hx
  have HNP : Hid (npx = x.props.length) := (hPx.len).1
  have HPX2 := Lib.hid hPx
  obtain ⟨xid, xpar, xks, xtx, xps⟩ := x
  dsimp only at g0 g1 g2 g3 g4 HNP HPX2
  have G1 := Lib.hid g1
  have G3 := Lib.hid g3
  have G4 := Lib.hid g4
  have i0 : (0 : Int) ≤ (p : Int) := by omega
  have i1 : (p : Int) < (n : Int) := by omega
  have HB := Lib.hid h
  have HK := Lib.hid hk
  have HEI := Lib.hid hei
  obtain ⟨ok, oi, op, oa, of, ot, ox, on, ⟨vk, vi, vt, vs, vl⟩⟩ := o
  have hk : ok = 5 := HK.out
  subst hk
  obtain ⟨wb, hwb⟩ : ∃ wb, wb = (w.alloc (.cells #[.int .i64 5, .int .i64 oi, .int .i64 op, .int .i64 oa, .int .i64 of, .int .i64 ot, .string ox, .string on, .int .i64 vk, .int .i64 vi, .int .i64 vt, .string vs, .slice Av nv cv] 32)).alloc (.cells #[.int .i64 0, .int .i64 0, .int .i64 0, .int .i64 0, .int .i64 0, .int .i64 0, .string ⟨#[]⟩, .string ⟨#[]⟩, .int .i64 0, .int .i64 0, .int .i64 0, .string ⟨#[]⟩, .slice none 0 0] 32) := ⟨_, rfl⟩
  have HB0 : Hid (Below w.heap.size w wb) := by rw [hwb]; exact ((Below.refl _ _).alloc (Nat.le_refl _) _).alloc (by simp) _
  have P0 : Hid (Blk wb w.heap.size 32 #[.int .i64 5, .int .i64 oi, .int .i64 op, .int .i64 oa, .int .i64 of, .int .i64 ot, .string ox, .string on, .int .i64 vk, .int .i64 vi, .int .i64 vt, .string vs, .slice Av nv cv]) := by rw [hwb]; exact (Blk.new _ _ _).alloc _
  have R0 : Hid (Blk wb (w.heap.size + 1) 32 #[.int .i64 0, .int .i64 0, .int .i64 0, .int .i64 0, .int .i64 0, .int .i64 0, .string ⟨#[]⟩, .string ⟨#[]⟩, .int .i64 0, .int .i64 0, .int .i64 0, .string ⟨#[]⟩, .slice none 0 0]) := by
    show Blk _ _ _ _
    rw [hwb]
    have h := Blk.new (w.alloc (.cells #[.int .i64 5, .int .i64 oi, .int .i64 op, .int .i64 oa, .int .i64 of, .int .i64 ot, .string ox, .string on, .int .i64 vk, .int .i64 vi, .int .i64 vt, .string vs, .slice Av nv cv] 32)) 32 #[.int .i64 0, .int .i64 0, .int .i64 0, .int .i64 0, .int .i64 0, .int .i64 0, .string ⟨#[]⟩, .string ⟨#[]⟩, .int .i64 0, .int .i64 0, .int .i64 0, .string ⟨#[]⟩, .slice none 0 0]
    simpa only [World.size_alloc] using h
  have HAT := Lib.hid (at_any l _ n c oi wb B (Nat.le_trans hB HB0.out.size) (HB.out.below (HB0.out.mono hB)))
  obtain ⟨ip, hip⟩ : ∃ ip, ip = posOf l oi := ⟨_, rfl⟩
  rw [← hip] at HAT
  have HIP := Lib.hid hip
  have HWB := Lib.hid hwb
  dsimp only [AO, Vl.kind, Vl.int_, Vl.to_, Vl.text]
  clear hx hxi hxp hpx hKx hPx g0 g1 g2 g3 g4 G h hoi he hwb hip HK hei
  go_enter Tryz.func10, Tryz.ntmps10
  go_upto_region 1 with fail
  rw [← HWB.out]
  have e0 := fun i => P0.out.cell i
  go_wp2_with fail
  refine HAT.out.mono ?_
  rintro e w1 ⟨rfl, hb1⟩
  have HB1 : Hid (Below w.heap.size w w1) := HB0.out.trans (hb1.mono HB0.out.size)
  have P1 := Lib.hid (P0.out.below hb1 P0.out.lt)
  have R1 := Lib.hid (R0.out.below hb1 R0.out.lt)
  have hg1 : w.heap.size ≤ w.heap.size + 1 := Nat.le_succ _
  clear hb1 e0
  have e0 := fun i => P1.out.cell i
  have rd := fun i => R1.out.cell i
  have fd := fun i => R1.out.frozen i
  have hipp : ip = (p : Int) := HIP.out.trans HPX.out
  subst hipp
  have d1 : w1.cell? ⟨b, off + p * 5 + 1, none⟩ = some (.int .i64 xpar) := (HB1.out.cell (p := ⟨b, off + p * 5 + 1, none⟩) (by show b < _; omega)).trans G1.out
  have d3 : w1.cell? ⟨b, off + p * 5 + 3, none⟩ = some (.string xtx) := (HB1.out.cell (p := ⟨b, off + p * 5 + 3, none⟩) (by show b < _; omega)).trans G3.out
  have d4 : w1.cell? ⟨b, off + p * 5 + 4, none⟩ = some (.slice Px npx cpx) := (HB1.out.cell (p := ⟨b, off + p * 5 + 4, none⟩) (by show b < _; omega)).trans G4.out
  have HE0 : Hid (invO l ⟨5, oi, op, oa, of, ot, ox, on, ⟨vk, vi, vt, vs, vl⟩⟩ = (⟨5, oi, 0, 0, 0, 0, ⟨#[]⟩, on, getP xps on⟩, 0)) := HEI.out
  have HGET := Lib.hid fun W (hW : Below w.heap.size w W) => getP_any xps Px npx cpx on W B (Nat.le_trans hB hW.size) (HPX2.out.below (hW.mono hB))
  obtain ⟨G, hG⟩ : ∃ G, G = getP xps on := ⟨_, rfl⟩
  unfold GetPR at HGET
  rw [← hG] at HGET HE0
  have HE := HE0
  obtain ⟨gk, gi, gt, gs, gl⟩ := G
  dsimp only [AV, Vl.kind, Vl.int_, Vl.to_, Vl.text, Vl.items] at HGET
  clear hG HE0
  have QA : Hid (Below w.heap.size w w1.drew) := HB1.out.drew
  have QB : Hid (Below w.heap.size w (w1.alloc (.cells #[.int .i64 0, .int .i64 0, .int .i64 0, .string ⟨#[]⟩, .slice none 0 0] 30)).drew) := (HB1.out.alloc HB1.out.size _).drew
  have PB : Hid (Blk (w1.alloc (.cells #[.int .i64 0, .int .i64 0, .int .i64 0, .string ⟨#[]⟩, .slice none 0 0] 30)).drew w1.heap.size 30 #[.int .i64 0, .int .i64 0, .int .i64 0, .string ⟨#[]⟩, .slice none 0 0]) := (Blk.new w1 _ _).drew
  have KP : Hid (∀ W, Below w1.heap.size w1 W → Blk W w.heap.size 32 #[.int .i64 5, .int .i64 oi, .int .i64 op, .int .i64 oa, .int .i64 of, .int .i64 ot, .string ox, .string on, .int .i64 vk, .int .i64 vi, .int .i64 vt, .string vs, .slice Av nv cv] ∧ Blk W (w.heap.size + 1) 32 #[.int .i64 0, .int .i64 0, .int .i64 0, .int .i64 0, .int .i64 0, .int .i64 0, .string ⟨#[]⟩, .string ⟨#[]⟩, .int .i64 0, .int .i64 0, .int .i64 0, .string ⟨#[]⟩, .slice none 0 0] ∧ Below w.heap.size w W) := fun W hW => ⟨P1.out.below hW P1.out.lt, R1.out.below hW R1.out.lt, HB1.out.trans (hW.mono HB1.out.size)⟩
  have q7 : w1.cell? ⟨w.heap.size, 7, none⟩ = some (.string on) := P1.out.cell 7
  have q8 : (w1.alloc (.cells #[.int .i64 0, .int .i64 0, .int .i64 0, .string ⟨#[]⟩, .slice none 0 0] 30)).cell? ⟨w.heap.size, 7, none⟩ = some (.string on) := (P1.out.alloc _).cell 7
  have u4 : (w1.alloc (.cells #[.int .i64 0, .int .i64 0, .int .i64 0, .string ⟨#[]⟩, .slice none 0 0] 30)).cell? ⟨b, off + p * 5 + 4, none⟩ = some (.slice Px npx cpx) := ((HB1.out.alloc HB1.out.size _).cell (p := ⟨b, off + p * 5 + 4, none⟩) (by show b < _; omega)).trans G4.out
  have hz1 := HB1.out.size
  have hz2 := R1.out.lt
  go_upto_region 13 with fail
  go_cut [7, 8] (fun s7 s8 wd => ∃ be A5 n5 c5, s7 = .pointer (some ⟨be, 0, none⟩) ∧ Hid (Blk wd be 30 #[.int .i64 gk, .int .i64 gi, .int .i64 gt, .string gs, .slice A5 n5 c5]) ∧ Hid (RVX wd (fun b => w1.heap.size ≤ b ∧ b < wd.heap.size) (.slice A5 n5 c5) gl) ∧ Hid (w1.heap.size ≤ be) ∧ Hid (Below w1.heap.size w1 wd))
  case first =>
    have y4 : w1.drew.cell? ⟨b, off + p * 5 + 4, none⟩ = some (.slice Px npx cpx) := d4
    have y7 : w1.drew.cell? ⟨w.heap.size, 7, none⟩ = some (.string on) := q7
    have x4 : (w1.alloc (.cells #[.int .i64 0, .int .i64 0, .int .i64 0, .string ⟨#[]⟩, .slice none 0 0] 30)).drew.cell? ⟨b, off + p * 5 + 4, none⟩ = some (.slice Px npx cpx) := u4
    have x7 : (w1.alloc (.cells #[.int .i64 0, .int .i64 0, .int .i64 0, .string ⟨#[]⟩, .slice none 0 0] 30)).drew.cell? ⟨w.heap.size, 7, none⟩ = some (.string on) := q8
    go_region_held3 (fun w' => w'.cell? ⟨b, off + p * 5 + 4, none⟩ = some (.slice Px npx cpx) ∧ w'.cell? ⟨w.heap.size, 7, none⟩ = some (.string on))
      (first | with_reducible exact ⟨d4, q7⟩ | with_reducible exact ⟨y4, y7⟩ | with_reducible exact ⟨x4, x7⟩ | with_reducible exact ⟨u4, q8⟩ | with_reducible exact ⟨t4, t7⟩ | with_reducible exact ⟨m4, m7⟩ | with_reducible exact ⟨n4, n7⟩ | with_reducible exact ⟨s4, s7⟩)
      (first
      | (go_at_call 29; (with_reducible refine (HGET.out w1.drew QA.out).mono ?_); rintro e w9 ⟨⟨A5, n5, c5, rfl, hrv⟩, hb9⟩; have HV9 : Hid (RVX w9 (fun b => w1.heap.size ≤ b ∧ b < w9.heap.size) (.slice A5 n5 c5) gl) := hrv; have HB9 : Hid (Below w1.heap.size w1 w9) := (Below.refl w1.heap.size w1).drew.trans hb9; have t4 := ((HB1.out.trans (HB9.out.mono HB1.out.size)).cell (p := ⟨b, off + p * 5 + 4, none⟩) (by show b < _; omega)).trans G4.out; have t7 : w9.cell? ⟨w.heap.size, 7, none⟩ = some (.string on) := (KP.out w9 HB9.out).1.cell 7; have hz9 := HB9.out.size; have m4 : (w9.alloc (.cells #[.int .i64 0, .int .i64 0, .int .i64 0, .string ⟨#[]⟩, .slice none 0 0] 30)).cell? ⟨b, off + p * 5 + 4, none⟩ = some (.slice Px npx cpx) := (World.cell?_alloc_lt _ _ _ (by show b < _; omega)).trans t4; have m7 : (w9.alloc (.cells #[.int .i64 0, .int .i64 0, .int .i64 0, .string ⟨#[]⟩, .slice none 0 0] 30)).cell? ⟨w.heap.size, 7, none⟩ = some (.string on) := (World.cell?_alloc_lt _ _ _ (by show w.heap.size < _; omega)).trans t7; have n4 : (w9.alloc (.cells #[.int .i64 gk, .int .i64 gi, .int .i64 gt, .string gs, .slice A5 n5 c5] 30)).cell? ⟨b, off + p * 5 + 4, none⟩ = some (.slice Px npx cpx) := (World.cell?_alloc_lt _ _ _ (by show b < _; omega)).trans t4; have n7 : (w9.alloc (.cells #[.int .i64 gk, .int .i64 gi, .int .i64 gt, .string gs, .slice A5 n5 c5] 30)).cell? ⟨w.heap.size, 7, none⟩ = some (.string on) := (World.cell?_alloc_lt _ _ _ (by show w.heap.size < _; omega)).trans t7; clear hb9 hrv)
      | (go_at_call 29; (with_reducible refine (HGET.out _ QB.out).mono ?_); rintro e w9 ⟨⟨A5, n5, c5, rfl, hrv⟩, hb9⟩; have HVA : Hid (RVX w9 (fun b => w1.heap.size + 1 ≤ b ∧ b < w9.heap.size) (.slice A5 n5 c5) gl) := hrv.weak (fun b hb => ⟨by have h2 := hb.1; have h3 : (w1.alloc (.cells #[.int .i64 0, .int .i64 0, .int .i64 0, .string ⟨#[]⟩, .slice none 0 0] 30)).drew.heap.size = w1.heap.size + 1 := World.size_alloc _ _; omega, hb.2⟩); have HB9 : Hid (Below w1.heap.size w1 w9) := ((Below.refl w1.heap.size w1).alloc (Nat.le_refl _) _).drew.trans (hb9.mono (by show _ ≤ (w1.alloc _).heap.size; simp)); have PB9 := Lib.hid (PB.out.below hb9 PB.out.lt); have x0 := fun i => PB9.out.cell i; have x1 := fun i => PB9.out.frozen i; have t4 := ((HB1.out.trans (HB9.out.mono HB1.out.size)).cell (p := ⟨b, off + p * 5 + 4, none⟩) (by show b < _; omega)).trans G4.out; have t7 : w9.cell? ⟨w.heap.size, 7, none⟩ = some (.string on) := (KP.out w9 HB9.out).1.cell 7; have s4 : (((((w9.setCell ⟨w1.heap.size, 0, none⟩ (.int .i64 gk)).setCell ⟨w1.heap.size, 1, none⟩ (.int .i64 gi)).setCell ⟨w1.heap.size, 2, none⟩ (.int .i64 gt)).setCell ⟨w1.heap.size, 3, none⟩ (.string gs)).setCell ⟨w1.heap.size, 4, none⟩ (.slice A5 n5 c5)).cell? ⟨b, off + p * 5 + 4, none⟩ = some (.slice Px npx cpx) := (put5_cell w9 w1.heap.size _ _ _ _ _ ⟨b, off + p * 5 + 4, none⟩ (by show b ≠ _; omega)).trans t4; have s7 : (((((w9.setCell ⟨w1.heap.size, 0, none⟩ (.int .i64 gk)).setCell ⟨w1.heap.size, 1, none⟩ (.int .i64 gi)).setCell ⟨w1.heap.size, 2, none⟩ (.int .i64 gt)).setCell ⟨w1.heap.size, 3, none⟩ (.string gs)).setCell ⟨w1.heap.size, 4, none⟩ (.slice A5 n5 c5)).cell? ⟨w.heap.size, 7, none⟩ = some (.string on) := (put5_cell w9 w1.heap.size _ _ _ _ _ ⟨w.heap.size, 7, none⟩ (by show w.heap.size ≠ _; omega)).trans t7; clear hb9 hrv))
    · go_wp2_with fail
      go_meet
      have hv9 : RVX (w9.alloc (.cells #[.int .i64 gk, .int .i64 gi, .int .i64 gt, .string gs, .slice A5 n5 c5] 30)) (fun b => w1.heap.size ≤ b ∧ b < (w9.alloc (.cells #[.int .i64 gk, .int .i64 gi, .int .i64 gt, .string gs, .slice A5 n5 c5] 30)).heap.size) (.slice A5 n5 c5) gl := (HV9.out.keep fun p hp => World.cell?_alloc_lt _ _ _ hp.2).weak fun b hb => ⟨hb.1, by have := hb.2; rw [World.size_alloc]; omega⟩
      exact ⟨w9.heap.size, A5, n5, c5, rfl, Blk.new w9 _ _, hv9, HB9.out.size, HB9.out.alloc HB9.out.size _⟩
    · go_wp2_with fail
      go_meet
      obtain ⟨wf, hF⟩ : ∃ wf, wf = ((((w9.setCell ⟨w1.heap.size, 0, none⟩ (.int .i64 gk)).setCell ⟨w1.heap.size, 1, none⟩ (.int .i64 gi)).setCell ⟨w1.heap.size, 2, none⟩ (.int .i64 gt)).setCell ⟨w1.heap.size, 3, none⟩ (.string gs)).setCell ⟨w1.heap.size, 4, none⟩ (.slice A5 n5 c5) := ⟨_, rfl⟩
      rw [← hF]
      have hz : wf.heap.size = w9.heap.size := by rw [hF]; simp [World.setCell]
      have hb : Blk wf w1.heap.size 30 #[.int .i64 gk, .int .i64 gi, .int .i64 gt, .string gs, .slice A5 n5 c5] := by
        rw [hF]
        exact ((((PB9.out.set_ 0 (.int .i64 gk)).set_ 1 (.int .i64 gi)).set_ 2 (.int .i64 gt)).set_ 3 (.string gs)).set_ 4 (.slice A5 n5 c5)
      have hv : RVX wf (fun b => w1.heap.size ≤ b ∧ b < wf.heap.size) (.slice A5 n5 c5) gl := by
        refine (HVA.out.keep (w' := wf) fun p hp => ?_).weak fun b hb => ⟨by omega, by rw [hz]; exact hb.2⟩
        rw [hF]
        exact put5_cell w9 w1.heap.size _ _ _ _ _ p (by have := hp.1; omega)
      have hl : Below w1.heap.size w1 wf := by
        rw [hF]
        exact ((((HB9.out.setCell (p := ⟨w1.heap.size, 0, none⟩) (Nat.le_refl _) _).setCell (p := ⟨w1.heap.size, 1, none⟩) (Nat.le_refl _) _).setCell (p := ⟨w1.heap.size, 2, none⟩) (Nat.le_refl _) _).setCell (p := ⟨w1.heap.size, 3, none⟩) (Nat.le_refl _) _).setCell (p := ⟨w1.heap.size, 4, none⟩) (Nat.le_refl _) _
      exact ⟨w1.heap.size, A5, n5, c5, rfl, hb, hv, Nat.le_refl _, hl⟩
  case rest =>
  obtain ⟨be, A5, n5, c5, rfl, hbe, hrv, hge, hbz⟩ := hcut
  obtain ⟨w9, rfl⟩ : ∃ w9, w9 = wc := ⟨_, rfl⟩
  obtain ⟨k1, k2, k3⟩ := KP.out w9 hbz.out
  have R9 := Lib.hid k2
  have HB9 := Lib.hid k3
  clear e0 rd fd q7 q8 u4 d1 d3 d4
  have v1 := fun i => k1.cell i
  have v5 := fun i => R9.out.cell i
  have v6 := fun i => R9.out.frozen i
  have v7 := fun i => hbe.out.cell i
  clear k1 k2 k3
  go_wp2_with fail
  have PF := putO_blk (.int .i64 5) (.int .i64 oi) (.int .i64 0) (.int .i64 0) (.int .i64 0) (.int .i64 0) (.string ⟨#[]⟩) (.string on) (.int .i64 gk) (.int .i64 gi) (.int .i64 gt) (.string gs) (.slice A5 n5 c5) R9.out rfl
  have HBF := putO_below (.int .i64 5) (.int .i64 oi) (.int .i64 0) (.int .i64 0) (.int .i64 0) (.int .i64 0) (.string ⟨#[]⟩) (.string on) (.int .i64 gk) (.int .i64 gi) (.int .i64 gt) (.string gs) (.slice A5 n5 c5) HB9.out hg1
  obtain ⟨wf, hF⟩ : ∃ wf, wf = putO w9 (w.heap.size + 1) (.int .i64 5) (.int .i64 oi) (.int .i64 0) (.int .i64 0) (.int .i64 0) (.int .i64 0) (.string ⟨#[]⟩) (.string on) (.int .i64 gk) (.int .i64 gi) (.int .i64 gt) (.string gs) (.slice A5 n5 c5) := ⟨_, rfl⟩
  rw [← hF] at PF HBF
  have hzf : wf.heap.size = w9.heap.size := by rw [hF, putO_size]
  have HRV : Hid (RVX wf (fun b => w.heap.size ≤ b ∧ b < wf.heap.size) (.slice A5 n5 c5) gl) := by
    show RVX _ _ _ _
    rw [hzf]
    exact (hrv.out.keep (w' := wf) fun p hp => by rw [hF]; exact putO_cell _ _ _ _ _ _ _ _ _ _ _ _ _ _ _ p (by have := hp.1; omega)).weak fun b hb => ⟨by have := hb.1; omega, hb.2⟩
  unfold putO at hF
  rw [← hF]
  obtain ⟨r0, r1, r2, r3, r4, r5, r6, r7, r8, r9, r10, r11, r12⟩ := op_cells PF
  rw [HE.out]
  exact bodyPost_ret (v := .tuple #[AO (⟨5, oi, 0, 0, 0, 0, ⟨#[]⟩, on, ⟨gk, gi, gt, gs, gl⟩⟩, .slice A5 n5 c5), .int .i64 0]) (by simp [results, Tryz.results10, go_sem, r0, r1, r2, r3, r4, r5, r6, r7, r8, r9, r10, r11, r12, AO,  Vl.kind, Vl.int_, Vl.to_, Vl.text]) rfl ⟨⟨A5, n5, c5, rfl, HRV.out⟩, HBF⟩
end Go.Proofs.YtackphgnkdpgnaaGreat
