/-
  DERIVED. The walks of tree.inverse and Inverse. Conditions: sizes; an operation without error.
  By an AI agent.
-/
import Derived.Test.YtmkicfjcgbfaaaaGreatTa15
import Derived.Test.YtmkicfjcgbfaaaaGreatTa12
import Derived.Test.YtmkicfjcgbfaaaaGreatTa16
import Derived.Test.YtmkicfjcgbfaaaaGreatTb01
import Derived.Test.YtmkicfjcgbfaaaaGreatTa19
import Derived.Test.YtmkicfjcgbfaaaaGreatTa08
namespace Go.Proofs.YtmkicfjcgbfaaaaGreat
open Go.RowKit

/-- no operation -/
def zO : Opn := ⟨0, 0, 0, 0, 0, 0, ⟨#[]⟩, ⟨#[]⟩, zV⟩
/-- the operation that takes another one back, and why there is none -/
def invO (l : List Bl) (o : Opn) : Opn × Int :=
  if o.kind = 1 then (⟨2, o.id, 0, 0, 0, 0, ⟨#[]⟩, ⟨#[]⟩, zV⟩, 0) else
  if o.kind = 2 then (if 0 < (blkAt l o.id).props.length then (zO, 11) else (⟨1, o.id, (blkAt l o.id).parent, ixOf (blkAt l (blkAt l o.id).parent).kids o.id, 0, 0, (blkAt l o.id).text, ⟨#[]⟩, zV⟩, 0)) else
  if o.kind = 3 then (⟨3, o.id, (blkAt l o.id).parent, ixOf (blkAt l (blkAt l o.id).parent).kids o.id, 0, 0, ⟨#[]⟩, ⟨#[]⟩, zV⟩, 0) else
  if o.kind = 4 then (⟨4, o.id, 0, 0, o.from_, o.from_ + o.text.size, (blkAt l o.id).text.extract o.from_.toNat o.to_.toNat, ⟨#[]⟩, zV⟩, 0) else (⟨5, o.id, 0, 0, 0, 0, ⟨#[]⟩, o.name, getP (blkAt l o.id).props o.name⟩, 0)
/-- what inverse leaves -/
def InvR (x : Opn × Int) (w : World) (e : Ending) (w' : World) : Prop := (∃ A n c, e = .returned (.tuple #[AO (x.1, .slice A n c), .int .i64 x.2]) ∧ RVX w' (fun b => w.heap.size ≤ b ∧ b < w'.heap.size) (.slice A n c) x.1.val.items) ∧ Below w.heap.size w w'

set_option maxRecDepth 100000 in
set_option maxHeartbeats 4000000 in
theorem inverse_one (l : List Bl) (Al : Value) (o : Opn) (hk : o.kind = 1) (Av : Option Addr) (nv cv : Nat) (w : World) :
    Calls Tryz.prog 94 #[Al, AO (o, .slice Av nv cv)] w (InvR (invO l o) w) := by
  unfold invO
  rw [if_pos hk]
  obtain ⟨ok, oi, op, oa, of, ot, ox, on, ⟨vk, vi, vt, vs, vl⟩⟩ := o
  obtain rfl : ok = 1 := hk
  dsimp only [AO, Vl.kind, Vl.int_, Vl.to_, Vl.text]
  go_enter Tryz.func94, Tryz.ntmps94
  go_wp2_with fail
  exact bodyPost_ret (v := .tuple #[AO (⟨2, oi, 0, 0, 0, 0, ⟨#[]⟩, ⟨#[]⟩, zV⟩, .slice none 0 0), .int .i64 0]) (by simp [results, Tryz.results94, go_sem, AO, zV, Vl.kind, Vl.int_, Vl.to_, Vl.text]) rfl ⟨⟨none, 0, 0, rfl, RVX.nil _ _⟩, ((Below.refl _ _).alloc (Nat.le_refl _) _).alloc (by simp) _⟩

theorem Good.par_pos {l : List Bl} {f : Int → Option Int} (G : Good l f) {x : Bl} (hx : x ∈ l) : ∃ (q : Nat) (y : Bl), l[q]? = some y ∧ y.id = x.parent := by
  by_cases h0 : x.id = 0
  · obtain ⟨r, h1, h2, h3⟩ := G.kids.root
    have : x = r := G.kids.rise.inj hx (List.mem_of_getElem? h1) (by rw [h0, h2])
    subst this
    exact ⟨0, x, h1, by rw [h0, h3]⟩
  · obtain ⟨q, y, h1, h2, _⟩ := G.par_at hx h0
    exact ⟨q, y, h1, h2⟩
theorem OpF.at_ {l : List Bl} {o : Opn} (F : OpF l o) (hk : o.kind ≠ 1) : ∃ (p : Nat) (x : Bl), l[p]? = some x ∧ x.id = o.id := by
  cases F with
  | ins h => exact absurd h hk
  | rem h p x hx hxi => exact ⟨p, x, hx, hxi⟩
  | mov h p x hx hxi => exact ⟨p, x, hx, hxi⟩
  | edit h p x hx hxi => exact ⟨p, x, hx, hxi⟩
  | set h p x hx hxi => exact ⟨p, x, hx, hxi⟩

set_option maxRecDepth 100000 in
set_option maxHeartbeats 8000000 in
theorem inverse_k2 (l : List Bl) (f : Int → Option Int) (G : Good l f) (A : Option Addr) (n c : Nat) (o : Opn) (hk : o.kind = 2) (Av : Option Addr) (nv cv : Nat) (w : World) (B : Nat) (hB : B ≤ w.heap.size) (h : RB w B (.slice A n c) l) (hoi : OI o) (he : opErr l f o = 0) :
    Calls Tryz.prog 94 #[.slice A n c, AO (o, .slice Av nv cv)] w (InvR (invO l o) w) := by
  have F := G.op_facts he
  have hk1 : o.kind ≠ 1 := by omega
  obtain ⟨p, x, hx, hxi⟩ := F.at_ hk1
  obtain ⟨q, y, hy, hyi⟩ := G.par_pos (List.mem_of_getElem? hx)
  have hxp : posOf l o.id = (p : Int) := by rw [← hxi]; exact posOf_of G.kids.rise hx
  have hyp : posOf l x.parent = (q : Int) := by rw [← hyi]; exact posOf_of G.kids.rise hy
  have hpar := G.kids.ids y (List.mem_of_getElem? hy)
  have HI1 := Lib.hid fun W (hW : Below w.heap.size w W) => index_any l A n c o.id W B (Nat.le_trans hB hW.size) (h.below (hW.mono hB)) G.kids.rise G.kids.ids hoi.1
  have HI2 := Lib.hid fun W (hW : Below w.heap.size w W) => (index_any l A n c x.parent W B (Nat.le_trans hB hW.size) (h.below (hW.mono hB)) G.kids.rise G.kids.ids (by rw [← hyi]; unfold I64; omega))
  rw [hxp] at HI1
  rw [hyp] at HI2
  have hpn : p < n := by have := (List.getElem?_eq_some_iff.1 hx).1; have := h.len.1; omega
  have hqn : q < n := by have := (List.getElem?_eq_some_iff.1 hy).1; have := h.len.1; omega
  have hbg : n * 80 ≤ 140737488351232 := h.len.2.2
  have HEI : Hid (invO l o = if o.kind = 2 then (if 0 < x.props.length then (zO, 11) else (⟨1, o.id, x.parent, ixOf y.kids o.id, 0, 0, x.text, ⟨#[]⟩, zV⟩, 0)) else if o.kind = 3 then (⟨3, o.id, x.parent, ixOf y.kids o.id, 0, 0, ⟨#[]⟩, ⟨#[]⟩, zV⟩, 0) else if o.kind = 4 then (⟨4, o.id, 0, 0, o.from_, o.from_ + o.text.size, x.text.extract o.from_.toNat o.to_.toNat, ⟨#[]⟩, zV⟩, 0) else (⟨5, o.id, 0, 0, 0, 0, ⟨#[]⟩, o.name, getP x.props o.name⟩, 0)) := by
    show _ = _
    unfold invO
    rw [if_neg hk1, blkAt_of hxp hx, blkAt_of hyp hy]
  obtain ⟨b, off, Kx, nkx, ckx, Px, npx, cpx, rfl, hbb, g0, g1, g2, g3, g4, hKx, hPx⟩ := h.at_ hx
  obtain ⟨b', off', Ak, nk, ck, Py, npy, cpy, e, _, y0, y1, y2, _, _, hK, _⟩ := h.at_ hy
  have e : b = b' ∧ off = off' := by injection e with e; injection e with e1 e2; exact ⟨e1, e2⟩
  obtain ⟨rfl, rfl⟩ := e
  have HIX := Lib.hid fun W (hW : Below w.heap.size w W) => (indexI_any y.kids Ak nk ck o.id W B (hK.below (hW.mono hB)))
  have hnp := hPx.len
  have HNP : Hid (npx = x.props.length) := hnp.1
  have HPX := Lib.hid hPx
  have htx := txt_size (G.tree.loc _ (List.mem_of_getElem? hx)).1
  have hcpx := (G.tree.loc _ (List.mem_of_getElem? hx)).2.2
  have Y2 := Lib.hid y2
  have i0 : (0 : Int) ≤ (p : Int) := by omega
  have i1 : (p : Int) < (n : Int) := by omega
  have i2 : (0 : Int) ≤ (q : Int) := by omega
  have i3 : (q : Int) < (n : Int) := by omega
  have HF : Hid ((o.kind = 2 ∨ o.kind = 3 ∨ o.kind = 4 ∨ o.kind = 5) ∧ (o.kind = 4 → edErr x.text o.text o.from_ o.to_ = 0)) := by
    have hinj : ∀ z, z ∈ l → z.id = o.id → z = x := fun z hz e => G.kids.rise.inj hz (List.mem_of_getElem? hx) (by rw [e, hxi])
    cases F with
    | ins h => exact absurd h hk1
    | rem h => exact ⟨by omega, fun e => by omega⟩
    | mov h => exact ⟨by omega, fun e => by omega⟩
    | edit h p2 x2 hx2 hx2i he => exact ⟨by omega, fun _ => by rw [← hinj x2 (List.mem_of_getElem? hx2) hx2i]; exact he⟩
    | set h => exact ⟨by omega, fun e => by omega⟩
  have HOI := Lib.hid hoi
  obtain ⟨xid, xpar, xks, xtx, xps⟩ := x
  have hk1' : (o.kind == 1) = false := by simpa using hk1
  obtain ⟨ix, hix⟩ : ∃ ix, ix = ixOf y.kids o.id := ⟨_, rfl⟩
  rw [← hix] at HIX HEI
  dsimp only at HEI HI2 hnp HNP HPX htx g0 g1 g2 g3 g4 HF hcpx
  obtain ⟨wb, hwb⟩ : ∃ wb, wb = (w.alloc (.cells (opC o (.slice Av nv cv)) 31)).alloc (.cells #[.int .i64 0, .int .i64 0, .int .i64 0, .int .i64 0, .int .i64 0, .int .i64 0, .string ⟨#[]⟩, .string ⟨#[]⟩, .int .i64 0, .int .i64 0, .int .i64 0, .string ⟨#[]⟩, .slice none 0 0] 31) := ⟨_, rfl⟩
  have HWB0 : Hid (Below w.heap.size w wb) := by rw [hwb]; exact ((Below.refl _ _).alloc (Nat.le_refl _) _).alloc (by simp) _
  have P0 : Hid (Blk wb w.heap.size 31 (opC o (.slice Av nv cv))) := by rw [hwb]; exact (Blk.new _ _ _).alloc _
  have R0 : Hid (Blk wb (w.heap.size + 1) 31 #[.int .i64 0, .int .i64 0, .int .i64 0, .int .i64 0, .int .i64 0, .int .i64 0, .string ⟨#[]⟩, .string ⟨#[]⟩, .int .i64 0, .int .i64 0, .int .i64 0, .string ⟨#[]⟩, .slice none 0 0]) := by
    show Blk _ _ _ _
    rw [hwb]
    have h := Blk.new (w.alloc (.cells (opC o (.slice Av nv cv)) 31)) 31 #[.int .i64 0, .int .i64 0, .int .i64 0, .int .i64 0, .int .i64 0, .int .i64 0, .string ⟨#[]⟩, .string ⟨#[]⟩, .int .i64 0, .int .i64 0, .int .i64 0, .string ⟨#[]⟩, .slice none 0 0]
    simpa only [World.size_alloc] using h
  have HWB := Lib.hid hwb
  have G0 := Lib.hid g0
  have G1 := Lib.hid g1
  have G2 := Lib.hid g2
  have G3 := Lib.hid g3
  have G4 := Lib.hid g4
  have HTX := Lib.hid htx
  have HCP := Lib.hid hcpx
  dsimp only [AO]
  have HK := Lib.hid hk
  clear hk F hx hxi hy hyi hxp hyp hpar h hoi he hk1 hKx hPx hK hnp htx hcpx y0 y1 y2 g0 g1 g2 g3 g4 hix hwb G
  go_enter Tryz.func94, Tryz.ntmps94
  go_upto_region 1 with fail
  rw [← HWB.out]
  have e0 := fun i => P0.out.cell i
  go_wp2_with fail
  refine (HI1.out wb HWB0.out).mono ?_
  rintro e w1 ⟨rfl, hb1⟩
  have HB1 : Hid (Below w.heap.size w w1) := HWB0.out.trans (hb1.mono HWB0.out.size)
  have P1 := Lib.hid (P0.out.below hb1 P0.out.lt)
  have R1 := Lib.hid (R0.out.below hb1 R0.out.lt)
  clear hb1 e0
  have g0 : w1.cell? ⟨b, off + p * 5, none⟩ = some (.int .i64 xid) := (HB1.out.cell (p := ⟨b, off + p * 5, none⟩) (by show b < _; omega)).trans G0.out
  have g1 : w1.cell? ⟨b, off + p * 5 + 1, none⟩ = some (.int .i64 xpar) := (HB1.out.cell (p := ⟨b, off + p * 5 + 1, none⟩) (by show b < _; omega)).trans G1.out
  have g2 : w1.cell? ⟨b, off + p * 5 + 2, none⟩ = some (.slice Kx nkx ckx) := (HB1.out.cell (p := ⟨b, off + p * 5 + 2, none⟩) (by show b < _; omega)).trans G2.out
  have g3 : w1.cell? ⟨b, off + p * 5 + 3, none⟩ = some (.string xtx) := (HB1.out.cell (p := ⟨b, off + p * 5 + 3, none⟩) (by show b < _; omega)).trans G3.out
  have g4 : w1.cell? ⟨b, off + p * 5 + 4, none⟩ = some (.slice Px npx cpx) := (HB1.out.cell (p := ⟨b, off + p * 5 + 4, none⟩) (by show b < _; omega)).trans G4.out
  obtain ⟨wk, hwc⟩ : ∃ wk, wk = w1.alloc (.cells #[.int .i64 xid, .int .i64 xpar, .slice Kx nkx ckx, .string xtx, .slice Px npx cpx] 38) := ⟨_, rfl⟩
  have hbc : Below w1.heap.size w1 wk := by rw [hwc]; exact (Below.refl _ _).alloc (Nat.le_refl _) _
  have S2 : Hid (Blk wk w1.heap.size 38 #[.int .i64 xid, .int .i64 xpar, .slice Kx nkx ckx, .string xtx, .slice Px npx cpx]) := by rw [hwc]; exact Blk.new _ _ _
  have HBC : Hid (Below w.heap.size w wk) := HB1.out.trans (hbc.mono HB1.out.size)
  have P2 := Lib.hid (P1.out.below hbc P1.out.lt)
  have R2 := Lib.hid (R1.out.below hbc R1.out.lt)
  have hz1 := HB1.out.size
  have hz2 := S2.out.lt
  have HWC := Lib.hid hwc
  clear hbc hwc
  go_upto_region 4 with fail
  rw [← HWC.out]
  clear g0 g1 g2 g3 g4
  have KS : Hid (∀ W, Below wk.heap.size wk W → (∀ i, W.cell? ⟨w1.heap.size, i, none⟩ = (#[.int .i64 xid, .int .i64 xpar, .slice Kx nkx ckx, .string xtx, .slice Px npx cpx] : Array Value)[i]?) ∧ (∀ i, W.cell? ⟨w.heap.size, i, none⟩ = (opC o (.slice Av nv cv))[i]?) ∧ W.cell? ⟨b, off + q * 5 + 2, none⟩ = some (.slice Ak nk ck)) := fun W hW => ⟨fun i => (S2.out.below hW S2.out.lt).cell i, fun i => (P2.out.below hW P2.out.lt).cell i, ((HBC.out.trans (hW.mono HBC.out.size)).cell (p := ⟨b, off + q * 5 + 2, none⟩) (by show b < _; omega)).trans Y2.out⟩
  have hzc : w.heap.size ≤ wk.heap.size := HBC.out.size
  have HI3 : Hid (∀ W, Below wk.heap.size wk W → Calls Tryz.prog 105 #[.slice (some ⟨b, off, none⟩) n c, .int .i64 xpar] W fun e w' => e = .returned (.int .i64 (q : Int)) ∧ Below wk.heap.size wk w') := fun W hW => (HI2.out W (HBC.out.trans (hW.mono hzc))).mono fun e w' h => ⟨h.1, hW.trans (h.2.mono hW.size)⟩
  have HIX3 : Hid (∀ W, Below wk.heap.size wk W → Calls Tryz.prog 16 #[.slice Ak nk ck, .int .i64 o.id] W fun e w' => e = .returned (.int .i64 ix) ∧ w' = W) := fun W hW => HIX.out W (HBC.out.trans (hW.mono hzc))
  have QC : Hid (Below wk.heap.size wk wk.drew) := (Below.refl _ _).drew
  obtain ⟨s1, s2, s3⟩ := KS.out wk (Below.refl _ _)
  go_cut [7] (fun s7 wd => s7 = .int .i64 ix ∧ Hid (Below wk.heap.size wk wd))
  case first =>
    go_region_with (first
      | (go_at_call 105; refine (HI3.out _ QC.out).mono ?_; rintro e w9 ⟨rfl, hb9⟩; have HB9 := Lib.hid hb9; obtain ⟨t1, t2, t3⟩ := KS.out w9 hb9; clear hb9)
      | (go_at_call 16; refine (HIX3.out _ HB9.out).mono ?_; rintro e w10 ⟨rfl, rfl⟩))
    all_goals
      go_wp2_with fail
      go_meet
      exact ⟨rfl, HB9.out⟩
  case rest =>
  obtain ⟨rfl, hbd⟩ := hcut
  obtain ⟨wy, rfl⟩ : ∃ wy, wy = wc := ⟨_, rfl⟩
  clear s1 s2 s3
  obtain ⟨s1, s2, s3⟩ := KS.out wy hbd.out
  have RD := Lib.hid (R2.out.below hbd.out R2.out.lt)
  have HBD : Hid (Below w.heap.size w wy) := HBC.out.trans (hbd.out.mono hzc)
  have rd := fun i => RD.out.cell i
  have fd := fun i => RD.out.frozen i
  have hg1 : w.heap.size ≤ w.heap.size + 1 := Nat.le_succ _
  have HFF := HF.out
  obtain ⟨ok, oi, op, oa, of, ot, ox, on, ⟨vk, vi, vt, vs, vl⟩⟩ := o
  dsimp only [opC, Vl.kind, Vl.int_, Vl.to_, Vl.text] at s2 HFF HEI
  obtain ⟨hkd, hed⟩ := HFF
  clear HF hkd
  have hk := HK.out
  obtain rfl : ok = 2 := hk
  by_cases hp : 0 < npx
  · have hp' : (0 : Int) < (npx : Int) := by omega
    have HE : Hid (invO l ⟨2, oi, op, oa, of, ot, ox, on, ⟨vk, vi, vt, vs, vl⟩⟩ = (zO, 11)) := by
      show _ = _
      rw [HEI.out, if_pos rfl, if_pos (by rw [← HNP.out]; exact hp)]
    go_wp2_with fail
    have PF := putO_blk (.int .i64 0) (.int .i64 0) (.int .i64 0) (.int .i64 0) (.int .i64 0) (.int .i64 0) (.string ⟨#[]⟩) (.string ⟨#[]⟩) (.int .i64 0) (.int .i64 0) (.int .i64 0) (.string ⟨#[]⟩) (.slice none 0 0) RD.out rfl
    have HBF := putO_below (.int .i64 0) (.int .i64 0) (.int .i64 0) (.int .i64 0) (.int .i64 0) (.int .i64 0) (.string ⟨#[]⟩) (.string ⟨#[]⟩) (.int .i64 0) (.int .i64 0) (.int .i64 0) (.string ⟨#[]⟩) (.slice none 0 0) HBD.out hg1
    obtain ⟨wf, hF⟩ : ∃ wf, wf = putO wy (w.heap.size + 1) (.int .i64 0) (.int .i64 0) (.int .i64 0) (.int .i64 0) (.int .i64 0) (.int .i64 0) (.string ⟨#[]⟩) (.string ⟨#[]⟩) (.int .i64 0) (.int .i64 0) (.int .i64 0) (.string ⟨#[]⟩) (.slice none 0 0) := ⟨_, rfl⟩
    rw [← hF] at PF HBF
    unfold putO at hF
    rw [← hF]
    obtain ⟨r0, r1, r2, r3, r4, r5, r6, r7, r8, r9, r10, r11, r12⟩ := op_cells PF
    rw [HE.out]
    exact bodyPost_ret (v := .tuple #[AO (zO, .slice none 0 0), .int .i64 11]) (by simp [results, Tryz.results94, go_sem, r0, r1, r2, r3, r4, r5, r6, r7, r8, r9, r10, r11, r12, AO, zO, zV, Vl.kind, Vl.int_, Vl.to_, Vl.text]) rfl ⟨⟨none, 0, 0, rfl, RVX.nil _ _⟩, HBF⟩
  · obtain rfl : npx = 0 := by omega
    have HE : Hid (invO l ⟨2, oi, op, oa, of, ot, ox, on, ⟨vk, vi, vt, vs, vl⟩⟩ = (⟨1, oi, xpar, ix, 0, 0, xtx, ⟨#[]⟩, zV⟩, 0)) := by
      show _ = _
      rw [HEI.out, if_pos rfl, if_neg (by rw [← HNP.out]; exact hp)]
    go_wp2_with fail
    have PF := putO_blk (.int .i64 1) (.int .i64 oi) (.int .i64 xpar) (.int .i64 ix) (.int .i64 0) (.int .i64 0) (.string xtx) (.string ⟨#[]⟩) (.int .i64 0) (.int .i64 0) (.int .i64 0) (.string ⟨#[]⟩) (.slice none 0 0) RD.out rfl
    have HBF := putO_below (.int .i64 1) (.int .i64 oi) (.int .i64 xpar) (.int .i64 ix) (.int .i64 0) (.int .i64 0) (.string xtx) (.string ⟨#[]⟩) (.int .i64 0) (.int .i64 0) (.int .i64 0) (.string ⟨#[]⟩) (.slice none 0 0) HBD.out hg1
    obtain ⟨wf, hF⟩ : ∃ wf, wf = putO wy (w.heap.size + 1) (.int .i64 1) (.int .i64 oi) (.int .i64 xpar) (.int .i64 ix) (.int .i64 0) (.int .i64 0) (.string xtx) (.string ⟨#[]⟩) (.int .i64 0) (.int .i64 0) (.int .i64 0) (.string ⟨#[]⟩) (.slice none 0 0) := ⟨_, rfl⟩
    rw [← hF] at PF HBF
    unfold putO at hF
    rw [← hF]
    obtain ⟨r0, r1, r2, r3, r4, r5, r6, r7, r8, r9, r10, r11, r12⟩ := op_cells PF
    rw [HE.out]
    exact bodyPost_ret (v := .tuple #[AO (⟨1, oi, xpar, ix, 0, 0, xtx, ⟨#[]⟩, zV⟩, .slice none 0 0), .int .i64 0]) (by simp [results, Tryz.results94, go_sem, r0, r1, r2, r3, r4, r5, r6, r7, r8, r9, r10, r11, r12, AO, zV, Vl.kind, Vl.int_, Vl.to_, Vl.text]) rfl ⟨⟨none, 0, 0, rfl, RVX.nil _ _⟩, HBF⟩

set_option maxRecDepth 100000 in
set_option maxHeartbeats 8000000 in
theorem inverse_k3 (l : List Bl) (f : Int → Option Int) (G : Good l f) (A : Option Addr) (n c : Nat) (o : Opn) (hk : o.kind = 3) (Av : Option Addr) (nv cv : Nat) (w : World) (B : Nat) (hB : B ≤ w.heap.size) (h : RB w B (.slice A n c) l) (hoi : OI o) (he : opErr l f o = 0) :
    Calls Tryz.prog 94 #[.slice A n c, AO (o, .slice Av nv cv)] w (InvR (invO l o) w) := by
  have F := G.op_facts he
  have hk1 : o.kind ≠ 1 := by omega
  obtain ⟨p, x, hx, hxi⟩ := F.at_ hk1
  obtain ⟨q, y, hy, hyi⟩ := G.par_pos (List.mem_of_getElem? hx)
  have hxp : posOf l o.id = (p : Int) := by rw [← hxi]; exact posOf_of G.kids.rise hx
  have hyp : posOf l x.parent = (q : Int) := by rw [← hyi]; exact posOf_of G.kids.rise hy
  have hpar := G.kids.ids y (List.mem_of_getElem? hy)
  have HI1 := Lib.hid fun W (hW : Below w.heap.size w W) => index_any l A n c o.id W B (Nat.le_trans hB hW.size) (h.below (hW.mono hB)) G.kids.rise G.kids.ids hoi.1
  have HI2 := Lib.hid fun W (hW : Below w.heap.size w W) => (index_any l A n c x.parent W B (Nat.le_trans hB hW.size) (h.below (hW.mono hB)) G.kids.rise G.kids.ids (by rw [← hyi]; unfold I64; omega))
  rw [hxp] at HI1
  rw [hyp] at HI2
  have hpn : p < n := by have := (List.getElem?_eq_some_iff.1 hx).1; have := h.len.1; omega
  have hqn : q < n := by have := (List.getElem?_eq_some_iff.1 hy).1; have := h.len.1; omega
  have hbg : n * 80 ≤ 140737488351232 := h.len.2.2
  have HEI : Hid (invO l o = if o.kind = 2 then (if 0 < x.props.length then (zO, 11) else (⟨1, o.id, x.parent, ixOf y.kids o.id, 0, 0, x.text, ⟨#[]⟩, zV⟩, 0)) else if o.kind = 3 then (⟨3, o.id, x.parent, ixOf y.kids o.id, 0, 0, ⟨#[]⟩, ⟨#[]⟩, zV⟩, 0) else if o.kind = 4 then (⟨4, o.id, 0, 0, o.from_, o.from_ + o.text.size, x.text.extract o.from_.toNat o.to_.toNat, ⟨#[]⟩, zV⟩, 0) else (⟨5, o.id, 0, 0, 0, 0, ⟨#[]⟩, o.name, getP x.props o.name⟩, 0)) := by
    show _ = _
    unfold invO
    rw [if_neg hk1, blkAt_of hxp hx, blkAt_of hyp hy]
  obtain ⟨b, off, Kx, nkx, ckx, Px, npx, cpx, rfl, hbb, g0, g1, g2, g3, g4, hKx, hPx⟩ := h.at_ hx
  obtain ⟨b', off', Ak, nk, ck, Py, npy, cpy, e, _, y0, y1, y2, _, _, hK, _⟩ := h.at_ hy
  have e : b = b' ∧ off = off' := by injection e with e; injection e with e1 e2; exact ⟨e1, e2⟩
  obtain ⟨rfl, rfl⟩ := e
  have HIX := Lib.hid fun W (hW : Below w.heap.size w W) => (indexI_any y.kids Ak nk ck o.id W B (hK.below (hW.mono hB)))
  have hnp := hPx.len
  have HNP : Hid (npx = x.props.length) := hnp.1
  have HPX := Lib.hid hPx
  have htx := txt_size (G.tree.loc _ (List.mem_of_getElem? hx)).1
  have hcpx := (G.tree.loc _ (List.mem_of_getElem? hx)).2.2
  have Y2 := Lib.hid y2
  have i0 : (0 : Int) ≤ (p : Int) := by omega
  have i1 : (p : Int) < (n : Int) := by omega
  have i2 : (0 : Int) ≤ (q : Int) := by omega
  have i3 : (q : Int) < (n : Int) := by omega
  have HF : Hid ((o.kind = 2 ∨ o.kind = 3 ∨ o.kind = 4 ∨ o.kind = 5) ∧ (o.kind = 4 → edErr x.text o.text o.from_ o.to_ = 0)) := by
    have hinj : ∀ z, z ∈ l → z.id = o.id → z = x := fun z hz e => G.kids.rise.inj hz (List.mem_of_getElem? hx) (by rw [e, hxi])
    cases F with
    | ins h => exact absurd h hk1
    | rem h => exact ⟨by omega, fun e => by omega⟩
    | mov h => exact ⟨by omega, fun e => by omega⟩
    | edit h p2 x2 hx2 hx2i he => exact ⟨by omega, fun _ => by rw [← hinj x2 (List.mem_of_getElem? hx2) hx2i]; exact he⟩
    | set h => exact ⟨by omega, fun e => by omega⟩
  have HOI := Lib.hid hoi
  obtain ⟨xid, xpar, xks, xtx, xps⟩ := x
  have hk1' : (o.kind == 1) = false := by simpa using hk1
  obtain ⟨ix, hix⟩ : ∃ ix, ix = ixOf y.kids o.id := ⟨_, rfl⟩
  rw [← hix] at HIX HEI
  dsimp only at HEI HI2 hnp HNP HPX htx g0 g1 g2 g3 g4 HF hcpx
  obtain ⟨wb, hwb⟩ : ∃ wb, wb = (w.alloc (.cells (opC o (.slice Av nv cv)) 31)).alloc (.cells #[.int .i64 0, .int .i64 0, .int .i64 0, .int .i64 0, .int .i64 0, .int .i64 0, .string ⟨#[]⟩, .string ⟨#[]⟩, .int .i64 0, .int .i64 0, .int .i64 0, .string ⟨#[]⟩, .slice none 0 0] 31) := ⟨_, rfl⟩
  have HWB0 : Hid (Below w.heap.size w wb) := by rw [hwb]; exact ((Below.refl _ _).alloc (Nat.le_refl _) _).alloc (by simp) _
  have P0 : Hid (Blk wb w.heap.size 31 (opC o (.slice Av nv cv))) := by rw [hwb]; exact (Blk.new _ _ _).alloc _
  have R0 : Hid (Blk wb (w.heap.size + 1) 31 #[.int .i64 0, .int .i64 0, .int .i64 0, .int .i64 0, .int .i64 0, .int .i64 0, .string ⟨#[]⟩, .string ⟨#[]⟩, .int .i64 0, .int .i64 0, .int .i64 0, .string ⟨#[]⟩, .slice none 0 0]) := by
    show Blk _ _ _ _
    rw [hwb]
    have h := Blk.new (w.alloc (.cells (opC o (.slice Av nv cv)) 31)) 31 #[.int .i64 0, .int .i64 0, .int .i64 0, .int .i64 0, .int .i64 0, .int .i64 0, .string ⟨#[]⟩, .string ⟨#[]⟩, .int .i64 0, .int .i64 0, .int .i64 0, .string ⟨#[]⟩, .slice none 0 0]
    simpa only [World.size_alloc] using h
  have HWB := Lib.hid hwb
  have G0 := Lib.hid g0
  have G1 := Lib.hid g1
  have G2 := Lib.hid g2
  have G3 := Lib.hid g3
  have G4 := Lib.hid g4
  have HTX := Lib.hid htx
  have HCP := Lib.hid hcpx
  dsimp only [AO]
  have HK := Lib.hid hk
  clear hk F hx hxi hy hyi hxp hyp hpar h hoi he hk1 hKx hPx hK hnp htx hcpx y0 y1 y2 g0 g1 g2 g3 g4 hix hwb G
  go_enter Tryz.func94, Tryz.ntmps94
  go_upto_region 1 with fail
  rw [← HWB.out]
  have e0 := fun i => P0.out.cell i
  go_wp2_with fail
  refine (HI1.out wb HWB0.out).mono ?_
  rintro e w1 ⟨rfl, hb1⟩
  have HB1 : Hid (Below w.heap.size w w1) := HWB0.out.trans (hb1.mono HWB0.out.size)
  have P1 := Lib.hid (P0.out.below hb1 P0.out.lt)
  have R1 := Lib.hid (R0.out.below hb1 R0.out.lt)
  clear hb1 e0
  have g0 : w1.cell? ⟨b, off + p * 5, none⟩ = some (.int .i64 xid) := (HB1.out.cell (p := ⟨b, off + p * 5, none⟩) (by show b < _; omega)).trans G0.out
  have g1 : w1.cell? ⟨b, off + p * 5 + 1, none⟩ = some (.int .i64 xpar) := (HB1.out.cell (p := ⟨b, off + p * 5 + 1, none⟩) (by show b < _; omega)).trans G1.out
  have g2 : w1.cell? ⟨b, off + p * 5 + 2, none⟩ = some (.slice Kx nkx ckx) := (HB1.out.cell (p := ⟨b, off + p * 5 + 2, none⟩) (by show b < _; omega)).trans G2.out
  have g3 : w1.cell? ⟨b, off + p * 5 + 3, none⟩ = some (.string xtx) := (HB1.out.cell (p := ⟨b, off + p * 5 + 3, none⟩) (by show b < _; omega)).trans G3.out
  have g4 : w1.cell? ⟨b, off + p * 5 + 4, none⟩ = some (.slice Px npx cpx) := (HB1.out.cell (p := ⟨b, off + p * 5 + 4, none⟩) (by show b < _; omega)).trans G4.out
  obtain ⟨wk, hwc⟩ : ∃ wk, wk = w1.alloc (.cells #[.int .i64 xid, .int .i64 xpar, .slice Kx nkx ckx, .string xtx, .slice Px npx cpx] 38) := ⟨_, rfl⟩
  have hbc : Below w1.heap.size w1 wk := by rw [hwc]; exact (Below.refl _ _).alloc (Nat.le_refl _) _
  have S2 : Hid (Blk wk w1.heap.size 38 #[.int .i64 xid, .int .i64 xpar, .slice Kx nkx ckx, .string xtx, .slice Px npx cpx]) := by rw [hwc]; exact Blk.new _ _ _
  have HBC : Hid (Below w.heap.size w wk) := HB1.out.trans (hbc.mono HB1.out.size)
  have P2 := Lib.hid (P1.out.below hbc P1.out.lt)
  have R2 := Lib.hid (R1.out.below hbc R1.out.lt)
  have hz1 := HB1.out.size
  have hz2 := S2.out.lt
  have HWC := Lib.hid hwc
  clear hbc hwc
  go_upto_region 4 with fail
  rw [← HWC.out]
  clear g0 g1 g2 g3 g4
  have KS : Hid (∀ W, Below wk.heap.size wk W → (∀ i, W.cell? ⟨w1.heap.size, i, none⟩ = (#[.int .i64 xid, .int .i64 xpar, .slice Kx nkx ckx, .string xtx, .slice Px npx cpx] : Array Value)[i]?) ∧ (∀ i, W.cell? ⟨w.heap.size, i, none⟩ = (opC o (.slice Av nv cv))[i]?) ∧ W.cell? ⟨b, off + q * 5 + 2, none⟩ = some (.slice Ak nk ck)) := fun W hW => ⟨fun i => (S2.out.below hW S2.out.lt).cell i, fun i => (P2.out.below hW P2.out.lt).cell i, ((HBC.out.trans (hW.mono HBC.out.size)).cell (p := ⟨b, off + q * 5 + 2, none⟩) (by show b < _; omega)).trans Y2.out⟩
  have hzc : w.heap.size ≤ wk.heap.size := HBC.out.size
  have HI3 : Hid (∀ W, Below wk.heap.size wk W → Calls Tryz.prog 105 #[.slice (some ⟨b, off, none⟩) n c, .int .i64 xpar] W fun e w' => e = .returned (.int .i64 (q : Int)) ∧ Below wk.heap.size wk w') := fun W hW => (HI2.out W (HBC.out.trans (hW.mono hzc))).mono fun e w' h => ⟨h.1, hW.trans (h.2.mono hW.size)⟩
  have HIX3 : Hid (∀ W, Below wk.heap.size wk W → Calls Tryz.prog 16 #[.slice Ak nk ck, .int .i64 o.id] W fun e w' => e = .returned (.int .i64 ix) ∧ w' = W) := fun W hW => HIX.out W (HBC.out.trans (hW.mono hzc))
  have QC : Hid (Below wk.heap.size wk wk.drew) := (Below.refl _ _).drew
  obtain ⟨s1, s2, s3⟩ := KS.out wk (Below.refl _ _)
  go_cut [7] (fun s7 wd => s7 = .int .i64 ix ∧ Hid (Below wk.heap.size wk wd))
  case first =>
    go_region_with (first
      | (go_at_call 105; refine (HI3.out _ QC.out).mono ?_; rintro e w9 ⟨rfl, hb9⟩; have HB9 := Lib.hid hb9; obtain ⟨t1, t2, t3⟩ := KS.out w9 hb9; clear hb9)
      | (go_at_call 16; refine (HIX3.out _ HB9.out).mono ?_; rintro e w10 ⟨rfl, rfl⟩))
    all_goals
      go_wp2_with fail
      go_meet
      exact ⟨rfl, HB9.out⟩
  case rest =>
  obtain ⟨rfl, hbd⟩ := hcut
  obtain ⟨wy, rfl⟩ : ∃ wy, wy = wc := ⟨_, rfl⟩
  clear s1 s2 s3
  obtain ⟨s1, s2, s3⟩ := KS.out wy hbd.out
  have RD := Lib.hid (R2.out.below hbd.out R2.out.lt)
  have HBD : Hid (Below w.heap.size w wy) := HBC.out.trans (hbd.out.mono hzc)
  have rd := fun i => RD.out.cell i
  have fd := fun i => RD.out.frozen i
  have hg1 : w.heap.size ≤ w.heap.size + 1 := Nat.le_succ _
  have HFF := HF.out
  obtain ⟨ok, oi, op, oa, of, ot, ox, on, ⟨vk, vi, vt, vs, vl⟩⟩ := o
  dsimp only [opC, Vl.kind, Vl.int_, Vl.to_, Vl.text] at s2 HFF HEI
  obtain ⟨hkd, hed⟩ := HFF
  clear HF hkd
  have hk := HK.out
  obtain rfl : ok = 3 := hk
  have HE : Hid (invO l ⟨3, oi, op, oa, of, ot, ox, on, ⟨vk, vi, vt, vs, vl⟩⟩ = (⟨3, oi, xpar, ix, 0, 0, ⟨#[]⟩, ⟨#[]⟩, zV⟩, 0)) := by
    show _ = _
    rw [HEI.out, if_neg (by decide), if_pos rfl]
  go_wp2_with fail
  have PF := putO_blk (.int .i64 3) (.int .i64 oi) (.int .i64 xpar) (.int .i64 ix) (.int .i64 0) (.int .i64 0) (.string ⟨#[]⟩) (.string ⟨#[]⟩) (.int .i64 0) (.int .i64 0) (.int .i64 0) (.string ⟨#[]⟩) (.slice none 0 0) RD.out rfl
  have HBF := putO_below (.int .i64 3) (.int .i64 oi) (.int .i64 xpar) (.int .i64 ix) (.int .i64 0) (.int .i64 0) (.string ⟨#[]⟩) (.string ⟨#[]⟩) (.int .i64 0) (.int .i64 0) (.int .i64 0) (.string ⟨#[]⟩) (.slice none 0 0) HBD.out hg1
  obtain ⟨wf, hF⟩ : ∃ wf, wf = putO wy (w.heap.size + 1) (.int .i64 3) (.int .i64 oi) (.int .i64 xpar) (.int .i64 ix) (.int .i64 0) (.int .i64 0) (.string ⟨#[]⟩) (.string ⟨#[]⟩) (.int .i64 0) (.int .i64 0) (.int .i64 0) (.string ⟨#[]⟩) (.slice none 0 0) := ⟨_, rfl⟩
  rw [← hF] at PF HBF
  unfold putO at hF
  rw [← hF]
  obtain ⟨r0, r1, r2, r3, r4, r5, r6, r7, r8, r9, r10, r11, r12⟩ := op_cells PF
  rw [HE.out]
  exact bodyPost_ret (v := .tuple #[AO (⟨3, oi, xpar, ix, 0, 0, ⟨#[]⟩, ⟨#[]⟩, zV⟩, .slice none 0 0), .int .i64 0]) (by simp [results, Tryz.results94, go_sem, r0, r1, r2, r3, r4, r5, r6, r7, r8, r9, r10, r11, r12, AO, zV, Vl.kind, Vl.int_, Vl.to_, Vl.text]) rfl ⟨⟨none, 0, 0, rfl, RVX.nil _ _⟩, HBF⟩

set_option maxRecDepth 100000 in
set_option maxHeartbeats 8000000 in
theorem inverse_k4 (l : List Bl) (f : Int → Option Int) (G : Good l f) (A : Option Addr) (n c : Nat) (o : Opn) (hk : o.kind = 4) (Av : Option Addr) (nv cv : Nat) (w : World) (B : Nat) (hB : B ≤ w.heap.size) (h : RB w B (.slice A n c) l) (hoi : OI o) (he : opErr l f o = 0) :
    Calls Tryz.prog 94 #[.slice A n c, AO (o, .slice Av nv cv)] w (InvR (invO l o) w) := by
  have F := G.op_facts he
  have hk1 : o.kind ≠ 1 := by omega
  obtain ⟨p, x, hx, hxi⟩ := F.at_ hk1
  obtain ⟨q, y, hy, hyi⟩ := G.par_pos (List.mem_of_getElem? hx)
  have hxp : posOf l o.id = (p : Int) := by rw [← hxi]; exact posOf_of G.kids.rise hx
  have hyp : posOf l x.parent = (q : Int) := by rw [← hyi]; exact posOf_of G.kids.rise hy
  have hpar := G.kids.ids y (List.mem_of_getElem? hy)
  have HI1 := Lib.hid fun W (hW : Below w.heap.size w W) => index_any l A n c o.id W B (Nat.le_trans hB hW.size) (h.below (hW.mono hB)) G.kids.rise G.kids.ids hoi.1
  have HI2 := Lib.hid fun W (hW : Below w.heap.size w W) => (index_any l A n c x.parent W B (Nat.le_trans hB hW.size) (h.below (hW.mono hB)) G.kids.rise G.kids.ids (by rw [← hyi]; unfold I64; omega))
  rw [hxp] at HI1
  rw [hyp] at HI2
  have hpn : p < n := by have := (List.getElem?_eq_some_iff.1 hx).1; have := h.len.1; omega
  have hqn : q < n := by have := (List.getElem?_eq_some_iff.1 hy).1; have := h.len.1; omega
  have hbg : n * 80 ≤ 140737488351232 := h.len.2.2
  have HEI : Hid (invO l o = if o.kind = 2 then (if 0 < x.props.length then (zO, 11) else (⟨1, o.id, x.parent, ixOf y.kids o.id, 0, 0, x.text, ⟨#[]⟩, zV⟩, 0)) else if o.kind = 3 then (⟨3, o.id, x.parent, ixOf y.kids o.id, 0, 0, ⟨#[]⟩, ⟨#[]⟩, zV⟩, 0) else if o.kind = 4 then (⟨4, o.id, 0, 0, o.from_, o.from_ + o.text.size, x.text.extract o.from_.toNat o.to_.toNat, ⟨#[]⟩, zV⟩, 0) else (⟨5, o.id, 0, 0, 0, 0, ⟨#[]⟩, o.name, getP x.props o.name⟩, 0)) := by
    show _ = _
    unfold invO
    rw [if_neg hk1, blkAt_of hxp hx, blkAt_of hyp hy]
  obtain ⟨b, off, Kx, nkx, ckx, Px, npx, cpx, rfl, hbb, g0, g1, g2, g3, g4, hKx, hPx⟩ := h.at_ hx
  obtain ⟨b', off', Ak, nk, ck, Py, npy, cpy, e, _, y0, y1, y2, _, _, hK, _⟩ := h.at_ hy
  have e : b = b' ∧ off = off' := by injection e with e; injection e with e1 e2; exact ⟨e1, e2⟩
  obtain ⟨rfl, rfl⟩ := e
  have HIX := Lib.hid fun W (hW : Below w.heap.size w W) => (indexI_any y.kids Ak nk ck o.id W B (hK.below (hW.mono hB)))
  have hnp := hPx.len
  have HNP : Hid (npx = x.props.length) := hnp.1
  have HPX := Lib.hid hPx
  have htx := txt_size (G.tree.loc _ (List.mem_of_getElem? hx)).1
  have hcpx := (G.tree.loc _ (List.mem_of_getElem? hx)).2.2
  have Y2 := Lib.hid y2
  have i0 : (0 : Int) ≤ (p : Int) := by omega
  have i1 : (p : Int) < (n : Int) := by omega
  have i2 : (0 : Int) ≤ (q : Int) := by omega
  have i3 : (q : Int) < (n : Int) := by omega
  have HF : Hid ((o.kind = 2 ∨ o.kind = 3 ∨ o.kind = 4 ∨ o.kind = 5) ∧ (o.kind = 4 → edErr x.text o.text o.from_ o.to_ = 0)) := by
    have hinj : ∀ z, z ∈ l → z.id = o.id → z = x := fun z hz e => G.kids.rise.inj hz (List.mem_of_getElem? hx) (by rw [e, hxi])
    cases F with
    | ins h => exact absurd h hk1
    | rem h => exact ⟨by omega, fun e => by omega⟩
    | mov h => exact ⟨by omega, fun e => by omega⟩
    | edit h p2 x2 hx2 hx2i he => exact ⟨by omega, fun _ => by rw [← hinj x2 (List.mem_of_getElem? hx2) hx2i]; exact he⟩
    | set h => exact ⟨by omega, fun e => by omega⟩
  have HOI := Lib.hid hoi
  obtain ⟨xid, xpar, xks, xtx, xps⟩ := x
  have hk1' : (o.kind == 1) = false := by simpa using hk1
  obtain ⟨ix, hix⟩ : ∃ ix, ix = ixOf y.kids o.id := ⟨_, rfl⟩
  rw [← hix] at HIX HEI
  dsimp only at HEI HI2 hnp HNP HPX htx g0 g1 g2 g3 g4 HF hcpx
  obtain ⟨wb, hwb⟩ : ∃ wb, wb = (w.alloc (.cells (opC o (.slice Av nv cv)) 31)).alloc (.cells #[.int .i64 0, .int .i64 0, .int .i64 0, .int .i64 0, .int .i64 0, .int .i64 0, .string ⟨#[]⟩, .string ⟨#[]⟩, .int .i64 0, .int .i64 0, .int .i64 0, .string ⟨#[]⟩, .slice none 0 0] 31) := ⟨_, rfl⟩
  have HWB0 : Hid (Below w.heap.size w wb) := by rw [hwb]; exact ((Below.refl _ _).alloc (Nat.le_refl _) _).alloc (by simp) _
  have P0 : Hid (Blk wb w.heap.size 31 (opC o (.slice Av nv cv))) := by rw [hwb]; exact (Blk.new _ _ _).alloc _
  have R0 : Hid (Blk wb (w.heap.size + 1) 31 #[.int .i64 0, .int .i64 0, .int .i64 0, .int .i64 0, .int .i64 0, .int .i64 0, .string ⟨#[]⟩, .string ⟨#[]⟩, .int .i64 0, .int .i64 0, .int .i64 0, .string ⟨#[]⟩, .slice none 0 0]) := by
    show Blk _ _ _ _
    rw [hwb]
    have h := Blk.new (w.alloc (.cells (opC o (.slice Av nv cv)) 31)) 31 #[.int .i64 0, .int .i64 0, .int .i64 0, .int .i64 0, .int .i64 0, .int .i64 0, .string ⟨#[]⟩, .string ⟨#[]⟩, .int .i64 0, .int .i64 0, .int .i64 0, .string ⟨#[]⟩, .slice none 0 0]
    simpa only [World.size_alloc] using h
  have HWB := Lib.hid hwb
  have G0 := Lib.hid g0
  have G1 := Lib.hid g1
  have G2 := Lib.hid g2
  have G3 := Lib.hid g3
  have G4 := Lib.hid g4
  have HTX := Lib.hid htx
  have HCP := Lib.hid hcpx
  dsimp only [AO]
  have HK := Lib.hid hk
  clear hk F hx hxi hy hyi hxp hyp hpar h hoi he hk1 hKx hPx hK hnp htx hcpx y0 y1 y2 g0 g1 g2 g3 g4 hix hwb G
  go_enter Tryz.func94, Tryz.ntmps94
  go_upto_region 1 with fail
  rw [← HWB.out]
  have e0 := fun i => P0.out.cell i
  go_wp2_with fail
  refine (HI1.out wb HWB0.out).mono ?_
  rintro e w1 ⟨rfl, hb1⟩
  have HB1 : Hid (Below w.heap.size w w1) := HWB0.out.trans (hb1.mono HWB0.out.size)
  have P1 := Lib.hid (P0.out.below hb1 P0.out.lt)
  have R1 := Lib.hid (R0.out.below hb1 R0.out.lt)
  clear hb1 e0
  have g0 : w1.cell? ⟨b, off + p * 5, none⟩ = some (.int .i64 xid) := (HB1.out.cell (p := ⟨b, off + p * 5, none⟩) (by show b < _; omega)).trans G0.out
  have g1 : w1.cell? ⟨b, off + p * 5 + 1, none⟩ = some (.int .i64 xpar) := (HB1.out.cell (p := ⟨b, off + p * 5 + 1, none⟩) (by show b < _; omega)).trans G1.out
  have g2 : w1.cell? ⟨b, off + p * 5 + 2, none⟩ = some (.slice Kx nkx ckx) := (HB1.out.cell (p := ⟨b, off + p * 5 + 2, none⟩) (by show b < _; omega)).trans G2.out
  have g3 : w1.cell? ⟨b, off + p * 5 + 3, none⟩ = some (.string xtx) := (HB1.out.cell (p := ⟨b, off + p * 5 + 3, none⟩) (by show b < _; omega)).trans G3.out
  have g4 : w1.cell? ⟨b, off + p * 5 + 4, none⟩ = some (.slice Px npx cpx) := (HB1.out.cell (p := ⟨b, off + p * 5 + 4, none⟩) (by show b < _; omega)).trans G4.out
  obtain ⟨wk, hwc⟩ : ∃ wk, wk = w1.alloc (.cells #[.int .i64 xid, .int .i64 xpar, .slice Kx nkx ckx, .string xtx, .slice Px npx cpx] 38) := ⟨_, rfl⟩
  have hbc : Below w1.heap.size w1 wk := by rw [hwc]; exact (Below.refl _ _).alloc (Nat.le_refl _) _
  have S2 : Hid (Blk wk w1.heap.size 38 #[.int .i64 xid, .int .i64 xpar, .slice Kx nkx ckx, .string xtx, .slice Px npx cpx]) := by rw [hwc]; exact Blk.new _ _ _
  have HBC : Hid (Below w.heap.size w wk) := HB1.out.trans (hbc.mono HB1.out.size)
  have P2 := Lib.hid (P1.out.below hbc P1.out.lt)
  have R2 := Lib.hid (R1.out.below hbc R1.out.lt)
  have hz1 := HB1.out.size
  have hz2 := S2.out.lt
  have HWC := Lib.hid hwc
  clear hbc hwc
  go_upto_region 4 with fail
  rw [← HWC.out]
  clear g0 g1 g2 g3 g4
  have KS : Hid (∀ W, Below wk.heap.size wk W → (∀ i, W.cell? ⟨w1.heap.size, i, none⟩ = (#[.int .i64 xid, .int .i64 xpar, .slice Kx nkx ckx, .string xtx, .slice Px npx cpx] : Array Value)[i]?) ∧ (∀ i, W.cell? ⟨w.heap.size, i, none⟩ = (opC o (.slice Av nv cv))[i]?) ∧ W.cell? ⟨b, off + q * 5 + 2, none⟩ = some (.slice Ak nk ck)) := fun W hW => ⟨fun i => (S2.out.below hW S2.out.lt).cell i, fun i => (P2.out.below hW P2.out.lt).cell i, ((HBC.out.trans (hW.mono HBC.out.size)).cell (p := ⟨b, off + q * 5 + 2, none⟩) (by show b < _; omega)).trans Y2.out⟩
  have hzc : w.heap.size ≤ wk.heap.size := HBC.out.size
  have HI3 : Hid (∀ W, Below wk.heap.size wk W → Calls Tryz.prog 105 #[.slice (some ⟨b, off, none⟩) n c, .int .i64 xpar] W fun e w' => e = .returned (.int .i64 (q : Int)) ∧ Below wk.heap.size wk w') := fun W hW => (HI2.out W (HBC.out.trans (hW.mono hzc))).mono fun e w' h => ⟨h.1, hW.trans (h.2.mono hW.size)⟩
  have HIX3 : Hid (∀ W, Below wk.heap.size wk W → Calls Tryz.prog 16 #[.slice Ak nk ck, .int .i64 o.id] W fun e w' => e = .returned (.int .i64 ix) ∧ w' = W) := fun W hW => HIX.out W (HBC.out.trans (hW.mono hzc))
  have QC : Hid (Below wk.heap.size wk wk.drew) := (Below.refl _ _).drew
  obtain ⟨s1, s2, s3⟩ := KS.out wk (Below.refl _ _)
  go_cut [7] (fun s7 wd => s7 = .int .i64 ix ∧ Hid (Below wk.heap.size wk wd))
  case first =>
    go_region_with (first
      | (go_at_call 105; refine (HI3.out _ QC.out).mono ?_; rintro e w9 ⟨rfl, hb9⟩; have HB9 := Lib.hid hb9; obtain ⟨t1, t2, t3⟩ := KS.out w9 hb9; clear hb9)
      | (go_at_call 16; refine (HIX3.out _ HB9.out).mono ?_; rintro e w10 ⟨rfl, rfl⟩))
    all_goals
      go_wp2_with fail
      go_meet
      exact ⟨rfl, HB9.out⟩
  case rest =>
  obtain ⟨rfl, hbd⟩ := hcut
  obtain ⟨wy, rfl⟩ : ∃ wy, wy = wc := ⟨_, rfl⟩
  clear s1 s2 s3
  obtain ⟨s1, s2, s3⟩ := KS.out wy hbd.out
  have RD := Lib.hid (R2.out.below hbd.out R2.out.lt)
  have HBD : Hid (Below w.heap.size w wy) := HBC.out.trans (hbd.out.mono hzc)
  have rd := fun i => RD.out.cell i
  have fd := fun i => RD.out.frozen i
  have hg1 : w.heap.size ≤ w.heap.size + 1 := Nat.le_succ _
  have HFF := HF.out
  obtain ⟨ok, oi, op, oa, of, ot, ox, on, ⟨vk, vi, vt, vs, vl⟩⟩ := o
  dsimp only [opC, Vl.kind, Vl.int_, Vl.to_, Vl.text] at s2 HFF HEI
  obtain ⟨hkd, hed⟩ := HFF
  clear HF hkd
  have hk := HK.out
  obtain rfl : ok = 4 := hk
  have HE : Hid (invO l ⟨4, oi, op, oa, of, ot, ox, on, ⟨vk, vi, vt, vs, vl⟩⟩ = (⟨4, oi, 0, 0, of, of + ox.size, xtx.extract of.toNat ot.toNat, ⟨#[]⟩, zV⟩, 0)) := by
    show _ = _
    rw [HEI.out, if_neg (by decide), if_neg (by decide), if_pos rfl]
  obtain ⟨T, hT⟩ : ∃ T, T = xtx.extract of.toNat ot.toNat := ⟨_, rfl⟩
  have HED : Hid (∀ W, Below wy.heap.size wy W → Calls Tryz.prog 124 #[AO (⟨4, oi, op, oa, of, ot, ox, on, ⟨vk, vi, vt, vs, vl⟩⟩, .slice Av nv cv)] W fun e w' => e = .returned (.agg #[.int .i64 of, .int .i64 ot, .string ox]) ∧ Below W.heap.size W w') := fun W _ => editOf_any _ Av nv cv W
  have hox : ox.size ≤ 140737488351232 := HOI.out.2.2.2.2.2
  have hxz : xtx.size ≤ 140737488351232 := by have := HTX.out; omega
  have HINV : Hid (∀ W, Below wy.heap.size wy W → Calls Tryz.prog 144 #[.string xtx, .agg #[.int .i64 of, .int .i64 ot, .string ox]] W fun e w' => e = .returned (.tuple #[.agg #[.int .i64 of, .int .i64 (of + ox.size), .string T], .int .i64 0]) ∧ Below W.heap.size W w') := fun W _ => (inverse_ok xtx ox of ot W hxz hox (hed rfl)).mono fun e w' h => ⟨by rw [hT]; exact h.1, h.2⟩
  rw [← hT] at HE
  dsimp only [AO, Vl.kind, Vl.int_, Vl.to_, Vl.text] at HED
  clear hT hox hxz hed
  have QA : Hid (Below wy.heap.size wy wy.drew) := (Below.refl _ _).drew
  have QB : Hid (Below wy.heap.size wy (wy.alloc (.cells #[.int .i64 0, .int .i64 0, .string ⟨#[]⟩] 105)).drew) := ((Below.refl _ _).alloc (Nat.le_refl _) _).drew
  have PB : Hid (Blk (wy.alloc (.cells #[.int .i64 0, .int .i64 0, .string ⟨#[]⟩] 105)).drew wy.heap.size 105 #[.int .i64 0, .int .i64 0, .string ⟨#[]⟩]) := (Blk.new wy _ _).drew
  have P3 : Hid (Blk wy w.heap.size 31 #[.int .i64 4, .int .i64 oi, .int .i64 op, .int .i64 oa, .int .i64 of, .int .i64 ot, .string ox, .string on, .int .i64 vk, .int .i64 vi, .int .i64 vt, .string vs, .slice Av nv cv]) := P2.out.below hbd.out P2.out.lt
  obtain ⟨p0, p1, p2, p3, p4, p5, p6, p7, p8, p9, p10, p11, p12⟩ := op_cells P3.out
  obtain ⟨m0, m1, m2, m3, m4, m5, m6, m7, m8, m9, m10, m11, m12⟩ := op_cells (P3.out.alloc (.cells #[.int .i64 0, .int .i64 0, .string ⟨#[]⟩] 105))
  have b3 := s1 3
  have hzd := hbd.out.size
  have b4 := (KS.out (wy.alloc (.cells #[.int .i64 0, .int .i64 0, .string ⟨#[]⟩] 105)) (hbd.out.alloc hbd.out.size _)).1 3
  go_upto_region 13 with fail
  go_cut [8, 9] (fun s8 s9 wd => ∃ be, s8 = .pointer (some ⟨be, 0, none⟩) ∧ s9 = .int .i64 0 ∧ Hid (Blk wd be 105 #[.int .i64 of, .int .i64 (of + ox.size), .string T]) ∧ Hid (Below wy.heap.size wy wd))
  case first =>
    go_region_with (first
      | (go_at_call 124; (with_reducible refine (HED.out wy.drew QA.out).mono ?_); rintro e w9 ⟨rfl, hb9⟩; have HB9 : Hid (Below wy.heap.size wy w9) := QA.out.trans (hb9.mono QA.out.size); obtain ⟨t1, t2, t3⟩ := KS.out w9 (hbd.out.trans (HB9.out.mono hbd.out.size)); have c3 := t1 3; have c4 := (KS.out (w9.alloc (.cells #[.int .i64 0, .int .i64 0, .string ⟨#[]⟩] 105)) ((hbd.out.trans (HB9.out.mono hbd.out.size)).alloc (Nat.le_trans hbd.out.size HB9.out.size) _)).1 3; have hz9 := HB9.out.size; clear hb9)
      | (go_at_call 124; (with_reducible refine (HED.out _ QB.out).mono ?_); rintro e w9 ⟨rfl, hb9⟩; have HB9 : Hid (Below wy.heap.size wy w9) := QB.out.trans (hb9.mono QB.out.size); have PB9 := Lib.hid (PB.out.below hb9 PB.out.lt); obtain ⟨t1, t2, t3⟩ := KS.out w9 (hbd.out.trans (HB9.out.mono hbd.out.size)); have c3 := t1 3; have c4 := (KS.out (w9.alloc (.cells #[.int .i64 0, .int .i64 0, .string ⟨#[]⟩] 105)) ((hbd.out.trans (HB9.out.mono hbd.out.size)).alloc (Nat.le_trans hbd.out.size HB9.out.size) _)).1 3; have hz9 := HB9.out.size; clear hb9)
      | (go_at_call 144; (with_reducible refine (HINV.out w9 HB9.out).mono ?_); rintro e w10 ⟨rfl, hb10⟩; have HB10 : Hid (Below wy.heap.size wy w10) := HB9.out.trans (hb10.mono HB9.out.size); have hz10 := hb10.size; have PB10 := Lib.hid (PB9.out.below hb10 PB9.out.lt); have x0 := fun i => PB10.out.cell i; have x1 := fun i => PB10.out.frozen i; clear hb10)
      | (go_at_call 144; (with_reducible refine (HINV.out w9 HB9.out).mono ?_); rintro e w10 ⟨rfl, hb10⟩; have HB10 : Hid (Below wy.heap.size wy w10) := HB9.out.trans (hb10.mono HB9.out.size); have hz10 := hb10.size; clear hb10)
      | (go_at_call 144; (with_reducible refine (HINV.out (w9.alloc (.cells #[.int .i64 0, .int .i64 0, .string ⟨#[]⟩] 105)) (HB9.out.alloc HB9.out.size _)).mono ?_); rintro e w10 ⟨rfl, hb10⟩; have HB10 : Hid (Below wy.heap.size wy w10) := (HB9.out.alloc HB9.out.size (.cells #[.int .i64 0, .int .i64 0, .string ⟨#[]⟩] 105)).trans (hb10.mono (Nat.le_trans HB9.out.size (by simp))); have hz10 := HB10.out.size; have PB10 := Lib.hid ((Blk.new w9 105 #[.int .i64 0, .int .i64 0, .string ⟨#[]⟩]).below hb10 (by simp)); have x0 := fun i => PB10.out.cell i; have x1 := fun i => PB10.out.frozen i; clear hb10))
    all_goals
      go_wp2_with fail
      go_meet
      first
        | exact ⟨w9.heap.size, rfl, rfl, (((PB10.out.set_ 0 _).set_ 1 _).set_ 2 _), ((HB10.out.setCell (p := ⟨w9.heap.size, 0, none⟩) HB9.out.size _).setCell (p := ⟨w9.heap.size, 1, none⟩) HB9.out.size _).setCell (p := ⟨w9.heap.size, 2, none⟩) HB9.out.size _⟩
        | exact ⟨wy.heap.size, rfl, rfl, (((PB10.out.set_ 0 _).set_ 1 _).set_ 2 _), ((HB10.out.setCell (p := ⟨wy.heap.size, 0, none⟩) (Nat.le_refl _) _).setCell (p := ⟨wy.heap.size, 1, none⟩) (Nat.le_refl _) _).setCell (p := ⟨wy.heap.size, 2, none⟩) (Nat.le_refl _) _⟩
        | exact ⟨w10.heap.size, rfl, rfl, Blk.new w10 _ _, HB10.out.alloc HB10.out.size _⟩
  case rest =>
  obtain ⟨be, rfl, rfl, hblk, hbe⟩ := hcut
  clear s1 s2 s3 rd fd p0 p1 p2 p3 p4 p5 p6 p7 p8 p9 p10 p11 p12 m0 m1 m2 m3 m4 m5 m6 m7 m8 m9 m10 m11 m12 b3 b4 hzd
  have HBZ : Hid (Below wk.heap.size wk wc) := hbd.out.trans (hbe.out.mono hbd.out.size)
  obtain ⟨t1, t2, t3⟩ := KS.out wc HBZ.out
  have RZ := Lib.hid (R2.out.below HBZ.out R2.out.lt)
  have HZZ : Hid (Below w.heap.size w wc) := HBC.out.trans (HBZ.out.mono hzc)
  have rz := fun i => RZ.out.cell i
  have fz := fun i => RZ.out.frozen i
  have vz := fun i => hblk.out.cell i
  dsimp only [opC, Vl.kind, Vl.int_, Vl.to_, Vl.text] at t2
  go_wp2_with fail
  have PF := putO_blk (.int .i64 4) (.int .i64 oi) (.int .i64 0) (.int .i64 0) (.int .i64 of) (.int .i64 (of + ox.size)) (.string T) (.string ⟨#[]⟩) (.int .i64 0) (.int .i64 0) (.int .i64 0) (.string ⟨#[]⟩) (.slice none 0 0) RZ.out rfl
  have HBF := putO_below (.int .i64 4) (.int .i64 oi) (.int .i64 0) (.int .i64 0) (.int .i64 of) (.int .i64 (of + ox.size)) (.string T) (.string ⟨#[]⟩) (.int .i64 0) (.int .i64 0) (.int .i64 0) (.string ⟨#[]⟩) (.slice none 0 0) HZZ.out hg1
  obtain ⟨wf, hF⟩ : ∃ wf, wf = putO wc (w.heap.size + 1) (.int .i64 4) (.int .i64 oi) (.int .i64 0) (.int .i64 0) (.int .i64 of) (.int .i64 (of + ox.size)) (.string T) (.string ⟨#[]⟩) (.int .i64 0) (.int .i64 0) (.int .i64 0) (.string ⟨#[]⟩) (.slice none 0 0) := ⟨_, rfl⟩
  rw [← hF] at PF HBF
  unfold putO at hF
  rw [← hF]
  obtain ⟨r0, r1, r2, r3, r4, r5, r6, r7, r8, r9, r10, r11, r12⟩ := op_cells PF
  rw [HE.out]
  exact bodyPost_ret (v := .tuple #[AO (⟨4, oi, 0, 0, of, of + ox.size, T, ⟨#[]⟩, zV⟩, .slice none 0 0), .int .i64 0]) (by simp [results, Tryz.results94, go_sem, r0, r1, r2, r3, r4, r5, r6, r7, r8, r9, r10, r11, r12, AO, zV, Vl.kind, Vl.int_, Vl.to_, Vl.text]) rfl ⟨⟨none, 0, 0, rfl, RVX.nil _ _⟩, HBF⟩

set_option maxRecDepth 100000 in
set_option maxHeartbeats 8000000 in
theorem inverse_k5 (l : List Bl) (f : Int → Option Int) (G : Good l f) (A : Option Addr) (n c : Nat) (o : Opn) (hk : o.kind = 5) (Av : Option Addr) (nv cv : Nat) (w : World) (B : Nat) (hB : B ≤ w.heap.size) (h : RB w B (.slice A n c) l) (hoi : OI o) (he : opErr l f o = 0) :
    Calls Tryz.prog 94 #[.slice A n c, AO (o, .slice Av nv cv)] w (InvR (invO l o) w) := by
  have F := G.op_facts he
  have hk1 : o.kind ≠ 1 := by omega
  obtain ⟨p, x, hx, hxi⟩ := F.at_ hk1
  obtain ⟨q, y, hy, hyi⟩ := G.par_pos (List.mem_of_getElem? hx)
  have hxp : posOf l o.id = (p : Int) := by rw [← hxi]; exact posOf_of G.kids.rise hx
  have hyp : posOf l x.parent = (q : Int) := by rw [← hyi]; exact posOf_of G.kids.rise hy
  have hpar := G.kids.ids y (List.mem_of_getElem? hy)
  have HI1 := Lib.hid fun W (hW : Below w.heap.size w W) => index_any l A n c o.id W B (Nat.le_trans hB hW.size) (h.below (hW.mono hB)) G.kids.rise G.kids.ids hoi.1
  have HI2 := Lib.hid fun W (hW : Below w.heap.size w W) => (index_any l A n c x.parent W B (Nat.le_trans hB hW.size) (h.below (hW.mono hB)) G.kids.rise G.kids.ids (by rw [← hyi]; unfold I64; omega))
  rw [hxp] at HI1
  rw [hyp] at HI2
  have hpn : p < n := by have := (List.getElem?_eq_some_iff.1 hx).1; have := h.len.1; omega
  have hqn : q < n := by have := (List.getElem?_eq_some_iff.1 hy).1; have := h.len.1; omega
  have hbg : n * 80 ≤ 140737488351232 := h.len.2.2
  have HEI : Hid (invO l o = if o.kind = 2 then (if 0 < x.props.length then (zO, 11) else (⟨1, o.id, x.parent, ixOf y.kids o.id, 0, 0, x.text, ⟨#[]⟩, zV⟩, 0)) else if o.kind = 3 then (⟨3, o.id, x.parent, ixOf y.kids o.id, 0, 0, ⟨#[]⟩, ⟨#[]⟩, zV⟩, 0) else if o.kind = 4 then (⟨4, o.id, 0, 0, o.from_, o.from_ + o.text.size, x.text.extract o.from_.toNat o.to_.toNat, ⟨#[]⟩, zV⟩, 0) else (⟨5, o.id, 0, 0, 0, 0, ⟨#[]⟩, o.name, getP x.props o.name⟩, 0)) := by
    show _ = _
    unfold invO
    rw [if_neg hk1, blkAt_of hxp hx, blkAt_of hyp hy]
  obtain ⟨b, off, Kx, nkx, ckx, Px, npx, cpx, rfl, hbb, g0, g1, g2, g3, g4, hKx, hPx⟩ := h.at_ hx
  obtain ⟨b', off', Ak, nk, ck, Py, npy, cpy, e, _, y0, y1, y2, _, _, hK, _⟩ := h.at_ hy
  have e : b = b' ∧ off = off' := by injection e with e; injection e with e1 e2; exact ⟨e1, e2⟩
  obtain ⟨rfl, rfl⟩ := e
  have HIX := Lib.hid fun W (hW : Below w.heap.size w W) => (indexI_any y.kids Ak nk ck o.id W B (hK.below (hW.mono hB)))
  have hnp := hPx.len
  have HNP : Hid (npx = x.props.length) := hnp.1
  have HPX := Lib.hid hPx
  have htx := txt_size (G.tree.loc _ (List.mem_of_getElem? hx)).1
  have hcpx := (G.tree.loc _ (List.mem_of_getElem? hx)).2.2
  have Y2 := Lib.hid y2
  have i0 : (0 : Int) ≤ (p : Int) := by omega
  have i1 : (p : Int) < (n : Int) := by omega
  have i2 : (0 : Int) ≤ (q : Int) := by omega
  have i3 : (q : Int) < (n : Int) := by omega
  have HF : Hid ((o.kind = 2 ∨ o.kind = 3 ∨ o.kind = 4 ∨ o.kind = 5) ∧ (o.kind = 4 → edErr x.text o.text o.from_ o.to_ = 0)) := by
    have hinj : ∀ z, z ∈ l → z.id = o.id → z = x := fun z hz e => G.kids.rise.inj hz (List.mem_of_getElem? hx) (by rw [e, hxi])
    cases F with
    | ins h => exact absurd h hk1
    | rem h => exact ⟨by omega, fun e => by omega⟩
    | mov h => exact ⟨by omega, fun e => by omega⟩
    | edit h p2 x2 hx2 hx2i he => exact ⟨by omega, fun _ => by rw [← hinj x2 (List.mem_of_getElem? hx2) hx2i]; exact he⟩
    | set h => exact ⟨by omega, fun e => by omega⟩
  have HOI := Lib.hid hoi
  obtain ⟨xid, xpar, xks, xtx, xps⟩ := x
  have hk1' : (o.kind == 1) = false := by simpa using hk1
  obtain ⟨ix, hix⟩ : ∃ ix, ix = ixOf y.kids o.id := ⟨_, rfl⟩
  rw [← hix] at HIX HEI
  dsimp only at HEI HI2 hnp HNP HPX htx g0 g1 g2 g3 g4 HF hcpx
  obtain ⟨wb, hwb⟩ : ∃ wb, wb = (w.alloc (.cells (opC o (.slice Av nv cv)) 31)).alloc (.cells #[.int .i64 0, .int .i64 0, .int .i64 0, .int .i64 0, .int .i64 0, .int .i64 0, .string ⟨#[]⟩, .string ⟨#[]⟩, .int .i64 0, .int .i64 0, .int .i64 0, .string ⟨#[]⟩, .slice none 0 0] 31) := ⟨_, rfl⟩
  have HWB0 : Hid (Below w.heap.size w wb) := by rw [hwb]; exact ((Below.refl _ _).alloc (Nat.le_refl _) _).alloc (by simp) _
  have P0 : Hid (Blk wb w.heap.size 31 (opC o (.slice Av nv cv))) := by rw [hwb]; exact (Blk.new _ _ _).alloc _
  have R0 : Hid (Blk wb (w.heap.size + 1) 31 #[.int .i64 0, .int .i64 0, .int .i64 0, .int .i64 0, .int .i64 0, .int .i64 0, .string ⟨#[]⟩, .string ⟨#[]⟩, .int .i64 0, .int .i64 0, .int .i64 0, .string ⟨#[]⟩, .slice none 0 0]) := by
    show Blk _ _ _ _
    rw [hwb]
    have h := Blk.new (w.alloc (.cells (opC o (.slice Av nv cv)) 31)) 31 #[.int .i64 0, .int .i64 0, .int .i64 0, .int .i64 0, .int .i64 0, .int .i64 0, .string ⟨#[]⟩, .string ⟨#[]⟩, .int .i64 0, .int .i64 0, .int .i64 0, .string ⟨#[]⟩, .slice none 0 0]
    simpa only [World.size_alloc] using h
  have HWB := Lib.hid hwb
  have G0 := Lib.hid g0
  have G1 := Lib.hid g1
  have G2 := Lib.hid g2
  have G3 := Lib.hid g3
  have G4 := Lib.hid g4
  have HTX := Lib.hid htx
  have HCP := Lib.hid hcpx
  dsimp only [AO]
  have HK := Lib.hid hk
  clear hk F hx hxi hy hyi hxp hyp hpar h hoi he hk1 hKx hPx hK hnp htx hcpx y0 y1 y2 g0 g1 g2 g3 g4 hix hwb G
  go_enter Tryz.func94, Tryz.ntmps94
  go_upto_region 1 with fail
  rw [← HWB.out]
  have e0 := fun i => P0.out.cell i
  go_wp2_with fail
  refine (HI1.out wb HWB0.out).mono ?_
  rintro e w1 ⟨rfl, hb1⟩
  have HB1 : Hid (Below w.heap.size w w1) := HWB0.out.trans (hb1.mono HWB0.out.size)
  have P1 := Lib.hid (P0.out.below hb1 P0.out.lt)
  have R1 := Lib.hid (R0.out.below hb1 R0.out.lt)
  clear hb1 e0
  have g0 : w1.cell? ⟨b, off + p * 5, none⟩ = some (.int .i64 xid) := (HB1.out.cell (p := ⟨b, off + p * 5, none⟩) (by show b < _; omega)).trans G0.out
  have g1 : w1.cell? ⟨b, off + p * 5 + 1, none⟩ = some (.int .i64 xpar) := (HB1.out.cell (p := ⟨b, off + p * 5 + 1, none⟩) (by show b < _; omega)).trans G1.out
  have g2 : w1.cell? ⟨b, off + p * 5 + 2, none⟩ = some (.slice Kx nkx ckx) := (HB1.out.cell (p := ⟨b, off + p * 5 + 2, none⟩) (by show b < _; omega)).trans G2.out
  have g3 : w1.cell? ⟨b, off + p * 5 + 3, none⟩ = some (.string xtx) := (HB1.out.cell (p := ⟨b, off + p * 5 + 3, none⟩) (by show b < _; omega)).trans G3.out
  have g4 : w1.cell? ⟨b, off + p * 5 + 4, none⟩ = some (.slice Px npx cpx) := (HB1.out.cell (p := ⟨b, off + p * 5 + 4, none⟩) (by show b < _; omega)).trans G4.out
  obtain ⟨wk, hwc⟩ : ∃ wk, wk = w1.alloc (.cells #[.int .i64 xid, .int .i64 xpar, .slice Kx nkx ckx, .string xtx, .slice Px npx cpx] 38) := ⟨_, rfl⟩
  have hbc : Below w1.heap.size w1 wk := by rw [hwc]; exact (Below.refl _ _).alloc (Nat.le_refl _) _
  have S2 : Hid (Blk wk w1.heap.size 38 #[.int .i64 xid, .int .i64 xpar, .slice Kx nkx ckx, .string xtx, .slice Px npx cpx]) := by rw [hwc]; exact Blk.new _ _ _
  have HBC : Hid (Below w.heap.size w wk) := HB1.out.trans (hbc.mono HB1.out.size)
  have P2 := Lib.hid (P1.out.below hbc P1.out.lt)
  have R2 := Lib.hid (R1.out.below hbc R1.out.lt)
  have hz1 := HB1.out.size
  have hz2 := S2.out.lt
  have HWC := Lib.hid hwc
  clear hbc hwc
  go_upto_region 4 with fail
  rw [← HWC.out]
  clear g0 g1 g2 g3 g4
  have KS : Hid (∀ W, Below wk.heap.size wk W → (∀ i, W.cell? ⟨w1.heap.size, i, none⟩ = (#[.int .i64 xid, .int .i64 xpar, .slice Kx nkx ckx, .string xtx, .slice Px npx cpx] : Array Value)[i]?) ∧ (∀ i, W.cell? ⟨w.heap.size, i, none⟩ = (opC o (.slice Av nv cv))[i]?) ∧ W.cell? ⟨b, off + q * 5 + 2, none⟩ = some (.slice Ak nk ck)) := fun W hW => ⟨fun i => (S2.out.below hW S2.out.lt).cell i, fun i => (P2.out.below hW P2.out.lt).cell i, ((HBC.out.trans (hW.mono HBC.out.size)).cell (p := ⟨b, off + q * 5 + 2, none⟩) (by show b < _; omega)).trans Y2.out⟩
  have hzc : w.heap.size ≤ wk.heap.size := HBC.out.size
  have HI3 : Hid (∀ W, Below wk.heap.size wk W → Calls Tryz.prog 105 #[.slice (some ⟨b, off, none⟩) n c, .int .i64 xpar] W fun e w' => e = .returned (.int .i64 (q : Int)) ∧ Below wk.heap.size wk w') := fun W hW => (HI2.out W (HBC.out.trans (hW.mono hzc))).mono fun e w' h => ⟨h.1, hW.trans (h.2.mono hW.size)⟩
  have HIX3 : Hid (∀ W, Below wk.heap.size wk W → Calls Tryz.prog 16 #[.slice Ak nk ck, .int .i64 o.id] W fun e w' => e = .returned (.int .i64 ix) ∧ w' = W) := fun W hW => HIX.out W (HBC.out.trans (hW.mono hzc))
  have QC : Hid (Below wk.heap.size wk wk.drew) := (Below.refl _ _).drew
  obtain ⟨s1, s2, s3⟩ := KS.out wk (Below.refl _ _)
  go_cut [7] (fun s7 wd => s7 = .int .i64 ix ∧ Hid (Below wk.heap.size wk wd))
  case first =>
    go_region_with (first
      | (go_at_call 105; refine (HI3.out _ QC.out).mono ?_; rintro e w9 ⟨rfl, hb9⟩; have HB9 := Lib.hid hb9; obtain ⟨t1, t2, t3⟩ := KS.out w9 hb9; clear hb9)
      | (go_at_call 16; refine (HIX3.out _ HB9.out).mono ?_; rintro e w10 ⟨rfl, rfl⟩))
    all_goals
      go_wp2_with fail
      go_meet
      exact ⟨rfl, HB9.out⟩
  case rest =>
  obtain ⟨rfl, hbd⟩ := hcut
  obtain ⟨wy, rfl⟩ : ∃ wy, wy = wc := ⟨_, rfl⟩
  clear s1 s2 s3
  obtain ⟨s1, s2, s3⟩ := KS.out wy hbd.out
  have RD := Lib.hid (R2.out.below hbd.out R2.out.lt)
  have HBD : Hid (Below w.heap.size w wy) := HBC.out.trans (hbd.out.mono hzc)
  have rd := fun i => RD.out.cell i
  have fd := fun i => RD.out.frozen i
  have hg1 : w.heap.size ≤ w.heap.size + 1 := Nat.le_succ _
  have HFF := HF.out
  obtain ⟨ok, oi, op, oa, of, ot, ox, on, ⟨vk, vi, vt, vs, vl⟩⟩ := o
  dsimp only [opC, Vl.kind, Vl.int_, Vl.to_, Vl.text] at s2 HFF HEI
  obtain ⟨hkd, hed⟩ := HFF
  clear HF hkd
  have hk := HK.out
  obtain rfl : ok = 5 := hk
  have HE : Hid (invO l ⟨5, oi, op, oa, of, ot, ox, on, ⟨vk, vi, vt, vs, vl⟩⟩ = (⟨5, oi, 0, 0, 0, 0, ⟨#[]⟩, on, getP xps on⟩, 0)) := by
    show _ = _
    rw [HEI.out, if_neg (by decide), if_neg (by decide), if_neg (by decide)]
  have HGET := Lib.hid (getP_any xps Px npx cpx on wy B (Nat.le_trans hB HBD.out.size) (HPX.out.below (HBD.out.mono hB)))
  obtain ⟨G, hG⟩ : ∃ G, G = getP xps on := ⟨_, rfl⟩
  unfold GetPR at HGET
  rw [← hG] at HGET HE
  obtain ⟨gk, gi, gt, gs, gl⟩ := G
  dsimp only [AV, Vl.kind, Vl.int_, Vl.to_, Vl.text, Vl.items] at HGET
  clear hG hed
  go_wp2_with fail
  refine HGET.out.mono ?_
  rintro e w5 ⟨⟨A5, n5, c5, rfl, hrv5⟩, hb5⟩
  have HB5 : Hid (Below wk.heap.size wk w5) := hbd.out.trans (hb5.mono hbd.out.size)
  obtain ⟨w6, hw6⟩ : ∃ w6, w6 = w5.alloc (.cells #[.int .i64 gk, .int .i64 gi, .int .i64 gt, .string gs, .slice A5 n5 c5] 29) := ⟨_, rfl⟩
  have HB6 : Hid (Below wk.heap.size wk w6) := by rw [hw6]; exact HB5.out.alloc HB5.out.size _
  have V6 : Hid (Blk w6 w5.heap.size 29 #[.int .i64 gk, .int .i64 gi, .int .i64 gt, .string gs, .slice A5 n5 c5]) := by rw [hw6]; exact Blk.new _ _ _
  have HV6 : Hid (RV w6 w6.heap.size (.slice A5 n5 c5) gl) := by
    show RV _ _ _ _
    rw [hw6]
    exact ((hrv5.reads (B := w5.heap.size) fun b hb => hb.2).below ((Below.refl _ _).alloc (Nat.le_refl _) _)).more (by simp)
  have HCV : Hid (∀ W, Below w6.heap.size w6 W → Calls Tryz.prog 92 #[.agg #[.int .i64 gk, .int .i64 gi, .int .i64 gt, .string gs, .slice A5 n5 c5]] W fun e w' => (∃ A n c, e = .returned (.agg #[.int .i64 gk, .int .i64 gi, .int .i64 gt, .string gs, .slice A n c]) ∧ RVX w' (fun b => w6.heap.size ≤ b ∧ b < w'.heap.size) (.slice A n c) gl) ∧ Below w6.heap.size w6 w') := fun W hW => by
    obtain ⟨d, hd⟩ := HV6.out
    refine (copyValue_any d (Vl.mk gk gi gt gs gl, .slice A5 n5 c5) W w6.heap.size hW.size (hd.below hW)).mono ?_
    rintro e w' ⟨⟨A, n, c, h1, h2⟩, h3⟩
    exact ⟨⟨A, n, c, h1, h2.weak fun b hb => ⟨Nat.le_trans hW.size hb.1, hb.2⟩⟩, hW.trans (h3.mono hW.size)⟩
  have HRW : Hid (∀ W, Below w6.heap.size w6 W → (∀ i, W.cell? ⟨w.heap.size, i, none⟩ = (#[.int .i64 5, .int .i64 oi, .int .i64 op, .int .i64 oa, .int .i64 of, .int .i64 ot, .string ox, .string on, .int .i64 vk, .int .i64 vi, .int .i64 vt, .string vs, .slice Av nv cv] : Array Value)[i]?) ∧ Blk W (w.heap.size + 1) 31 #[.int .i64 0, .int .i64 0, .int .i64 0, .int .i64 0, .int .i64 0, .int .i64 0, .string ⟨#[]⟩, .string ⟨#[]⟩, .int .i64 0, .int .i64 0, .int .i64 0, .string ⟨#[]⟩, .slice none 0 0] ∧ Below w.heap.size w W) := fun W hW => by
    have hb := HB6.out.trans (hW.mono HB6.out.size)
    exact ⟨(KS.out W hb).2.1, R2.out.below hb R2.out.lt, HBC.out.trans (hb.mono hzc)⟩
  have hz6 : w.heap.size + 1 < w6.heap.size := Nat.lt_of_lt_of_le R2.out.lt HB6.out.size
  obtain ⟨q2, _, _⟩ := HRW.out w6 (Below.refl _ _)
  have HW6 := Lib.hid hw6
  have v6 := fun i => V6.out.cell i
  clear hrv5 hb5 hw6 s1 s2 s3 rd fd
  go_upto_region 16 with fail
  rw [← HW6.out]
  go_region_with (go_at_call 92; refine (HCV.out _ (by first | with_reducible exact (Below.refl _ _).drew | with_reducible exact Below.refl _ _ | exact (Below.refl _ _).drew)).mono ?_; rintro e w9 ⟨⟨A6, n6, c6, rfl, hrv9⟩, hb9⟩; have HRV9 := Lib.hid hrv9; have HB9 := Lib.hid hb9; obtain ⟨r2, r3, r4⟩ := HRW.out w9 hb9; have R9 := Lib.hid r3; have H9 := Lib.hid r4; have r5 := fun i => R9.out.cell i; have r6 := fun i => R9.out.frozen i; clear hrv9 hb9 r3 r4)
  all_goals
    go_wp2_with fail
    have PF := putO_blk (.int .i64 5) (.int .i64 oi) (.int .i64 0) (.int .i64 0) (.int .i64 0) (.int .i64 0) (.string ⟨#[]⟩) (.string on) (.int .i64 gk) (.int .i64 gi) (.int .i64 gt) (.string gs) (.slice A6 n6 c6) R9.out rfl
    have HBF := putO_below (.int .i64 5) (.int .i64 oi) (.int .i64 0) (.int .i64 0) (.int .i64 0) (.int .i64 0) (.string ⟨#[]⟩) (.string on) (.int .i64 gk) (.int .i64 gi) (.int .i64 gt) (.string gs) (.slice A6 n6 c6) H9.out hg1
    obtain ⟨wf, hF⟩ : ∃ wf, wf = putO w9 (w.heap.size + 1) (.int .i64 5) (.int .i64 oi) (.int .i64 0) (.int .i64 0) (.int .i64 0) (.int .i64 0) (.string ⟨#[]⟩) (.string on) (.int .i64 gk) (.int .i64 gi) (.int .i64 gt) (.string gs) (.slice A6 n6 c6) := ⟨_, rfl⟩
    rw [← hF] at PF HBF
    have hzf : wf.heap.size = w9.heap.size := by rw [hF, putO_size]
    have HRV : Hid (RVX wf (fun b => w.heap.size ≤ b ∧ b < wf.heap.size) (.slice A6 n6 c6) gl) := by
      show RVX _ _ _ _
      rw [hzf]
      exact (HRV9.out.keep (w' := wf) fun p hp => by rw [hF]; exact putO_cell _ _ _ _ _ _ _ _ _ _ _ _ _ _ _ p (by have := hp.1; omega)).weak fun b hb => ⟨by have := hb.1; omega, hb.2⟩
    unfold putO at hF
    rw [← hF]
    obtain ⟨r0, r1, r2, r3, r4, r5, r6, r7, r8, r9, r10, r11, r12⟩ := op_cells PF
    rw [HE.out]
    exact bodyPost_ret (v := .tuple #[AO (⟨5, oi, 0, 0, 0, 0, ⟨#[]⟩, on, ⟨gk, gi, gt, gs, gl⟩⟩, .slice A6 n6 c6), .int .i64 0]) (by simp [results, Tryz.results94, go_sem, r0, r1, r2, r3, r4, r5, r6, r7, r8, r9, r10, r11, r12, AO, Vl.kind, Vl.int_, Vl.to_, Vl.text]) rfl ⟨⟨A6, n6, c6, rfl, HRV.out⟩, HBF⟩
end Go.Proofs.YtmkicfjcgbfaaaaGreat
