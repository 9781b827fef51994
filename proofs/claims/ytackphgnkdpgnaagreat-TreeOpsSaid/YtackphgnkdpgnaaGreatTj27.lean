/-
  DERIVED. The walks of the reference's SameOp at equal operations, and position. Conditions: sizes.
  The walk of the reference's InverseOf, kinds 1. Conditions: sizes; an operation without error.
  The walk of the reference's InverseOf, kinds 2. Conditions: sizes; an operation without error.
  The walk of the reference's InverseOf, kinds 3. Conditions: sizes; an operation without error.
  By an AI agent.
-/
import Derived.Test.YtackphgnkdpgnaaGreatTj09
import Derived.Test.YtackphgnkdpgnaaGreatTj26
import Derived.Test.YtackphgnkdpgnaaGreatTj10
import Derived.Test.YtackphgnkdpgnaaGreatTj18
import Derived.Test.YtackphgnkdpgnaaGreatTj25
namespace Go.Proofs.YtackphgnkdpgnaaGreat
open Go.RowKit

set_option maxRecDepth 100000 in
set_option maxHeartbeats 4000000 in
/-- the reference's SameOp at one operation -/
theorem sameOp_any (o : Opn) (A A' : Option Addr) (n c n' c' : Nat) (w : World) (B : Nat) (hB : B ≤ w.heap.size) (h1 : RV w B (.slice A n c) o.val.items) (h2 : RV w B (.slice A' n' c') o.val.items) :
    Calls Tryz.prog 9 #[AO (o, .slice A n c), AO (o, .slice A' n' c')] w fun e w' => e = .returned (.bool true) ∧ Below w.heap.size w w' := by
  have HS := Lib.hid fun W (hW : Below w.heap.size w W) => sameRef_at o.val o.val A A' n c n' c' W B (Nat.le_trans hB hW.size) (h1.below (hW.mono hB)) (h2.below (hW.mono hB))
  rw [sameV_refl] at HS
  obtain ⟨ok, oi, op, oa, of, ot, ox, on, ⟨vk, vi, vt, vs, vl⟩⟩ := o
  dsimp only [AO, AV, Vl.kind, Vl.int_, Vl.to_, Vl.text] at HS ⊢
  have HB2 : Hid (Below w.heap.size w ((w.alloc (.cells #[.int .i64 ok, .int .i64 oi, .int .i64 op, .int .i64 oa, .int .i64 of, .int .i64 ot, .string ox, .string on, .int .i64 vk, .int .i64 vi, .int .i64 vt, .string vs, .slice A n c] 32)).alloc (.cells #[.int .i64 ok, .int .i64 oi, .int .i64 op, .int .i64 oa, .int .i64 of, .int .i64 ot, .string ox, .string on, .int .i64 vk, .int .i64 vi, .int .i64 vt, .string vs, .slice A' n' c'] 32))) := ((Below.refl _ _).alloc (Nat.le_refl _) _).alloc (by simp) _
  clear h1 h2
  go_enter Tryz.func9, Tryz.ntmps9
  go_wp2_with fail
  refine (HS.out _ HB2.out).mono ?_
  rintro e w2 ⟨rfl, hb⟩
  have HB3 : Hid (Below w.heap.size w w2) := HB2.out.trans (hb.mono HB2.out.size)
  clear hb
  go_wp2_with fail
  go_ret
  exact ⟨rfl, HB3.out⟩

set_option maxRecDepth 100000 in
set_option maxHeartbeats 4000000 in
/-- the reference's position -/
theorem position_any (l : List Bl) (A : Option Addr) (n c : Nat) (id : Int) (p q : Nat) (x y : Bl) (w : World) (B : Nat) (hB : B ≤ w.heap.size) (h : RB w B (.slice A n c) l) (hr : Rise l) (hx : l[p]? = some x) (hxi : x.id = id) (hy : l[q]? = some y) (hyi : y.id = x.parent) (hin : id ∈ y.kids) :
    Calls Tryz.prog 34 #[.slice A n c, .int .i64 id] w fun e w' => e = .returned (.int .i64 (ixOf y.kids id)) ∧ Below w.heap.size w w' := by
  have HA1 := Lib.hid fun W (hW : Below w.heap.size w W) => at_any l A n c id W B (Nat.le_trans hB hW.size) (h.below (hW.mono hB))
  have HA2 := Lib.hid fun W (hW : Below w.heap.size w W) => at_any l A n c x.parent W B (Nat.le_trans hB hW.size) (h.below (hW.mono hB))
  rw [show posOf l id = (p : Int) by rw [← hxi]; exact posOf_of hr hx] at HA1
  rw [show posOf l x.parent = (q : Int) by rw [← hyi]; exact posOf_of hr hy] at HA2
  have hpn : p < n := by have := (List.getElem?_eq_some_iff.1 hx).1; have := h.len.1; omega
  have hqn : q < n := by have := (List.getElem?_eq_some_iff.1 hy).1; have := h.len.1; omega
  have hbg : n * 80 ≤ 140737488351232 := h.len.2.2
  obtain ⟨b, off, _, _, _, _, _, _, rfl, hbb, _, g1, _⟩ := h.at_ hx
  obtain ⟨b', off', Ak, nk, ck, _, _, _, e, _, _, _, g2, _, _, hK, _⟩ := h.at_ hy
  have e : b = b' ∧ off = off' := by injection e with e; injection e with e1 e2; exact ⟨e1, e2⟩
  obtain ⟨rfl, rfl⟩ := e
  have hnk := hK.len
  have G1 := Lib.hid g1
  have G2 := Lib.hid g2
  have HK := Lib.hid hK
  have HV : Hid (ixOf y.kids id = ixFrom (y.kids.drop 0) id 0) := rfl
  obtain ⟨V, hV⟩ : ∃ V, V = ixOf y.kids id := ⟨_, rfl⟩
  rw [← hV] at HV ⊢
  have HNK : Hid (nk = y.kids.length) := hnk.1
  have HIN := Lib.hid hin
  have hnb : nk * 8 ≤ 140737488351232 := hnk.2.2
  have i0 : (0 : Int) ≤ (p : Int) := by omega
  have i1 : (p : Int) < (n : Int) := by omega
  have i2 : (0 : Int) ≤ (q : Int) := by omega
  have i3 : (q : Int) < (n : Int) := by omega
  clear h hx hxi hy hyi hK hnk g1 g2 hV hin hr
  go_enter Tryz.func34, Tryz.ntmps34
  go_wp2_with fail
  refine (HA1.out w (Below.refl _ _)).mono ?_
  rintro e w1 ⟨rfl, hb1⟩
  have HB1 := Lib.hid hb1
  have c1 : w1.cell? ⟨b, off + p * 5 + 1, none⟩ = some (.int .i64 x.parent) := (hb1.cell (p := ⟨b, off + p * 5 + 1, none⟩) (by show b < _; omega)).trans G1.out
  clear hb1
  go_wp2_with fail
  refine (HA2.out w1 HB1.out).mono ?_
  rintro e w2 ⟨rfl, hb⟩
  have HB2 : Hid (Below w.heap.size w w2) := HB1.out.trans (hb.mono HB1.out.size)
  have c2 : w2.cell? ⟨b, off + q * 5 + 2, none⟩ = some (.slice Ak nk ck) := (HB2.out.cell (p := ⟨b, off + q * 5 + 2, none⟩) (by show b < _; omega)).trans G2.out
  clear hb c1
  go_wp2_with fail
  clear c2
  go_loopg [21] nk (fun gg s21 wr => ∃ k : Nat, k + gg = nk ∧ s21 = .int .i64 (k : Int) ∧ Hid (V = ixFrom (y.kids.drop k) id k) ∧ Hid (id ∈ y.kids.drop k) ∧ w2 = wr)
  case atStart => exact ⟨0, by omega, rfl, HV, HIN, rfl⟩
  case round =>
    obtain ⟨k, hkg, rfl, hv, hin, rfl⟩ := hrel
    by_cases hk : k < nk
    · obtain ⟨z, hz⟩ : ∃ z, y.kids[k]? = some z := ⟨_, List.getElem?_eq_getElem (by have := HNK.out; omega)⟩
      obtain ⟨bk, ok, rfl, hbk, hck⟩ := (HK.out.below (HB2.out.mono hB)).at_ hz
      have hst := hv.out.trans (ixFrom_at hz id)
      have j0 : (0 : Int) ≤ (k : Int) := by omega
      have j1 : (k : Int) < (nk : Int) := by omega
      by_cases he : id = z
      · have HS : Hid (V = k) := hst.trans (if_pos he)
        subst he
        clear hst hz
        go_wp2_with fail
        go_ret
        exact ⟨by rw [HS.out]; rfl, HB2.out⟩
      · have HS := Lib.hid (hst.trans (if_neg he))
        have he' : (z == id) = false := by simpa using fun e => he e.symm
        have HI2 : Hid (id ∈ y.kids.drop (k + 1)) := by
          have h1 := hin.out
          obtain ⟨hkk, e⟩ := List.getElem?_eq_some_iff.1 hz
          rw [List.drop_eq_getElem_cons hkk, e] at h1
          rcases List.mem_cons.1 h1 with h1 | h1
          · exact absurd h1 he
          · exact h1
        clear hst hz he
        go_wp2_with fail
        go_roundg (nk - (k + 1))
        case measure => omega
        case rel => exact ⟨k + 1, by omega, by go_num, HS, HI2, rfl⟩
    · have h1 := hin.out
      rw [List.drop_of_length_le (by have := HNK.out; omega)] at h1
      cases h1
end Go.Proofs.YtackphgnkdpgnaaGreat
namespace Go.Proofs.YtackphgnkdpgnaaGreat
open Go.RowKit

set_option maxRecDepth 100000 in
set_option maxHeartbeats 8000000 in
theorem inverseOf_k1 (l : List Bl) (f : Int → Option Int) (G : Good l f) (A : Option Addr) (n c : Nat) (o : Opn) (hk : o.kind = 1) (Av : Option Addr) (nv cv : Nat) (w : World) (B : Nat) (hB : B ≤ w.heap.size) (h : RB w B (.slice A n c) l) (hoi : OI o) (he : opErr l f o = 0) :
    Calls Tryz.prog 10 #[.slice A n c, AO (o, .slice Av nv cv)] w (InvR (invO l o) w) := by
  have hei : invO l o = (⟨2, o.id, 0, 0, 0, 0, ⟨#[]⟩, ⟨#[]⟩, zV⟩, 0) := by
    unfold invO
    rw [if_pos hk]
  have HOI := Lib.hid hoi
  have HRI := Lib.hid G.kids.rise
  have HB := Lib.hid h
  have HK := Lib.hid hk
  have HEI := Lib.hid hei
  obtain ⟨ok, oi, op, oa, of, ot, ox, on, ⟨vk, vi, vt, vs, vl⟩⟩ := o
  have hk : ok = 1 := HK.out
  subst hk
  obtain ⟨wb, hwb⟩ : ∃ wb, wb = (w.alloc (.cells #[.int .i64 1, .int .i64 oi, .int .i64 op, .int .i64 oa, .int .i64 of, .int .i64 ot, .string ox, .string on, .int .i64 vk, .int .i64 vi, .int .i64 vt, .string vs, .slice Av nv cv] 32)).alloc (.cells #[.int .i64 0, .int .i64 0, .int .i64 0, .int .i64 0, .int .i64 0, .int .i64 0, .string ⟨#[]⟩, .string ⟨#[]⟩, .int .i64 0, .int .i64 0, .int .i64 0, .string ⟨#[]⟩, .slice none 0 0] 32) := ⟨_, rfl⟩
  have HB0 : Hid (Below w.heap.size w wb) := by rw [hwb]; exact ((Below.refl _ _).alloc (Nat.le_refl _) _).alloc (by simp) _
  have P0 : Hid (Blk wb w.heap.size 32 #[.int .i64 1, .int .i64 oi, .int .i64 op, .int .i64 oa, .int .i64 of, .int .i64 ot, .string ox, .string on, .int .i64 vk, .int .i64 vi, .int .i64 vt, .string vs, .slice Av nv cv]) := by rw [hwb]; exact (Blk.new _ _ _).alloc _
  have R0 : Hid (Blk wb (w.heap.size + 1) 32 #[.int .i64 0, .int .i64 0, .int .i64 0, .int .i64 0, .int .i64 0, .int .i64 0, .string ⟨#[]⟩, .string ⟨#[]⟩, .int .i64 0, .int .i64 0, .int .i64 0, .string ⟨#[]⟩, .slice none 0 0]) := by
    show Blk _ _ _ _
    rw [hwb]
    have h := Blk.new (w.alloc (.cells #[.int .i64 1, .int .i64 oi, .int .i64 op, .int .i64 oa, .int .i64 of, .int .i64 ot, .string ox, .string on, .int .i64 vk, .int .i64 vi, .int .i64 vt, .string vs, .slice Av nv cv] 32)) 32 #[.int .i64 0, .int .i64 0, .int .i64 0, .int .i64 0, .int .i64 0, .int .i64 0, .string ⟨#[]⟩, .string ⟨#[]⟩, .int .i64 0, .int .i64 0, .int .i64 0, .string ⟨#[]⟩, .slice none 0 0]
    simpa only [World.size_alloc] using h
  have HAT := Lib.hid (at_any l _ n c oi wb B (Nat.le_trans hB HB0.out.size) (HB.out.below (HB0.out.mono hB)))
  obtain ⟨ip, hip⟩ : ∃ ip, ip = posOf l oi := ⟨_, rfl⟩
  rw [← hip] at HAT
  have HIP := Lib.hid hip
  have HWB := Lib.hid hwb
  dsimp only [AO, Vl.kind, Vl.int_, Vl.to_, Vl.text]
  clear G h hoi he hwb hip HK hei
  go_enter Tryz.func10, Tryz.ntmps10
  go_upto_region 1 with fail
  rw [← HWB.out]
  have e0 := fun i => P0.out.cell i
  go_wp2_with fail
  refine HAT.out.mono ?_
  rintro e w1 ⟨rfl, hb1⟩
  have HB1 : Hid (Below w.heap.size w w1) := HB0.out.trans (hb1.mono HB0.out.size)
  have P1 := Lib.hid (P0.out.below hb1 P0.out.lt)
  have R1 := Lib.hid (R0.out.below hb1 R0.out.lt)
  have hg1 : w.heap.size ≤ w.heap.size + 1 := Nat.le_succ _
  clear hb1 e0
  have e0 := fun i => P1.out.cell i
  have rd := fun i => R1.out.cell i
  have fd := fun i => R1.out.frozen i
  have HE : Hid (invO l ⟨1, oi, op, oa, of, ot, ox, on, ⟨vk, vi, vt, vs, vl⟩⟩ = (⟨2, oi, 0, 0, 0, 0, ⟨#[]⟩, ⟨#[]⟩, zV⟩, 0)) := HEI.out
  go_wp2_with fail
  have PF := putO_blk (.int .i64 2) (.int .i64 oi) (.int .i64 0) (.int .i64 0) (.int .i64 0) (.int .i64 0) (.string ⟨#[]⟩) (.string ⟨#[]⟩) (.int .i64 0) (.int .i64 0) (.int .i64 0) (.string ⟨#[]⟩) (.slice none 0 0) R1.out rfl
  have HBF := putO_below (.int .i64 2) (.int .i64 oi) (.int .i64 0) (.int .i64 0) (.int .i64 0) (.int .i64 0) (.string ⟨#[]⟩) (.string ⟨#[]⟩) (.int .i64 0) (.int .i64 0) (.int .i64 0) (.string ⟨#[]⟩) (.slice none 0 0) HB1.out hg1
  obtain ⟨wf, hF⟩ : ∃ wf, wf = putO w1 (w.heap.size + 1) (.int .i64 2) (.int .i64 oi) (.int .i64 0) (.int .i64 0) (.int .i64 0) (.int .i64 0) (.string ⟨#[]⟩) (.string ⟨#[]⟩) (.int .i64 0) (.int .i64 0) (.int .i64 0) (.string ⟨#[]⟩) (.slice none 0 0) := ⟨_, rfl⟩
  rw [← hF] at PF HBF
  unfold putO at hF
  rw [← hF]
  obtain ⟨r0, r1, r2, r3, r4, r5, r6, r7, r8, r9, r10, r11, r12⟩ := op_cells PF
  rw [HE.out]
  exact bodyPost_ret (v := .tuple #[AO (⟨2, oi, 0, 0, 0, 0, ⟨#[]⟩, ⟨#[]⟩, zV⟩, .slice none 0 0), .int .i64 0]) (by simp [results, Tryz.results10, go_sem, r0, r1, r2, r3, r4, r5, r6, r7, r8, r9, r10, r11, r12, AO, zV,  Vl.kind, Vl.int_, Vl.to_, Vl.text]) rfl ⟨⟨none, 0, 0, rfl, RVX.nil _ _⟩, HBF⟩
end Go.Proofs.YtackphgnkdpgnaaGreat
namespace Go.Proofs.YtackphgnkdpgnaaGreat
open Go.RowKit

set_option maxRecDepth 100000 in
set_option maxHeartbeats 8000000 in
theorem inverseOf_k2 (l : List Bl) (f : Int → Option Int) (G : Good l f) (A : Option Addr) (n c : Nat) (o : Opn) (hk : o.kind = 2) (Av : Option Addr) (nv cv : Nat) (w : World) (B : Nat) (hB : B ≤ w.heap.size) (h : RB w B (.slice A n c) l) (hoi : OI o) (he : opErr l f o = 0) :
    Calls Tryz.prog 10 #[.slice A n c, AO (o, .slice Av nv cv)] w (InvR (invO l o) w) := by
  obtain ⟨p, x, hx, hxi, q, y, hy, hyi, hin⟩ : ∃ (p : Nat) (x : Bl), l[p]? = some x ∧ x.id = o.id ∧ ∃ (q : Nat) (y : Bl), l[q]? = some y ∧ y.id = x.parent ∧ x.id ∈ y.kids := by
    cases G.op_facts he with
    | ins h => omega
    | rem h p x hx hxi h0 hks q y hy hyi hin => exact ⟨p, x, hx, hxi, q, y, hy, hyi, hin⟩
    | mov h => omega
    | edit h => omega
    | set h => omega
  have hxp : posOf l o.id = (p : Int) := by rw [← hxi]; exact posOf_of G.kids.rise hx
  have hyp : posOf l x.parent = (q : Int) := by rw [← hyi]; exact posOf_of G.kids.rise hy
  have hei : invO l o = if 0 < x.props.length then (zO, 11) else (⟨1, o.id, x.parent, ixOf y.kids o.id, 0, 0, x.text, ⟨#[]⟩, zV⟩, 0) := by
    unfold invO
    rw [if_neg (by omega), if_pos hk, blkAt_of hxp hx, blkAt_of hyp hy]
  have HPO := Lib.hid fun W (hW : Below w.heap.size w W) => position_any l A n c o.id p q x y W B (Nat.le_trans hB hW.size) (h.below (hW.mono hB)) G.kids.rise hx hxi hy hyi (by rw [← hxi]; exact hin)
  obtain ⟨ix, hix⟩ : ∃ ix, ix = ixOf y.kids o.id := ⟨_, rfl⟩
  rw [← hix] at HPO hei
  have HOI := Lib.hid hoi
  have HRI := Lib.hid G.kids.rise
  have hpn : p < n := by have := (List.getElem?_eq_some_iff.1 hx).1; have := h.len.1; omega
  have hpx : posOf l o.id = (p : Int) := by rw [← hxi]; exact posOf_of G.kids.rise hx
  have HPX := Lib.hid hpx
  obtain ⟨b, off, Kx, nkx, ckx, Px, npx, cpx, rfl, hbb, g0, g1, g2, g3, g4, hKx, hPx⟩ := h.at_ hx
  have HNP : Hid (npx = x.props.length) := (hPx.len).1
  have HPX2 := Lib.hid hPx
  obtain ⟨xid, xpar, xks, xtx, xps⟩ := x
  dsimp only at g0 g1 g2 g3 g4 HNP HPX2
  have G1 := Lib.hid g1
  have G3 := Lib.hid g3
  have G4 := Lib.hid g4
  have i0 : (0 : Int) ≤ (p : Int) := by omega
  have i1 : (p : Int) < (n : Int) := by omega
  have HB := Lib.hid h
  have HK := Lib.hid hk
  have HEI := Lib.hid hei
  obtain ⟨ok, oi, op, oa, of, ot, ox, on, ⟨vk, vi, vt, vs, vl⟩⟩ := o
  have hk : ok = 2 := HK.out
  subst hk
  obtain ⟨wb, hwb⟩ : ∃ wb, wb = (w.alloc (.cells #[.int .i64 2, .int .i64 oi, .int .i64 op, .int .i64 oa, .int .i64 of, .int .i64 ot, .string ox, .string on, .int .i64 vk, .int .i64 vi, .int .i64 vt, .string vs, .slice Av nv cv] 32)).alloc (.cells #[.int .i64 0, .int .i64 0, .int .i64 0, .int .i64 0, .int .i64 0, .int .i64 0, .string ⟨#[]⟩, .string ⟨#[]⟩, .int .i64 0, .int .i64 0, .int .i64 0, .string ⟨#[]⟩, .slice none 0 0] 32) := ⟨_, rfl⟩
  have HB0 : Hid (Below w.heap.size w wb) := by rw [hwb]; exact ((Below.refl _ _).alloc (Nat.le_refl _) _).alloc (by simp) _
  have P0 : Hid (Blk wb w.heap.size 32 #[.int .i64 2, .int .i64 oi, .int .i64 op, .int .i64 oa, .int .i64 of, .int .i64 ot, .string ox, .string on, .int .i64 vk, .int .i64 vi, .int .i64 vt, .string vs, .slice Av nv cv]) := by rw [hwb]; exact (Blk.new _ _ _).alloc _
  have R0 : Hid (Blk wb (w.heap.size + 1) 32 #[.int .i64 0, .int .i64 0, .int .i64 0, .int .i64 0, .int .i64 0, .int .i64 0, .string ⟨#[]⟩, .string ⟨#[]⟩, .int .i64 0, .int .i64 0, .int .i64 0, .string ⟨#[]⟩, .slice none 0 0]) := by
    show Blk _ _ _ _
    rw [hwb]
    have h := Blk.new (w.alloc (.cells #[.int .i64 2, .int .i64 oi, .int .i64 op, .int .i64 oa, .int .i64 of, .int .i64 ot, .string ox, .string on, .int .i64 vk, .int .i64 vi, .int .i64 vt, .string vs, .slice Av nv cv] 32)) 32 #[.int .i64 0, .int .i64 0, .int .i64 0, .int .i64 0, .int .i64 0, .int .i64 0, .string ⟨#[]⟩, .string ⟨#[]⟩, .int .i64 0, .int .i64 0, .int .i64 0, .string ⟨#[]⟩, .slice none 0 0]
    simpa only [World.size_alloc] using h
  have HAT := Lib.hid (at_any l _ n c oi wb B (Nat.le_trans hB HB0.out.size) (HB.out.below (HB0.out.mono hB)))
  obtain ⟨ip, hip⟩ : ∃ ip, ip = posOf l oi := ⟨_, rfl⟩
  rw [← hip] at HAT
  have HIP := Lib.hid hip
  have HWB := Lib.hid hwb
  dsimp only [AO, Vl.kind, Vl.int_, Vl.to_, Vl.text]
  clear hx hxi hy hyi hin hxp hyp hpx hKx hPx g0 g1 g2 g3 g4 hix G h hoi he hwb hip HK hei
  go_enter Tryz.func10, Tryz.ntmps10
  go_upto_region 1 with fail
  rw [← HWB.out]
  have e0 := fun i => P0.out.cell i
  go_wp2_with fail
  refine HAT.out.mono ?_
  rintro e w1 ⟨rfl, hb1⟩
  have HB1 : Hid (Below w.heap.size w w1) := HB0.out.trans (hb1.mono HB0.out.size)
  have P1 := Lib.hid (P0.out.below hb1 P0.out.lt)
  have R1 := Lib.hid (R0.out.below hb1 R0.out.lt)
  have hg1 : w.heap.size ≤ w.heap.size + 1 := Nat.le_succ _
  clear hb1 e0
  have e0 := fun i => P1.out.cell i
  have rd := fun i => R1.out.cell i
  have fd := fun i => R1.out.frozen i
  have hipp : ip = (p : Int) := HIP.out.trans HPX.out
  subst hipp
  have d1 : w1.cell? ⟨b, off + p * 5 + 1, none⟩ = some (.int .i64 xpar) := (HB1.out.cell (p := ⟨b, off + p * 5 + 1, none⟩) (by show b < _; omega)).trans G1.out
  have d3 : w1.cell? ⟨b, off + p * 5 + 3, none⟩ = some (.string xtx) := (HB1.out.cell (p := ⟨b, off + p * 5 + 3, none⟩) (by show b < _; omega)).trans G3.out
  have d4 : w1.cell? ⟨b, off + p * 5 + 4, none⟩ = some (.slice Px npx cpx) := (HB1.out.cell (p := ⟨b, off + p * 5 + 4, none⟩) (by show b < _; omega)).trans G4.out
  by_cases hp : 0 < npx
  · have hp' : (0 : Int) < (npx : Int) := by omega
    have HE : Hid (invO l ⟨2, oi, op, oa, of, ot, ox, on, ⟨vk, vi, vt, vs, vl⟩⟩ = (zO, 11)) := HEI.out.trans (if_pos (by rw [← HNP.out]; exact hp))
    go_wp2_with fail
    have PF := putO_blk (.int .i64 0) (.int .i64 0) (.int .i64 0) (.int .i64 0) (.int .i64 0) (.int .i64 0) (.string ⟨#[]⟩) (.string ⟨#[]⟩) (.int .i64 0) (.int .i64 0) (.int .i64 0) (.string ⟨#[]⟩) (.slice none 0 0) R1.out rfl
    have HBF := putO_below (.int .i64 0) (.int .i64 0) (.int .i64 0) (.int .i64 0) (.int .i64 0) (.int .i64 0) (.string ⟨#[]⟩) (.string ⟨#[]⟩) (.int .i64 0) (.int .i64 0) (.int .i64 0) (.string ⟨#[]⟩) (.slice none 0 0) HB1.out hg1
    obtain ⟨wf, hF⟩ : ∃ wf, wf = putO w1 (w.heap.size + 1) (.int .i64 0) (.int .i64 0) (.int .i64 0) (.int .i64 0) (.int .i64 0) (.int .i64 0) (.string ⟨#[]⟩) (.string ⟨#[]⟩) (.int .i64 0) (.int .i64 0) (.int .i64 0) (.string ⟨#[]⟩) (.slice none 0 0) := ⟨_, rfl⟩
    rw [← hF] at PF HBF
    unfold putO at hF
    rw [← hF]
    obtain ⟨r0, r1, r2, r3, r4, r5, r6, r7, r8, r9, r10, r11, r12⟩ := op_cells PF
    rw [HE.out]
    exact bodyPost_ret (v := .tuple #[AO (zO, .slice none 0 0), .int .i64 11]) (by simp [results, Tryz.results10, go_sem, r0, r1, r2, r3, r4, r5, r6, r7, r8, r9, r10, r11, r12, AO, zO, zV,  Vl.kind, Vl.int_, Vl.to_, Vl.text]) rfl ⟨⟨none, 0, 0, rfl, RVX.nil _ _⟩, HBF⟩
  · obtain rfl : npx = 0 := by omega
    have HE : Hid (invO l ⟨2, oi, op, oa, of, ot, ox, on, ⟨vk, vi, vt, vs, vl⟩⟩ = (⟨1, oi, xpar, ix, 0, 0, xtx, ⟨#[]⟩, zV⟩, 0)) := HEI.out.trans (if_neg (by rw [← HNP.out]; exact hp))
    have HPO1 : Hid (∀ W, Below w1.heap.size w1 W → Calls Tryz.prog 34 #[.slice (some ⟨b, off, none⟩) n c, .int .i64 oi] W fun e w' => e = .returned (.int .i64 ix) ∧ Below w1.heap.size w1 w') := fun W hW => (HPO.out W (HB1.out.trans (hW.mono HB1.out.size))).mono fun e w' h => ⟨h.1, hW.trans (h.2.mono hW.size)⟩
    have d0 : w1.cell? ⟨w.heap.size, 1, none⟩ = some (.int .i64 oi) := P1.out.cell 1
    have y0 : w1.drew.cell? ⟨w.heap.size, 1, none⟩ = some (.int .i64 oi) := d0
    have y1 : w1.drew.cell? ⟨b, off + p * 5 + 1, none⟩ = some (.int .i64 xpar) := d1
    have y3 : w1.drew.cell? ⟨b, off + p * 5 + 3, none⟩ = some (.string xtx) := d3
    go_upto_region 8 with fail
    clear rd fd e0
    go_region_held3 (fun w' => w'.cell? ⟨w.heap.size, 1, none⟩ = some (.int .i64 oi) ∧ w'.cell? ⟨b, off + p * 5 + 1, none⟩ = some (.int .i64 xpar) ∧ w'.cell? ⟨b, off + p * 5 + 3, none⟩ = some (.string xtx))
      (first | with_reducible exact ⟨d0, d1, d3⟩ | with_reducible exact ⟨t0, t1, t3⟩ | with_reducible exact ⟨y0, y1, y3⟩ | with_reducible exact ⟨z0, z1, z3⟩)
      (first | (go_at_call 34; refine (HPO1.out w1.drew (Below.refl _ _).drew).mono ?_; rintro e w9 ⟨rfl, hb9⟩; have HB9 : Hid (Below w.heap.size w w9) := HB1.out.trans (hb9.mono HB1.out.size); have R9 := Lib.hid (R1.out.below hb9 R1.out.lt); have v5 := fun i => R9.out.cell i; have v6 := fun i => R9.out.frozen i; have t0 : w9.cell? ⟨w.heap.size, 1, none⟩ = some (.int .i64 oi) := (P1.out.below hb9 P1.out.lt).cell 1; have t1 : w9.cell? ⟨b, off + p * 5 + 1, none⟩ = some (.int .i64 xpar) := (HB9.out.cell (p := ⟨b, off + p * 5 + 1, none⟩) (by show b < _; omega)).trans G1.out; have t3 : w9.cell? ⟨b, off + p * 5 + 3, none⟩ = some (.string xtx) := (HB9.out.cell (p := ⟨b, off + p * 5 + 3, none⟩) (by show b < _; omega)).trans G3.out; have z0 := (putO_cell w9 (w.heap.size + 1) (.int .i64 1) (.int .i64 oi) (.int .i64 xpar) (.int .i64 ix) (.int .i64 0) (.int .i64 0) (.string xtx) (.string ⟨#[]⟩) (.int .i64 0) (.int .i64 0) (.int .i64 0) (.string ⟨#[]⟩) (.slice none 0 0) ⟨w.heap.size, 1, none⟩ (by show w.heap.size ≠ w.heap.size + 1; omega)).trans t0; have z1 := (putO_cell w9 (w.heap.size + 1) (.int .i64 1) (.int .i64 oi) (.int .i64 xpar) (.int .i64 ix) (.int .i64 0) (.int .i64 0) (.string xtx) (.string ⟨#[]⟩) (.int .i64 0) (.int .i64 0) (.int .i64 0) (.string ⟨#[]⟩) (.slice none 0 0) ⟨b, off + p * 5 + 1, none⟩ (by show b ≠ w.heap.size + 1; omega)).trans t1; have z3 := (putO_cell w9 (w.heap.size + 1) (.int .i64 1) (.int .i64 oi) (.int .i64 xpar) (.int .i64 ix) (.int .i64 0) (.int .i64 0) (.string xtx) (.string ⟨#[]⟩) (.int .i64 0) (.int .i64 0) (.int .i64 0) (.string ⟨#[]⟩) (.slice none 0 0) ⟨b, off + p * 5 + 3, none⟩ (by show b ≠ w.heap.size + 1; omega)).trans t3; unfold putO at z0 z1 z3; clear hb9))
    all_goals
      go_wp2_with fail
      have PF := putO_blk (.int .i64 1) (.int .i64 oi) (.int .i64 xpar) (.int .i64 ix) (.int .i64 0) (.int .i64 0) (.string xtx) (.string ⟨#[]⟩) (.int .i64 0) (.int .i64 0) (.int .i64 0) (.string ⟨#[]⟩) (.slice none 0 0) R9.out rfl
      have HBF := putO_below (.int .i64 1) (.int .i64 oi) (.int .i64 xpar) (.int .i64 ix) (.int .i64 0) (.int .i64 0) (.string xtx) (.string ⟨#[]⟩) (.int .i64 0) (.int .i64 0) (.int .i64 0) (.string ⟨#[]⟩) (.slice none 0 0) HB9.out hg1
      obtain ⟨wf, hF⟩ : ∃ wf, wf = putO w9 (w.heap.size + 1) (.int .i64 1) (.int .i64 oi) (.int .i64 xpar) (.int .i64 ix) (.int .i64 0) (.int .i64 0) (.string xtx) (.string ⟨#[]⟩) (.int .i64 0) (.int .i64 0) (.int .i64 0) (.string ⟨#[]⟩) (.slice none 0 0) := ⟨_, rfl⟩
      rw [← hF] at PF HBF
      unfold putO at hF
      rw [← hF]
      obtain ⟨r0, r1, r2, r3, r4, r5, r6, r7, r8, r9, r10, r11, r12⟩ := op_cells PF
      rw [HE.out]
      exact bodyPost_ret (v := .tuple #[AO (⟨1, oi, xpar, ix, 0, 0, xtx, ⟨#[]⟩, zV⟩, .slice none 0 0), .int .i64 0]) (by simp [results, Tryz.results10, go_sem, r0, r1, r2, r3, r4, r5, r6, r7, r8, r9, r10, r11, r12, AO, zV,  Vl.kind, Vl.int_, Vl.to_, Vl.text]) rfl ⟨⟨none, 0, 0, rfl, RVX.nil _ _⟩, HBF⟩
end Go.Proofs.YtackphgnkdpgnaaGreat
namespace Go.Proofs.YtackphgnkdpgnaaGreat
open Go.RowKit

set_option maxRecDepth 100000 in
set_option maxHeartbeats 8000000 in
theorem inverseOf_k3 (l : List Bl) (f : Int → Option Int) (G : Good l f) (A : Option Addr) (n c : Nat) (o : Opn) (hk : o.kind = 3) (Av : Option Addr) (nv cv : Nat) (w : World) (B : Nat) (hB : B ≤ w.heap.size) (h : RB w B (.slice A n c) l) (hoi : OI o) (he : opErr l f o = 0) :
    Calls Tryz.prog 10 #[.slice A n c, AO (o, .slice Av nv cv)] w (InvR (invO l o) w) := by
  obtain ⟨p, x, hx, hxi, q, y, hy, hyi, hin⟩ : ∃ (p : Nat) (x : Bl), l[p]? = some x ∧ x.id = o.id ∧ ∃ (q : Nat) (y : Bl), l[q]? = some y ∧ y.id = x.parent ∧ x.id ∈ y.kids := by
    cases G.op_facts he with
    | ins h => omega
    | rem h => omega
    | mov h p x hx hxi h0 q y hy hyi hin r z hz hzi ha hka => exact ⟨p, x, hx, hxi, q, y, hy, hyi, hin⟩
    | edit h => omega
    | set h => omega
  have hxp : posOf l o.id = (p : Int) := by rw [← hxi]; exact posOf_of G.kids.rise hx
  have hyp : posOf l x.parent = (q : Int) := by rw [← hyi]; exact posOf_of G.kids.rise hy
  have hei : invO l o = (⟨3, o.id, x.parent, ixOf y.kids o.id, 0, 0, ⟨#[]⟩, ⟨#[]⟩, zV⟩, 0) := by
    unfold invO
    rw [if_neg (by omega), if_neg (by omega), if_pos hk, blkAt_of hxp hx, blkAt_of hyp hy]
  have HPO := Lib.hid fun W (hW : Below w.heap.size w W) => position_any l A n c o.id p q x y W B (Nat.le_trans hB hW.size) (h.below (hW.mono hB)) G.kids.rise hx hxi hy hyi (by rw [← hxi]; exact hin)
  obtain ⟨ix, hix⟩ : ∃ ix, ix = ixOf y.kids o.id := ⟨_, rfl⟩
  rw [← hix] at HPO hei
  have HOI := Lib.hid hoi
  have HRI := Lib.hid G.kids.rise
  have hpn : p < n := by have := (List.getElem?_eq_some_iff.1 hx).1; have := h.len.1; omega
  have hpx : posOf l o.id = (p : Int) := by rw [← hxi]; exact posOf_of G.kids.rise hx
  have HPX := Lib.hid hpx
  obtain ⟨b, off, Kx, nkx, ckx, Px, npx, cpx, rfl, hbb, g0, g1, g2, g3, g4, hKx, hPx⟩ := h.at_ hx
  have HNP : Hid (npx = x.props.length) := (hPx.len).1
  have HPX2 := Lib.hid hPx
  obtain ⟨xid, xpar, xks, xtx, xps⟩ := x
  dsimp only at g0 g1 g2 g3 g4 HNP HPX2
  have G1 := Lib.hid g1
  have G3 := Lib.hid g3
  have G4 := Lib.hid g4
  have i0 : (0 : Int) ≤ (p : Int) := by omega
  have i1 : (p : Int) < (n : Int) := by omega
  have HB := Lib.hid h
  have HK := Lib.hid hk
  have HEI := Lib.hid hei
  obtain ⟨ok, oi, op, oa, of, ot, ox, on, ⟨vk, vi, vt, vs, vl⟩⟩ := o
  have hk : ok = 3 := HK.out
  subst hk
  obtain ⟨wb, hwb⟩ : ∃ wb, wb = (w.alloc (.cells #[.int .i64 3, .int .i64 oi, .int .i64 op, .int .i64 oa, .int .i64 of, .int .i64 ot, .string ox, .string on, .int .i64 vk, .int .i64 vi, .int .i64 vt, .string vs, .slice Av nv cv] 32)).alloc (.cells #[.int .i64 0, .int .i64 0, .int .i64 0, .int .i64 0, .int .i64 0, .int .i64 0, .string ⟨#[]⟩, .string ⟨#[]⟩, .int .i64 0, .int .i64 0, .int .i64 0, .string ⟨#[]⟩, .slice none 0 0] 32) := ⟨_, rfl⟩
  have HB0 : Hid (Below w.heap.size w wb) := by rw [hwb]; exact ((Below.refl _ _).alloc (Nat.le_refl _) _).alloc (by simp) _
  have P0 : Hid (Blk wb w.heap.size 32 #[.int .i64 3, .int .i64 oi, .int .i64 op, .int .i64 oa, .int .i64 of, .int .i64 ot, .string ox, .string on, .int .i64 vk, .int .i64 vi, .int .i64 vt, .string vs, .slice Av nv cv]) := by rw [hwb]; exact (Blk.new _ _ _).alloc _
  have R0 : Hid (Blk wb (w.heap.size + 1) 32 #[.int .i64 0, .int .i64 0, .int .i64 0, .int .i64 0, .int .i64 0, .int .i64 0, .string ⟨#[]⟩, .string ⟨#[]⟩, .int .i64 0, .int .i64 0, .int .i64 0, .string ⟨#[]⟩, .slice none 0 0]) := by
    show Blk _ _ _ _
    rw [hwb]
    have h := Blk.new (w.alloc (.cells #[.int .i64 3, .int .i64 oi, .int .i64 op, .int .i64 oa, .int .i64 of, .int .i64 ot, .string ox, .string on, .int .i64 vk, .int .i64 vi, .int .i64 vt, .string vs, .slice Av nv cv] 32)) 32 #[.int .i64 0, .int .i64 0, .int .i64 0, .int .i64 0, .int .i64 0, .int .i64 0, .string ⟨#[]⟩, .string ⟨#[]⟩, .int .i64 0, .int .i64 0, .int .i64 0, .string ⟨#[]⟩, .slice none 0 0]
    simpa only [World.size_alloc] using h
  have HAT := Lib.hid (at_any l _ n c oi wb B (Nat.le_trans hB HB0.out.size) (HB.out.below (HB0.out.mono hB)))
  obtain ⟨ip, hip⟩ : ∃ ip, ip = posOf l oi := ⟨_, rfl⟩
  rw [← hip] at HAT
  have HIP := Lib.hid hip
  have HWB := Lib.hid hwb
  dsimp only [AO, Vl.kind, Vl.int_, Vl.to_, Vl.text]
  clear hx hxi hy hyi hin hxp hyp hpx hKx hPx g0 g1 g2 g3 g4 hix G h hoi he hwb hip HK hei
  go_enter Tryz.func10, Tryz.ntmps10
  go_upto_region 1 with fail
  rw [← HWB.out]
  have e0 := fun i => P0.out.cell i
  go_wp2_with fail
  refine HAT.out.mono ?_
  rintro e w1 ⟨rfl, hb1⟩
  have HB1 : Hid (Below w.heap.size w w1) := HB0.out.trans (hb1.mono HB0.out.size)
  have P1 := Lib.hid (P0.out.below hb1 P0.out.lt)
  have R1 := Lib.hid (R0.out.below hb1 R0.out.lt)
  have hg1 : w.heap.size ≤ w.heap.size + 1 := Nat.le_succ _
  clear hb1 e0
  have e0 := fun i => P1.out.cell i
  have rd := fun i => R1.out.cell i
  have fd := fun i => R1.out.frozen i
  have hipp : ip = (p : Int) := HIP.out.trans HPX.out
  subst hipp
  have d1 : w1.cell? ⟨b, off + p * 5 + 1, none⟩ = some (.int .i64 xpar) := (HB1.out.cell (p := ⟨b, off + p * 5 + 1, none⟩) (by show b < _; omega)).trans G1.out
  have d3 : w1.cell? ⟨b, off + p * 5 + 3, none⟩ = some (.string xtx) := (HB1.out.cell (p := ⟨b, off + p * 5 + 3, none⟩) (by show b < _; omega)).trans G3.out
  have d4 : w1.cell? ⟨b, off + p * 5 + 4, none⟩ = some (.slice Px npx cpx) := (HB1.out.cell (p := ⟨b, off + p * 5 + 4, none⟩) (by show b < _; omega)).trans G4.out
  have HE : Hid (invO l ⟨3, oi, op, oa, of, ot, ox, on, ⟨vk, vi, vt, vs, vl⟩⟩ = (⟨3, oi, xpar, ix, 0, 0, ⟨#[]⟩, ⟨#[]⟩, zV⟩, 0)) := HEI.out
  have HPO1 : Hid (∀ W, Below w1.heap.size w1 W → Calls Tryz.prog 34 #[.slice (some ⟨b, off, none⟩) n c, .int .i64 oi] W fun e w' => e = .returned (.int .i64 ix) ∧ Below w1.heap.size w1 w') := fun W hW => (HPO.out W (HB1.out.trans (hW.mono HB1.out.size))).mono fun e w' h => ⟨h.1, hW.trans (h.2.mono hW.size)⟩
  have d0 : w1.cell? ⟨w.heap.size, 1, none⟩ = some (.int .i64 oi) := P1.out.cell 1
  have y0 : w1.drew.cell? ⟨w.heap.size, 1, none⟩ = some (.int .i64 oi) := d0
  have y1 : w1.drew.cell? ⟨b, off + p * 5 + 1, none⟩ = some (.int .i64 xpar) := d1
  have y3 : w1.drew.cell? ⟨b, off + p * 5 + 3, none⟩ = some (.string xtx) := d3
  go_upto_region 10 with fail
  clear rd fd e0
  go_region_held3 (fun w' => w'.cell? ⟨w.heap.size, 1, none⟩ = some (.int .i64 oi) ∧ w'.cell? ⟨b, off + p * 5 + 1, none⟩ = some (.int .i64 xpar))
    (first | with_reducible exact ⟨d0, d1⟩ | with_reducible exact ⟨t0, t1⟩ | with_reducible exact ⟨y0, y1⟩ | with_reducible exact ⟨z0, z1⟩)
    (first | (go_at_call 34; refine (HPO1.out w1.drew (Below.refl _ _).drew).mono ?_; rintro e w9 ⟨rfl, hb9⟩; have HB9 : Hid (Below w.heap.size w w9) := HB1.out.trans (hb9.mono HB1.out.size); have R9 := Lib.hid (R1.out.below hb9 R1.out.lt); have v5 := fun i => R9.out.cell i; have v6 := fun i => R9.out.frozen i; have t0 : w9.cell? ⟨w.heap.size, 1, none⟩ = some (.int .i64 oi) := (P1.out.below hb9 P1.out.lt).cell 1; have t1 : w9.cell? ⟨b, off + p * 5 + 1, none⟩ = some (.int .i64 xpar) := (HB9.out.cell (p := ⟨b, off + p * 5 + 1, none⟩) (by show b < _; omega)).trans G1.out; have t3 : w9.cell? ⟨b, off + p * 5 + 3, none⟩ = some (.string xtx) := (HB9.out.cell (p := ⟨b, off + p * 5 + 3, none⟩) (by show b < _; omega)).trans G3.out; have z0 := (putO_cell w9 (w.heap.size + 1) (.int .i64 3) (.int .i64 oi) (.int .i64 xpar) (.int .i64 ix) (.int .i64 0) (.int .i64 0) (.string ⟨#[]⟩) (.string ⟨#[]⟩) (.int .i64 0) (.int .i64 0) (.int .i64 0) (.string ⟨#[]⟩) (.slice none 0 0) ⟨w.heap.size, 1, none⟩ (by show w.heap.size ≠ w.heap.size + 1; omega)).trans t0; have z1 := (putO_cell w9 (w.heap.size + 1) (.int .i64 3) (.int .i64 oi) (.int .i64 xpar) (.int .i64 ix) (.int .i64 0) (.int .i64 0) (.string ⟨#[]⟩) (.string ⟨#[]⟩) (.int .i64 0) (.int .i64 0) (.int .i64 0) (.string ⟨#[]⟩) (.slice none 0 0) ⟨b, off + p * 5 + 1, none⟩ (by show b ≠ w.heap.size + 1; omega)).trans t1; have z3 := (putO_cell w9 (w.heap.size + 1) (.int .i64 3) (.int .i64 oi) (.int .i64 xpar) (.int .i64 ix) (.int .i64 0) (.int .i64 0) (.string ⟨#[]⟩) (.string ⟨#[]⟩) (.int .i64 0) (.int .i64 0) (.int .i64 0) (.string ⟨#[]⟩) (.slice none 0 0) ⟨b, off + p * 5 + 3, none⟩ (by show b ≠ w.heap.size + 1; omega)).trans t3; unfold putO at z0 z1 z3; clear hb9))
  all_goals
    go_wp2_with fail
    have PF := putO_blk (.int .i64 3) (.int .i64 oi) (.int .i64 xpar) (.int .i64 ix) (.int .i64 0) (.int .i64 0) (.string ⟨#[]⟩) (.string ⟨#[]⟩) (.int .i64 0) (.int .i64 0) (.int .i64 0) (.string ⟨#[]⟩) (.slice none 0 0) R9.out rfl
    have HBF := putO_below (.int .i64 3) (.int .i64 oi) (.int .i64 xpar) (.int .i64 ix) (.int .i64 0) (.int .i64 0) (.string ⟨#[]⟩) (.string ⟨#[]⟩) (.int .i64 0) (.int .i64 0) (.int .i64 0) (.string ⟨#[]⟩) (.slice none 0 0) HB9.out hg1
    obtain ⟨wf, hF⟩ : ∃ wf, wf = putO w9 (w.heap.size + 1) (.int .i64 3) (.int .i64 oi) (.int .i64 xpar) (.int .i64 ix) (.int .i64 0) (.int .i64 0) (.string ⟨#[]⟩) (.string ⟨#[]⟩) (.int .i64 0) (.int .i64 0) (.int .i64 0) (.string ⟨#[]⟩) (.slice none 0 0) := ⟨_, rfl⟩
    rw [← hF] at PF HBF
    unfold putO at hF
    rw [← hF]
    obtain ⟨r0, r1, r2, r3, r4, r5, r6, r7, r8, r9, r10, r11, r12⟩ := op_cells PF
    rw [HE.out]
    exact bodyPost_ret (v := .tuple #[AO (⟨3, oi, xpar, ix, 0, 0, ⟨#[]⟩, ⟨#[]⟩, zV⟩, .slice none 0 0), .int .i64 0]) (by simp [results, Tryz.results10, go_sem, r0, r1, r2, r3, r4, r5, r6, r7, r8, r9, r10, r11, r12, AO, zV,  Vl.kind, Vl.int_, Vl.to_, Vl.text]) rfl ⟨⟨none, 0, 0, rfl, RVX.nil _ _⟩, HBF⟩
end Go.Proofs.YtackphgnkdpgnaaGreat
