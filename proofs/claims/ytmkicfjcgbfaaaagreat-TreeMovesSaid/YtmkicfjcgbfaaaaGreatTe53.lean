/-
  DERIVED. tree.Join and the reference's JoinOf at an inner block. Conditions: sizes.
  By an AI agent.
-/
import Derived.Test.YtmkicfjcgbfaaaaGreatTe46
import Derived.Test.YtmkicfjcgbfaaaaGreatTe49
import Derived.Test.YtmkicfjcgbfaaaaGreatTe47
import Derived.Test.YtmkicfjcgbfaaaaGreatTe48
namespace Go.Proofs.YtmkicfjcgbfaaaaGreat
open Go.RowKit

set_option maxRecDepth 100000 in
set_option maxHeartbeats 8000000 in
theorem join_last (l : List Bl) (f : Int → Option Int) (G : Good l f) (A : Option Addr) (n c : Nat) (id : Int) (p q i : Nat) (x y : Bl) (hat : At l id p q i x y) (h0 : i + 1 = y.kids.length) (w : World) (h : RB w w.heap.size (.slice A n c) l) :
    Calls Tryz.prog 40 #[.slice A n c, .int .i64 id] w (ManyR [] 11 w) := by
  have HC := Lib.hid (checkInner_any l f A n c id (hat.idI G) w w.heap.size (Nat.le_refl _) h fun _ => G.dep)
  rw [cin_good G, if_neg (by rw [hat.pp G]; have := hat.p0; omega)] at HC
  have HAM := Lib.hid fun W (hW : Below w.heap.size w W) => among_any l f G A n c id p q i x y hat W ((h.below hW).more hW.size)
  unfold AmongR at HAM
  rw [hat.ix] at HAM
  have hfew := G.kids.few y (List.mem_of_getElem? hat.hy)
  have HKL := Lib.hid h0
  have hi5 : i ≤ 500 := by omega
  clear h hat G h0 hfew
  go_enter Tryz.func40, Tryz.ntmps40
  go_wp2_with fail
  refine HC.out.mono ?_
  rintro e w1 ⟨rfl, hb1⟩
  have HB1 := Lib.hid hb1
  clear hb1
  go_wp2_with fail
  refine (HAM.out w1 HB1.out).mono ?_
  rintro e w2 ⟨⟨Ak, nk, ck, rfl, hK⟩, hb2⟩
  have HB2 : Hid (Below w.heap.size w w2) := HB1.out.trans (hb2.mono HB1.out.size)
  obtain rfl : nk = i + 1 := hK.len.1.trans HKL.out.symm
  have ww2 : IntKind.i64.wrap (((i + 1 : Nat) : Int) - 1) = (i : Int) := by rw [IntWalk.i64_in _ (by omega)]; omega
  have ww3 : IntKind.i64.wrap ((i : Int) + 1 - 1) = (i : Int) := by rw [IntWalk.i64_in _ (by omega)]; omega
  clear hb2 hK
  go_wp2_with fail
  go_ret2
  exact ⟨⟨_, _, _, rfl, .inr ⟨by decide, rfl, rfl, rfl⟩⟩, HB2.out⟩
set_option maxRecDepth 100000 in
set_option maxHeartbeats 8000000 in
theorem joinOf_last (l : List Bl) (f : Int → Option Int) (G : Good l f) (A : Option Addr) (n c : Nat) (id : Int) (p q i : Nat) (x y : Bl) (hat : At l id p q i x y) (h0 : i + 1 = y.kids.length) (w : World) (h : RB w w.heap.size (.slice A n c) l) :
    Calls Tryz.prog 45 #[.slice A n c, .int .i64 id] w (ManyR [] 11 w) := by
  have HC := Lib.hid (blockError_any l A n c id w h)
  unfold bkE at HC
  rw [if_neg (by rw [hat.pp G]; have := hat.p0; omega)] at HC
  have HIX := Lib.hid fun W (hW : Below w.heap.size w W) => at_any l A n c id W w.heap.size hW.size (h.below hW)
  rw [hat.pp G] at HIX
  have HIY := Lib.hid fun W (hW : Below w.heap.size w W) => at_any l A n c x.parent W w.heap.size hW.size (h.below hW)
  rw [hat.qq G] at HIY
  have HPO := Lib.hid fun W (hW : Below w.heap.size w W) => position_any l A n c id p q x y W w.heap.size hW.size (h.below hW) G.kids.rise hat.hx hat.hxi hat.hy hat.hyi (List.mem_of_getElem? hat.hk)
  rw [hat.ix] at HPO
  have hx := hat.hx
  have hy := hat.hy
  have hpn : p < n := by have := (List.getElem?_eq_some_iff.1 hx).1; have := h.len.1; omega
  have hqn : q < n := by have := (List.getElem?_eq_some_iff.1 hy).1; have := h.len.1; omega
  have hn8 : n ≤ 2000 := by have := G.kids.short; have := h.len.1; omega
  obtain ⟨b, off, Kx, nkx, ckx, Px, npx, cpx, rfl, hbb, g0, g1, g2, g3, g4, _⟩ := h.at_ hx
  obtain ⟨b', off', Ky, nky, cky, _, _, _, e, _, _, _, k2, _, _, hK, _⟩ := h.at_ hy
  have e : b = b' ∧ off = off' := by injection e with e; injection e with e1 e2; exact ⟨e1, e2⟩
  obtain ⟨rfl, rfl⟩ := e
  have hfew := G.kids.few y (List.mem_of_getElem? hat.hy)
  have hi5 : i ≤ 500 := by omega
  obtain rfl : nky = i + 1 := hK.len.1.trans h0.symm
  have ww1 : IntKind.i64.wrap ((i : Int) + 1) = (i : Int) + 1 := IntWalk.i64_in _ (by omega)
  obtain ⟨xid, hxd⟩ : ∃ xid, xid = x.id := ⟨_, rfl⟩
  obtain ⟨xpar, hxp⟩ : ∃ xpar, xpar = x.parent := ⟨_, rfl⟩
  obtain ⟨xtx, hxt⟩ : ∃ xtx, xtx = x.text := ⟨_, rfl⟩
  rw [← hxd] at g0
  rw [← hxp] at g1 HIY
  rw [← hxt] at g3
  have G0 := Lib.hid g0
  have G1 := Lib.hid g1
  have G2 := Lib.hid g2
  have G3 := Lib.hid g3
  have G4 := Lib.hid g4
  have K2 := Lib.hid k2
  have i0 : (0 : Int) ≤ (p : Int) := by omega
  have i1 : (p : Int) < (n : Int) := by omega
  have i2 : (0 : Int) ≤ (q : Int) := by omega
  have i3 : (q : Int) < (n : Int) := by omega
  clear h hat G h0 hfew hx hy g0 g1 g2 g3 g4 k2 hK hxd hxp hxt
  go_enter Tryz.func45, Tryz.ntmps45
  go_wp2_with fail
  refine HC.out.mono ?_
  rintro e w1 ⟨rfl, hb1⟩
  have HB1 := Lib.hid hb1
  clear hb1
  go_wp2_with fail
  refine (HIX.out w1 HB1.out).mono ?_
  rintro e w2 ⟨rfl, hb2⟩
  have HB2 : Hid (Below w.heap.size w w2) := HB1.out.trans (hb2.mono HB1.out.size)
  clear hb2
  have c0 : w2.cell? ⟨b, off + p * 5, none⟩ = _ := (HB2.out.cell (p := ⟨b, off + p * 5, none⟩) (by show b < _; omega)).trans G0.out
  have c1 : w2.cell? ⟨b, off + p * 5 + 1, none⟩ = _ := (HB2.out.cell (p := ⟨b, off + p * 5 + 1, none⟩) (by show b < _; omega)).trans G1.out
  have c2 : w2.cell? ⟨b, off + p * 5 + 2, none⟩ = _ := (HB2.out.cell (p := ⟨b, off + p * 5 + 2, none⟩) (by show b < _; omega)).trans G2.out
  have c3 : w2.cell? ⟨b, off + p * 5 + 3, none⟩ = _ := (HB2.out.cell (p := ⟨b, off + p * 5 + 3, none⟩) (by show b < _; omega)).trans G3.out
  have c4 : w2.cell? ⟨b, off + p * 5 + 4, none⟩ = _ := (HB2.out.cell (p := ⟨b, off + p * 5 + 4, none⟩) (by show b < _; omega)).trans G4.out
  obtain ⟨w3, hw3⟩ : ∃ w3, w3 = w2.alloc (.cells #[.int .i64 xid, .int .i64 xpar, .slice Kx nkx ckx, .string xtx, .slice Px npx cpx] 38) := ⟨_, rfl⟩
  have HB3 : Hid (Below w.heap.size w w3) := by rw [hw3]; exact HB2.out.alloc HB2.out.size _
  have X3 : Hid (Blk w3 w2.heap.size 38 #[.int .i64 xid, .int .i64 xpar, .slice Kx nkx ckx, .string xtx, .slice Px npx cpx]) := by rw [hw3]; exact Blk.new _ _ _
  have HW3 := Lib.hid hw3
  clear hw3
  go_upto_region 5 with fail
  rw [← HW3.out]
  clear c0 c1 c2 c3 c4
  have ex := fun j => X3.out.cell j
  go_wp2_with fail
  refine (HIY.out w3 HB3.out).mono ?_
  rintro e w4 ⟨rfl, hb4⟩
  have HB4 : Hid (Below w.heap.size w w4) := HB3.out.trans (hb4.mono HB3.out.size)
  clear hb4 ex
  have d2 : w4.cell? ⟨b, off + q * 5 + 2, none⟩ = _ := (HB4.out.cell (p := ⟨b, off + q * 5 + 2, none⟩) (by show b < _; omega)).trans K2.out
  go_wp2_with fail
  refine (HPO.out w4 HB4.out).mono ?_
  rintro e w5 ⟨rfl, hb5⟩
  have HB5 : Hid (Below w.heap.size w w5) := HB4.out.trans (hb5.mono HB4.out.size)
  clear hb5 d2
  go_wp2_with fail
  go_ret2
  exact ⟨⟨_, _, _, rfl, .inr ⟨by decide, rfl, rfl, rfl⟩⟩, HB5.out⟩
set_option maxRecDepth 100000 in
set_option maxHeartbeats 8000000 in
theorem join_yes (l : List Bl) (f : Int → Option Int) (G : Good l f) (A : Option Addr) (n c : Nat) (id : Int) (p q i : Nat) (x y : Bl) (hat : At l id p q i x y) (r : Nat) (z : Bl) (hk : y.kids[i + 1]? = some z.id) (hz : l[r]? = some z) (w : World) (h : RB w w.heap.size (.slice A n c) l) :
    Calls Tryz.prog 40 #[.slice A n c, .int .i64 id] w (fun e w' => ∃ er, TryP l (joO id x z) er ∧ ManyR (joO id x z) er w e w') := by
  have hW : ∀ W, Below w.heap.size w W → RB W W.heap.size (.slice A n c) l := fun W hW => (h.below hW).more hW.size
  have hx := hat.hx
  have hy := hat.hy
  have hpn : p < n := by have := (List.getElem?_eq_some_iff.1 hx).1; have := h.len.1; omega
  have hqn : q < n := by have := (List.getElem?_eq_some_iff.1 hy).1; have := h.len.1; omega
  have hrn : r < n := by have := (List.getElem?_eq_some_iff.1 hz).1; have := h.len.1; omega
  have hn8 : n ≤ 2000 := by have := G.kids.short; have := h.len.1; omega
  have hxm := List.mem_of_getElem? hx
  have hym := List.mem_of_getElem? hy
  have hzm := List.mem_of_getElem? hz
  have hxs : x.text.size ≤ 65536 := txt_size (G.tree.loc x hxm).1
  have hzs : z.text.size ≤ 65536 := txt_size (G.tree.loc z hzm).1
  have hkx := G.kids.few x hxm
  have hky := G.kids.few y hym
  have hkz := G.kids.few z hzm
  have hpz : z.props.length ≤ 20 := by
    have := (G.tree.loc z hzm).2.2
    unfold cpErr at this
    by_cases e : 20 < z.props.length
    · rw [if_pos e] at this; omega
    · omega
  have hil : i + 1 < y.kids.length := (List.getElem?_eq_some_iff.1 hk).1
  have hO : ∀ o ∈ joO id x z, OI o ∧ o.val.items = [] := fun o ho => joO_ok G (hat.idI G) hxm hzm ho
  obtain ⟨b, off, Kx, nkx, ckx, Px, npx, cpx, rfl, hbb, g0, g1, g2, g3, g4, hKx, _⟩ := h.at_ hx
  obtain ⟨b', off', Kz, nkz, ckz, Pz, npz, cpz, e, _, z0, z1, z2, z3, z4, hKz, hPz⟩ := h.at_ hz
  have e : b = b' ∧ off = off' := by injection e with e; injection e with e1 e2; exact ⟨e1, e2⟩
  obtain ⟨rfl, rfl⟩ := e
  have hnx : nkx = x.kids.length := hKx.len.1
  have hnz : nkz = z.kids.length := hKz.len.1
  have hnp : npz = z.props.length := hPz.len.1
  have hC := checkInner_any l f (some ⟨b, off, none⟩) n c id (hat.idI G) w w.heap.size (Nat.le_refl _) h fun _ => G.dep
  rw [cin_good G, if_neg (by rw [hat.pp G]; have := hat.p0; omega)] at hC
  have hIX := fun W (hw : Below w.heap.size w W) => index_any l (some ⟨b, off, none⟩) n c id W w.heap.size hw.size (h.below hw) G.kids.rise G.kids.ids (hat.idI G)
  rw [hat.pp G] at hIX
  have hIZ := fun W (hw : Below w.heap.size w W) => index_any l (some ⟨b, off, none⟩) n c z.id W w.heap.size hw.size (h.below hw) G.kids.rise G.kids.ids (G.i64 hz)
  rw [posOf_of G.kids.rise hz] at hIZ
  refine join_core n c id b off p r i x.id x.parent z.id z.parent x.text z.text Kx Px Kz Pz nkx ckx npx cpx nkz ckz npz cpz z.kids z.props y.kids.length w hbb g0 g1 g2 g3 g4 z0 z1 z2 z3 z4 hKz hPz hpn hrn hil hky (by omega) (by omega) (by omega) hC ?_ hIX hIZ (joO id x z) (by unfold joO; rw [hnx, hnz, hnp]) hO _ ?_
  · intro W hw
    refine (among_any l f G (some ⟨b, off, none⟩) n c id p q i x y hat W (hW W hw)).mono fun e w' hh => ⟨?_, hh.2⟩
    obtain ⟨⟨Ak, nk, ck, e1, e2⟩, _⟩ := hh
    rw [hat.ix] at e1
    obtain ⟨kb, ko, rfl, hkb, hkc⟩ := e2.at_ hk
    obtain rfl : nk = y.kids.length := e2.len.1
    exact ⟨kb, ko, ck, e1, hkb, hkc⟩
  · exact fun W Aq cq hw hros hnone => ((tried_any l f G (some ⟨b, off, none⟩) n c (joO id x z) Aq (joO id x z).length cq W (hW W hw) hros hnone)).mono fun e w' hh => by
      obtain ⟨⟨er, hT, rfl⟩, hb'⟩ := hh
      by_cases h0 : er = 0
      · exact ⟨Aq, (joO id x z).length, (joO id x z).length, er, by rw [if_pos h0], er, hT, ⟨_, _, _, rfl, .inl ⟨h0, ((hros.recap (Nat.le_refl _)).below hb').more hb'.size⟩⟩, hw.trans (hb'.mono hw.size)⟩
      · exact ⟨none, 0, 0, er, by rw [if_neg h0], er, hT, ⟨_, _, _, rfl, .inr ⟨h0, rfl, rfl, rfl⟩⟩, hw.trans (hb'.mono hw.size)⟩
set_option maxRecDepth 100000 in
set_option maxHeartbeats 8000000 in
theorem joinOf_yes (l : List Bl) (f : Int → Option Int) (G : Good l f) (A : Option Addr) (n c : Nat) (id : Int) (p q i : Nat) (x y : Bl) (hat : At l id p q i x y) (r : Nat) (z : Bl) (hk : y.kids[i + 1]? = some z.id) (hz : l[r]? = some z) (w : World) (h : RB w w.heap.size (.slice A n c) l) :
    Calls Tryz.prog 45 #[.slice A n c, .int .i64 id] w (fun e w' => ∃ er, TryP l (joO id x z) er ∧ ManyR (joO id x z) er w e w') := by
  have hW : ∀ W, Below w.heap.size w W → RB W W.heap.size (.slice A n c) l := fun W hW => (h.below hW).more hW.size
  have hx := hat.hx
  have hy := hat.hy
  have hpn : p < n := by have := (List.getElem?_eq_some_iff.1 hx).1; have := h.len.1; omega
  have hqn : q < n := by have := (List.getElem?_eq_some_iff.1 hy).1; have := h.len.1; omega
  have hrn : r < n := by have := (List.getElem?_eq_some_iff.1 hz).1; have := h.len.1; omega
  have hn8 : n ≤ 2000 := by have := G.kids.short; have := h.len.1; omega
  have hxm := List.mem_of_getElem? hx
  have hym := List.mem_of_getElem? hy
  have hzm := List.mem_of_getElem? hz
  have hxs : x.text.size ≤ 65536 := txt_size (G.tree.loc x hxm).1
  have hzs : z.text.size ≤ 65536 := txt_size (G.tree.loc z hzm).1
  have hkx := G.kids.few x hxm
  have hky := G.kids.few y hym
  have hkz := G.kids.few z hzm
  have hpz : z.props.length ≤ 20 := by
    have := (G.tree.loc z hzm).2.2
    unfold cpErr at this
    by_cases e : 20 < z.props.length
    · rw [if_pos e] at this; omega
    · omega
  have hil : i + 1 < y.kids.length := (List.getElem?_eq_some_iff.1 hk).1
  have hO : ∀ o ∈ joO id x z, OI o ∧ o.val.items = [] := fun o ho => joO_ok G (hat.idI G) hxm hzm ho
  obtain ⟨b, off, Kx, nkx, ckx, Px, npx, cpx, rfl, hbb, g0, g1, g2, g3, g4, hKx, _⟩ := h.at_ hx
  obtain ⟨b', off', Kz, nkz, ckz, Pz, npz, cpz, e, _, z0, z1, z2, z3, z4, hKz, hPz⟩ := h.at_ hz
  have e : b = b' ∧ off = off' := by injection e with e; injection e with e1 e2; exact ⟨e1, e2⟩
  obtain ⟨rfl, rfl⟩ := e
  have hnx : nkx = x.kids.length := hKx.len.1
  have hnz : nkz = z.kids.length := hKz.len.1
  have hnp : npz = z.props.length := hPz.len.1
  obtain ⟨b', off', Ky, nky, cky, _, _, _, e, _, _, _, k2, _, _, hKy, _⟩ := h.at_ hy
  have e : b = b' ∧ off = off' := by injection e with e; injection e with e1 e2; exact ⟨e1, e2⟩
  obtain ⟨rfl, rfl⟩ := e
  obtain ⟨kb, ko, rfl, hkb, hkc⟩ := hKy.at_ hk
  obtain rfl : nky = y.kids.length := hKy.len.1
  have hC := blockError_any l (some ⟨b, off, none⟩) n c id w h
  unfold bkE at hC
  rw [if_neg (by rw [hat.pp G]; have := hat.p0; omega)] at hC
  have hIX := fun W (hw : Below w.heap.size w W) => at_any l (some ⟨b, off, none⟩) n c id W w.heap.size hw.size (h.below hw)
  rw [hat.pp G] at hIX
  have hIY := fun W (hw : Below w.heap.size w W) => at_any l (some ⟨b, off, none⟩) n c x.parent W w.heap.size hw.size (h.below hw)
  rw [hat.qq G] at hIY
  have hIZ := fun W (hw : Below w.heap.size w W) => at_any l (some ⟨b, off, none⟩) n c z.id W w.heap.size hw.size (h.below hw)
  rw [posOf_of G.kids.rise hz] at hIZ
  have hPO := fun W (hw : Below w.heap.size w W) => position_any l (some ⟨b, off, none⟩) n c id p q x y W w.heap.size hw.size (h.below hw) G.kids.rise hat.hx hat.hxi hat.hy hat.hyi (List.mem_of_getElem? hat.hk)
  rw [hat.ix] at hPO
  refine joinR_core n c id b off p r i x.id x.parent z.id z.parent x.text z.text Kx Px Kz Pz nkx ckx npx cpx nkz ckz npz cpz z.kids z.props y.kids.length cky q kb ko w hbb hkb k2 hkc hqn g0 g1 g2 g3 g4 z0 z1 z2 z3 z4 hKz hPz hpn hrn hil hky (by omega) (by omega) (by omega) hC hIX hIY hIZ hPO (joO id x z) (by unfold joO; rw [hnx, hnz, hnp]) hO _ ?_
  exact fun W Aq cq hw hros hnone => ((triedR_any l f G (some ⟨b, off, none⟩) n c (joO id x z) Aq (joO id x z).length cq W (hW W hw) hros)).mono fun e w' hh => by
      obtain ⟨⟨er, hT, rfl⟩, hb'⟩ := hh
      by_cases h0 : er = 0
      · exact ⟨Aq, (joO id x z).length, cq, er, by rw [if_pos h0], er, hT, ⟨_, _, _, rfl, .inl ⟨h0, ((hros).below hb').more hb'.size⟩⟩, hw.trans (hb'.mono hw.size)⟩
      · exact ⟨none, 0, 0, er, by rw [if_neg h0], er, hT, ⟨_, _, _, rfl, .inr ⟨h0, rfl, rfl, rfl⟩⟩, hw.trans (hb'.mono hw.size)⟩
end Go.Proofs.YtmkicfjcgbfaaaaGreat
