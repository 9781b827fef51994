/-
  DERIVED. The walk of tree.Split at an inner block. Conditions: sizes.
  By an AI agent.
-/
import Derived.Test.YtmkicfjcgbfaaaaGreatTe47
namespace Go.Proofs.YtmkicfjcgbfaaaaGreat
open Go.RowKit

set_option maxRecDepth 100000 in
set_option maxHeartbeats 8000000 in
theorem split_low (l : List Bl) (f : Int → Option Int) (G : Good l f) (A : Option Addr) (n c : Nat) (id pl : Int) (p q i : Nat) (x y : Bl) (hat : At l id p q i x y) (hlow : pl < 0) (w : World) (h : RB w w.heap.size (.slice A n c) l) :
    Calls Tryz.prog 39 #[.slice A n c, .int .i64 id, .int .i64 pl] w (ManyR [] 2 w) := by
  have HC := Lib.hid (checkInner_any l f A n c id (hat.idI G) w w.heap.size (Nat.le_refl _) h fun _ => G.dep)
  rw [cin_good G, if_neg (by rw [hat.pp G]; have := hat.p0; omega)] at HC
  have HI := Lib.hid fun W (hW : Below w.heap.size w W) => index_any l A n c id W w.heap.size hW.size (h.below hW) G.kids.rise G.kids.ids (hat.idI G)
  rw [hat.pp G] at HI
  have hx := hat.hx
  have hpn : p < n := by have := (List.getElem?_eq_some_iff.1 hx).1; have := h.len.1; omega
  have hn8 : n ≤ 2000 := by have := G.kids.short; have := h.len.1; omega
  have hts : x.text.size ≤ 65536 := txt_size (G.tree.loc x (List.mem_of_getElem? hx)).1
  have i0 : (0 : Int) ≤ (p : Int) := by omega
  have i1 : (p : Int) < (n : Int) := by omega
  obtain ⟨b, off, Kx, nkx, ckx, Px, npx, cpx, rfl, hbb, g0, g1, g2, g3, g4, _⟩ := h.at_ hx
  obtain ⟨xid, hxd⟩ : ∃ xid, xid = x.id := ⟨_, rfl⟩
  obtain ⟨xpar, hxp⟩ : ∃ xpar, xpar = x.parent := ⟨_, rfl⟩
  obtain ⟨xtx, hxt⟩ : ∃ xtx, xtx = x.text := ⟨_, rfl⟩
  rw [← hxd] at g0
  rw [← hxp] at g1
  rw [← hxt] at g3
  have G0 := Lib.hid g0
  have G1 := Lib.hid g1
  have G2 := Lib.hid g2
  have G3 := Lib.hid g3
  have G4 := Lib.hid g4
  clear hat G h hx hxd hxp hxt g0 g1 g2 g3 g4
  go_enter Tryz.func39, Tryz.ntmps39
  go_wp2_with fail
  refine HC.out.mono ?_
  rintro e w1 ⟨rfl, hb1⟩
  have HB1 := Lib.hid hb1
  clear hb1
  go_wp2_with fail
  refine (HI.out w1 HB1.out).mono ?_
  rintro e w2 ⟨rfl, hb2⟩
  have HB2 : Hid (Below w.heap.size w w2) := HB1.out.trans (hb2.mono HB1.out.size)
  have HBK : Hid (Below w.heap.size w (w2.alloc (.cells #[.int .i64 xid, .int .i64 xpar, .slice Kx nkx ckx, .string xtx, .slice Px npx cpx] 38))) := HB2.out.alloc HB2.out.size _
  clear hb2
  have c0 : w2.cell? ⟨b, off + p * 5, none⟩ = _ := (HB2.out.cell (p := ⟨b, off + p * 5, none⟩) (by show b < _; omega)).trans G0.out
  have c1 : w2.cell? ⟨b, off + p * 5 + 1, none⟩ = _ := (HB2.out.cell (p := ⟨b, off + p * 5 + 1, none⟩) (by show b < _; omega)).trans G1.out
  have c2 : w2.cell? ⟨b, off + p * 5 + 2, none⟩ = _ := (HB2.out.cell (p := ⟨b, off + p * 5 + 2, none⟩) (by show b < _; omega)).trans G2.out
  have c3 : w2.cell? ⟨b, off + p * 5 + 3, none⟩ = _ := (HB2.out.cell (p := ⟨b, off + p * 5 + 3, none⟩) (by show b < _; omega)).trans G3.out
  have c4 : w2.cell? ⟨b, off + p * 5 + 4, none⟩ = _ := (HB2.out.cell (p := ⟨b, off + p * 5 + 4, none⟩) (by show b < _; omega)).trans G4.out
  go_wp2_with fail
  go_ret2
  exact ⟨⟨_, _, _, rfl, .inr ⟨by decide, rfl, rfl, rfl⟩⟩, HBK.out⟩
set_option maxRecDepth 100000 in
set_option maxHeartbeats 8000000 in
theorem split_high (l : List Bl) (f : Int → Option Int) (G : Good l f) (A : Option Addr) (n c : Nat) (id pl : Int) (p q i : Nat) (x y : Bl) (hat : At l id p q i x y) (hlow : ¬ pl < 0) (hhigh : (x.text.size : Int) < pl) (w : World) (h : RB w w.heap.size (.slice A n c) l) :
    Calls Tryz.prog 39 #[.slice A n c, .int .i64 id, .int .i64 pl] w (ManyR [] 2 w) := by
  have HC := Lib.hid (checkInner_any l f A n c id (hat.idI G) w w.heap.size (Nat.le_refl _) h fun _ => G.dep)
  rw [cin_good G, if_neg (by rw [hat.pp G]; have := hat.p0; omega)] at HC
  have HI := Lib.hid fun W (hW : Below w.heap.size w W) => index_any l A n c id W w.heap.size hW.size (h.below hW) G.kids.rise G.kids.ids (hat.idI G)
  rw [hat.pp G] at HI
  have hx := hat.hx
  have hpn : p < n := by have := (List.getElem?_eq_some_iff.1 hx).1; have := h.len.1; omega
  have hn8 : n ≤ 2000 := by have := G.kids.short; have := h.len.1; omega
  have hts : x.text.size ≤ 65536 := txt_size (G.tree.loc x (List.mem_of_getElem? hx)).1
  have i0 : (0 : Int) ≤ (p : Int) := by omega
  have i1 : (p : Int) < (n : Int) := by omega
  obtain ⟨b, off, Kx, nkx, ckx, Px, npx, cpx, rfl, hbb, g0, g1, g2, g3, g4, _⟩ := h.at_ hx
  obtain ⟨xid, hxd⟩ : ∃ xid, xid = x.id := ⟨_, rfl⟩
  obtain ⟨xpar, hxp⟩ : ∃ xpar, xpar = x.parent := ⟨_, rfl⟩
  obtain ⟨xtx, hxt⟩ : ∃ xtx, xtx = x.text := ⟨_, rfl⟩
  rw [← hxd] at g0
  rw [← hxp] at g1
  rw [← hxt] at g3
  rw [← hxt] at hhigh hts
  have G0 := Lib.hid g0
  have G1 := Lib.hid g1
  have G2 := Lib.hid g2
  have G3 := Lib.hid g3
  have G4 := Lib.hid g4
  clear hat G h hx hxd hxp hxt g0 g1 g2 g3 g4
  go_enter Tryz.func39, Tryz.ntmps39
  go_wp2_with fail
  refine HC.out.mono ?_
  rintro e w1 ⟨rfl, hb1⟩
  have HB1 := Lib.hid hb1
  clear hb1
  go_wp2_with fail
  refine (HI.out w1 HB1.out).mono ?_
  rintro e w2 ⟨rfl, hb2⟩
  have HB2 : Hid (Below w.heap.size w w2) := HB1.out.trans (hb2.mono HB1.out.size)
  have HBK : Hid (Below w.heap.size w (w2.alloc (.cells #[.int .i64 xid, .int .i64 xpar, .slice Kx nkx ckx, .string xtx, .slice Px npx cpx] 38))) := HB2.out.alloc HB2.out.size _
  clear hb2
  have c0 : w2.cell? ⟨b, off + p * 5, none⟩ = _ := (HB2.out.cell (p := ⟨b, off + p * 5, none⟩) (by show b < _; omega)).trans G0.out
  have c1 : w2.cell? ⟨b, off + p * 5 + 1, none⟩ = _ := (HB2.out.cell (p := ⟨b, off + p * 5 + 1, none⟩) (by show b < _; omega)).trans G1.out
  have c2 : w2.cell? ⟨b, off + p * 5 + 2, none⟩ = _ := (HB2.out.cell (p := ⟨b, off + p * 5 + 2, none⟩) (by show b < _; omega)).trans G2.out
  have c3 : w2.cell? ⟨b, off + p * 5 + 3, none⟩ = _ := (HB2.out.cell (p := ⟨b, off + p * 5 + 3, none⟩) (by show b < _; omega)).trans G3.out
  have c4 : w2.cell? ⟨b, off + p * 5 + 4, none⟩ = _ := (HB2.out.cell (p := ⟨b, off + p * 5 + 4, none⟩) (by show b < _; omega)).trans G4.out
  go_wp2_with fail
  go_ret2
  exact ⟨⟨_, _, _, rfl, .inr ⟨by decide, rfl, rfl, rfl⟩⟩, HBK.out⟩
set_option maxRecDepth 100000 in
set_option maxHeartbeats 8000000 in
theorem split_full (l : List Bl) (f : Int → Option Int) (G : Good l f) (A : Option Addr) (n c : Nat) (id : Int) (a : Nat) (p q i : Nat) (x y : Bl) (hat : At l id p q i x y) (ha : a ≤ x.text.size) (hnn : nextP l < 0) (w : World) (h : RB w w.heap.size (.slice A n c) l) :
    Calls Tryz.prog 39 #[.slice A n c, .int .i64 id, .int .i64 a] w (ManyR [] 14 w) := by
  have HC := Lib.hid (checkInner_any l f A n c id (hat.idI G) w w.heap.size (Nat.le_refl _) h fun _ => G.dep)
  rw [cin_good G, if_neg (by rw [hat.pp G]; have := hat.p0; omega)] at HC
  have HI := Lib.hid fun W (hW : Below w.heap.size w W) => index_any l A n c id W w.heap.size hW.size (h.below hW) G.kids.rise G.kids.ids (hat.idI G)
  rw [hat.pp G] at HI
  have hx := hat.hx
  have hpn : p < n := by have := (List.getElem?_eq_some_iff.1 hx).1; have := h.len.1; omega
  have hn8 : n ≤ 2000 := by have := G.kids.short; have := h.len.1; omega
  have hts : x.text.size ≤ 65536 := txt_size (G.tree.loc x (List.mem_of_getElem? hx)).1
  have i0 : (0 : Int) ≤ (p : Int) := by omega
  have i1 : (p : Int) < (n : Int) := by omega
  obtain ⟨b, off, Kx, nkx, ckx, Px, npx, cpx, rfl, hbb, g0, g1, g2, g3, g4, _⟩ := h.at_ hx
  obtain ⟨xid, hxd⟩ : ∃ xid, xid = x.id := ⟨_, rfl⟩
  obtain ⟨xpar, hxp⟩ : ∃ xpar, xpar = x.parent := ⟨_, rfl⟩
  obtain ⟨xtx, hxt⟩ : ∃ xtx, xtx = x.text := ⟨_, rfl⟩
  rw [← hxd] at g0
  rw [← hxp] at g1
  rw [← hxt] at g3
  rw [← hxt] at ha hts
  have ha0 : ¬ (a : Int) < 0 := by omega
  have ha1 : ¬ (xtx.size : Int) < (a : Int) := by omega
  have HNX := Lib.hid fun W (hW : Below w.heap.size w W) => nextId_any l (some ⟨b, off, none⟩) n c W w.heap.size (h.below hW) (by have := (List.getElem?_eq_some_iff.1 hx).1; omega) G.kids.ids
  obtain ⟨nx, hnx⟩ : ∃ nx, nx = nextP l := ⟨_, rfl⟩
  rw [← hnx] at HNX hnn
  have G0 := Lib.hid g0
  have G1 := Lib.hid g1
  have G2 := Lib.hid g2
  have G3 := Lib.hid g3
  have G4 := Lib.hid g4
  clear hat G h hx hxd hxp hxt g0 g1 g2 g3 g4 hnx
  go_enter Tryz.func39, Tryz.ntmps39
  go_wp2_with fail
  refine HC.out.mono ?_
  rintro e w1 ⟨rfl, hb1⟩
  have HB1 := Lib.hid hb1
  clear hb1
  go_wp2_with fail
  refine (HI.out w1 HB1.out).mono ?_
  rintro e w2 ⟨rfl, hb2⟩
  have HB2 : Hid (Below w.heap.size w w2) := HB1.out.trans (hb2.mono HB1.out.size)
  have HBK : Hid (Below w.heap.size w (w2.alloc (.cells #[.int .i64 xid, .int .i64 xpar, .slice Kx nkx ckx, .string xtx, .slice Px npx cpx] 38))) := HB2.out.alloc HB2.out.size _
  clear hb2
  have c0 : w2.cell? ⟨b, off + p * 5, none⟩ = _ := (HB2.out.cell (p := ⟨b, off + p * 5, none⟩) (by show b < _; omega)).trans G0.out
  have c1 : w2.cell? ⟨b, off + p * 5 + 1, none⟩ = _ := (HB2.out.cell (p := ⟨b, off + p * 5 + 1, none⟩) (by show b < _; omega)).trans G1.out
  have c2 : w2.cell? ⟨b, off + p * 5 + 2, none⟩ = _ := (HB2.out.cell (p := ⟨b, off + p * 5 + 2, none⟩) (by show b < _; omega)).trans G2.out
  have c3 : w2.cell? ⟨b, off + p * 5 + 3, none⟩ = _ := (HB2.out.cell (p := ⟨b, off + p * 5 + 3, none⟩) (by show b < _; omega)).trans G3.out
  have c4 : w2.cell? ⟨b, off + p * 5 + 4, none⟩ = _ := (HB2.out.cell (p := ⟨b, off + p * 5 + 4, none⟩) (by show b < _; omega)).trans G4.out
  go_wp2_with fail
  refine (HNX.out _ HBK.out).mono ?_
  rintro e w3 ⟨rfl, rfl⟩
  go_wp2_with fail
  go_ret2
  exact ⟨⟨_, _, _, rfl, .inr ⟨by decide, rfl, rfl, rfl⟩⟩, HBK.out⟩
set_option maxRecDepth 100000 in
set_option maxHeartbeats 8000000 in
theorem split_yes (l : List Bl) (f : Int → Option Int) (G : Good l f) (A : Option Addr) (n c : Nat) (id : Int) (a : Nat) (p q i : Nat) (x y : Bl) (hat : At l id p q i x y) (ha : a ≤ x.text.size) (hnn : ¬ nextP l < 0) (w : World) (h : RB w w.heap.size (.slice A n c) l) :
    Calls Tryz.prog 39 #[.slice A n c, .int .i64 id, .int .i64 a] w fun e w' => ∃ er, TryP l (splO id (nextP l) x.parent ((i : Int) + 1) a x.text) er ∧ ManyR (splO id (nextP l) x.parent ((i : Int) + 1) a x.text) er w e w' := by
  have HC := Lib.hid (checkInner_any l f A n c id (hat.idI G) w w.heap.size (Nat.le_refl _) h fun _ => G.dep)
  rw [cin_good G, if_neg (by rw [hat.pp G]; have := hat.p0; omega)] at HC
  have HI := Lib.hid fun W (hW : Below w.heap.size w W) => index_any l A n c id W w.heap.size hW.size (h.below hW) G.kids.rise G.kids.ids (hat.idI G)
  rw [hat.pp G] at HI
  have hx := hat.hx
  have hpn : p < n := by have := (List.getElem?_eq_some_iff.1 hx).1; have := h.len.1; omega
  have hn8 : n ≤ 2000 := by have := G.kids.short; have := h.len.1; omega
  have hts : x.text.size ≤ 65536 := txt_size (G.tree.loc x (List.mem_of_getElem? hx)).1
  have i0 : (0 : Int) ≤ (p : Int) := by omega
  have i1 : (p : Int) < (n : Int) := by omega
  have HAM := Lib.hid fun W (hW : Below w.heap.size w W) => among_any l f G A n c id p q i x y hat W ((h.below hW).more hW.size)
  unfold AmongR at HAM
  rw [hat.ix] at HAM
  have hiK : i < y.kids.length := (List.getElem?_eq_some_iff.1 hat.hk).1
  have hfew := G.kids.few y (List.mem_of_getElem? hat.hy)
  have hidI := hat.idI G
  have hparI := hat.parI G
  have hnxI : nextP l ≤ 1000000 := by unfold nextP; split <;> omega
  obtain ⟨b, off, Kx, nkx, ckx, Px, npx, cpx, rfl, hbb, g0, g1, g2, g3, g4, _⟩ := h.at_ hx
  obtain ⟨xid, hxd⟩ : ∃ xid, xid = x.id := ⟨_, rfl⟩
  obtain ⟨xpar, hxp⟩ : ∃ xpar, xpar = x.parent := ⟨_, rfl⟩
  obtain ⟨xtx, hxt⟩ : ∃ xtx, xtx = x.text := ⟨_, rfl⟩
  rw [← hxd] at g0
  rw [← hxp] at g1
  rw [← hxt] at g3
  rw [← hxt] at ha hts
  rw [← hxp] at hparI
  rw [← hxt, ← hxp]
  have ha0 : ¬ (a : Int) < 0 := by omega
  have ha1 : ¬ (xtx.size : Int) < (a : Int) := by omega
  have HNX := Lib.hid fun W (hW : Below w.heap.size w W) => nextId_any l (some ⟨b, off, none⟩) n c W w.heap.size (h.below hW) (by have := (List.getElem?_eq_some_iff.1 hx).1; omega) G.kids.ids
  obtain ⟨nx, hnx⟩ : ∃ nx, nx = nextP l := ⟨_, rfl⟩
  rw [← hnx] at HNX hnn
  rw [← hnx] at hnxI ⊢
  have HTR : Hid (∀ g W, Below w.heap.size w W → Blk W g 31 #[.int .i64 4, .int .i64 id, .int .i64 0, .int .i64 0, .int .i64 (a : Int), .int .i64 (xtx.size : Int), .string ⟨#[]⟩, .string ⟨#[]⟩, .int .i64 0, .int .i64 0, .int .i64 0, .string ⟨#[]⟩, .slice none 0 0, .int .i64 1, .int .i64 nx, .int .i64 xpar, .int .i64 ((i : Int) + 1), .int .i64 0, .int .i64 0, .string (xtx.extract a xtx.size), .string ⟨#[]⟩, .int .i64 0, .int .i64 0, .int .i64 0, .string ⟨#[]⟩, .slice none 0 0] → Calls Tryz.prog 107 #[.slice (some ⟨b, off, none⟩) n c, .slice (some ⟨g, 0, none⟩) 2 2] W fun e w' => ∃ er, TryP l (splO id nx xpar ((i : Int) + 1) a xtx) er ∧ ManyR (splO id nx xpar ((i : Int) + 1) a xtx) er w e w') := fun g W hW hb => by
    have OT : W.ownsRow g 31 13 (.slice (some ⟨g, 0, none⟩) 2 2) 2 [.int .i64 4, .int .i64 id, .int .i64 0, .int .i64 0, .int .i64 (a : Int), .int .i64 (xtx.size : Int), .string ⟨#[]⟩, .string ⟨#[]⟩, .int .i64 0, .int .i64 0, .int .i64 0, .string ⟨#[]⟩, .slice none 0 0, .int .i64 1, .int .i64 nx, .int .i64 xpar, .int .i64 ((i : Int) + 1), .int .i64 0, .int .i64 0, .string (xtx.extract a xtx.size), .string ⟨#[]⟩, .int .i64 0, .int .i64 0, .int .i64 0, .string ⟨#[]⟩, .slice none 0 0] := ⟨rfl, .inr ⟨g, 2, #[.int .i64 4, .int .i64 id, .int .i64 0, .int .i64 0, .int .i64 (a : Int), .int .i64 (xtx.size : Int), .string ⟨#[]⟩, .string ⟨#[]⟩, .int .i64 0, .int .i64 0, .int .i64 0, .string ⟨#[]⟩, .slice none 0 0, .int .i64 1, .int .i64 nx, .int .i64 xpar, .int .i64 ((i : Int) + 1), .int .i64 0, .int .i64 0, .string (xtx.extract a xtx.size), .string ⟨#[]⟩, .int .i64 0, .int .i64 0, .int .i64 0, .string ⟨#[]⟩, .slice none 0 0], rfl, Nat.le_refl _, hb, Nat.le_refl _, by unfold maxLen; omega, rfl, rfl⟩⟩
    have hO : ∀ o ∈ splO id nx xpar ((i : Int) + 1) a xtx, OI o ∧ o.val.items = [] := fun o ho => by
      have h0 : I64 0 := by unfold I64; omega
      rcases List.mem_cons.1 ho with rfl | ho
      · exact ⟨⟨hidI, h0, h0, by unfold I64; dsimp only; omega, by unfold I64; dsimp only; omega, Nat.zero_le _⟩, rfl⟩
      · cases List.mem_singleton.1 ho
        exact ⟨⟨by unfold I64; dsimp only; omega, hparI, by unfold I64; dsimp only; omega, h0, h0, by show (xtx.extract a xtx.size).size ≤ _; simp; omega⟩, rfl⟩
    obtain ⟨A', c', e, hr, hc', _⟩ := ros_own (os := splO id nx xpar ((i : Int) + 1) a xtx) OT (by show 2 * 144 ≤ _; omega) hO
    injection e with e1 e2 e3
    subst e1
    refine (tried_any l f G _ n c (splO id nx xpar ((i : Int) + 1) a xtx) _ 2 2 W ((h.below hW).more hW.size) hr (fun e => by cases e)).mono ?_
    rintro e w' ⟨⟨er, hT, rfl⟩, hb'⟩
    refine ⟨er, hT, ?_, hW.trans (hb'.mono hW.size)⟩
    by_cases h0 : er = 0
    · exact ⟨_, _, _, by rw [if_pos h0]; rfl, .inl ⟨h0, (hr.below hb').more hb'.size⟩⟩
    · exact ⟨_, _, _, by rw [if_neg h0], .inr ⟨h0, rfl, rfl, rfl⟩⟩
  have ww1 : IntKind.i64.wrap ((i : Int) + 1) = (i : Int) + 1 := IntWalk.i64_in _ (by omega)
  have G0 := Lib.hid g0
  have G1 := Lib.hid g1
  have G2 := Lib.hid g2
  have G3 := Lib.hid g3
  have G4 := Lib.hid g4
  clear hat G h hx hxd hxp hxt g0 g1 g2 g3 g4 hnx
  go_enter Tryz.func39, Tryz.ntmps39
  go_wp2_with fail
  refine HC.out.mono ?_
  rintro e w1 ⟨rfl, hb1⟩
  have HB1 := Lib.hid hb1
  clear hb1
  go_wp2_with fail
  refine (HI.out w1 HB1.out).mono ?_
  rintro e w2 ⟨rfl, hb2⟩
  have HB2 : Hid (Below w.heap.size w w2) := HB1.out.trans (hb2.mono HB1.out.size)
  have HBK : Hid (Below w.heap.size w (w2.alloc (.cells #[.int .i64 xid, .int .i64 xpar, .slice Kx nkx ckx, .string xtx, .slice Px npx cpx] 38))) := HB2.out.alloc HB2.out.size _
  clear hb2
  have c0 : w2.cell? ⟨b, off + p * 5, none⟩ = _ := (HB2.out.cell (p := ⟨b, off + p * 5, none⟩) (by show b < _; omega)).trans G0.out
  have c1 : w2.cell? ⟨b, off + p * 5 + 1, none⟩ = _ := (HB2.out.cell (p := ⟨b, off + p * 5 + 1, none⟩) (by show b < _; omega)).trans G1.out
  have c2 : w2.cell? ⟨b, off + p * 5 + 2, none⟩ = _ := (HB2.out.cell (p := ⟨b, off + p * 5 + 2, none⟩) (by show b < _; omega)).trans G2.out
  have c3 : w2.cell? ⟨b, off + p * 5 + 3, none⟩ = _ := (HB2.out.cell (p := ⟨b, off + p * 5 + 3, none⟩) (by show b < _; omega)).trans G3.out
  have c4 : w2.cell? ⟨b, off + p * 5 + 4, none⟩ = _ := (HB2.out.cell (p := ⟨b, off + p * 5 + 4, none⟩) (by show b < _; omega)).trans G4.out
  go_wp2_with fail
  refine (HNX.out _ HBK.out).mono ?_
  rintro e w3 ⟨rfl, rfl⟩
  have BX : Hid (Blk (w2.alloc (.cells #[.int .i64 xid, .int .i64 xpar, .slice Kx nkx ckx, .string xtx, .slice Px npx cpx] 38)) w2.heap.size 38 #[.int .i64 xid, .int .i64 xpar, .slice Kx nkx ckx, .string xtx, .slice Px npx cpx]) := Blk.new _ _ _
  obtain ⟨w3, hw3⟩ : ∃ w3, w3 = w2.alloc (.cells #[.int .i64 xid, .int .i64 xpar, .slice Kx nkx ckx, .string xtx, .slice Px npx cpx] 38) := ⟨_, rfl⟩
  rw [← hw3] at BX HBK ⊢
  clear c0 c1 c2 c3 c4 hw3
  go_wp2_with fail
  refine (HAM.out w3 HBK.out).mono ?_
  rintro e w4 ⟨⟨Ak, nk, ck, rfl, _⟩, hb4⟩
  have HB4 : Hid (Below w.heap.size w w4) := HBK.out.trans (hb4.mono HBK.out.size)
  have B4 := Lib.hid (BX.out.below hb4 BX.out.lt)
  have e0 := fun j => B4.out.cell j
  clear hb4
  have QT : Hid (Below w.heap.size w (w4.drew.alloc (.cells #[.int .i64 4, .int .i64 id, .int .i64 0, .int .i64 0, .int .i64 (a : Int), .int .i64 (xtx.size : Int), .string ⟨#[]⟩, .string ⟨#[]⟩, .int .i64 0, .int .i64 0, .int .i64 0, .string ⟨#[]⟩, .slice none 0 0, .int .i64 1, .int .i64 nx, .int .i64 xpar, .int .i64 ((i : Int) + 1), .int .i64 0, .int .i64 0, .string (xtx.extract a xtx.size), .string ⟨#[]⟩, .int .i64 0, .int .i64 0, .int .i64 0, .string ⟨#[]⟩, .slice none 0 0] 31))) := HB4.out.drew.alloc HB4.out.size _
  go_wp2_with fail
  go_region_with (go_at_call 107; refine (HTR.out _ _ QT.out (Blk.new _ _ _)).mono ?_; rintro e w5 ⟨er, hT, ⟨A5, n5, c5, rfl, hres⟩, hb5⟩; have HT := Lib.hid hT; have HR5 := Lib.hid hres; have HB5 := Lib.hid hb5; clear hT hres hb5)
  all_goals
    go_wp2_with fail
    go_ret2
    exact ⟨er, HT.out, ⟨A5, n5, c5, rfl, HR5.out⟩, HB5.out⟩
end Go.Proofs.YtmkicfjcgbfaaaaGreat
