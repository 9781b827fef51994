/-
  DERIVED. The walk of the law TreeOutlines. Conditions: sizes; lines of bounded bulk.
  By an AI agent.
-/
import Derived.Test.YtmkicfjcgbfaaaaGreatTh08
import Derived.Test.YtmkicfjcgbfaaaaGreatTh05
import Derived.Test.YtmkicfjcgbfaaaaGreatTh06
import Derived.Test.YtmkicfjcgbfaaaaGreatTg30
import Derived.Test.YtmkicfjcgbfaaaaGreatTg21
namespace Go.Proofs.YtmkicfjcgbfaaaaGreat
open Go.RowKit

set_option maxHeartbeats 400000 in
theorem outlines1_any : IdCl 53 := fun x Kx Px nx cx mx ex P id w hP hc => by
  have hc' : ∀ o, (w.alloc o).cell? ⟨P, 0, none⟩ = some (.int .i64 id) := fun o => (World.cell?_alloc_lt _ _ _ hP).trans hc
  dsimp only [AB]
  go_enter Tryz.func53, Tryz.ntmps53
  go_wp2_with fail
  go_ret
  exact ⟨rfl, (Below.refl _ _).alloc (Nat.le_refl _) _⟩
theorem ManyR.bad {er : Int} {w w' : World} {e : Ending} (os : List Opn) (h : ManyR [] er w e w') (hne : er ≠ 0) : ManyR os er w e w' := by
  obtain ⟨⟨A, n, c, h1, h2⟩, h3⟩ := h
  rcases h2 with ⟨h0, _⟩ | h2
  · exact absurd h0 hne
  · exact ⟨⟨A, n, c, h1, .inr h2⟩, h3⟩
/-- the grafts of the program and of the reference -/
def BothG (_l : List Bl) (A : Option Addr) (n c : Nat) (id pl : Int) (lv : Value) (w : World) : Prop := ∃ (os : List Opn) (P : Int → Prop), (∀ e e', P e → P e' → e = e') ∧ (∀ W, Below w.heap.size w W → Calls Tryz.prog 51 #[.slice A n c, .int .i64 id, .int .i64 pl, lv] W fun e w' => ∃ er, P er ∧ ManyR os er W e w') ∧ (∀ W, Below w.heap.size w W → Calls Tryz.prog 52 #[.slice A n c, .int .i64 id, .int .i64 pl, lv] W fun e w' => ∃ er, P er ∧ ManyR os er W e w')
theorem graft_both (l : List Bl) (f : Int → Option Int) (G : Good l f) (A : Option Addr) (n c : Nat) (id pl : Int) (hid : I64 id) (ls : List (Int × ByteArray)) (AL : Option Addr) (nL cL : Nat) (w : World) (h : RB w w.heap.size (.slice A n c) l) (hl : RLn w w.heap.size (.slice AL nL cL) ls) : BothG l A n c id pl (.slice AL nL cL) w := by
  have hW : ∀ W, Below w.heap.size w W → RB W W.heap.size (.slice A n c) l := fun W hW => (h.below hW).more hW.size
  have hLW : ∀ W, Below w.heap.size w W → RLn W W.heap.size (.slice AL nL cL) ls := fun W hW => by
    obtain ⟨A', n', c', h1, h2, h3, h4, h5, h6⟩ := hl.below hW
    exact ⟨A', n', c', h1, h2, h3, h4, ⟨h5.1, fun h0 => by obtain ⟨ad, e1, e2, e3⟩ := h5.2 h0; exact ⟨ad, e1, Nat.lt_of_lt_of_le e2 hW.size, e3⟩⟩, h6⟩
  have one : ∀ er : Int, (∀ W, Below w.heap.size w W → Calls Tryz.prog 51 #[.slice A n c, .int .i64 id, .int .i64 pl, .slice AL nL cL] W (ManyR [] er W)) → (∀ W, Below w.heap.size w W → Calls Tryz.prog 52 #[.slice A n c, .int .i64 id, .int .i64 pl, .slice AL nL cL] W (ManyR [] er W)) → BothG l A n c id pl (.slice AL nL cL) w := fun er h1 h2 =>
    ⟨[], fun e => e = er, fun _ _ a b => a.trans b.symm, fun W hw => (h1 W hw).mono fun _ _ h => ⟨er, rfl, h⟩, fun W hw => (h2 W hw).mono fun _ _ h => ⟨er, rfl, h⟩⟩
  by_cases hneg : posOf l id < 0
  · have hc : ciE l f id = 7 := by unfold ciE; rw [if_neg (fun e => e G.clean), if_pos hneg]
    refine one 7 (fun W hw => ?_) fun W hw => graftOf_none l A n c id pl _ W (hW W hw) hneg
    have := graft_bad l f (fun _ => G.dep) A n c id pl hid (.slice AL nL cL) W (hW W hw) (by omega)
    rw [hc] at this
    exact this
  · obtain ⟨p, x, d, hp, hx, hxi, _⟩ := G.blk_at (Int.not_lt.1 hneg)
    by_cases h0 : pl < 0
    · exact one 2 (fun W hw => graft_low l f G A n c id pl hid _ W (hW W hw) p x hx hxi h0) fun W hw => graftOf_low l f G A n c id pl hid _ W (hW W hw) p x hx hxi h0
    by_cases h1 : (x.kids.length : Int) < pl
    · exact one 2 (fun W hw => graft_high l f G A n c id pl hid _ W (hW W hw) p x hx hxi h0 h1) fun W hw => graftOf_high l f G A n c id pl hid _ W (hW W hw) p x hx hxi h0 h1
    have key : ∀ (W : World) (e : Ending) (w' : World), GrR l id pl ls W e w' → ∃ er, ((¬ LnTo ls ls.length ∧ er = 1) ∨ (LnTo ls ls.length ∧ TryP l (grO l id pl ls) er)) ∧ ManyR (grO l id pl ls) er W e w' := fun W e w' hh => by
      rcases hh with ⟨h2, h3⟩ | ⟨h2, er, h3, h4⟩
      · exact ⟨1, .inl ⟨h2, rfl⟩, h3.bad _ (by decide)⟩
      · exact ⟨er, .inr ⟨h2, h3⟩, h4⟩
    refine ⟨grO l id pl ls, fun er => (¬ LnTo ls ls.length ∧ er = 1) ∨ (LnTo ls ls.length ∧ TryP l (grO l id pl ls) er), ?_, fun W hw => (graft_any l f G A n c id pl hid ls AL nL cL W (hW W hw) (hLW W hw) p x hx hxi (by omega) (by omega)).mono fun e w' hh => key W e w' hh, fun W hw => (graftOf_any l f G A n c id pl hid ls AL nL cL W (hW W hw) (hLW W hw) p x hx hxi (by omega) (by omega)).mono fun e w' hh => key W e w' hh⟩
    rintro e e' (⟨a, rfl⟩ | ⟨a, b⟩) (⟨a', rfl⟩ | ⟨a', b'⟩)
    · rfl
    · exact absurd a' a
    · exact absurd a a'
    · exact b.uniq b'
def ManyW (os : List Opn) (A : Option Addr) (n c : Nat) (er : Int) (w : World) : Prop := (er = 0 ∧ ROs w w.heap.size (.slice A n c) os) ∨ (er ≠ 0 ∧ A = none ∧ n = 0 ∧ c = 0)
theorem ManyW.up {os : List Opn} {A : Option Addr} {n c : Nat} {er : Int} {w w' : World} (h : ManyW os A n c er w) (hb : Below w.heap.size w w') : ManyW os A n c er w' := h.imp (fun h => ⟨h.1, (h.2.below hb).more hb.size⟩) id
theorem sameMany_both (os : List Opn) (er : Int) (A A' : Option Addr) (n c n' c' : Nat) (w : World) (h1 : ManyW os A n c er w) (h2 : ManyW os A' n' c' er w) :
    Calls Tryz.prog 46 #[.slice A n c, .int .i64 er, .slice A' n' c', .int .i64 er] w fun e w' => e = .returned (.bool true) ∧ Below w.heap.size w w' := by
  rcases h1 with ⟨rfl, h1⟩ | ⟨hne, rfl, rfl, rfl⟩
  · rcases h2 with ⟨_, h2⟩ | ⟨hne, _⟩
    · exact sameMany_any os A A' n c n' c' w h1 h2
    · exact absurd rfl hne
  · exact sameMany_bad A' n' c' er hne w
set_option maxRecDepth 100000 in
set_option maxHeartbeats 8000000 in
theorem olLaw_good (l : List Bl) (f : Int → Option Int) (hf : DepOk l f) (A : Option Addr) (n c : Nat) (id pl : Int) (hid : I64 id) (ls : List (Int × ByteArray)) (AL : Option Addr) (nL cL : Nat) (w : World) (h : RB w w.heap.size (.slice A n c) l) (hl : RLn w w.heap.size (.slice AL nL cL) ls) (h0 : baseE l f = 0) :
    Calls Tryz.prog 8 #[.slice A n c, .int .i64 id, .int .i64 pl, .slice AL nL cL] w fun e w' => e = .returned (.bool true) ∧ Below w.heap.size w w' := by
  have G := good_of h0 hf
  have hW : ∀ W, Below w.heap.size w W → RB W W.heap.size (.slice A n c) l := fun W hW => (h.below hW).more hW.size
  obtain ⟨os, P, hu, hg1, hg2⟩ := graft_both l f G A n c id pl hid ls AL nL cL w h hl
  have HBE := Lib.hid fun W (hW : Below w.heap.size w W) => baseError_any l f A n c W w.heap.size hW.size (h.below hW) hf
  rw [h0] at HBE
  have hot : ∃ (S : ByteArray) (e1 : Int), ((posOf l id < 0 ∧ e1 = 7 ∧ S = ⟨#[]⟩) ∨ (0 ≤ posOf l id ∧ e1 = 0 ∧ ∀ W, Below w.heap.size w W → Calls Tryz.prog 54 #[.slice A n c, .int .i64 id] W fun e w' => e = .returned (.string S) ∧ Below W.heap.size W w')) ∧ ∀ W, Below w.heap.size w W → Calls Tryz.prog 50 #[.slice A n c, .int .i64 id] W fun e w' => e = .returned (.tuple #[.string S, .int .i64 e1]) ∧ Below W.heap.size W w' := by
    by_cases hneg : posOf l id < 0
    · have hc : ciE l f id = 7 := by unfold ciE; rw [if_neg (fun e => e G.clean), if_pos hneg]
      refine ⟨⟨#[]⟩, 7, .inl ⟨hneg, rfl, rfl⟩, fun W hw => ?_⟩
      have := outlineText_bad l f hf A n c id hid W (hW W hw) (by omega)
      rw [hc] at this
      exact this
    · have hc : ciE l f id = 0 := by unfold ciE; rw [if_neg (fun e => e G.clean), if_neg hneg]
      obtain ⟨p, x, d, hp, hx, hxi, _, hD, _⟩ := G.blk_at (Int.not_lt.1 hneg)
      exact ⟨_, 0, .inr ⟨by omega, rfl, fun W hw => outlineOf_any l f G A n c id d hD W (hW W hw)⟩, fun W hw => outlineText_any l f G A n c id hid d hD hc W (hW W hw)⟩
  obtain ⟨S, e1, hS, hot⟩ := hot
  obtain ⟨wb, hwb⟩ : ∃ wb, wb = w.alloc (.cells #[.int .i64 id] 3) := ⟨_, rfl⟩
  have HBB : Hid (Below w.heap.size w wb) := by rw [hwb]; exact (Below.refl _ _).alloc (Nat.le_refl _) _
  have P0 : Hid (Blk wb w.heap.size 3 #[.int .i64 id]) := by rw [hwb]; exact Blk.new _ _ _
  have hzb : w.heap.size < wb.heap.size := P0.out.lt
  have HCF := Lib.hid fun W (hW : Below wb.heap.size wb W) => containsF_any 53 outlines1_any (enters_of Tryz.func53 (by kernel_rfl) rfl) l A n c w.heap.size id W w.heap.size (Nat.le_trans (Nat.le_of_lt hzb) hW.size) (Nat.lt_of_lt_of_le hzb hW.size) ((P0.out.below hW hzb).cell 0) ((h.below HBB.out).below (hW.mono (Nat.le_of_lt hzb)))
  have HF : Hid (∀ W, Below wb.heap.size wb W → Below w.heap.size w W) := fun W hW => HBB.out.trans (hW.mono HBB.out.size)
  have HOT := Lib.hid hot
  have HS := Lib.hid hS
  have HG1 := Lib.hid hg1
  have HG2 := Lib.hid hg2
  have HU := Lib.hid hu
  have HWB := Lib.hid hwb
  clear hot hS hg1 hg2 hu hwb G h hl h0 hf hid hW
  go_enter Tryz.func8, Tryz.ntmps8
  go_upto_region 1 with fail
  rw [← HWB.out]
  have e0 := fun i => P0.out.cell i
  go_wp2_with fail
  refine (HOT.out wb HBB.out).mono ?_
  rintro e w1 ⟨rfl, hb⟩
  have HB1 : Hid (Below wb.heap.size wb w1) := hb
  have P1 := Lib.hid (P0.out.below hb P0.out.lt)
  clear hb e0
  have e0 := fun i => P1.out.cell i
  go_wp2_with fail
  refine (HG1.out w1 (HF.out _ HB1.out)).mono ?_
  rintro e w2 ⟨er, hp, ⟨A2, n2, c2, rfl, hres⟩, hb⟩
  have HB2 : Hid (Below wb.heap.size wb w2) := HB1.out.trans (hb.mono HB1.out.size)
  have P2 := Lib.hid (P1.out.below hb P1.out.lt)
  have HP := Lib.hid hp
  have V2 : Hid (ManyW os A2 n2 c2 er w2) := hres
  clear hb e0 hp hres
  have e0 := fun i => P2.out.cell i
  go_wp2_with fail
  refine (HBE.out w2 (HF.out _ HB2.out)).mono ?_
  rintro e w3 ⟨rfl, hb⟩
  have HB3 : Hid (Below wb.heap.size wb w3) := HB2.out.trans (hb.mono HB2.out.size)
  have P3 := Lib.hid (P2.out.below hb P2.out.lt)
  have V3 := Lib.hid (V2.out.up hb)
  clear hb e0
  have e0 := fun i => P3.out.cell i
  go_wp2_with fail
  refine (HG2.out w3 (HF.out _ HB3.out)).mono ?_
  rintro e w4 ⟨er', hp, ⟨A4, n4, c4, rfl, hres⟩, hb⟩
  have HB4 : Hid (Below wb.heap.size wb w4) := HB3.out.trans (hb.mono HB3.out.size)
  have P4 := Lib.hid (P3.out.below hb P3.out.lt)
  have V4 := Lib.hid (V3.out.up hb)
  obtain rfl : er' = er := HU.out _ _ hp HP.out
  have U4 : Hid (ManyW os A4 n4 c4 er' w4) := hres
  have HSM := Lib.hid (sameMany_both os er' A2 A4 n2 c2 n4 c4 w4 V4.out U4.out)
  clear hb e0 hp hres
  have e0 := fun i => P4.out.cell i
  go_wp2_with fail
  refine HSM.out.mono ?_
  rintro e w5 ⟨rfl, hb⟩
  have HB5 : Hid (Below wb.heap.size wb w5) := HB4.out.trans (hb.mono HB4.out.size)
  have P5 := Lib.hid (P4.out.below hb P4.out.lt)
  have HCC := Lib.hid (HCF.out w5 HB5.out)
  clear hb e0
  have e0 := fun i => P5.out.cell i
  rcases HS.out with ⟨hneg, rfl, rfl⟩ | ⟨hpos, rfl, hoo⟩
  · rw [decide_eq_false (by omega)] at HCC
    clear hneg
    go_wp2_with fail
    refine HCC.out.mono ?_
    rintro e w6 ⟨rfl, hb⟩
    have HB6 := Lib.hid (HF.out _ (HB5.out.trans (hb.mono HB5.out.size)))
    clear hb e0
    go_wp2_with fail
    go_ret
    exact ⟨rfl, HB6.out⟩
  · rw [decide_eq_true hpos] at HCC
    have HOO := Lib.hid hoo
    clear hpos hoo
    go_wp2_with fail
    refine HCC.out.mono ?_
    rintro e w6 ⟨rfl, hb⟩
    have HB6 : Hid (Below wb.heap.size wb w6) := HB5.out.trans (hb.mono HB5.out.size)
    have P6 := Lib.hid (P5.out.below hb P5.out.lt)
    clear hb e0
    have e0 := fun i => P6.out.cell i
    go_wp2_with fail
    refine (HOO.out w6 (HF.out _ HB6.out)).mono ?_
    rintro e w7 ⟨rfl, hb⟩
    have HB7 := Lib.hid (HF.out _ (HB6.out.trans (hb.mono HB6.out.size)))
    clear hb e0
    go_wp2_with fail
    go_ret
    exact ⟨rfl, HB7.out⟩
set_option maxRecDepth 100000 in
set_option maxHeartbeats 4000000 in
theorem olLaw_bad (l : List Bl) (f : Int → Option Int) (hf : DepOk l f) (A : Option Addr) (n c : Nat) (id pl : Int) (hid : I64 id) (lv : Value) (w : World) (h : RB w w.heap.size (.slice A n c) l) (hne : baseE l f ≠ 0) :
    Calls Tryz.prog 8 #[.slice A n c, .int .i64 id, .int .i64 pl, lv] w fun e w' => e = .returned (.bool true) ∧ Below w.heap.size w w' := by
  have hc : ciE l f id = baseE l f := by unfold ciE; rw [if_pos hne]
  have hnc : ciE l f id ≠ 0 := by rw [hc]; exact hne
  have hW : ∀ W, Below w.heap.size w W → RB W W.heap.size (.slice A n c) l := fun W hW => (h.below hW).more hW.size
  have HOT := Lib.hid fun W hw => outlineText_bad l f hf A n c id hid W (hW W hw) hnc
  have HG1 := Lib.hid fun W hw => graft_bad l f hf A n c id pl hid lv W (hW W hw) hnc
  have HBE := Lib.hid fun W (hW : Below w.heap.size w W) => baseError_any l f A n c W w.heap.size hW.size (h.below hW) hf
  rw [hc] at HOT HG1
  obtain ⟨er, her⟩ : ∃ er, er = baseE l f := ⟨_, rfl⟩
  rw [← her] at HOT HG1 HBE hne
  have h0' : (er != 0) = true := by simpa using hne
  have h1' : (er == er) = true := beq_self_eq_true er
  have HNE := Lib.hid hne
  obtain ⟨wb, hwb⟩ : ∃ wb, wb = w.alloc (.cells #[.int .i64 id] 3) := ⟨_, rfl⟩
  have HBB : Hid (Below w.heap.size w wb) := by rw [hwb]; exact (Below.refl _ _).alloc (Nat.le_refl _) _
  have P0 : Hid (Blk wb w.heap.size 3 #[.int .i64 id]) := by rw [hwb]; exact Blk.new _ _ _
  have HF : Hid (∀ W, Below wb.heap.size wb W → Below w.heap.size w W) := fun W hW => HBB.out.trans (hW.mono HBB.out.size)
  have HWB := Lib.hid hwb
  clear hc hnc hW her hne h hwb hid hf
  go_enter Tryz.func8, Tryz.ntmps8
  go_upto_region 1 with fail
  rw [← HWB.out]
  have e0 := fun i => P0.out.cell i
  go_wp2_with fail
  refine (HOT.out wb HBB.out).mono ?_
  rintro e w1 ⟨rfl, hb⟩
  have HB1 : Hid (Below wb.heap.size wb w1) := hb
  have P1 := Lib.hid (P0.out.below hb P0.out.lt)
  clear hb e0
  have e0 := fun i => P1.out.cell i
  go_wp2_with fail
  refine (HG1.out w1 (HF.out _ HB1.out)).mono ?_
  rintro e w2 ⟨⟨A2, n2, c2, rfl, hres⟩, hb⟩
  have HB2 : Hid (Below wb.heap.size wb w2) := HB1.out.trans (hb.mono HB1.out.size)
  obtain ⟨rfl, rfl, rfl⟩ : A2 = none ∧ n2 = 0 ∧ c2 = 0 := by
    rcases hres with ⟨h, _⟩ | ⟨_, h⟩
    · exact absurd h HNE.out
    · exact h
  clear hb e0 hres
  go_wp2_with fail
  refine (HBE.out w2 (HF.out _ HB2.out)).mono ?_
  rintro e w3 ⟨rfl, hb⟩
  have HB3 := Lib.hid (HF.out _ (HB2.out.trans (hb.mono HB2.out.size)))
  clear hb
  go_wp2_with fail
  go_ret
  exact ⟨rfl, HB3.out⟩
/-- the law, for every base, block, place and lines of bounded bulk -/
theorem olLaw_any (l : List Bl) (f : Int → Option Int) (hf : DepOk l f) (A : Option Addr) (n c : Nat) (id pl : Int) (hid : I64 id) (ls : List (Int × ByteArray)) (AL : Option Addr) (nL cL : Nat) (w : World) (h : RB w w.heap.size (.slice A n c) l) (hl : RLn w w.heap.size (.slice AL nL cL) ls) :
    Calls Tryz.prog 8 #[.slice A n c, .int .i64 id, .int .i64 pl, .slice AL nL cL] w fun e w' => e = .returned (.bool true) ∧ Below w.heap.size w w' := by
  by_cases h0 : baseE l f = 0
  · exact olLaw_good l f hf A n c id pl hid ls AL nL cL w h hl h0
  · exact olLaw_bad l f hf A n c id pl hid _ w h h0
end Go.Proofs.YtmkicfjcgbfaaaaGreat
