/-
  DERIVED. The walk of tree.Check. Conditions: sizes.
  The walks of tree.Depth, Path, Below, PageOf, Pages, Order, NextId, Empty and the reference's NextOf. Conditions: sizes.
  The walk of the reference's copied: a base of the call's own whose properties' items lie where they lay. Conditions: sizes.
  By an AI agent.
-/
import Derived.Test.YtmkicfjcgbfaaaaGreatTe17
import Derived.Test.YtmkicfjcgbfaaaaGreatTe24
import Derived.Test.YtmkicfjcgbfaaaaGreatTe22
import Derived.Test.YtmkicfjcgbfaaaaGreatTe26
namespace Go.Proofs.YtmkicfjcgbfaaaaGreat
open Go.RowKit

set_option maxHeartbeats 4000000 in
/-- tree.Check -/
theorem treeCheck_any (l : List Bl) (f : Int → Option Int) (A : Option Addr) (n c : Nat) (w : World) (B : Nat) (hB : B ≤ w.heap.size) (h : RB w B (.slice A n c) l) (hf : DepOk l f) :
    Calls Tryz.prog 10 #[.slice A n c] w fun e w' => e = .returned (.int .i64 (baseE l f)) ∧ Below w.heap.size w w' := by
  obtain ⟨V, hV⟩ : ∃ V, V = baseE l f := ⟨_, rfl⟩
  rw [← hV]
  unfold baseE at hV
  have hn := h.len
  rw [← hn.1] at hV
  by_cases h0 : n = 0
  · subst h0
    rw [if_pos rfl] at hV
    subst hV
    clear h hn hf
    go_enter Tryz.func10, Tryz.ntmps10
    go_wp2_with fail
    go_ret
    exact ⟨rfl, Below.refl _ _⟩
  rw [if_neg h0] at hV
  have h0' : ((n : Int) == 0) = false := by simpa using h0
  by_cases h1 : 2000 < n
  · rw [if_pos h1] at hV
    have h1' : (2000 : Int) < (n : Int) := by omega
    subst hV
    clear h hn hf h0 h1
    go_enter Tryz.func10, Tryz.ntmps10
    go_wp2_with fail
    go_ret
    exact ⟨rfl, Below.refl _ _⟩
  rw [if_neg h1] at hV
  have h1' : ¬ (2000 : Int) < (n : Int) := by omega
  have HBK := Lib.hid fun (k : Nat) (x : Bl) (W : World) (hx : l[k]? = some x) (hW : Below w.heap.size w W) => checkBlock_any l A n c k x W B (Nat.le_trans hB hW.size) (h.below (hW.mono hB)) hx
  have HCK := Lib.hid fun (W : World) (hr : Rise l) (hi : IdsIn l) (hW : Below w.heap.size w W) => checkKids_any l A n c W B (Nat.le_trans hB hW.size) (h.below (hW.mono hB)) hr hi
  have HDP := Lib.hid fun (W : World) (K : Kids l) (hW : Below w.heap.size w W) => depths_any l A n c W B (Nat.le_trans hB hW.size) (h.below (hW.mono hB)) K
  have HE := Lib.hid (intElem (P := Tryz.prog) (e := 3) Tryz.underlying3 int_zero)
  have H := Lib.hid h
  have HN := Lib.hid hn
  have HV := Lib.hid hV
  have HF := Lib.hid hf
  have H0 := Lib.hid h0
  have H1 := Lib.hid h1
  obtain ⟨U, hU⟩ : ∃ U, U = blksErr none l := ⟨_, rfl⟩
  rw [← hU] at HV
  have HU : Hid (U = blksErr (prevB l 0) (l.drop 0)) := hU
  have HU0 : Hid (U = 0 → blksErr none l = 0) := fun e => hU.symm.trans e
  clear h hn hV hf h0 hU
  go_enter Tryz.func10, Tryz.ntmps10
  go_wp2_with fail
  go_loopg [21] n (fun gg s21 wr => ∃ i : Nat, i + gg = n ∧ s21 = .int .i64 (i : Int) ∧ Hid (U = blksErr (prevB l i) (l.drop i)) ∧ Hid (Below w.heap.size w wr))
  case atStart => exact ⟨0, by omega, rfl, HU, Below.refl _ _⟩
  case round =>
    obtain ⟨i, hig, rfl, hno, hbel⟩ := hrel
    obtain ⟨W1, rfl⟩ : ∃ W1, W1 = wr := ⟨_, rfl⟩
    by_cases hk : i < n
    case pos =>
      obtain ⟨x, hx⟩ : ∃ x, l[i]? = some x := ⟨_, List.getElem?_eq_getElem (by have := HN.out.1; omega)⟩
      have hst := hno.out.trans (blksErr_at hx)
      have HX := HBK.out i x W1 hx hbel.out
      obtain ⟨e, he⟩ : ∃ e, e = blkErr (prevB l i) x := ⟨_, rfl⟩
      rw [← he] at hst HX
      have HX := Lib.hid HX
      have j0 : (0 : Int) ≤ (i : Int) := by omega
      have j1 : (i : Int) < (n : Int) := by omega
      clear hx he
      by_cases hz : e = 0
      · have HS := Lib.hid (hst.trans (if_neg (fun h => h hz)))
        subst hz
        clear hst
        go_wp2_with fail
        refine HX.out.mono ?_
        rintro e w2 ⟨rfl, hb⟩
        have HB2 : Hid (Below w.heap.size w w2) := hbel.out.trans (hb.mono hbel.out.size)
        clear hb
        go_wp2_with fail
        go_roundg (n - (i + 1))
        case measure => omega
        case rel => exact ⟨i + 1, by omega, by go_num, HS, HB2⟩
      · have hs := hst.trans (if_pos hz)
        have HZ := Lib.hid (HV.out.trans ((if_pos (by rw [hs]; exact hz)).trans hs))
        have hz' : (e != 0) = true := by simpa using hz
        clear hst hs hz
        go_wp2_with fail
        refine HX.out.mono ?_
        rintro e' w2 ⟨rfl, hb⟩
        have HB2 : Hid (Below w.heap.size w w2) := hbel.out.trans (hb.mono hbel.out.size)
        clear hb
        go_wp2_with fail
        go_ret
        exact ⟨by rw [HZ.out]; rfl, HB2.out⟩
    case neg =>
    obtain rfl : n = i := by omega
    have hu : U = 0 := hno.out.trans (by rw [List.drop_of_length_le (by rw [← HN.out.1]; exact Nat.le_refl _)]; cases prevB l n <;> rfl)
    have hb0 := HU0.out hu
    have HV2 := Lib.hid (HV.out.trans (if_neg (fun h => h hu)))
    have HX := HCK.out W1 (rise_of hb0) (ids_of hb0) hbel.out
    have HK : Hid (allKids l l = 0 → Kids l) := fun h3 => kids_of (by have := HN.out.1; have := H0.out; omega) (by have := HN.out.1; have := H1.out; omega) hb0 h3
    obtain ⟨e, he⟩ : ∃ e, e = allKids l l := ⟨_, rfl⟩
    rw [← he] at HX HV2 HK
    have HX := Lib.hid HX
    clear he hu hb0 hno
    by_cases hz : e = 0
    case neg =>
      have HZ := Lib.hid (HV2.out.trans (if_pos hz))
      have hz' : (e != 0) = true := by simpa using hz
      clear hz
      go_wp2_with fail
      refine HX.out.mono ?_
      rintro e' w2 ⟨rfl, hb⟩
      have HB2 : Hid (Below w.heap.size w w2) := hbel.out.trans (hb.mono hbel.out.size)
      clear hb
      go_wp2_with fail
      go_ret
      exact ⟨by rw [HZ.out]; rfl, HB2.out⟩
    have KK := Lib.hid (HK.out hz)
    have HV3 := Lib.hid (HV2.out.trans (if_neg (fun h => h hz)))
    subst hz
    clear HV HV2
    go_wp2_with fail
    refine HX.out.mono ?_
    rintro e' w2 ⟨rfl, hb⟩
    have HB2 : Hid (Below w.heap.size w w2) := hbel.out.trans (hb.mono hbel.out.size)
    have HY := Lib.hid (HDP.out w2 KK.out HB2.out)
    clear hb
    go_wp2_with fail
    refine HY.out.mono ?_
    rintro e' w3 ⟨⟨bm, km, f', rfl, hm, hdep⟩, hb⟩
    obtain rfl : f' = f := hdep.uniq (HF.out KK.out)
    have HB3 : Hid (Below w.heap.size w w3) := HB2.out.trans (hb.mono HB2.out.size)
    have HM := Lib.hid hm
    have HD := Lib.hid hdep
    clear hb hm hdep
    go_wp2_with fail
    go_loopg [40] n (fun gg s40 wr => ∃ i : Nat, i + gg = n ∧ s40 = .int .i64 (i : Int) ∧ Hid (V = lvlE f' (l.drop i)) ∧ Hid (IM wr bm km f') ∧ Hid (Below w.heap.size w wr))
    case atStart => exact ⟨0, by omega, rfl, HV3, HM, HB3⟩
    case round =>
      obtain ⟨i, hig, rfl, hno, hm, hbel⟩ := hrel
      by_cases hk : i < n
      case neg =>
        obtain rfl : n = i := by omega
        have hu : V = 0 := hno.out.trans (by rw [List.drop_of_length_le (by rw [← HN.out.1]; exact Nat.le_refl _)]; rfl)
        have HZ := Lib.hid hu
        clear hu
        go_wp2_with fail
        go_ret
        exact ⟨by rw [HZ.out]; rfl, hbel.out⟩
      obtain ⟨x, hx⟩ : ∃ x, l[i]? = some x := ⟨_, List.getElem?_eq_getElem (by have := HN.out.1; omega)⟩
      obtain ⟨b, off, Ak, nk, ck, Ap, np, cp, rfl, hbb, g0, g1, g2, g3, g4, _, _⟩ := (H.out.below (hbel.out.mono hB)).at_ hx
      have hst := hno.out.trans (lvlE_at hx)
      have hxi := KK.out.ids.i64 (List.mem_of_getElem? hx)
      have hlk := (hm.out.alloc (.cells #[.int .i64 x.id, .int .i64 x.parent, .slice Ak nk ck, .string x.text, .slice Ap np cp] 38)).look_ok HE.out Tryz.underlying3 Tryz.underlying86 hxi
      have HMA := Lib.hid (hm.out.alloc (.cells #[.int .i64 x.id, .int .i64 x.parent, .slice Ak nk ck, .string x.text, .slice Ap np cp] 38))
      have HAL := Lib.hid (hbel.out.alloc hbel.out.size (.cells #[.int .i64 x.id, .int .i64 x.parent, .slice Ak nk ck, .string x.text, .slice Ap np cp] 38))
      have j0 : (0 : Int) ≤ (i : Int) := by omega
      have j1 : (i : Int) < (n : Int) := by omega
      clear hx
      cases hfx : f' x.id with
      | none =>
        rw [hfx] at hlk hst
        dsimp only [Option.getD_none, Option.isSome_none] at hlk
        have HZ := Lib.hid (hst.trans (if_pos rfl))
        clear hst hfx
        go_wp2_with fail
        go_ret
        exact ⟨by rw [HZ.out]; rfl, HAL.out⟩
      | some d =>
        rw [hfx] at hlk hst
        dsimp only [Option.getD_some, Option.isSome_some] at hlk hst
        have hst := hst.trans (if_neg (by simp))
        clear hfx
        by_cases hd : 40 < d
        · have HZ := Lib.hid (hst.trans (if_pos hd))
          clear hst
          go_wp2_with fail
          go_ret
          exact ⟨by rw [HZ.out]; rfl, HAL.out⟩
        · have HZ := Lib.hid (hst.trans (if_neg hd))
          clear hst
          go_wp2_with fail
          go_roundg (n - (i + 1))
          case measure => omega
          case rel => exact ⟨i + 1, by omega, by go_num, HZ, HMA, HAL⟩
end Go.Proofs.YtmkicfjcgbfaaaaGreat
namespace Go.Proofs.YtmkicfjcgbfaaaaGreat
open Go.RowKit

theorem RInX.nil (w : World) (S : Nat → Prop) : RInX w S (.slice none 0 0) [] := ⟨none, 0, 0, rfl, rfl, ⟨Nat.le_refl _, by omega⟩, ⟨rfl, fun h => absurd h (by omega)⟩, fun x hx => by cases hx⟩
theorem RPrX.nil (w : World) (S : Nat → Prop) : RPrX w S (.slice none 0 0) [] := ⟨none, 0, 0, [], rfl, rfl, rfl, ⟨Nat.le_refl _, by omega⟩, ⟨rfl, fun h => absurd h (by omega)⟩, fun x hx => by cases hx⟩

/-- the error of a base, and of a block that must be there -/
def ciE (l : List Bl) (f : Int → Option Int) (id : Int) : Int := if baseE l f ≠ 0 then baseE l f else if posOf l id < 0 then 7 else 0
def cinE (l : List Bl) (f : Int → Option Int) (id : Int) : Int := if ciE l f id ≠ 0 then ciE l f id else if id ≠ 0 then 0 else 7
def dOf (f : Int → Option Int) (id : Int) : Nat := ((f id).getD 0).toNat
section
variable {l : List Bl} {f : Int → Option Int} {id : Int}
theorem Good.low' (G : Good l f) : ∀ id d, Dp l id d → d ≤ 40 := fun _ _ h => G.low h
theorem Good.at_ (G : Good l f) (h : 0 ≤ posOf l id) : Dp l id (dOf f id) ∧ dOf f id ≤ 40 := by
  obtain ⟨_, b, h2, h3⟩ := posOf_lt h
  obtain ⟨d, h4, h5, h6⟩ := G.dp (List.mem_of_getElem? h2)
  rw [h3] at h4 h5
  have : dOf f id = d := by unfold dOf; rw [h4]; rfl
  rw [this]; exact ⟨h5, h6⟩
end

set_option maxHeartbeats 1000000 in
theorem checkId_any (l : List Bl) (f : Int → Option Int) (A : Option Addr) (n c : Nat) (id : Int) (hid : I64 id) (w : World) (B : Nat) (hB : B ≤ w.heap.size) (h : RB w B (.slice A n c) l) (hf : DepOk l f) :
    Calls Tryz.prog 65 #[.slice A n c, .int .i64 id] w fun e w' => e = .returned (.int .i64 (ciE l f id)) ∧ Below w.heap.size w w' := by
  have HC := treeCheck_any l f A n c w B hB h hf
  obtain ⟨V, hV⟩ : ∃ V, V = ciE l f id := ⟨_, rfl⟩
  rw [← hV]
  unfold ciE at hV
  have HI : Hid (baseE l f = 0 → ∀ W, Below w.heap.size w W → Calls Tryz.prog 105 #[.slice A n c, .int .i64 id] W fun e w' => e = .returned (.int .i64 (posOf l id)) ∧ Below W.heap.size W w') := fun h0 W hW => by
    have G := good_of h0 hf
    exact index_any l A n c id W B (Nat.le_trans hB hW.size) (h.below (hW.mono hB)) G.kids.rise G.kids.ids hid
  obtain ⟨E, hE⟩ : ∃ E, E = baseE l f := ⟨_, rfl⟩
  rw [← hE] at HC hV HI
  have HC := Lib.hid HC
  clear h hf hE
  by_cases h0 : E = 0
  · have HI' := Lib.hid (HI.out h0)
    rw [if_neg (fun e => e h0)] at hV
    subst h0
    by_cases hp : posOf l id < 0
    · rw [if_pos hp] at hV
      subst hV
      go_enter Tryz.func65, Tryz.ntmps65
      go_wp2_with fail
      refine HC.out.mono ?_
      rintro e w1 ⟨rfl, hb1⟩
      have HB1 := Lib.hid hb1
      have HX := Lib.hid (HI'.out w1 hb1)
      clear hb1
      go_wp2_with fail
      refine HX.out.mono ?_
      rintro e w2 ⟨rfl, hb2⟩
      have HB2 : Hid (Below w.heap.size w w2) := HB1.out.trans (hb2.mono HB1.out.size)
      clear hb2
      go_wp2_with fail
      go_ret
      exact ⟨rfl, HB2.out⟩
    · rw [if_neg hp] at hV
      subst hV
      go_enter Tryz.func65, Tryz.ntmps65
      go_wp2_with fail
      refine HC.out.mono ?_
      rintro e w1 ⟨rfl, hb1⟩
      have HB1 := Lib.hid hb1
      have HX := Lib.hid (HI'.out w1 hb1)
      clear hb1
      go_wp2_with fail
      refine HX.out.mono ?_
      rintro e w2 ⟨rfl, hb2⟩
      have HB2 : Hid (Below w.heap.size w w2) := HB1.out.trans (hb2.mono HB1.out.size)
      clear hb2
      go_wp2_with fail
      go_ret
      exact ⟨rfl, HB2.out⟩
  · rw [if_pos h0] at hV
    have h0' : (E != 0) = true := by simpa using h0
    subst hV
    clear HI h0
    go_enter Tryz.func65, Tryz.ntmps65
    go_wp2_with fail
    refine HC.out.mono ?_
    rintro e w1 ⟨rfl, hb1⟩
    have HB1 := Lib.hid hb1
    clear hb1
    go_wp2_with fail
    go_ret
    exact ⟨rfl, HB1.out⟩
set_option maxHeartbeats 1000000 in
theorem checkInner_any (l : List Bl) (f : Int → Option Int) (A : Option Addr) (n c : Nat) (id : Int) (hid : I64 id) (w : World) (B : Nat) (hB : B ≤ w.heap.size) (h : RB w B (.slice A n c) l) (hf : DepOk l f) :
    Calls Tryz.prog 101 #[.slice A n c, .int .i64 id] w fun e w' => e = .returned (.int .i64 (cinE l f id)) ∧ Below w.heap.size w w' := by
  have HC := checkId_any l f A n c id hid w B hB h hf
  obtain ⟨V, hV⟩ : ∃ V, V = cinE l f id := ⟨_, rfl⟩
  rw [← hV]
  unfold cinE at hV
  obtain ⟨E, hE⟩ : ∃ E, E = ciE l f id := ⟨_, rfl⟩
  rw [← hE] at HC hV
  have HC := Lib.hid HC
  clear h hf hE
  by_cases h0 : E = 0
  · rw [if_neg (fun e => e h0)] at hV
    subst h0
    by_cases hp : id = 0
    · rw [if_neg (fun e => e hp)] at hV
      subst hV
      have hp' : (id != 0) = false := by simpa using hp
      clear hp
      go_enter Tryz.func101, Tryz.ntmps101
      go_wp2_with fail
      refine HC.out.mono ?_
      rintro e w1 ⟨rfl, hb1⟩
      have HB1 := Lib.hid hb1
      clear hb1
      go_wp2_with fail
      go_ret
      exact ⟨rfl, HB1.out⟩
    · rw [if_pos hp] at hV
      subst hV
      have hp' : (id != 0) = true := by simpa using hp
      clear hp
      go_enter Tryz.func101, Tryz.ntmps101
      go_wp2_with fail
      refine HC.out.mono ?_
      rintro e w1 ⟨rfl, hb1⟩
      have HB1 := Lib.hid hb1
      clear hb1
      go_wp2_with fail
      go_ret
      exact ⟨rfl, HB1.out⟩
  · rw [if_pos h0] at hV
    have h0' : (E != 0) = true := by simpa using h0
    subst hV
    clear h0
    go_enter Tryz.func101, Tryz.ntmps101
    go_wp2_with fail
    refine HC.out.mono ?_
    rintro e w1 ⟨rfl, hb1⟩
    have HB1 := Lib.hid hb1
    clear hb1
    go_wp2_with fail
    go_ret
    exact ⟨rfl, HB1.out⟩

end Go.Proofs.YtmkicfjcgbfaaaaGreat
namespace Go.Proofs.YtmkicfjcgbfaaaaGreat
open Go.RowKit

/-- a row of the call's own; what its elements lead to lies in any other blocks -/
structure OutN {α : Type} (enc : α → List Value) (size : Nat) (e : TypeId) (N : Nest α) (w : World) (base : Nat) (v : Value) (M : List α) : Prop where
  own : w.ownsRow base e size v M.length (M.flatMap enc)
  nest : ∀ x ∈ M, N w (fun b => b < w.heap.size ∧ v.ownBlock ≠ some b) x
section
variable {α : Type} {enc : α → List Value} {size base : Nat} {e : TypeId} {N : Nest α} {w w' : World} {v v' : Value} {M : List α} {x : α}
theorem OutN.start (w : World) (base : Nat) : OutN enc size e N w base (.slice none 0 0) [] := ⟨World.ownsRow_nil w base e size, fun x hx => by cases hx⟩
theorem OutN.below (hN : NestOk N) (h : OutN enc size e N w base v M) (hb : Below w.heap.size w w') : OutN enc size e N w' base v M :=
  ⟨own_below h.own hb, fun x hx => hN _ _ _ _ x (h.nest x hx) (fun _ hp => hb.cell hp.1) fun _b hb' => ⟨Nat.lt_of_lt_of_le hb'.1 hb.size, hb'.2⟩⟩
theorem OutN.app (hN : NestOk N) (h : OutN enc size e N w base v M) {S : Nat → Prop} (hx : N w S x) (hS : ∀ b, S b → b < w.heap.size ∧ v.ownBlock ≠ some b)
    (hown : w'.ownsRow base e size v' (M.length + 1) (M.flatMap enc ++ enc x)) (hg : w.grownBy w' v.ownBlock) (hat : v'.ownBlock = v.ownBlock ∨ v'.ownBlock = some w.heap.size) : OutN enc size e N w' base v' (M ++ [x]) := by
  have key : ∀ b, b < w.heap.size ∧ v.ownBlock ≠ some b → b < w'.heap.size ∧ v'.ownBlock ≠ some b := fun b ⟨h2, h3⟩ => by
    refine ⟨Nat.lt_of_lt_of_le h2 hg.size, ?_⟩
    rcases hat with g | g
    · rw [g]; exact h3
    · rw [g]; intro e; injection e with e; omega
  refine ⟨by rw [List.length_append, List.flatMap_append]; simpa using hown, fun y hy => ?_⟩
  rcases List.mem_append.1 hy with hy | hy
  · exact hN _ _ _ _ y (h.nest y hy) (fun _ hp => World.cell?_of_block (hg.block _ hp.1 (fun e => hp.2 e.symm))) key
  · obtain rfl : y = x := by simpa using hy
    exact hN _ _ _ _ y hx (fun _ hp => World.cell?_of_block (hg.block _ (hS _ hp).1 (fun e => (hS _ hp).2 e.symm))) fun b hb => key b (hS b hb)
theorem OutN.blocks (h : OutN enc size e N w base v M) : ∀ g, v.ownBlock = some g → base ≤ g ∧ g < w.heap.size := own_block_lt h.own
end
abbrev OutB := OutN blV 5 38 NB
section
variable {w w' : World} {base : Nat} {v v' : Value}
theorem own_empty {w : World} {g : Nat} {t : TypeId} {size base : Nat} (hg : base ≤ g) (h : Blk w g t #[]) : w.ownsRow base t size (.slice (some ⟨g, 0, none⟩) 0 0) 0 [] :=
  ⟨by simp, .inr ⟨g, 0, #[], rfl, hg, h, Nat.le_refl _, Nat.zero_le _, by simp, by simp⟩⟩
end
theorem prs_one (M : List (Pr × Value)) (h : ∀ x ∈ M, ∃ A n c, x.2 = .slice A n c) : ∀ u ∈ M.flatMap prV, u.oneCell' = true := by
  intro u hu
  obtain ⟨x, hx, hu⟩ := List.mem_flatMap.1 hu
  exact prV_one x (h x hx) u hu
/-- what copied leaves -/
def CopiedR (l : List Bl) (w : World) (e : Ending) (w' : World) : Prop := ∃ (g cap n : Nat) (M : List BK), e = .returned (.slice (some ⟨g, 0, none⟩) n cap) ∧ M.length = n ∧ M.map Prod.fst = l ∧ w.heap.size ≤ g ∧ RowB w' g cap M ∧ Below w.heap.size w w'
set_option maxRecDepth 100000 in
set_option maxHeartbeats 8000000 in
/-- the reference's copied -/
theorem copied_any (l : List Bl) (A : Option Addr) (n c : Nat) (w : World) (B : Nat) (hB : B ≤ w.heap.size) (h : RB w B (.slice A n c) l) (hn0 : 0 < n) (hn1 : n ≤ 100000) :
    Calls Tryz.prog 83 #[.slice A n c] w (CopiedR l w) := by
  obtain ⟨i0, hi, hq0, hq1, hq2⟩ := info_parts int_info
  obtain ⟨j0, hj, hr0, hr1, hr2⟩ := info_parts prop_info
  obtain ⟨k0, hki, hs0, hs1, hs2⟩ := info_parts block_info
  have HN := Lib.hid h.len
  have H := Lib.hid h
  clear h
  go_enter Tryz.func83, Tryz.ntmps83
  go_wp2_with fail
  go_loopg [3, 8] n (fun gg s3 s8 wr => ∃ (k : Nat) (v : Value) (M : List BK), k + gg = n ∧ v = s3 ∧ s8 = .int .i64 (k : Int) ∧ Hid (M.map Prod.fst = l.take k) ∧ Hid (OutB wr w.heap.size v M) ∧ Hid (Below w.heap.size w wr))
  case atStart => exact ⟨0, _, [], by omega, rfl, rfl, rfl, OutN.start _ _, Below.refl _ _⟩
  case round =>
    obtain ⟨k, v, M, hkg, rfl, rfl, hM, hown, hbel⟩ := hrel
    obtain ⟨W1, rfl⟩ : ∃ W1, W1 = wr := ⟨_, rfl⟩
    have hzr : w.heap.size ≤ W1.heap.size := hbel.out.size
    have HML : Hid (M.length = k) := by
      show _ = _
      have := congrArg List.length hM.out
      rw [List.length_map, List.length_take, ← HN.out.1] at this
      omega
    by_cases hk : k < n
    · obtain ⟨x, hx⟩ : ∃ x, l[k]? = some x := ⟨_, List.getElem?_eq_getElem (by have := HN.out.1; omega)⟩
      have HLK : Hid (l.take (k + 1) = l.take k ++ [x]) := by
        show _ = _
        rw [List.take_add_one, hx]; rfl
      obtain ⟨b, off, Kx, nkx, ckx, Px, npx, cpx, rfl, hbb, g0, g1, g2, g3, g4, hKx, hPx⟩ := (H.out.below (hbel.out.mono hB)).at_ hx
      obtain ⟨xid, xpar, xks, xtx, xps⟩ := x
      dsimp only at g0 g1 g2 g3 g4 hKx hPx
      obtain ⟨wa, hwa⟩ : ∃ wa, wa = W1.alloc (.cells #[.int .i64 xid, .int .i64 xpar, .slice Kx nkx ckx, .string xtx, .slice Px npx cpx] 38) := ⟨_, rfl⟩
      have hal : Below W1.heap.size W1 wa := by rw [hwa]; exact (Below.refl _ _).alloc (Nat.le_refl _) _
      have hza : wa.heap.size = W1.heap.size + 1 := by rw [hwa]; simp
      have Q0 : Hid (Blk wa W1.heap.size 38 #[.int .i64 xid, .int .i64 xpar, .slice Kx nkx ckx, .string xtx, .slice Px npx cpx]) := by rw [hwa]; exact Blk.new _ _ _
      have HBA : Hid (Below W1.heap.size W1 wa) := hal
      have HK := Lib.hid (hKx.below (hal.mono (Nat.le_trans hB hzr)))
      have hPX := hPx
      have i1 : (0 : Int) ≤ (k : Int) := by omega
      have i2 : (k : Int) < (n : Int) := by omega
      have HWA := Lib.hid hwa
      clear hx hwa hal hKx hPx
      go_upto_region 5 with fail
      rw [← HWA.out]
      clear g0 g1 g2 g3 g4
      have e0 := fun i => Q0.out.cell i
      have HKL := Lib.hid HK.out.len
      have HR1 : Hid (Reads (wa.alloc (.cells #[] 3)) B 1 Kx nkx (xks.map (.int .i64))) := HK.out.reads.below ((Below.refl _ _).alloc (by omega) _)
      have HO1 : Hid ((wa.alloc (.cells #[] 3)).ownsRow (W1.heap.size + 1) 3 1 (.slice (some ⟨W1.heap.size + 1, 0, none⟩) 0 0) 0 []) := own_empty (Nat.le_refl _) (by rw [← hza]; exact Blk.new _ _ _)
      have hone := ints_one xks
      have HC1 : Hid (0 + nkx ≤ maxLen) := by show _ ≤ _; unfold maxLen; have := HKL.out; omega
      have HC2 : Hid ((0 + nkx) * 8 ≤ 140737488355328) := by show _ ≤ _; have := HKL.out; omega
      have hbase : W1.heap.size + 1 ≤ (wa.alloc (.cells #[] 3)).heap.size := by simp; omega
      have Q1 : Hid (Blk (wa.alloc (.cells #[] 3)) W1.heap.size 38 #[.int .i64 xid, .int .i64 xpar, .slice Kx nkx ckx, .string xtx, .slice Px npx cpx]) := Q0.out.alloc _
      have e1 := fun i => Q1.out.cell i
      go_wp2_with (at_builtin; refine wpList_append_any _ rfl _ _ 34 rfl (W1.heap.size + 1) 3 i0 (.int .i64 0) 1 8 Tryz.underlying34 hi hq0 hq1 hq2 rfl (by decide) (.slice (some ⟨W1.heap.size + 1, 0, none⟩) 0 0) 0 [] rfl HO1.out B Kx nkx ckx (xks.map (.int .i64)) rfl HR1.out hone HC1.out HC2.out hbase ?_)
      intro v2 w2 hown2 hg2 hat2
      try rw [Nat.zero_add] at hown2
      try rw [List.nil_append] at hown2
      have hR2 := RInX.of_own hown2 HKL.out.1 (by have := HKL.out; omega) (fun z hz => HK.out.i64 hz)
      obtain ⟨A2, c2, rfl, _, hr2, _⟩ := hR2
      have hza2 : W1.heap.size + 2 ≤ w2.heap.size := by have := hg2.size; simp at this; omega
      have hne2 : ∀ {i : Nat}, some i = (Value.slice (some ⟨W1.heap.size + 1, 0, none⟩) 0 0).ownBlock → i = W1.heap.size + 1 := fun e => Option.some.inj e
      have hbl2 : Below W1.heap.size W1 w2 := (HBA.out.alloc HBA.out.size _).grown hg2 (by simp; omega) (fun g hg => by have := hne2 hg.symm; omega)
      have q2 := Q1.out.grown hg2 (fun e => by have := hne2 e; omega)
      obtain ⟨w3, hw3⟩ : ∃ w3, w3 = w2.setCell ⟨W1.heap.size, 2, none⟩ (.slice A2 nkx c2) := ⟨_, rfl⟩
      have hz3 : w3.heap.size = w2.heap.size := by rw [hw3]; simp [World.setCell]
      have Q3 : Hid (Blk w3 W1.heap.size 38 #[.int .i64 xid, .int .i64 xpar, .slice A2 nkx c2, .string xtx, .slice Px npx cpx]) := by rw [hw3]; exact q2.set_ 2 _
      have HB3 : Hid (Below W1.heap.size W1 w3) := by rw [hw3]; exact hbl2.setCell (p := ⟨W1.heap.size, 2, none⟩) (Nat.le_refl _) _
      have HK3 : Hid (RInX w3 (fun b => W1.heap.size + 1 ≤ b ∧ b < w3.heap.size) (.slice A2 nkx c2) xks) := by
        show RInX _ _ _ _
        rw [hz3]
        exact (hr2.keep fun p hp => by rw [hw3]; exact World.cell?_setCell_other _ _ _ _ (by intro e; subst e; exact absurd hp.2.1 (by show ¬ (W1.heap.size + 1 ≤ W1.heap.size); omega))).weak fun b hb => ⟨hb.2.1, hb.2.2⟩
      have HW3 := Lib.hid hw3
      have HZ3 : Hid (W1.heap.size + 2 ≤ w3.heap.size) := by show _ ≤ _; omega
      have F2 := Lib.hid q2
      clear hown2 hg2 hat2 hr2 e0 e1 hw3 hz3 hbl2 hne2 hza2 q2 hone hbase
      have e2 := fun i => F2.out.cell i
      have f2 := fun i => F2.out.frozen i
      go_upto_region 6 with fail
      rw [← HW3.out]
      clear e2 f2
      have hp3 := hPX.below (HB3.out.mono (Nat.le_trans hB hzr))
      obtain ⟨A', n', c', MP, hMP, e, hnp, hcp, hrp, hnp2⟩ := hp3
      injection e with e1 e2 e3
      subst e1 e2 e3
      have HMP := Lib.hid hMP
      have HNP := Lib.hid hnp
      have HCP := Lib.hid hcp
      have HNN := Lib.hid hnp2
      have hones := prs_one MP fun z hz => (hnp2 z hz).slice
      have HR5 : Hid (Reads (w3.alloc (.cells #[] 116)) B 6 Px npx (MP.flatMap prV)) := hrp.below ((Below.refl _ _).alloc (by have := HZ3.out; omega) _)
      have HO5 : Hid ((w3.alloc (.cells #[] 116)).ownsRow w3.heap.size 116 6 (.slice (some ⟨w3.heap.size, 0, none⟩) 0 0) 0 []) := own_empty (Nat.le_refl _) (Blk.new _ _ _)
      have HC5 : Hid (0 + npx ≤ maxLen) := by show _ ≤ _; unfold maxLen; have := HCP.out; omega
      have HC6 : Hid ((0 + npx) * 80 ≤ 140737488355328) := by show _ ≤ _; have := HCP.out; omega
      have hbase : w3.heap.size ≤ (w3.alloc (.cells #[] 116)).heap.size := by simp
      have Q4 : Hid (Blk (w3.alloc (.cells #[] 116)) W1.heap.size 38 #[.int .i64 xid, .int .i64 xpar, .slice A2 nkx c2, .string xtx, .slice Px npx cpx]) := Q3.out.alloc _
      have e0 := fun i => Q3.out.cell i
      have e1 := fun i => Q4.out.cell i
      clear hMP hnp hcp hnp2 hrp
      go_wp2_with (at_builtin; refine wpList_append_any _ rfl _ _ 36 rfl w3.heap.size 116 j0 pZ 6 80 Tryz.underlying36 hj hr0 hr1 hr2 rfl (by decide) (.slice (some ⟨w3.heap.size, 0, none⟩) 0 0) 0 [] rfl HO5.out B Px npx cpx (MP.flatMap prV) rfl HR5.out hones HC5.out HC6.out hbase ?_)
      intro v5 w5 hown5 hg5 hat5
      try rw [Nat.zero_add] at hown5
      try rw [List.nil_append] at hown5
      have hR5 := RdX.of_own hown5
      obtain ⟨A5, c5, rfl, hc5, hr5⟩ := hR5
      have hne5 : ∀ {i : Nat}, some i = (Value.slice (some ⟨w3.heap.size, 0, none⟩) 0 0).ownBlock → i = w3.heap.size := fun e => Option.some.inj e
      have hza5 : w3.heap.size + 1 ≤ w5.heap.size := by have := hg5.size; simp at this; omega
      have hz3 := HZ3.out
      have hbl5 : Below W1.heap.size W1 w5 := (HB3.out.alloc HB3.out.size _).grown hg5 (by simp; omega) (fun g hg => by have := hne5 hg.symm; omega)
      have q5 := Q4.out.grown hg5 (fun e => by have := hne5 e; omega)
      obtain ⟨w6, hw6⟩ : ∃ w6, w6 = w5.setCell ⟨W1.heap.size, 4, none⟩ (.slice A5 npx c5) := ⟨_, rfl⟩
      have hz6 : w6.heap.size = w5.heap.size := by rw [hw6]; simp [World.setCell]
      have Q6 : Hid (Blk w6 W1.heap.size 38 #[.int .i64 xid, .int .i64 xpar, .slice A2 nkx c2, .string xtx, .slice A5 npx c5]) := by rw [hw6]; exact q5.set_ 4 _
      have HB6 : Hid (Below W1.heap.size W1 w6) := by rw [hw6]; exact hbl5.setCell (p := ⟨W1.heap.size, 4, none⟩) (Nat.le_refl _) _
      have hkeep : ∀ p : Addr, p.block ≠ W1.heap.size → p.block < w3.heap.size → w6.cell? p = w3.cell? p := fun p h1 h2 => by
        rw [hw6, World.cell?_setCell_other _ _ _ _ (by intro e; subst e; exact h1 rfl)]
        exact (World.cell?_of_block (hg5.block _ (by simp; omega) (fun e => by have := hne5 e; omega))).trans (World.cell?_alloc_lt _ _ _ h2)
      have HNB : Hid (NB w6 (fun b => (b < B ∨ W1.heap.size + 1 ≤ b) ∧ b < w6.heap.size) (⟨xid, xpar, xks, xtx, xps⟩, .slice A2 nkx c2, .slice A5 npx c5)) := by
        refine ⟨(HK3.out.keep fun p hp => hkeep p (by have := hp.1; omega) hp.2).weak fun b hb => ⟨.inr hb.1, by omega⟩, A5, npx, c5, MP, HMP.out, rfl, HNP.out, ⟨hc5, HCP.out.2⟩, (hr5.keep fun p hp => by rw [hw6]; exact World.cell?_setCell_other _ _ _ _ (by intro e; subst e; exact absurd hp.2.1 (by show ¬ (w3.heap.size ≤ W1.heap.size); omega))).weak fun b hb => ⟨.inr (by omega), by have := hb.2.2; omega⟩, fun z hz => ?_⟩
        exact ((RVX.of (HNN.out z hz)).keep fun p hp => by
          have hp : p.block < B := hp
          exact hkeep p (by omega) (by omega)).weak fun b hb => ⟨.inl hb, by have hb : b < B := hb; omega⟩
      have HW6 := Lib.hid hw6
      have F5 := Lib.hid q5
      clear hown5 hg5 hat5 hr5 hc5 e0 e1 hw6 hz6 hbl5 hne5 hza5 q5 hones hbase hz3 hkeep
      have e5 := fun i => F5.out.cell i
      have f5 := fun i => F5.out.frozen i
      go_upto_region 7 with fail
      rw [← HW6.out]
      clear e5 f5
      have e6 := fun i => Q6.out.cell i
      obtain ⟨O, hO⟩ : ∃ O, O = Obj.cells #[.int .i64 xid, .int .i64 xpar, .slice A2 nkx c2, .string xtx, .slice A5 npx c5] 38 := ⟨_, rfl⟩
      have HOW := Lib.hid ((hown.out.below NB_ok HB6.out).below NB_ok ((Below.refl _ _).alloc (Nat.le_refl _) O))
      have HR7 : Hid (Reads (w6.alloc O) (w6.heap.size + 1) 5 (some ⟨w6.heap.size, 0, none⟩) 1 (blV (⟨xid, xpar, xks, xtx, xps⟩, .slice A2 nkx c2, .slice A5 npx c5))) := by rw [hO]; exact Reads.blk (Blk.new _ _ _) rfl
      have hone7 := blV_one (⟨xid, xpar, xks, xtx, xps⟩, .slice A2 nkx c2, .slice A5 npx c5) ⟨_, _, _, rfl⟩ ⟨_, _, _, rfl⟩
      have HC7 : Hid (M.length + 1 ≤ maxLen) := by show _ ≤ _; unfold maxLen; have := HML.out; omega
      have HC8 : Hid ((M.length + 1) * 80 ≤ 140737488355328) := by show _ ≤ _; have := HML.out; omega
      have hbase : w.heap.size ≤ (w6.alloc O).heap.size := by have := HB6.out.size; simp; omega
      have HNB7 : Hid (NB (w6.alloc O) (fun b => (b < B ∨ W1.heap.size + 1 ≤ b) ∧ b < w6.heap.size) (⟨xid, xpar, xks, xtx, xps⟩, .slice A2 nkx c2, .slice A5 npx c5)) := NB_ok _ _ _ _ _ HNB.out (fun p hp => World.cell?_alloc_lt _ _ _ hp.2) fun b hb => hb
      have HB7 : Hid (Below w.heap.size w (w6.alloc O)) := (hbel.out.trans (HB6.out.mono hzr)).alloc (Nat.le_trans hzr HB6.out.size) O
      rw [hO] at HOW HR7 hbase HNB7 HB7
      go_wp2_with (at_builtin; refine wpList_append_any _ rfl _ _ 22 rfl w.heap.size 38 k0 bZ 5 80 Tryz.underlying22 hki hs0 hs1 hs2 rfl (by decide) v M.length (M.flatMap blV) rfl HOW.out.own (w6.heap.size + 1) (some ⟨w6.heap.size, 0, none⟩) 1 1 (blV (⟨xid, xpar, xks, xtx, xps⟩, .slice A2 nkx c2, .slice A5 npx c5)) rfl HR7.out hone7 HC7.out HC8.out hbase ?_)
      intro v8 w8 hown8 hg8 hat8
      have HO8 : Hid (OutB w8 w.heap.size v8 (M ++ [(⟨xid, xpar, xks, xtx, xps⟩, .slice A2 nkx c2, .slice A5 npx c5)])) := HOW.out.app NB_ok HNB7.out (fun b hb => ⟨by have := hb.2; simp; omega, fun e => by
        have := (hown.out.blocks b e)
        have := hb.1
        omega⟩) hown8 hg8 (by simpa using hat8)
      have HB8 : Hid (Below w.heap.size w w8) := HB7.out.grown hg8 hbase (fun g hg => (hown.out.blocks g hg).1)
      have HM8 : Hid ((M ++ [((⟨xid, xpar, xks, xtx, xps⟩ : Bl), Value.slice A2 nkx c2, Value.slice A5 npx c5)]).map Prod.fst = l.take (k + 1)) := by
        show _ = _
        rw [HLK.out, List.map_append, hM.out]; rfl
      clear hown8 hg8 hat8 e6 hone7 hbase
      go_wp2_with fail
      go_roundg (n - (k + 1))
      case measure => omega
      case rel => exact ⟨k + 1, v8, _, by omega, rfl, by go_num, HM8, HO8, HB8⟩
    · obtain rfl : n = k := by omega
      have HF : Hid (CopiedR l w (.returned v) W1) := by
        show CopiedR _ _ _ _
        have e : M.map Prod.fst = l := by rw [hM.out, List.take_of_length_le (by rw [← HN.out.1]; exact Nat.le_refl _)]
        have hml := HML.out
        obtain ⟨g, cap, e2, hg, hr⟩ := RowB.of_own hown.out.own (by omega) (by omega) hown.out.nest
        subst e2
        rw [hml]
        exact ⟨g, cap, n, M, rfl, hml, e, hg, hr, hbel.out⟩
      go_wp2_with fail
      go_ret
      exact HF.out
end Go.Proofs.YtmkicfjcgbfaaaaGreat
