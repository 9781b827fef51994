/-
  DERIVED. A list of properties that has been checked: its names rise. Plain law. Conditions: none.
  prop.with's closure: properties by their names. Conditions: none.
  The walk of slices.DeleteFunc at properties with prop.without's closure, over a row of the call's own. Conditions: sizes.
  slices.SortFunc at properties by their names, over a row of the call's own. Conditions: sizes.
  By an AI agent.
-/
import Derived.Test.YtmkicfjcgbfaaaaGreatTe15
import Derived.Test.YtmkicfjcgbfaaaaGreatTe05
import Derived.Test.YtmkicfjcgbfaaaaGreatTe02
import Derived.Test.YtmkicfjcgbfaaaaGreatTe16
import Derived.Test.YtmkicfjcgbfaaaaGreatTe18
namespace Go.Proofs.YtmkicfjcgbfaaaaGreat
open Go.RowKit

def blt (a b : ByteArray) : Prop := Op.bytesLess a.toList b.toList = true
theorem blt_irr (a : ByteArray) : ¬ blt a a := by unfold blt; rw [less_irr]; decide
theorem blt_trans {a b c : ByteArray} (h1 : blt a b) (h2 : blt b c) : blt a c := less_trans _ _ _ h1 h2
theorem tl_eq {a b : ByteArray} (h : a.toList = b.toList) : a = b := by
  have := dec_toList a b
  rw [h, beq_self_eq_true] at this
  exact of_decide_eq_true this

/-! ### a list that has been checked -/
theorem prs_sorted : ∀ {l : List Pr} {p : Option ByteArray}, prsErr p l = 0 → (∀ q, p = some q → ∀ x ∈ l, blt q x.name) ∧ l.Pairwise (fun x y => blt x.name y.name) ∧ (∀ x ∈ l, x.val.kind ≠ 0 ∧ nmErr x.name = 0)
  | [], p, _ => ⟨fun _ _ x hx => (by cases hx), List.Pairwise.nil, fun x hx => (by cases hx)⟩
  | x :: l, p, h => by
    rw [prsErr] at h
    by_cases h1 : nmErr x.name ≠ 0
    · rw [if_pos h1] at h; exact absurd h h1
    rw [if_neg h1] at h
    by_cases h2 : lePrev p x.name = true
    · rw [if_pos h2] at h; exact absurd h (by decide)
    rw [if_neg h2] at h
    by_cases h3 : (x.val.kind == 0) = true
    · rw [if_pos h3] at h; exact absurd h (by decide)
    rw [if_neg h3] at h
    by_cases h4 : vErr x.val ≠ 0
    · rw [if_pos h4] at h; exact absurd h h4
    rw [if_neg h4] at h
    obtain ⟨i1, i2, i3⟩ := prs_sorted h
    have hx : ∀ q, p = some q → blt q x.name := by
      rintro q rfl
      have h2 : strLe x.name q = false := by
        cases e : strLe x.name q
        · rfl
        · exact absurd e h2
      unfold strLe at h2
      rw [Bool.or_eq_false_iff] at h2
      exact less_total _ _ h2.1 (fun e => by rw [e, beq_self_eq_true] at h2; exact absurd h2.2 (by decide))
    refine ⟨fun q hq y hy => ?_, List.pairwise_cons.2 ⟨i1 _ rfl, i2⟩, fun y hy => ?_⟩
    · rcases List.mem_cons.1 hy with rfl | hy
      · exact hx q hq
      · exact blt_trans (hx q hq) (i1 _ rfl y hy)
    · rcases List.mem_cons.1 hy with rfl | hy
      · exact ⟨fun e => h3 (by rw [e]; rfl), Decidable.of_not_not h1⟩
      · exact i3 y hy
theorem cp_ok {l : List Pr} (h : cpErr l = 0) : l.length ≤ 20 ∧ l.Pairwise (fun x y => blt x.name y.name) ∧ (∀ x ∈ l, x.val.kind ≠ 0 ∧ nmErr x.name = 0) := by
  unfold cpErr at h
  by_cases h1 : 20 < l.length
  · rw [if_pos h1] at h; exact absurd h (by decide)
  · rw [if_neg h1] at h
    exact ⟨by omega, (prs_sorted h).2⟩

end Go.Proofs.YtmkicfjcgbfaaaaGreat
namespace Go.Proofs
open Go.Shelf Go.RowKit Go.Lib Go.Sort
namespace YtmkicfjcgbfaaaaGreat
/-- a property, its items' slice told apart -/
abbrev SPr := Pr × (Option Addr × Nat × Nat)
instance : Inhabited SPr := ⟨(⟨⟨#[]⟩, Vl.mk 0 0 0 ⟨#[]⟩ []⟩, none, 0, 0)⟩
def spP (x : SPr) : Pr × Value := (x.1, .slice x.2.1 x.2.2.1 x.2.2.2)
def spV (x : SPr) : List Value := prV (spP x)
theorem sp_one (x : SPr) : ∀ v ∈ spV x, v.oneCell' = true := prV_one (spP x) ⟨_, _, _, rfl⟩
def cfS (x y : SPr) : Int := Lib.compareBytes x.1.name.data.toList y.1.name.data.toList
set_option maxHeartbeats 1000000 in
theorem with1_any (x y : SPr) (W : World) : Calls Tryz.prog 180 #[.agg (spV x).toArray, .agg (spV y).toArray] W fun e w' => e = .returned (.int .i64 (cfS x y)) ∧ ∃ q os', w' = grow (W.drewN q) os' := by
  have hcon := fun W' => Any.strings_Compare Tryz.lays106 x.1.name y.1.name W'
  change ∀ W', Calls Tryz.prog 181 _ _ _ at hcon
  unfold cfS spV prV vlV spP
  generalize Lib.compareBytes x.1.name.data.toList y.1.name.data.toList = r at hcon ⊢
  go_enter Tryz.func180, Tryz.ntmps180
  go_wp2_with (go_at_call 181; refine (hcon _).mono ?_; rintro e w' ⟨rfl, rfl⟩)
  go_ret
  exact ⟨rfl, 0, _, by rw [alloc_eq_grow, alloc_eq_grow, grow_grow]; rfl⟩
theorem ltS (x y : SPr) : ltOf cfS x y = bl x.1.name y.1.name := by
  unfold ltOf cfS
  rw [← tl_data, ← tl_data, Bool.eq_iff_iff, bl_lt]
  simp [cmpB_neg]
theorem swoS : SWO (ltOf cfS) where
  irrefl x := by rw [ltS]; exact bl_irrefl _
  trans x y z h1 h2 := by rw [ltS] at *; exact bl_trans h1 h2
  ntrans x y z h1 h2 := by
    rw [ltS] at *
    cases h : bl x.1.name z.1.name
    · rfl
    · exfalso
      cases h3 : bl z.1.name y.1.name
      · have e := bl_tri h3 h2
        rw [e, h1] at h; cases h
      · have := bl_trans h h3; rw [h1] at this; cases this
theorem cmpLaysS (blk off size : Nat) (w : World) : CmpLays Tryz.prog 180 #[] spV 6 cfS blk off size w :=
  fun _ _ _ _ x y => with1_any x y _
end YtmkicfjcgbfaaaaGreat
end Go.Proofs
namespace Go.Proofs.YtmkicfjcgbfaaaaGreat
open Go.RowKit

/-- properties in a block of the call's own, which may be greater than the slice's room -/
def RowP (w : World) (base : Nat) (A : Option Addr) (c : Nat) (M : List (Pr × Value)) : Prop := M.length ≤ c ∧ ((A = none ∧ c = 0) ∨ ∃ g, A = some ⟨g, 0, none⟩ ∧ base ≤ g ∧ CRp w g M ∧ FRp w g c)
/-- what DeleteFunc leaves -/
def DelWR (M : List (Pr × Value)) (s : ByteArray) (A : Option Addr) (c base : Nat) (w : World) (e : Ending) (w' : World) : Prop := e = .returned (.slice A (keepP M s).length c) ∧ RowP w' base A c (keepP M s) ∧ w.grownBy w' (A.map Addr.block)

set_option maxRecDepth 100000 in
set_option maxHeartbeats 4000000 in
theorem delW_any (M : List (Pr × Value)) (A : Option Addr) (n c P base : Nat) (s : ByteArray) (w : World) (hown : RowP w base A c M) (hn : n = M.length) (hbig : n * 80 ≤ 140737488351232) (hB : base ≤ w.heap.size)
    (hP : P < base) (hPc : w.cell? ⟨P, 0, none⟩ = some (.string s)) (hrp : RPr w w.heap.size (.slice A n c) (M.map Prod.fst)) (hs1 : ∀ x ∈ M, ∃ A n c, x.2 = .slice A n c) :
    Calls Tryz.prog 189 #[.slice A n c, .func (.func 190) #[] #[.pointer (some ⟨P, 0, none⟩)]] w (DelWR M s A c base w) := by
  have hent : ∀ args w, (callFunc 190 args).run Tryz.prog w = .ok (.enter 190 args) w := enters_of Tryz.func190 (by kernel_rfl) rfl
  have hnc : n ≤ c := hrp.len.2.1
  have HI := Lib.hid (indexW_any (M.map Prod.fst) A n c P s w w.heap.size (Nat.le_refl _) (Nat.lt_of_lt_of_le hP hB) hPc hrp)
  have HFI := Lib.hid (nmFrom_first (M.map Prod.fst) s 0)
  obtain ⟨ii, hii⟩ : ∃ ii, ii = nmOf (M.map Prod.fst) s := ⟨_, rfl⟩
  have hii0 : ii = nmFrom (M.map Prod.fst) s 0 := hii
  rw [← hii] at HI
  rw [← hii0] at HFI
  have HO := Lib.hid hown
  have HN := Lib.hid hn
  have HPC := Lib.hid hPc
  have HS := Lib.hid hs1
  clear hown hn hPc hrp hs1 hii hii0
  go_enter Tryz.func189, Tryz.ntmps189
  go_wp2_with fail
  refine HI.out.mono ?_
  rintro e w1 ⟨rfl, hb1⟩
  have HB1 : Hid (∀ r, w.grownBy w1 r) := fun r => ⟨hb1.os, hb1.tape, hb1.output, hb1.size, fun k hk _ => hb1.block k hk⟩
  have HO1 : Hid (RowP w1 base A c M) := by
    refine ⟨HO.out.1, ?_⟩
    rcases HO.out.2 with h | ⟨g, h1, h2, h3, h4⟩
    · exact .inl h
    · exact .inr ⟨g, h1, h2, h3.below hb1 h4.lt, h4.below hb1 h4.lt⟩
  clear hb1 HI
  rcases HFI.out with ⟨hm1, hall⟩ | ⟨i0, x0, hm1, hx0, hx0s, hbef⟩
  · have HK : Hid (keepP M s = M) := keepP_all fun x hx => hall x.1 (List.mem_map_of_mem hx)
    clear hall HFI
    subst hm1
    go_wp2_with fail
    go_ret
    exact ⟨by rw [HK.out, ← HN.out]; rfl, by rw [HK.out]; exact HO1.out, HB1.out _⟩
  · obtain ⟨y0, hy0, rfl⟩ : ∃ y, M[i0]? = some y ∧ y.1 = x0 := by
      rw [List.getElem?_map] at hx0
      cases hm : M[i0]? with
      | none => rw [hm] at hx0; cases hx0
      | some y => rw [hm] at hx0; exact ⟨y, rfl, Option.some.inj hx0⟩
    have hi0 : i0 < n := by rw [HN.out]; exact (List.getElem?_eq_some_iff.1 hy0).1
    have HK0 : Hid (keepP (M.take (i0 + 1)) s = M.take i0) := by
      show _ = _
      rw [keepP_add hy0, if_pos hx0s]
      refine keepP_all fun x hx => hbef x.1 ?_
      rw [← List.map_take]; exact List.mem_map_of_mem hx
    rw [Nat.zero_add] at hm1
    subst hm1
    have hpos : 0 < n := Nat.lt_of_le_of_lt (Nat.zero_le _) hi0
    have hm1' : ((i0 : Int) == -1) = false := beq_eq_false_iff_ne.2 (by omega)
    obtain ⟨g, hA, hge, HCR, HFR⟩ : ∃ g, A = some ⟨g, 0, none⟩ ∧ base ≤ g ∧ Hid (CRp w1 g M) ∧ Hid (FRp w1 g c) := by
      rcases HO1.out.2 with h | ⟨g, h1, h2, h3, h4⟩
      · omega
      · exact ⟨g, h1, h2, h3, h4⟩
    subst hA
    clear hy0 hx0s hbef hx0 HFI HO HO1
    go_wp2_with fail
    go_loopg [5, 6] (n - (i0 + 1)) (fun gg s5 s6 wr => ∃ (i j : Nat) (Y : List (Pr × Value)), j + gg = n ∧ i < j ∧ s5 = .int .i64 (i : Int) ∧ s6 = .int .i64 (j : Int) ∧ Y.length = n ∧ Hid (Y.take i = keepP (M.take j) s) ∧ Hid (∀ k, j ≤ k → Y[k]? = M[k]?) ∧ Hid (CRp wr g Y) ∧ Hid (FRp wr g c) ∧ Hid (w.grownBy wr (some g)))
    case atStart => exact ⟨i0, i0 + 1, M, by omega, by omega, rfl, by go_num, HN.out.symm, HK0.out.symm, fun _ _ => rfl, HCR, HFR, HB1.out _⟩
    case round =>
      obtain ⟨i, j, Y, hjg, hij, rfl, rfl, hYn, hsub, htl, hCR, hFR, hgr⟩ := hrel
      have hbel : Hid (Below base w wr) := gb_base hgr.out hge hB
      have j0 : (0 : Int) ≤ (j : Int) := by omega
      have j3 : (0 : Int) ≤ (i : Int) := by omega
      have hgW := hFR.out.lt
      have hzB := hbel.out.size
      by_cases hj : j < n
      · obtain ⟨⟨x, xv⟩, hx⟩ : ∃ x, Y[j]? = some x := ⟨_, List.getElem?_eq_getElem (by omega)⟩
        have hxL : M[j]? = some (x, xv) := (htl.out j (Nat.le_refl _)).symm.trans hx
        obtain ⟨Ax, nx, cx, rfl⟩ : ∃ A n c, xv = .slice A n c := HS.out _ (List.mem_of_getElem? hxL)
        have hcc := hCR.out j _ hx
        have c0 : wr.cell? ⟨g, j * 6, none⟩ = some (.string x.name) := hcc 0 _ rfl
        have c1 : wr.cell? ⟨g, j * 6 + 1, none⟩ = some (.int .i64 x.val.kind) := hcc 1 _ rfl
        have c2 : wr.cell? ⟨g, j * 6 + 2, none⟩ = some (.int .i64 x.val.int_) := hcc 2 _ rfl
        have c3 : wr.cell? ⟨g, j * 6 + 3, none⟩ = some (.int .i64 x.val.to_) := hcc 3 _ rfl
        have c4 : wr.cell? ⟨g, j * 6 + 4, none⟩ = some (.string x.val.text) := hcc 4 _ rfl
        have c5 : wr.cell? ⟨g, j * 6 + 5, none⟩ = some (.slice Ax nx cx) := hcc 5 _ rfl
        have j1 : (j : Int) < (n : Int) := by omega
        have HX : Hid (∀ W, Below base w W → Calls _ _ _ W _) := fun W hW => wo1_any x (.slice Ax nx cx) P s W (Nat.lt_of_lt_of_le (Nat.lt_of_lt_of_le hP hB) hW.size) ((hW.cell (p := ⟨P, 0, none⟩) hP).trans HPC.out)
        dsimp only [AP] at HX
        have HKA := Lib.hid (keepP_add (s := s) hxL)
        dsimp only at HKA
        obtain ⟨q, hq⟩ : ∃ q, decide (x.name = s) = q := ⟨_, rfl⟩
        rw [hq] at HX
        have HQ := Lib.hid hq
        clear hx hxL hcc hq
        go_wp2_with fail
        refine (HX.out _ (hbel.out.alloc (by omega) _)).mono ?_
        rintro e w2 ⟨rfl, hb2⟩
        have hz2 := hb2.size
        simp only [World.size_alloc] at hz2
        have HB12 : Hid (Below wr.heap.size wr w2) := ((Below.refl _ _).alloc (Nat.le_refl _) _).trans (hb2.mono (by simp))
        have HG2 : Hid (w.grownBy w2 (some g)) := gb_below hgr.out HB12.out
        have HXB : Hid (Blk w2 wr.heap.size 116 #[.string x.name, .int .i64 x.val.kind, .int .i64 x.val.int_, .int .i64 x.val.to_, .string x.val.text, .slice Ax nx cx]) := (Blk.new wr _ _).below hb2 (by simp)
        have HCR2 := Lib.hid (hCR.out.below HB12.out hgW)
        have HFR2 := Lib.hid (hFR.out.below HB12.out hgW)
        clear hb2 c0 c1 c2 c3 c4 c5
        cases q
        · have x0 := HXB.out.cell 0
          have x1 := HXB.out.cell 1
          have x2 := HXB.out.cell 2
          have x3 := HXB.out.cell 3
          have x4 := HXB.out.cell 4
          have x5 := HXB.out.cell 5
          obtain ⟨⟨y, yv⟩, hy⟩ : ∃ y, Y[i]? = some y := ⟨_, List.getElem?_eq_getElem (by omega)⟩
          have hcc := HCR2.out i _ hy
          have c0 : w2.cell? ⟨g, i * 6, none⟩ = some (.string y.name) := hcc 0 _ rfl
          have c1 : w2.cell? ⟨g, i * 6 + 1, none⟩ = some (.int .i64 y.val.kind) := hcc 1 _ rfl
          have c2 : w2.cell? ⟨g, i * 6 + 2, none⟩ = some (.int .i64 y.val.int_) := hcc 2 _ rfl
          have c3 : w2.cell? ⟨g, i * 6 + 3, none⟩ = some (.int .i64 y.val.to_) := hcc 3 _ rfl
          have c4 : w2.cell? ⟨g, i * 6 + 4, none⟩ = some (.string y.val.text) := hcc 4 _ rfl
          have c5 : w2.cell? ⟨g, i * 6 + 5, none⟩ = some yv := hcc 5 _ rfl
          obtain ⟨cur, hcur, hcs⟩ := HFR2.out
          have f0 := hcur.frozen (i * 6)
          have f1 := hcur.frozen (i * 6 + 1)
          have f2 := hcur.frozen (i * 6 + 2)
          have f3 := hcur.frozen (i * 6 + 3)
          have f4 := hcur.frozen (i * 6 + 4)
          have f5 := hcur.frozen (i * 6 + 5)
          have j4 : (i : Int) < (n : Int) := by omega
          have hYi : i < Y.length := by omega
          have hic : i < c := by omega
          clear hy hcur hcs hcc
          go_wp2_with fail
          go_roundg (n - (j + 1))
          case measure => omega
          case rel =>
            refine ⟨i + 1, j + 1, Y.set i (x, .slice Ax nx cx), by omega, by omega, by go_num, by go_num, by simpa using hYn, ?_, fun k hk => ?_, HCR2.out.put HFR2.out hic (x, .slice Ax nx cx), HFR2.out.setCells (o := i * 6) (vs := prV (x, .slice Ax nx cx)), gb_setCells HG2.out (i * 6) (prV (x, .slice Ax nx cx))⟩
            · show _ = _
              have e1 : (Y.set i (x, Value.slice Ax nx cx)).take (i + 1) = Y.take i ++ [(x, .slice Ax nx cx)] := by
                rw [List.take_add_one, List.getElem?_set, if_pos rfl, if_pos hYi, List.take_set_of_le (Nat.le_refl _)]
                rfl
              rw [e1, HKA.out, if_neg (of_decide_eq_false HQ.out), hsub.out]
            · rw [List.getElem?_set, if_neg (by omega)]
              exact htl.out k (by omega)
        · go_wp2_with fail
          go_roundg (n - (j + 1))
          case measure => omega
          case rel => exact ⟨i, j + 1, Y, by omega, by omega, rfl, by go_num, hYn, (by show _ = _; rw [HKA.out, if_pos (of_decide_eq_true HQ.out)]; exact hsub.out), fun k hk => htl.out k (by omega), HCR2, HFR2, HG2⟩
      · obtain rfl : j = n := by omega
        have j4 : (i : Int) ≤ (j : Int) := by omega
        have j5 : (i : Int) ≤ (c : Int) := by omega
        have j5' : i ≤ c := by omega
        obtain ⟨cur, hcur, hcs⟩ := hFR.out
        have hclr := clearP_run wr g i j (c - i) cur hcur (by omega) hij
        obtain ⟨zs, hzs⟩ : ∃ zs, zs = (Builtin.zeroCells pZ.cells (j - i)).toList := ⟨_, rfl⟩
        rw [← hzs] at hclr
        have HCU := Lib.hid hcur
        have HCS := Lib.hid hcs
        clear hzs hcur hcs
        go_wp2_with fail
        go_ret
        have hF : Y.take i = keepP M s := by
          have := hsub.out
          rwa [HN.out, List.take_length] at this
        have hFl : (keepP M s).length = i := by rw [← hF, List.length_take]; omega
        have hcf : CRp wr g (keepP M s) := fun k x hx j u hu => by
          have hk := (List.getElem?_eq_some_iff.1 hx).1
          rw [← hF, List.getElem?_take, if_pos (by omega)] at hx
          exact hCR.out k x hx j u hu
        refine ⟨by rw [hFl]; rfl, ⟨by omega, .inr ⟨g, rfl, hge, fun k x hx j u hu => ?_, FRp.setCells ⟨cur, HCU.out, HCS.out⟩⟩⟩, gb_setCells hgr.out _ _⟩
        have hk := (List.getElem?_eq_some_iff.1 hx).1
        have hj := (List.getElem?_eq_some_iff.1 hu).1
        rw [prV_len] at hj
        exact (World.cell?_setCells_out g zs _ wr _ (fun _ _ => .inl (by show k * 6 + j < i * 6; omega))).trans (hcf k x hx j u hu)
end Go.Proofs.YtmkicfjcgbfaaaaGreat
namespace Go.Proofs
open Go.Shelf Go.RowKit Go.Lib Go.Sort
namespace YtmkicfjcgbfaaaaGreat
theorem grown_sortS {w : World} {g n : Nat} {os : Array Obj} (d : Array SPr) : w.grownBy (sortWorldK spV 6 w g 0 n d os) (some g) := by
  unfold sortWorldK putRowK
  refine ⟨rfl, rfl, rfl, by simp, fun k hk hne => ?_⟩
  rw [heap_grow_old _ _ (by simpa using hk)]
  have : g ≠ k := fun e => hne (by rw [e])
  simp [putRow, mapBlock, Sort.ahead, Array.getElem?_modify, this]
theorem heap_sortS {w : World} {g n : Nat} {os : Array Obj} {cur : Array Value} {T : TypeId} (d : Array SPr) (hb : w.heap[g]? = some (.cells cur T (0, 0))) :
    (sortWorldK spV 6 w g 0 n d os).heap[g]? = some (.cells (putCells id 0 (flatK spV 6 d) cur) T (0, 0)) := by
  unfold sortWorldK putRowK
  have hg : g < w.heap.size := (Array.getElem?_eq_some_iff.1 hb).1
  rw [heap_grow_old _ _ (by simpa using hg)]
  simp [putRow, mapBlock, Sort.ahead, Array.getElem?_modify, hb, onCells]
theorem sp_get (d : Array SPr) {k j : Nat} {x : Pr × Value} {u : Value} (hx : (d.toList.map spP)[k]? = some x) (hu : (prV x)[j]? = some u) : k < d.size ∧ j < 6 ∧ (flatK spV 6 d)[k * 6 + j]! = u := by
  have hj := (List.getElem?_eq_some_iff.1 hu).1
  rw [prV_len] at hj
  have hk := (List.getElem?_eq_some_iff.1 hx).1
  rw [List.length_map, Array.length_toList] at hk
  refine ⟨hk, hj, ?_⟩
  rw [get_flatK _ _ _ _ (by omega), show (k * 6 + j) / 6 = k by omega, show (k * 6 + j) % 6 = j by omega, getElem!_pos d k hk]
  rw [List.getElem?_map, Array.getElem?_toList, Array.getElem?_eq_getElem hk] at hx
  obtain rfl := Option.some.inj hx
  show (prV (spP d[k]))[j]! = u
  rw [List.getElem!_eq_getElem?_getD, hu]; rfl
theorem sortP_any (g c : Nat) (M : List SPr) (w : World) (hR : CRp w g (M.map spP)) (hF : FRp w g c) (hl : M.length ≤ c) (hn : M.length ≤ 100000) :
    Calls Tryz.prog 179 #[.slice (some ⟨g, 0, none⟩) M.length c, .func (.func 180) #[] #[]] w fun e w' => e = .returned (.tuple #[]) ∧
      ∃ d' : Array SPr, PermIn 0 M.length M.toArray d' ∧ SortedIn (ltOf cfS) 0 M.length d' ∧ CRp w' g (d'.toList.map spP) ∧ FRp w' g c ∧ w.grownBy w' (some g) := by
  obtain ⟨cur, hb, hs⟩ := hF
  have hH : HoldsK spV 6 w g 0 M.toArray := by
    intro j hj
    have hj' : j < M.length * 6 := by simpa using hj
    refine ⟨?_, hb.frozen _⟩
    obtain ⟨x, hx⟩ : ∃ x, (M.map spP)[j / 6]? = some x := ⟨_, List.getElem?_eq_getElem (by rw [List.length_map]; omega)⟩
    obtain ⟨u, hu⟩ : ∃ u, (prV x)[j % 6]? = some u := ⟨_, List.getElem?_eq_getElem (by rw [prV_len]; omega)⟩
    have h1 := hR _ _ hx _ _ hu
    obtain ⟨_, _, h2⟩ := sp_get M.toArray (by simpa using hx) hu
    rw [show j / 6 * 6 + j % 6 = j by omega] at h1 h2
    rw [Nat.zero_add, h2]; exact h1
  have eg : ∀ args w, (callFunc 180 args).run Tryz.prog w = .ok (.enter 180 args) w := enters_of Tryz.func180 (by kernel_rfl) rfl
  have h := AnyQ.slices_SortFunc Tryz.sortPr 6 Tryz.isAgg116 Tryz.sizeOf116 spV (fun _ => rfl) sp_one cfS swoS 180 #[] g 0 c M.toArray w eg (cmpLaysS g 0 _ w) hH hb.lt (by simp; omega)
  change Calls Tryz.prog 179 _ _ _ at h
  rw [List.size_toArray] at h
  refine h.mono ?_
  rintro e w' ⟨he, d', n, os, hp, hsd, rfl⟩
  have hh := heap_sortS (n := n) (os := os) d' hb
  have hds : d'.size = M.length := by have := hp.1; simpa using this
  refine ⟨he, d', hp, hsd, fun k x hx j u hu => ?_, ⟨_, hh, by simpa [putCells] using hs⟩, grown_sortS d'⟩
  obtain ⟨hk, hj, h2⟩ := sp_get d' hx hu
  rw [Blk.cell (t := 116) hh, ← h2]
  simp [putCells, show k * 6 + j < cur.size by omega, show k * 6 + j < d'.size * 6 by omega]
end YtmkicfjcgbfaaaaGreat
end Go.Proofs
