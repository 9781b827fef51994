/-
  DERIVED. The walks of tree.all and tree.All. Conditions: sizes; a base without error.
  The walks of tree.All and tree.Apply. Conditions: sizes.
  By an AI agent.
-/
import Derived.Test.YtackphgnkdpgnaaGreatTj37
import Derived.Test.YtackphgnkdpgnaaGreatTj32
import Derived.Test.YtackphgnkdpgnaaGreatTj12
import Derived.Test.YtackphgnkdpgnaaGreatTj33
namespace Go.Proofs.YtackphgnkdpgnaaGreat
open Go.RowKit

theorem take_take {α : Type} (l : List α) {i k : Nat} (h : i ≤ k) : (l.take k).take i = l.take i := by
  rw [List.take_take, Nat.min_eq_left h]
theorem OkAll.pre {l : List Bl} {os : List Opn} (h : OkAll l os) (k : Nat) : OkAll l (os.take k) := fun i o hi => by
  rw [List.getElem?_take] at hi
  split at hi
  · rename_i hik
    rw [take_take os (Nat.le_of_lt hik)]
    exact h i o hi
  · cases hi
theorem OkAll.snoc {l : List Bl} {os : List Opn} {k : Nat} {o : Opn} (h : OkAll l (os.take k)) (hk : os[k]? = some o) {f : Int → Option Int} (G : Good (applL l (os.take k)) f) (he : opErr (applL l (os.take k)) f o = 0) : OkAll l (os.take (k + 1)) := fun i x hi => by
  rw [List.getElem?_take] at hi
  split at hi
  · rename_i hik
    rw [take_take os (by omega)]
    by_cases e : i < k
    · have h' := h i x (by rw [List.getElem?_take, if_pos e]; exact hi)
      rwa [take_take os (Nat.le_of_lt e)] at h'
    · obtain rfl : i = k := by omega
      obtain rfl : o = x := by rw [hk] at hi; exact Option.some.inj hi
      exact ⟨f, G, he⟩
  · cases hi
theorem OkAll.good {l : List Bl} {f : Int → Option Int} (G : Good l f) {os : List Opn} (h : OkAll l os) : ∀ k : Nat, k ≤ os.length → ∃ f', Good (applL l (os.take k)) f'
  | 0, _ => ⟨f, G⟩
  | k + 1, hk => by
    have hk' : os[k]? = some os[k] := List.getElem?_eq_getElem (by omega)
    obtain ⟨f', G', he⟩ := h k _ hk'
    obtain ⟨f2, _, G2⟩ := G'.applied he
    exact ⟨f2, by rw [applL_snoc hk']; exact G2⟩
/-- the first operation that is refused, and why -/
def BadAt (l : List Bl) (os : List Opn) (k : Nat) (er : Int) : Prop := ∃ o f, os[k]? = some o ∧ Good (applL l (os.take k)) f ∧ opErr (applL l (os.take k)) f o = er ∧ er ≠ 0
/-- what all leaves -/
def AllR (l : List Bl) (os : List Opn) (g : Option Nat) (w : World) (e : Ending) (w' : World) : Prop :=
  ((∃ (k : Nat) (er : Int), OkAll l (os.take k) ∧ BadAt l os k er ∧ e = .returned (.tuple #[.slice none 0 0, .int .i64 k, .int .i64 er])) ∨ (OkAll l os ∧ ∃ (g' cap' n : Nat) (M : List BK), e = .returned (.tuple #[.slice (some ⟨g', 0, none⟩) n cap', .int .i64 0, .int .i64 0]) ∧ M.length = n ∧ M.map Prod.fst = applL l os ∧ RowB w' g' cap' M ∧ (some g' = g ∨ w.heap.size ≤ g'))) ∧ w.grownBy w' g

set_option maxRecDepth 100000 in
set_option maxHeartbeats 8000000 in
/-- tree.all -/
theorem allIn_any (w : World) (g cap n : Nat) (M : List BK) (l : List Bl) (f : Int → Option Int) (os : List Opn) (h : RowB w g cap M) (hn : M.length = n) (hl : M.map Prod.fst = l) (G : Good l f) (Ao : Option Addr) (no co : Nat) (ho : ROsX w (fun b => b < w.heap.size ∧ b ≠ g) (.slice Ao no co) os) :
    Calls Tryz.prog 19 #[.slice (some ⟨g, 0, none⟩) n cap, .slice Ao no co] w (AllR l os (some g) w) := by
  have hnol := (ho.reads (B := w.heap.size) fun b hb => hb.1).len
  have hno : no * 144 ≤ 140737488351232 := hnol.2.2
  have HNO : Hid (no = os.length) := hnol.1
  have HO := Lib.hid ho
  have HG0 := Lib.hid G
  have H0 := Lib.hid h
  have HL0 : Hid (M.map Prod.fst = applL l (os.take 0)) := hl
  have HN0 := Lib.hid hn
  have HGR : Hid (w.grownBy w (some g)) := grown_below (Below.refl _ _) _
  have HOK0 : Hid (OkAll l (os.take 0)) := fun i o hi => by simp at hi
  clear hnol ho h hl hn G
  go_enter Tryz.func19, Tryz.ntmps19
  go_wp2_with fail
  go_loopg [0, 12] no (fun gg s0 s12 wr => ∃ (k g' cap' nM : Nat) (M' : List BK), k + gg = no ∧ s12 = .int .i64 (k : Int) ∧ s0 = .slice (some ⟨g', 0, none⟩) nM cap' ∧ Hid (M'.length = nM) ∧ Hid (M'.map Prod.fst = applL l (os.take k)) ∧ Hid (RowB wr g' cap' M') ∧ Hid (w.grownBy wr (some g)) ∧ Hid (g' = g ∨ w.heap.size ≤ g') ∧ Hid (OkAll l (os.take k)))
  case atStart => exact ⟨0, g, cap, n, M, by omega, rfl, rfl, HN0, HL0, H0, HGR, .inl rfl, HOK0⟩
  case round =>
    obtain ⟨k, g', cap', nM, M', hkg, rfl, rfl, hml, hmm, hrow, hgr, hgg, hok⟩ := hrel
    obtain ⟨W1, rfl⟩ : ∃ W1, W1 = wr := ⟨_, rfl⟩
    have hgw := hrow.out.lt
    by_cases hk : k < no
    · obtain ⟨o, hko⟩ : ∃ o, os[k]? = some o := ⟨_, List.getElem?_eq_getElem (by have := HNO.out; omega)⟩
      obtain ⟨f', G⟩ := hok.out.good HG0.out k (by rw [List.length_take, ← HNO.out]; omega)
      rw [take_take os (Nat.le_refl k)] at G
      have HWZ : w.heap.size ≤ W1.heap.size := hgr.out.size
      have HKP : ∀ p : Addr, p.block < w.heap.size ∧ p.block ≠ g → W1.cell? p = w.cell? p := fun p hp => World.cell?_of_block (hgr.out.block _ hp.1 fun e => hp.2 (Option.some.inj e))
      obtain ⟨b, off, Av, nv, cv, rfl, hSb, hc, hrv, hoi⟩ := (HO.out.keep (W' := W1) HKP).at_ (B := w.heap.size) (fun b hb => hb.1) hko
      have HRV : Hid (RVX W1 (fun b => b < W1.heap.size ∧ b ≠ g') (.slice Av nv cv) o.val.items) := hrv.weak fun b hb => ⟨by omega, fun e => by
        rcases hgg.out with r | r
        · exact hb.2 (by rw [e, r])
        · omega⟩
      obtain ⟨er, her⟩ : ∃ er, er = opErr (applL l (os.take k)) f' o := ⟨_, rfl⟩
      have HER := Lib.hid her
      have HG := Lib.hid G
      have HKO := Lib.hid hko
      have HOI := Lib.hid hoi
      have j0 : (0 : Int) ≤ (k : Int) := by omega
      have j1 : (k : Int) < (no : Int) := by omega
      obtain ⟨oc, hoc⟩ : ∃ oc, oc = opC o (.slice Av nv cv) := ⟨_, rfl⟩
      have g0 : W1.cell? ⟨b, off + k * 13, none⟩ = some (.int .i64 o.kind) := hc 0 _ rfl
      have g1 : W1.cell? ⟨b, off + k * 13 + 1, none⟩ = some (.int .i64 o.id) := hc 1 _ rfl
      have g2 : W1.cell? ⟨b, off + k * 13 + 2, none⟩ = some (.int .i64 o.parent) := hc 2 _ rfl
      have g3 : W1.cell? ⟨b, off + k * 13 + 3, none⟩ = some (.int .i64 o.at_) := hc 3 _ rfl
      have g4 : W1.cell? ⟨b, off + k * 13 + 4, none⟩ = some (.int .i64 o.from_) := hc 4 _ rfl
      have g5 : W1.cell? ⟨b, off + k * 13 + 5, none⟩ = some (.int .i64 o.to_) := hc 5 _ rfl
      have g6 : W1.cell? ⟨b, off + k * 13 + 6, none⟩ = some (.string o.text) := hc 6 _ rfl
      have g7 : W1.cell? ⟨b, off + k * 13 + 7, none⟩ = some (.string o.name) := hc 7 _ rfl
      have g8 : W1.cell? ⟨b, off + k * 13 + 8, none⟩ = some (.int .i64 o.val.kind) := hc 8 _ rfl
      have g9 : W1.cell? ⟨b, off + k * 13 + 9, none⟩ = some (.int .i64 o.val.int_) := hc 9 _ rfl
      have g10 : W1.cell? ⟨b, off + k * 13 + 10, none⟩ = some (.int .i64 o.val.to_) := hc 10 _ rfl
      have g11 : W1.cell? ⟨b, off + k * 13 + 11, none⟩ = some (.string o.val.text) := hc 11 _ rfl
      have g12 : W1.cell? ⟨b, off + k * 13 + 12, none⟩ = some (.slice Av nv cv) := hc 12 _ rfl
      obtain ⟨wa, hwa⟩ : ∃ wa, wa = W1.alloc (.cells (opC o (.slice Av nv cv)) 32) := ⟨_, rfl⟩
      have hal : Below W1.heap.size W1 wa := by rw [hwa]; exact (Below.refl _ _).alloc (Nat.le_refl _) _
      have hza : W1.heap.size < wa.heap.size := by rw [hwa]; simp
      have P0 : Hid (Blk wa W1.heap.size 32 (opC o (.slice Av nv cv))) := by rw [hwa]; exact Blk.new _ _ _
      have HRA := Lib.hid (hrow.out.below hal)
      have HCO := Lib.hid (checkOp_any (M'.map Prod.fst) f' (by rw [hmm.out]; exact G) (some ⟨g', 0, none⟩) M'.length cap' o Av nv cv wa wa.heap.size (Nat.le_refl _) HRA.out.rb hoi (((HRV.out.reads (B := W1.heap.size) fun b hb => hb.1).below hal).more hal.size))
      rw [hml.out, hmm.out, ← her] at HCO
      have HAL := Lib.hid hal
      have HWA := Lib.hid hwa
      clear hko G hSb hc hrv hoi hal hwa HKP her hoc
      dsimp only [AO] at HCO
      go_upto_region 4 with fail
      rw [← HWA.out]
      clear g0 g1 g2 g3 g4 g5 g6 g7 g8 g9 g10 g11 g12
      have e0 := fun i => P0.out.cell i
      go_wp2_with fail
      refine HCO.out.mono ?_
      rintro e w2 ⟨rfl, hb2⟩
      have HB2 : Hid (Below W1.heap.size W1 w2) := HAL.out.trans (hb2.mono HAL.out.size)
      have P2 := Lib.hid (P0.out.below hb2 P0.out.lt)
      have HR2 := Lib.hid (hrow.out.below HB2.out)
      have hz2 := HB2.out.size
      have HW2 : Hid (w.grownBy w2 (some g)) := Lib.grownBy_trans hgr.out (grown_below HB2.out _)
      clear hb2 e0
      have e0 := fun i => P2.out.cell i
      by_cases h0 : er = 0
      · subst h0
        have HOK' : Hid (OkAll l (os.take (k + 1))) := hok.out.snoc HKO.out HG.out HER.out.symm
        have HSN : Hid (applL l (os.take (k + 1)) = applL (applL l (os.take k)) [o]) := applL_snoc HKO.out
        obtain ⟨wc, hwc⟩ : ∃ wc, wc = w2.alloc (.cells (opC o (.slice Av nv cv)) 32) := ⟨_, rfl⟩
        have hbc : Below w2.heap.size w2 wc := by rw [hwc]; exact (Below.refl _ _).alloc (Nat.le_refl _) _
        have hzc : wc.heap.size = w2.heap.size + 1 := by rw [hwc]; simp
        have hkc : Blk wc w2.heap.size 32 (opV (o, .slice Av nv cv)).toArray := by rw [hwc]; exact Blk.new _ _ _
        have hros : ROsX wc (fun b => b < wc.heap.size ∧ b ≠ g') (.slice (some ⟨w2.heap.size, 0, none⟩) 1 1) [o] := ROsX.one hkc ⟨by omega, by omega⟩ ((HRV.out.keep fun p hp => (HB2.out.trans (hbc.mono HB2.out.size)).cell hp.1).weak fun b hb => ⟨by omega, hb.2⟩) HOI.out
        have HDN := Lib.hid (done_any wc g' cap' nM M' (applL l (os.take k)) [o] (HR2.out.below hbc) hml.out hmm.out _ _ _ hros (OkAll.one HG.out HER.out.symm))
        rw [hwc] at HDN
        have HWC : Hid (w.grownBy (w2.alloc (.cells (opC o (.slice Av nv cv)) 32)) (some g)) := by
          rw [hwc] at hbc
          exact Lib.grownBy_trans HW2.out (grown_below hbc _)
        have hwz := HWC.out.size
        clear hwc hbc hzc hkc hros
        go_wp2_with fail
        refine HDN.out.mono ?_
        rintro e w3 ⟨g3, cap3, n3, M3, rfl, hl3, hm3, hr3, hg3, hat3⟩
        have HW3 : Hid (w.grownBy w3 (some g)) := grown_more HWC.out hg3 hgg.out
        have HL3 := Lib.hid hl3
        have HM3 : Hid (M3.map Prod.fst = applL l (os.take (k + 1))) := hm3.trans HSN.out.symm
        have HR3 := Lib.hid hr3
        have HGG3 : Hid (g3 = g ∨ w.heap.size ≤ g3) := by
          rcases hat3 with e | e
          · rw [e]; exact hgg.out
          · exact .inr (Nat.le_trans hwz e)
        clear hg3 hat3 hl3 hm3 hr3 hwz e0
        go_wp2_with fail
        go_roundg (no - (k + 1))
        case measure => omega
        case rel => exact ⟨k + 1, g3, cap3, n3, M3, by omega, by go_num, rfl, HL3, HM3, HR3, HW3, HGG3, HOK'⟩
      · have h0' : (er != 0) = true := by simpa using h0
        have HBAD : Hid (BadAt l os k er) := ⟨o, f', HKO.out, HG.out, HER.out.symm, h0⟩
        clear h0
        go_wp2_with fail
        go_ret3
        exact ⟨.inl ⟨k, er, hok.out, HBAD.out, rfl⟩, HW2.out⟩
    · obtain rfl : no = k := by omega
      have HOKF : Hid (OkAll l os) := by
        have := hok.out
        rw [HNO.out, List.take_length] at this
        exact this
      have HMF : Hid (M'.map Prod.fst = applL l os) := by
        have := hmm.out
        rw [HNO.out, List.take_length] at this
        exact this
      go_wp2_with fail
      go_ret3
      exact ⟨.inr ⟨HOKF.out, g', cap', nM, M', rfl, hml.out, HMF.out, hrow.out, hgg.out.imp (fun e => by rw [e]) id⟩, hgr.out⟩
end Go.Proofs.YtackphgnkdpgnaaGreat
namespace Go.Proofs.YtackphgnkdpgnaaGreat
open Go.RowKit

theorem below_grown {w w' : World} (h : w.grownBy w' none) : Below w.heap.size w w' := ⟨h.os, h.tape, h.output, h.size, fun i hi => h.block i hi (by simp)⟩
theorem below_own {w w1 w2 : World} {g : Nat} (h : Below w.heap.size w w1) (k : w1.grownBy w2 (some g)) (hg : w.heap.size ≤ g) : Below w.heap.size w w2 :=
  h.trans ⟨k.os, k.tape, k.output, k.size, fun i hi => k.block i (Nat.lt_of_lt_of_le hi h.size) fun e => by have : i = g := Option.some.inj e; omega⟩

set_option maxRecDepth 100000 in
set_option maxHeartbeats 4000000 in
/-- tree.All at a base with an error -/
theorem allTop_bad (l : List Bl) (f : Int → Option Int) (hf : DepOk l f) (A : Option Addr) (n c : Nat) (os : Value) (w : World) (B : Nat) (hB : B ≤ w.heap.size) (h : RB w B (.slice A n c) l) (hne : baseE l f ≠ 0) :
    Calls Tryz.prog 5 #[.slice A n c, os] w fun e w' => e = .returned (.tuple #[.slice none 0 0, .int .i64 0, .int .i64 (baseE l f)]) ∧ Below w.heap.size w w' := by
  have HC := Lib.hid (treeCheck_any l f A n c w B hB h hf)
  obtain ⟨er, her⟩ : ∃ er, er = baseE l f := ⟨_, rfl⟩
  rw [← her] at HC hne ⊢
  have h0' : (er != 0) = true := by simpa using hne
  clear her hne h
  go_enter Tryz.func5, Tryz.ntmps5
  go_wp2_with fail
  refine HC.out.mono ?_
  rintro e w1 ⟨rfl, hb1⟩
  have HB1 := Lib.hid hb1
  clear hb1
  go_wp2_with fail
  go_ret3
  exact ⟨rfl, HB1.out⟩
set_option maxRecDepth 100000 in
set_option maxHeartbeats 4000000 in
/-- tree.All at a base without error -/
theorem allTop_any (l : List Bl) (f : Int → Option Int) (G : Good l f) (A : Option Addr) (n c : Nat) (os : List Opn) (Ao : Option Addr) (no co : Nat) (w : World) (B : Nat) (hB : B ≤ w.heap.size) (h : RB w B (.slice A n c) l) (ho : ROs w B (.slice Ao no co) os) :
    Calls Tryz.prog 5 #[.slice A n c, .slice Ao no co] w (AllR l os none w) := by
  have HC := Lib.hid (treeCheck_any l f A n c w B hB h fun _ => G.dep)
  rw [G.clean] at HC
  have hn0 : 0 < n := by
    obtain ⟨r, hr, _⟩ := G.kids.root
    have := (List.getElem?_eq_some_iff.1 hr).1
    have := h.len.1
    omega
  have hn1 : n ≤ 100000 := by have := G.kids.short; have := h.len.1; omega
  have HCB := Lib.hid fun W (hW : Below w.heap.size w W) => copyBase_any l A n c W B (Nat.le_trans hB hW.size) (h.below (hW.mono hB)) hn0 hn1
  have HO := Lib.hid ho
  have HG := Lib.hid G
  clear h ho G hn0 hn1
  go_enter Tryz.func5, Tryz.ntmps5
  go_wp2_with fail
  refine HC.out.mono ?_
  rintro e w1 ⟨rfl, hb1⟩
  have HB1 := Lib.hid hb1
  clear hb1
  go_wp2_with fail
  refine (HCB.out w1 HB1.out).mono ?_
  rintro e w2 ⟨g, n2, M, rfl, hl2, hm2, hg2, hr2, hb2⟩
  have HB2 : Hid (Below w.heap.size w w2) := HB1.out.trans (hb2.mono HB1.out.size)
  have hz1 := HB1.out.size
  have hz2 := HB2.out.size
  have hgl : w.heap.size ≤ g := Nat.le_trans hz1 hg2
  have HA := Lib.hid (allIn_any w2 g n2 n2 M l f os hr2 hl2 hm2 HG.out Ao no co (((ROsX.of HO.out).keep fun p hp => HB2.out.cell (by have hp : p.block < B := hp; omega)).weak fun b hb => ⟨by have hb : b < B := hb; omega, by have hb : b < B := hb; omega⟩))
  clear hb2 hl2 hm2 hr2
  go_wp2_with fail
  refine HA.out.mono ?_
  rintro e w3 ⟨hcase, hg3⟩
  have HB3 : Hid (w.grownBy w3 none) := grown_below (below_own HB2.out hg3 hgl) _
  rcases hcase with ⟨k, er, h1, h2, rfl⟩ | ⟨h1, g', cap', n3, M3, rfl, h3, h4, h5, h6⟩
  · have H1 := Lib.hid h1
    have H2 := Lib.hid h2
    clear h1 h2 hg3
    go_wp2_with fail
    go_ret3
    exact ⟨.inl ⟨k, er, H1.out, H2.out, rfl⟩, HB3.out⟩
  · have H1 := Lib.hid h1
    have H3 := Lib.hid h3
    have H4 := Lib.hid h4
    have H5 := Lib.hid h5
    have H6 : Hid (some g' = (none : Option Nat) ∨ w.heap.size ≤ g') := .inr (by
      rcases h6 with e | e
      · obtain rfl := Option.some.inj e
        exact hgl
      · omega)
    clear h1 h3 h4 h5 h6 hg3
    go_wp2_with fail
    go_ret3
    exact ⟨.inr ⟨H1.out, g', cap', n3, M3, rfl, H3.out, H4.out, H5.out, H6.out⟩, HB3.out⟩
/-- what Apply leaves -/
def ApplyR (l : List Bl) (w : World) (e : Ending) (w' : World) : Prop := (∃ (g cap n : Nat) (M : List BK), e = .returned (.tuple #[.slice (some ⟨g, 0, none⟩) n cap, .int .i64 0]) ∧ M.length = n ∧ M.map Prod.fst = l ∧ RowB w' g cap M ∧ w.heap.size ≤ g) ∧ Below w.heap.size w w'
set_option maxRecDepth 100000 in
set_option maxHeartbeats 4000000 in
/-- tree.Apply where the operation is refused -/
theorem applyTop_bad (l : List Bl) (f : Int → Option Int) (G : Good l f) (A : Option Addr) (n c : Nat) (o : Opn) (Av : Option Addr) (nv cv : Nat) (w : World) (B : Nat) (hB : B ≤ w.heap.size) (h : RB w B (.slice A n c) l) (hoi : OI o) (hv : RV w B (.slice Av nv cv) o.val.items) (hne : opErr l f o ≠ 0) :
    Calls Tryz.prog 7 #[.slice A n c, AO (o, .slice Av nv cv)] w fun e w' => e = .returned (.tuple #[.slice none 0 0, .int .i64 (opErr l f o)]) ∧ Below w.heap.size w w' := by
  obtain ⟨wb, hwb⟩ : ∃ wb, wb = w.alloc (.cells (opC o (.slice Av nv cv)) 32) := ⟨_, rfl⟩
  have HWB0 : Hid (Below w.heap.size w wb) := by rw [hwb]; exact (Below.refl _ _).alloc (Nat.le_refl _) _
  have P0 : Hid (Blk wb w.heap.size 32 (opC o (.slice Av nv cv))) := by rw [hwb]; exact Blk.new _ _ _
  have HC := Lib.hid (treeCheck_any l f A n c wb B (Nat.le_trans hB HWB0.out.size) (h.below (HWB0.out.mono hB)) fun _ => G.dep)
  rw [G.clean] at HC
  have HCO := Lib.hid fun W (hW : Below w.heap.size w W) => checkOp_any l f G A n c o Av nv cv W B (Nat.le_trans hB hW.size) (h.below (hW.mono hB)) hoi (hv.below (hW.mono hB))
  obtain ⟨er, her⟩ : ∃ er, er = opErr l f o := ⟨_, rfl⟩
  rw [← her] at HCO hne ⊢
  have h0' : (er != 0) = true := by simpa using hne
  have HWB := Lib.hid hwb
  dsimp only [AO] at HCO ⊢
  clear her hne h hv hwb
  go_enter Tryz.func7, Tryz.ntmps7
  go_upto_region 1 with fail
  rw [← HWB.out]
  go_wp2_with fail
  refine HC.out.mono ?_
  rintro e w1 ⟨rfl, hb1⟩
  have HB1 : Hid (Below w.heap.size w w1) := HWB0.out.trans (hb1.mono HWB0.out.size)
  have P1 := Lib.hid (P0.out.below hb1 P0.out.lt)
  clear hb1
  have e0 := fun i => P1.out.cell i
  go_wp2_with fail
  refine (HCO.out w1 HB1.out).mono ?_
  rintro e w2 ⟨rfl, hb2⟩
  have HB2 : Hid (Below w.heap.size w w2) := HB1.out.trans (hb2.mono HB1.out.size)
  clear hb2 e0
  go_wp2_with fail
  go_ret2
  exact ⟨rfl, HB2.out⟩
set_option maxRecDepth 100000 in
set_option maxHeartbeats 8000000 in
/-- tree.Apply without an error -/
theorem applyTop_any (l : List Bl) (f : Int → Option Int) (G : Good l f) (A : Option Addr) (n c : Nat) (o : Opn) (Av : Option Addr) (nv cv : Nat) (w : World) (B : Nat) (hB : B ≤ w.heap.size) (h : RB w B (.slice A n c) l) (hoi : OI o) (hv : RV w B (.slice Av nv cv) o.val.items) (h0 : opErr l f o = 0) :
    Calls Tryz.prog 7 #[.slice A n c, AO (o, .slice Av nv cv)] w (ApplyR (applied l o) w) := by
  obtain ⟨wb, hwb⟩ : ∃ wb, wb = w.alloc (.cells (opC o (.slice Av nv cv)) 32) := ⟨_, rfl⟩
  have HWB0 : Hid (Below w.heap.size w wb) := by rw [hwb]; exact (Below.refl _ _).alloc (Nat.le_refl _) _
  have P0 : Hid (Blk wb w.heap.size 32 (opC o (.slice Av nv cv))) := by rw [hwb]; exact Blk.new _ _ _
  have HC := Lib.hid (treeCheck_any l f A n c wb B (Nat.le_trans hB HWB0.out.size) (h.below (HWB0.out.mono hB)) fun _ => G.dep)
  rw [G.clean] at HC
  have HCO := Lib.hid fun W (hW : Below w.heap.size w W) => checkOp_any l f G A n c o Av nv cv W B (Nat.le_trans hB hW.size) (h.below (hW.mono hB)) hoi (hv.below (hW.mono hB))
  rw [h0] at HCO
  have hn0 : 0 < n := by
    obtain ⟨r, hr, _⟩ := G.kids.root
    have := (List.getElem?_eq_some_iff.1 hr).1
    have := h.len.1
    omega
  have hn1 : n ≤ 100000 := by have := G.kids.short; have := h.len.1; omega
  have HCB := Lib.hid fun W (hW : Below w.heap.size w W) => copyBase_any l A n c W B (Nat.le_trans hB hW.size) (h.below (hW.mono hB)) hn0 hn1
  have HDN : Hid (∀ (W : World) (g n2 blk : Nat) (M : List BK), RowB W g n2 M → M.length = n2 → M.map Prod.fst = l → Below w.heap.size w W → w.heap.size ≤ g → Blk W blk 32 (opC o (.slice Av nv cv)) → blk ≠ g →
      Calls Tryz.prog 31 #[.slice (some ⟨g, 0, none⟩) n2 n2, .slice (some ⟨blk, 0, none⟩) 1 1] W fun e w' => ∃ (g' cap' n' : Nat) (M' : List BK), e = .returned (.slice (some ⟨g', 0, none⟩) n' cap') ∧ (M'.length = n' ∧ M'.map Prod.fst = applied l o ∧ RowB w' g' cap' M' ∧ w.heap.size ≤ g') ∧ Below w.heap.size w w') := by
    intro W g n2 blk M hr hl hm hW hg hk hne
    have hzz := hW.size
    refine (done_any W g n2 n2 M l [o] hr hl hm _ 1 1 (ROsX.one (u := .slice Av nv cv) hk ⟨hk.lt, hne⟩ (((RVX.of hv).keep fun p hp => hW.cell (by have hp : p.block < B := hp; omega)).weak fun b hb => ⟨by have hb : b < B := hb; omega, by have hb : b < B := hb; omega⟩) hoi) (OkAll.one G h0)).mono ?_
    rintro e w' ⟨g', cap', n', M', rfl, h1, h2, h3, h4, h5⟩
    refine ⟨g', cap', n', M', rfl, ⟨h1, h2, h3, ?_⟩, below_own hW h4 hg⟩
    rcases h5 with e | e
    · rw [e]; exact hg
    · omega
  have HWB := Lib.hid hwb
  obtain ⟨L', hL'⟩ : ∃ L', L' = applied l o := ⟨_, rfl⟩
  rw [← hL'] at HDN ⊢
  dsimp only [AO] at HCO ⊢
  clear h0 h hv hwb hn0 hn1 hL'
  go_enter Tryz.func7, Tryz.ntmps7
  go_upto_region 1 with fail
  rw [← HWB.out]
  go_wp2_with fail
  refine HC.out.mono ?_
  rintro e w1 ⟨rfl, hb1⟩
  have HB1 : Hid (Below w.heap.size w w1) := HWB0.out.trans (hb1.mono HWB0.out.size)
  have P1 := Lib.hid (P0.out.below hb1 P0.out.lt)
  clear hb1
  have e0 := fun i => P1.out.cell i
  go_wp2_with fail
  refine (HCO.out w1 HB1.out).mono ?_
  rintro e w2 ⟨rfl, hb2⟩
  have HB2 : Hid (Below w.heap.size w w2) := HB1.out.trans (hb2.mono HB1.out.size)
  have P2 := Lib.hid (P1.out.below hb2 P1.out.lt)
  have hz2 := HB2.out.size
  clear hb2 e0
  have e0 := fun i => P2.out.cell i
  have QA : Hid (Below w.heap.size w w2.drew) := HB2.out.drew
  have QB : Hid (Below w.heap.size w (w2.alloc (.cells (opC o (.slice Av nv cv)) 32)).drew) := (HB2.out.alloc HB2.out.size _).drew
  have PB : Hid (Blk (w2.alloc (.cells (opC o (.slice Av nv cv)) 32)).drew w2.heap.size 32 (opC o (.slice Av nv cv))) := (Blk.new w2 _ _).drew
  go_upto_region 7 with fail
  go_region_with (first
    | (go_at_call 20; (with_reducible refine (HCB.out w2.drew QA.out).mono ?_); rintro e w3 ⟨g3, n3, M3, rfl, hl3, hm3, hg3, hr3, hb3⟩; have HB3 : Hid (Below w.heap.size w w3) := QA.out.trans (hb3.mono hz2); have HL3 := Lib.hid hl3; have HM3 := Lib.hid hm3; have hgz : w2.heap.size ≤ g3 := hg3; have HR3 := Lib.hid hr3; have P3 : Hid (Blk w3 w.heap.size 32 (opC o (.slice Av nv cv))) := P2.out.drew.below hb3 P2.out.lt; have HDA := Lib.hid (HDN.out (w3.alloc (.cells (opC o (.slice Av nv cv)) 32)) g3 n3 w3.heap.size M3 (hr3.below ((Below.refl _ _).alloc (Nat.le_refl _) _)) hl3 hm3 (HB3.out.alloc HB3.out.size _) (by omega) (Blk.new _ _ _) (by have := hr3.lt; omega)); have e3 := fun i => P3.out.cell i; clear hb3 hl3 hm3 hg3 hr3)
    | (go_at_call 20; (with_reducible refine (HCB.out _ QB.out).mono ?_); rintro e w3 ⟨g3, n3, M3, rfl, hl3, hm3, hg3, hr3, hb3⟩; have HB3 : Hid (Below w.heap.size w w3) := QB.out.trans (hb3.mono QB.out.size); have hgz : w2.heap.size + 1 ≤ g3 := (by simpa using hg3); have HDA := Lib.hid (HDN.out w3 g3 n3 w2.heap.size M3 hr3 hl3 hm3 HB3.out (by omega) (PB.out.below hb3 PB.out.lt) (by omega)); clear hb3 hl3 hm3 hg3 hr3)
    | (go_at_call 31; refine HDA.out.mono ?_; rintro e w4 ⟨g4, cap4, n4, M4, rfl, hh4, hb4⟩; have HH4 := Lib.hid hh4; have HB4 := Lib.hid hb4; clear hh4 hb4))
  all_goals
    go_wp2_with fail
    go_ret2
    exact ⟨⟨g4, cap4, n4, M4, rfl, HH4.out⟩, HB4.out⟩
end Go.Proofs.YtackphgnkdpgnaaGreat
