/-
  DERIVED. The walks of tree.all and tree.All. Conditions: sizes; a base without error.
  A history in memory; the walks of tree.New, Base and Length. Conditions: sizes.
  The walks of tree.All and tree.Apply. Conditions: sizes.
  The walks of a history's rewind, Undo and At. Conditions: sizes.
  The walk of a history's DoAll. Conditions: sizes.
  By an AI agent.
-/
import Derived.Test.YtmkicfjcgbfaaaaGreatDoorTc32
import Derived.Test.YtmkicfjcgbfaaaaGreatDoorTc33
import Derived.Test.YtmkicfjcgbfaaaaGreatDoorTc23
import Derived.Test.YtmkicfjcgbfaaaaGreatDoorTc24
import Derived.BigQuiet
import Derived.Test.YtmkicfjcgbfaaaaGreatDoorTc30
import Derived.Deep.AppendLies
namespace Go.Proofs.YtmkicfjcgbfaaaaGreatDoor
open Go.RowKit

theorem take_take {α : Type} (l : List α) {i k : Nat} (h : i ≤ k) : (l.take k).take i = l.take i := by
  rw [List.take_take, Nat.min_eq_left h]
theorem OkAll.pre {l : List Bl} {os : List Opn} (h : OkAll l os) (k : Nat) : OkAll l (os.take k) := fun i o hi => by
  rw [List.getElem?_take] at hi
  split at hi
  · rename_i hik
    rw [take_take os (Nat.le_of_lt hik)]
    exact h i o hi
  · cases hi
theorem OkAll.snoc {l : List Bl} {os : List Opn} {k : Nat} {o : Opn} (h : OkAll l (os.take k)) (hk : os[k]? = some o) {f : Int → Option Int} (G : Good (applL l (os.take k)) f) (he : opErr (applL l (os.take k)) f o = 0) : OkAll l (os.take (k + 1)) := fun i x hi => by
  rw [List.getElem?_take] at hi
  split at hi
  · rename_i hik
    rw [take_take os (by omega)]
    by_cases e : i < k
    · have h' := h i x (by rw [List.getElem?_take, if_pos e]; exact hi)
      rwa [take_take os (Nat.le_of_lt e)] at h'
    · obtain rfl : i = k := by omega
      obtain rfl : o = x := by rw [hk] at hi; exact Option.some.inj hi
      exact ⟨f, G, he⟩
  · cases hi
theorem OkAll.good {l : List Bl} {f : Int → Option Int} (G : Good l f) {os : List Opn} (h : OkAll l os) : ∀ k : Nat, k ≤ os.length → ∃ f', Good (applL l (os.take k)) f'
  | 0, _ => ⟨f, G⟩
  | k + 1, hk => by
    have hk' : os[k]? = some os[k] := List.getElem?_eq_getElem (by omega)
    obtain ⟨f', G', he⟩ := h k _ hk'
    obtain ⟨f2, _, G2⟩ := G'.applied he
    exact ⟨f2, by rw [applL_snoc hk']; exact G2⟩
/-- the first operation that is refused, and why -/
def BadAt (l : List Bl) (os : List Opn) (k : Nat) (er : Int) : Prop := ∃ o f, os[k]? = some o ∧ Good (applL l (os.take k)) f ∧ opErr (applL l (os.take k)) f o = er ∧ er ≠ 0
/-- what all leaves -/
def AllR (l : List Bl) (os : List Opn) (g : Option Nat) (w : World) (e : Ending) (w' : World) : Prop :=
  ((∃ (k : Nat) (er : Int), OkAll l (os.take k) ∧ BadAt l os k er ∧ e = .returned (.tuple #[.slice none 0 0, .int .i64 k, .int .i64 er])) ∨ (OkAll l os ∧ ∃ (g' cap' n : Nat) (M : List BK), e = .returned (.tuple #[.slice (some ⟨g', 0, none⟩) n cap', .int .i64 0, .int .i64 0]) ∧ M.length = n ∧ M.map Prod.fst = applL l os ∧ RowB w' g' cap' M ∧ (some g' = g ∨ w.heap.size ≤ g'))) ∧ w.grownBy w' g

set_option maxRecDepth 100000 in
set_option maxHeartbeats 8000000 in
/-- tree.all -/
theorem allIn_any (w : World) (g cap n : Nat) (M : List BK) (l : List Bl) (f : Int → Option Int) (os : List Opn) (h : RowB w g cap M) (hn : M.length = n) (hl : M.map Prod.fst = l) (G : Good l f) (Ao : Option Addr) (no co : Nat) (ho : ROsX w (fun b => b < w.heap.size ∧ b ≠ g) (.slice Ao no co) os) :
    Calls Tryz.prog 25 #[.slice (some ⟨g, 0, none⟩) n cap, .slice Ao no co] w (AllR l os (some g) w) := by
  have hnol := (ho.reads (B := w.heap.size) fun b hb => hb.1).len
  have hno : no * 144 ≤ 140737488351232 := hnol.2.2
  have HNO : Hid (no = os.length) := hnol.1
  have HO := Lib.hid ho
  have HG0 := Lib.hid G
  have H0 := Lib.hid h
  have HL0 : Hid (M.map Prod.fst = applL l (os.take 0)) := hl
  have HN0 := Lib.hid hn
  have HGR : Hid (w.grownBy w (some g)) := grown_below (Below.refl _ _) _
  have HOK0 : Hid (OkAll l (os.take 0)) := fun i o hi => by simp at hi
  clear hnol ho h hl hn G
  go_enter Tryz.func25, Tryz.ntmps25
  go_wp2_with fail
  go_loopg [0, 12] no (fun gg s0 s12 wr => ∃ (k g' cap' nM : Nat) (M' : List BK), k + gg = no ∧ s12 = .int .i64 (k : Int) ∧ s0 = .slice (some ⟨g', 0, none⟩) nM cap' ∧ Hid (M'.length = nM) ∧ Hid (M'.map Prod.fst = applL l (os.take k)) ∧ Hid (RowB wr g' cap' M') ∧ Hid (w.grownBy wr (some g)) ∧ Hid (g' = g ∨ w.heap.size ≤ g') ∧ Hid (OkAll l (os.take k)))
  case atStart => exact ⟨0, g, cap, n, M, by omega, rfl, rfl, HN0, HL0, H0, HGR, .inl rfl, HOK0⟩
  case round =>
    obtain ⟨k, g', cap', nM, M', hkg, rfl, rfl, hml, hmm, hrow, hgr, hgg, hok⟩ := hrel
    obtain ⟨W1, rfl⟩ : ∃ W1, W1 = wr := ⟨_, rfl⟩
    have hgw := hrow.out.lt
    by_cases hk : k < no
    · obtain ⟨o, hko⟩ : ∃ o, os[k]? = some o := ⟨_, List.getElem?_eq_getElem (by have := HNO.out; omega)⟩
      obtain ⟨f', G⟩ := hok.out.good HG0.out k (by rw [List.length_take, ← HNO.out]; omega)
      rw [take_take os (Nat.le_refl k)] at G
      have HWZ : w.heap.size ≤ W1.heap.size := hgr.out.size
      have HKP : ∀ p : Addr, p.block < w.heap.size ∧ p.block ≠ g → W1.cell? p = w.cell? p := fun p hp => World.cell?_of_block (hgr.out.block _ hp.1 fun e => hp.2 (Option.some.inj e))
      obtain ⟨b, off, Av, nv, cv, rfl, hSb, hc, hrv, hoi⟩ := (HO.out.keep (W' := W1) HKP).at_ (B := w.heap.size) (fun b hb => hb.1) hko
      have HRV : Hid (RVX W1 (fun b => b < W1.heap.size ∧ b ≠ g') (.slice Av nv cv) o.val.items) := hrv.weak fun b hb => ⟨by omega, fun e => by
        rcases hgg.out with r | r
        · exact hb.2 (by rw [e, r])
        · omega⟩
      obtain ⟨er, her⟩ : ∃ er, er = opErr (applL l (os.take k)) f' o := ⟨_, rfl⟩
      have HER := Lib.hid her
      have HG := Lib.hid G
      have HKO := Lib.hid hko
      have HOI := Lib.hid hoi
      have j0 : (0 : Int) ≤ (k : Int) := by omega
      have j1 : (k : Int) < (no : Int) := by omega
      obtain ⟨oc, hoc⟩ : ∃ oc, oc = opC o (.slice Av nv cv) := ⟨_, rfl⟩
      have g0 : W1.cell? ⟨b, off + k * 13, none⟩ = some (.int .i64 o.kind) := hc 0 _ rfl
      have g1 : W1.cell? ⟨b, off + k * 13 + 1, none⟩ = some (.int .i64 o.id) := hc 1 _ rfl
      have g2 : W1.cell? ⟨b, off + k * 13 + 2, none⟩ = some (.int .i64 o.parent) := hc 2 _ rfl
      have g3 : W1.cell? ⟨b, off + k * 13 + 3, none⟩ = some (.int .i64 o.at_) := hc 3 _ rfl
      have g4 : W1.cell? ⟨b, off + k * 13 + 4, none⟩ = some (.int .i64 o.from_) := hc 4 _ rfl
      have g5 : W1.cell? ⟨b, off + k * 13 + 5, none⟩ = some (.int .i64 o.to_) := hc 5 _ rfl
      have g6 : W1.cell? ⟨b, off + k * 13 + 6, none⟩ = some (.string o.text) := hc 6 _ rfl
      have g7 : W1.cell? ⟨b, off + k * 13 + 7, none⟩ = some (.string o.name) := hc 7 _ rfl
      have g8 : W1.cell? ⟨b, off + k * 13 + 8, none⟩ = some (.int .i64 o.val.kind) := hc 8 _ rfl
      have g9 : W1.cell? ⟨b, off + k * 13 + 9, none⟩ = some (.int .i64 o.val.int_) := hc 9 _ rfl
      have g10 : W1.cell? ⟨b, off + k * 13 + 10, none⟩ = some (.int .i64 o.val.to_) := hc 10 _ rfl
      have g11 : W1.cell? ⟨b, off + k * 13 + 11, none⟩ = some (.string o.val.text) := hc 11 _ rfl
      have g12 : W1.cell? ⟨b, off + k * 13 + 12, none⟩ = some (.slice Av nv cv) := hc 12 _ rfl
      obtain ⟨wa, hwa⟩ : ∃ wa, wa = W1.alloc (.cells (opC o (.slice Av nv cv)) 67) := ⟨_, rfl⟩
      have hal : Below W1.heap.size W1 wa := by rw [hwa]; exact (Below.refl _ _).alloc (Nat.le_refl _) _
      have hza : W1.heap.size < wa.heap.size := by rw [hwa]; simp
      have P0 : Hid (Blk wa W1.heap.size 67 (opC o (.slice Av nv cv))) := by rw [hwa]; exact Blk.new _ _ _
      have HRA := Lib.hid (hrow.out.below hal)
      have HCO := Lib.hid (checkOp_any (M'.map Prod.fst) f' (by rw [hmm.out]; exact G) (some ⟨g', 0, none⟩) M'.length cap' o Av nv cv wa wa.heap.size (Nat.le_refl _) HRA.out.rb hoi (((HRV.out.reads (B := W1.heap.size) fun b hb => hb.1).below hal).more hal.size))
      rw [hml.out, hmm.out, ← her] at HCO
      have HAL := Lib.hid hal
      have HWA := Lib.hid hwa
      clear hko G hSb hc hrv hoi hal hwa HKP her hoc
      dsimp only [AO] at HCO
      go_upto_region 4 with fail
      rw [← HWA.out]
      clear g0 g1 g2 g3 g4 g5 g6 g7 g8 g9 g10 g11 g12
      have e0 := fun i => P0.out.cell i
      go_wp2_with fail
      refine HCO.out.mono ?_
      rintro e w2 ⟨rfl, hb2⟩
      have HB2 : Hid (Below W1.heap.size W1 w2) := HAL.out.trans (hb2.mono HAL.out.size)
      have P2 := Lib.hid (P0.out.below hb2 P0.out.lt)
      have HR2 := Lib.hid (hrow.out.below HB2.out)
      have hz2 := HB2.out.size
      have HW2 : Hid (w.grownBy w2 (some g)) := Lib.grownBy_trans hgr.out (grown_below HB2.out _)
      clear hb2 e0
      have e0 := fun i => P2.out.cell i
      by_cases h0 : er = 0
      · subst h0
        have HOK' : Hid (OkAll l (os.take (k + 1))) := hok.out.snoc HKO.out HG.out HER.out.symm
        have HSN : Hid (applL l (os.take (k + 1)) = applL (applL l (os.take k)) [o]) := applL_snoc HKO.out
        obtain ⟨wc, hwc⟩ : ∃ wc, wc = w2.alloc (.cells (opC o (.slice Av nv cv)) 67) := ⟨_, rfl⟩
        have hbc : Below w2.heap.size w2 wc := by rw [hwc]; exact (Below.refl _ _).alloc (Nat.le_refl _) _
        have hzc : wc.heap.size = w2.heap.size + 1 := by rw [hwc]; simp
        have hkc : Blk wc w2.heap.size 67 (opV (o, .slice Av nv cv)).toArray := by rw [hwc]; exact Blk.new _ _ _
        have hros : ROsX wc (fun b => b < wc.heap.size ∧ b ≠ g') (.slice (some ⟨w2.heap.size, 0, none⟩) 1 1) [o] := ROsX.one hkc ⟨by omega, by omega⟩ ((HRV.out.keep fun p hp => (HB2.out.trans (hbc.mono HB2.out.size)).cell hp.1).weak fun b hb => ⟨by omega, hb.2⟩) HOI.out
        have HDN := Lib.hid (done_any wc g' cap' nM M' (applL l (os.take k)) [o] (HR2.out.below hbc) hml.out hmm.out _ _ _ hros (OkAll.one HG.out HER.out.symm))
        rw [hwc] at HDN
        have HWC : Hid (w.grownBy (w2.alloc (.cells (opC o (.slice Av nv cv)) 67)) (some g)) := by
          rw [hwc] at hbc
          exact Lib.grownBy_trans HW2.out (grown_below hbc _)
        have hwz := HWC.out.size
        clear hwc hbc hzc hkc hros
        go_wp2_with fail
        refine HDN.out.mono ?_
        rintro e w3 ⟨g3, cap3, n3, M3, rfl, hl3, hm3, hr3, hg3, hat3⟩
        have HW3 : Hid (w.grownBy w3 (some g)) := grown_more HWC.out hg3 hgg.out
        have HL3 := Lib.hid hl3
        have HM3 : Hid (M3.map Prod.fst = applL l (os.take (k + 1))) := hm3.trans HSN.out.symm
        have HR3 := Lib.hid hr3
        have HGG3 : Hid (g3 = g ∨ w.heap.size ≤ g3) := by
          rcases hat3 with e | e
          · rw [e]; exact hgg.out
          · exact .inr (Nat.le_trans hwz e)
        clear hg3 hat3 hl3 hm3 hr3 hwz e0
        go_wp2_with fail
        go_roundg (no - (k + 1))
        case measure => omega
        case rel => exact ⟨k + 1, g3, cap3, n3, M3, by omega, by go_num, rfl, HL3, HM3, HR3, HW3, HGG3, HOK'⟩
      · have h0' : (er != 0) = true := by simpa using h0
        have HBAD : Hid (BadAt l os k er) := ⟨o, f', HKO.out, HG.out, HER.out.symm, h0⟩
        clear h0
        go_wp2_with fail
        go_ret3
        exact ⟨.inl ⟨k, er, hok.out, HBAD.out, rfl⟩, HW2.out⟩
    · obtain rfl : no = k := by omega
      have HOKF : Hid (OkAll l os) := by
        have := hok.out
        rw [HNO.out, List.take_length] at this
        exact this
      have HMF : Hid (M'.map Prod.fst = applL l os) := by
        have := hmm.out
        rw [HNO.out, List.take_length] at this
        exact this
      go_wp2_with fail
      go_ret3
      exact ⟨.inr ⟨HOKF.out, g', cap', nM, M', rfl, hml.out, HMF.out, hrow.out, hgg.out.imp (fun e => by rw [e]) id⟩, hgr.out⟩
end Go.Proofs.YtmkicfjcgbfaaaaGreatDoor
namespace Go.Proofs.YtmkicfjcgbfaaaaGreatDoor
open Go.RowKit

section
variable {S : Nat → Prop} {w w' : World} {g cap : Nat} {M : List BK}
end
/-- the blocks that a history leaves as they are -/
def HS (w : World) (gh gn b : Nat) : Prop := b < w.heap.size ∧ b ≠ gh ∧ b ≠ gn
/-- all but some blocks are as they were -/
structure Kept (T : Nat → Prop) (w w' : World) : Prop where
  os : w'.os = w.os
  tape : w'.tape = w.tape
  output : w'.output = w.output
  size : w.heap.size ≤ w'.heap.size
  block : ∀ i, i < w.heap.size → ¬ T i → w'.heap[i]? = w.heap[i]?
section
variable {T T' : Nat → Prop} {w w' w'' : World} {gh gn : Nat} {lf : List Bl} {os : List Opn} {d : Nat}
theorem Kept.of (h : Below w.heap.size w w') : Kept T w w' := ⟨h.os, h.tape, h.output, h.size, fun i hi _ => h.block i hi⟩
theorem Kept.below {B : Nat} (h : Kept T w w') (hB : B ≤ w.heap.size) (hT : ∀ i, i < B → ¬ T i) : Below B w w' := ⟨h.os, h.tape, h.output, h.size, fun i hi => h.block i (by omega) (hT i hi)⟩
theorem Kept.trans (h : Kept T w w') (k : Kept T' w' w'') (hT : ∀ i, i < w.heap.size → T' i → T i) : Kept T w w'' :=
  ⟨k.os.trans h.os, k.tape.trans h.tape, k.output.trans h.output, Nat.le_trans h.size k.size, fun i hi hn => (k.block i (Nat.lt_of_lt_of_le hi h.size) fun e => hn (hT i hi e)).trans (h.block i hi hn)⟩
theorem Kept.blk {g : Nat} {t : TypeId} {cs : Array Value} (h : Kept T w w') (hb : Blk w g t cs) (hT : ¬ T g) : Blk w' g t cs := (h.block g hb.lt hT).trans hb
theorem Kept.weak (h : Kept T w w') (hT : ∀ i, T i → T' i) : Kept T' w w' := ⟨h.os, h.tape, h.output, h.size, fun i hi hn => h.block i hi fun e => hn (hT i e)⟩
theorem Kept.cell (h : Kept T w w') {p : Addr} (hp : p.block < w.heap.size) (hT : ¬ T p.block) : w'.cell? p = w.cell? p := World.cell?_of_block (h.block _ hp hT)
end

end Go.Proofs.YtmkicfjcgbfaaaaGreatDoor
namespace Go.Proofs.YtmkicfjcgbfaaaaGreatDoor
open Go.RowKit

theorem below_own {w w1 w2 : World} {g : Nat} (h : Below w.heap.size w w1) (k : w1.grownBy w2 (some g)) (hg : w.heap.size ≤ g) : Below w.heap.size w w2 :=
  h.trans ⟨k.os, k.tape, k.output, k.size, fun i hi => k.block i (Nat.lt_of_lt_of_le hi h.size) fun e => by have : i = g := Option.some.inj e; omega⟩

set_option maxRecDepth 100000 in
set_option maxHeartbeats 4000000 in
/-- tree.All at a base with an error -/
theorem allTop_bad (l : List Bl) (f : Int → Option Int) (hf : DepOk l f) (A : Option Addr) (n c : Nat) (os : Value) (w : World) (B : Nat) (hB : B ≤ w.heap.size) (h : RB w B (.slice A n c) l) (hne : baseE l f ≠ 0) :
    Calls Tryz.prog 9 #[.slice A n c, os] w fun e w' => e = .returned (.tuple #[.slice none 0 0, .int .i64 0, .int .i64 (baseE l f)]) ∧ Below w.heap.size w w' := by
  have HC := Lib.hid (treeCheck_any l f A n c w B hB h hf)
  obtain ⟨er, her⟩ : ∃ er, er = baseE l f := ⟨_, rfl⟩
  rw [← her] at HC hne ⊢
  have h0' : (er != 0) = true := by simpa using hne
  clear her hne h
  go_enter Tryz.func9, Tryz.ntmps9
  go_wp2_with fail
  refine HC.out.mono ?_
  rintro e w1 ⟨rfl, hb1⟩
  have HB1 := Lib.hid hb1
  clear hb1
  go_wp2_with fail
  go_ret3
  exact ⟨rfl, HB1.out⟩
set_option maxRecDepth 100000 in
set_option maxHeartbeats 4000000 in
/-- tree.All at a base without error -/
theorem allTop_any (l : List Bl) (f : Int → Option Int) (G : Good l f) (A : Option Addr) (n c : Nat) (os : List Opn) (Ao : Option Addr) (no co : Nat) (w : World) (B : Nat) (hB : B ≤ w.heap.size) (h : RB w B (.slice A n c) l) (ho : ROs w B (.slice Ao no co) os) :
    Calls Tryz.prog 9 #[.slice A n c, .slice Ao no co] w (AllR l os none w) := by
  have HC := Lib.hid (treeCheck_any l f A n c w B hB h fun _ => G.dep)
  rw [G.clean] at HC
  have hn0 : 0 < n := by
    obtain ⟨r, hr, _⟩ := G.kids.root
    have := (List.getElem?_eq_some_iff.1 hr).1
    have := h.len.1
    omega
  have hn1 : n ≤ 100000 := by have := G.kids.short; have := h.len.1; omega
  have HCB := Lib.hid fun W (hW : Below w.heap.size w W) => copyBase_any l A n c W B (Nat.le_trans hB hW.size) (h.below (hW.mono hB)) hn0 hn1
  have HO := Lib.hid ho
  have HG := Lib.hid G
  clear h ho G hn0 hn1
  go_enter Tryz.func9, Tryz.ntmps9
  go_wp2_with fail
  refine HC.out.mono ?_
  rintro e w1 ⟨rfl, hb1⟩
  have HB1 := Lib.hid hb1
  clear hb1
  go_wp2_with fail
  refine (HCB.out w1 HB1.out).mono ?_
  rintro e w2 ⟨g, n2, M, rfl, hl2, hm2, hg2, hr2, hb2⟩
  have HB2 : Hid (Below w.heap.size w w2) := HB1.out.trans (hb2.mono HB1.out.size)
  have hz1 := HB1.out.size
  have hz2 := HB2.out.size
  have hgl : w.heap.size ≤ g := Nat.le_trans hz1 hg2
  have HA := Lib.hid (allIn_any w2 g n2 n2 M l f os hr2 hl2 hm2 HG.out Ao no co (((ROsX.of HO.out).keep fun p hp => HB2.out.cell (by have hp : p.block < B := hp; omega)).weak fun b hb => ⟨by have hb : b < B := hb; omega, by have hb : b < B := hb; omega⟩))
  clear hb2 hl2 hm2 hr2
  go_wp2_with fail
  refine HA.out.mono ?_
  rintro e w3 ⟨hcase, hg3⟩
  have HB3 : Hid (w.grownBy w3 none) := grown_below (below_own HB2.out hg3 hgl) _
  rcases hcase with ⟨k, er, h1, h2, rfl⟩ | ⟨h1, g', cap', n3, M3, rfl, h3, h4, h5, h6⟩
  · have H1 := Lib.hid h1
    have H2 := Lib.hid h2
    clear h1 h2 hg3
    go_wp2_with fail
    go_ret3
    exact ⟨.inl ⟨k, er, H1.out, H2.out, rfl⟩, HB3.out⟩
  · have H1 := Lib.hid h1
    have H3 := Lib.hid h3
    have H4 := Lib.hid h4
    have H5 := Lib.hid h5
    have H6 : Hid (some g' = (none : Option Nat) ∨ w.heap.size ≤ g') := .inr (by
      rcases h6 with e | e
      · obtain rfl := Option.some.inj e
        exact hgl
      · omega)
    clear h1 h3 h4 h5 h6 hg3
    go_wp2_with fail
    go_ret3
    exact ⟨.inr ⟨H1.out, g', cap', n3, M3, rfl, H3.out, H4.out, H5.out, H6.out⟩, HB3.out⟩
end Go.Proofs.YtmkicfjcgbfaaaaGreatDoor
namespace Go.Proofs.YtmkicfjcgbfaaaaGreatDoor
open Go.RowKit

theorem opV_flat (M : List (Opn × Value)) : (M.flatMap opV).length = M.length * 13 := by
  induction M with
  | nil => rfl
  | cons a M ih => rw [List.flatMap_cons, List.length_append, ih, List.length_cons, opV_len]; omega
theorem opV_take (M : List (Opn × Value)) (i : Nat) (hi : i ≤ M.length) : (M.flatMap opV).take (i * 13) = (M.take i).flatMap opV := by
  conv => lhs; rw [← List.take_append_drop i M, List.flatMap_append]
  rw [List.take_append_of_le_length (by rw [opV_flat, List.length_take]; omega), List.take_of_length_le (by rw [opV_flat, List.length_take]; omega)]
/-- the first operations of a row -/
theorem ROsX.take {w : World} {S : Nat → Prop} {A : Option Addr} {n c : Nat} {l : List Opn} (h : ROsX w S (.slice A n c) l) {k : Nat} (hk : k ≤ n) : ROsX w S (.slice A k c) (l.take k) := by
  obtain ⟨A', n', c', M, h1, e, h2, h3, h4, h5⟩ := h
  injection e with e1 e2 e3
  subst e1 e2 e3
  refine ⟨A, k, c, M.take k, by rw [← h1, List.map_take], rfl, by rw [List.length_take]; omega, ⟨by omega, by omega⟩, ?_, fun x hx => h5 x (List.mem_of_mem_take hx)⟩
  refine ⟨by rw [opV_flat, List.length_take]; omega, fun h0 => ?_⟩
  obtain ⟨ad, hA, hS, hc⟩ := h4.2 (by omega)
  refine ⟨ad, hA, hS, fun j u hu => hc j u ?_⟩
  rw [← opV_take M k (by omega), List.getElem?_take] at hu
  split at hu
  · exact hu
  · cases hu
section
variable {w w' : World} {gh gn : Nat} {lf : List Bl} {os : List Opn} {d : Nat}
end

end Go.Proofs.YtmkicfjcgbfaaaaGreatDoor
namespace Go.Proofs.YtmkicfjcgbfaaaaGreatDoor
open Go.RowKit

theorem OkAll.app {l : List Bl} {os ls : List Opn} (h : OkAll l os) (k : OkAll (applL l os) ls) : OkAll l (os ++ ls) := fun i o hi => by
  rcases Nat.lt_or_ge i os.length with g | g
  · rw [List.getElem?_append_left g] at hi
    rw [List.take_append_of_le_length (Nat.le_of_lt g)]
    exact h i o hi
  · rw [List.getElem?_append_right g] at hi
    have := k (i - os.length) o hi
    rw [List.take_append, List.take_of_length_le g]
    unfold applL at this ⊢
    rw [List.foldl_append]
    exact this
theorem applL_app (l : List Bl) (os ls : List Opn) : applL l (os ++ ls) = applL (applL l os) ls := List.foldl_append
section
variable {w2 w w' : World} {gh gn : Nat} {a d nw v v' : Value} {M : List (Opn × Value)}
end

theorem row_new (w : World) (g : Nat) (cs : List Value) (t : TypeId) (hg : g = w.heap.size) : ∀ j u, cs[j]? = some u → (w.alloc (.cells cs.toArray t)).cell? ((⟨g, 0, none⟩ : Addr).add j) = some u := by
  subst hg
  intro j u hu
  rw [Addr.add_lit, Nat.zero_add, (Blk.new w t cs.toArray).cell j]
  simpa using hu
theorem own_succ {w : World} {base n size : Nat} {e : TypeId} {v : Value} {xs : List Value} (h : w.ownsRow base e size v (n + 1) xs) : ∃ g cap, v = .slice (some ⟨g, 0, none⟩) (n + 1) cap := by
  rcases h.2 with ⟨_, h0⟩ | ⟨g, cap, cur, rfl, _⟩
  · omega
  · exact ⟨g, cap, rfl⟩
end Go.Proofs.YtmkicfjcgbfaaaaGreatDoor
