/-
  DERIVED. The walks of tree.Get, copyBlock and slices.IndexFunc at blocks. Conditions: sizes. By an AI agent.
-/
import Derived.Test.YtbkhnfdfdgdfkaaBsCopyP
import Derived.Test.YtbkhnfdfdgdfkaaBsInts
import Derived.Test.YtbkhnfdfdgdfkaaBsEq
import Derived.Test.YtbkhnfdfdgdfkaaBsIdx
namespace Go.Proofs.Ytbkhnfdfdgdfkaa
open Go.RowKit

/-- what a closure that looks for an id says -/
def IdCl (g : Nat) : Prop := ∀ (x : Bl) (Kx Px : Option Addr) (nx cx mx ex P : Nat) (id : Int) (w : World), P < w.heap.size → w.cell? ⟨P, 0, none⟩ = some (.int .i64 id) → Calls Try.prog g #[AB (x, .slice Kx nx cx, .slice Px mx ex), .pointer (some ⟨P, 0, none⟩)] w fun e w' => e = .returned (.bool (x.id == id)) ∧ Below w.heap.size w w'
set_option maxHeartbeats 400000 in
theorem get1_any : IdCl 37 := fun x Kx Px nx cx mx ex P id w hP hc => by
  have hc' : ∀ o, (w.alloc o).cell? ⟨P, 0, none⟩ = some (.int .i64 id) := fun o => (World.cell?_alloc_lt _ _ _ hP).trans hc
  dsimp only [AB]
  go_enter Try.func37, Try.ntmps37
  go_wp2_with fail
  go_ret
  exact ⟨rfl, (Below.refl _ _).alloc (Nat.le_refl _) _⟩

set_option maxHeartbeats 2000000 in
/-- slices.IndexFunc at blocks, with a closure that looks for an id -/
theorem indexF_any (g : Nat) (hg : IdCl g) (hent : ∀ args w, (callFunc g args).run Try.prog w = .ok (.enter g args) w) (l : List Bl) (A : Option Addr) (n c P : Nat) (id : Int) (w : World) (B : Nat) (hB : B ≤ w.heap.size) (hP : P < w.heap.size) (hPc : w.cell? ⟨P, 0, none⟩ = some (.int .i64 id)) (h : RB w B (.slice A n c) l) :
    Calls Try.prog 10 #[.slice A n c, .func (.func g) #[] #[.pointer (some ⟨P, 0, none⟩)]] w fun e w' => e = .returned (.int .i64 (posOf l id)) ∧ Below w.heap.size w w' := by
  obtain ⟨V, hV⟩ : ∃ V, V = posOf l id := ⟨_, rfl⟩
  rw [← hV]
  have HV : Hid (V = posFrom (l.drop 0) id 0) := hV
  have HN := Lib.hid h.len
  have H := Lib.hid h
  have HG := Lib.hid hg
  have HPC := Lib.hid hPc
  clear h hV hg hPc
  go_enter Try.func10, Try.ntmps10
  go_wp2_with fail
  go_loopg [8] n (fun gg s8 wr => ∃ k : Nat, k + gg = n ∧ s8 = .int .i64 (k : Int) ∧ Hid (V = posFrom (l.drop k) id k) ∧ Hid (Below w.heap.size w wr))
  case atStart => exact ⟨0, by omega, rfl, HV, Below.refl _ _⟩
  case round =>
    obtain ⟨k, hkg, rfl, hno, hbel⟩ := hrel
    have hbg : n * 80 ≤ 140737488351232 := HN.out.2.2
    by_cases hk : k < n
    · obtain ⟨x, hx⟩ : ∃ x, l[k]? = some x := ⟨_, List.getElem?_eq_getElem (by have := HN.out.1; omega)⟩
      obtain ⟨b, off, Ak, nk, ck, Ap, np, cp, rfl, hbb, g0, g1, g2, g3, g4, _, _⟩ := (H.out.below (hbel.out.mono hB)).at_ hx
      have hst := hno.out.trans (posFrom_at hx id)
      have HX := Lib.hid (HG.out x Ak Ap nk ck np cp P id wr (Nat.lt_of_lt_of_le hP hbel.out.size) ((hbel.out.cell (p := ⟨P, 0, none⟩) hP).trans HPC.out))
      dsimp only [AB] at HX
      have j0 : (0 : Int) ≤ (k : Int) := by omega
      have j1 : (k : Int) < (n : Int) := by omega
      clear hx
      obtain ⟨q, hq⟩ : ∃ q, (x.id == id) = q := ⟨_, rfl⟩
      rw [hq] at HX
      cases q
      · have HS := Lib.hid (hst.trans (if_neg (by simpa using hq)))
        clear hst hq
        go_wp2_with fail
        refine HX.out.mono ?_
        rintro e w2 ⟨rfl, hb⟩
        have HB2 : Hid (Below w.heap.size w w2) := hbel.out.trans (hb.mono hbel.out.size)
        clear hb
        go_wp2_with fail
        go_roundg (n - (k + 1))
        case measure => omega
        case rel => exact ⟨k + 1, by omega, by go_num, HS, HB2⟩
      · have HS := Lib.hid (hst.trans (if_pos (by simpa using hq)))
        clear hst hq
        go_wp2_with fail
        refine HX.out.mono ?_
        rintro e w2 ⟨rfl, hb⟩
        have HB2 : Hid (Below w.heap.size w w2) := hbel.out.trans (hb.mono hbel.out.size)
        clear hb
        go_wp2_with fail
        go_ret
        exact ⟨by rw [HS.out]; rfl, HB2.out⟩
    · obtain rfl : n = k := by omega
      have HZ : Hid (V = -1) := hno.out.trans (by rw [List.drop_of_length_le (by rw [← HN.out.1]; exact Nat.le_refl _)]; rfl)
      go_wp2_with fail
      go_ret
      exact ⟨by rw [HZ.out]; rfl, hbel.out⟩

/-- what copying a block leaves -/
def CopyBR (x : Bl) (w : World) (e : Ending) (w' : World) : Prop := (∃ Kx nx cx Px mx ex, e = .returned (AB (x, .slice Kx nx cx, .slice Px mx ex)) ∧ RInX w' (fun b => w.heap.size ≤ b ∧ b < w'.heap.size) (.slice Kx nx cx) x.kids ∧ RPrX w' (fun b => w.heap.size ≤ b ∧ b < w'.heap.size) (.slice Px mx ex) x.props) ∧ Below w.heap.size w w'
set_option maxRecDepth 100000 in
set_option maxHeartbeats 4000000 in
/-- tree.copyBlock -/
theorem copyBlock_any (x : Bl) (Kx Px : Option Addr) (nx cx mx ex : Nat) (w : World) (B : Nat) (hB : B ≤ w.heap.size) (h1 : RIn w B (.slice Kx nx cx) x.kids) (h2 : RPr w B (.slice Px mx ex) x.props) :
    Calls Try.prog 38 #[AB (x, .slice Kx nx cx, .slice Px mx ex)] w (CopyBR x w) := by
  obtain ⟨wb, hwb⟩ : ∃ wb, wb = (w.alloc (.cells #[.int .i64 x.id, .int .i64 x.parent, .slice Kx nx cx, .string x.text, .slice Px mx ex] 30)).alloc (.cells #[.int .i64 0, .int .i64 0, .slice none 0 0, .string ⟨#[]⟩, .slice none 0 0] 30) := ⟨_, rfl⟩
  have hbb : Below w.heap.size w wb := by rw [hwb]; exact ((Below.refl _ _).alloc (Nat.le_refl _) _).alloc (by simp) _
  have p0 : Blk wb w.heap.size 30 #[.int .i64 x.id, .int .i64 x.parent, .slice Kx nx cx, .string x.text, .slice Px mx ex] := by rw [hwb]; exact (Blk.new w _ _).alloc _
  have p1 : Blk wb (w.heap.size + 1) 30 #[.int .i64 0, .int .i64 0, .slice none 0 0, .string ⟨#[]⟩, .slice none 0 0] := by
    rw [hwb]
    have h := Blk.new (w.alloc (.cells #[.int .i64 x.id, .int .i64 x.parent, .slice Kx nx cx, .string x.text, .slice Px mx ex] 30)) 30 #[.int .i64 0, .int .i64 0, .slice none 0 0, .string ⟨#[]⟩, .slice none 0 0]
    simpa only [World.size_alloc] using h
  have hzb : wb.heap.size = w.heap.size + 2 := by rw [hwb]; simp
  have HCK := Lib.hid (cloneI_any Kx nx cx x.kids wb B (h1.below (hbb.mono hB)))
  have HCP := Lib.hid fun W (hW : Below w.heap.size w W) => copyProps_any Px mx ex x.props W B (Nat.le_trans hB hW.size) (h2.below (hW.mono hB))
  have HBB := Lib.hid hbb
  have HWB := Lib.hid hwb
  have HZB := Lib.hid hzb
  have P0 := Lib.hid p0
  have P1 := Lib.hid p1
  have e2 : wb.cell? ⟨w.heap.size, 2, none⟩ = some (.slice Kx nx cx) := p0.cell 2
  clear h1 h2 hbb hwb hzb p0 p1
  dsimp only [AB]
  go_enter Try.func38, Try.ntmps38
  go_upto_region 1 with fail
  rw [← HWB.out]
  go_wp2_with fail
  refine HCK.out.mono ?_
  rintro e w1 ⟨⟨A1, n1, c1, rfl, hn1, _, hr1, hc1⟩, hb1⟩
  have HCL := Lib.hid (clipI_any A1 n1 c1 w1 hc1 hn1)
  have HB1 : Hid (Below w.heap.size w w1) := HBB.out.trans (hb1.mono HBB.out.size)
  have hz1 : w.heap.size + 2 ≤ w1.heap.size := by have := hb1.size; have := HZB.out; omega
  have q0 := P0.out.below hb1 (by have := HZB.out; omega)
  have q1 := P1.out.below hb1 (by have := HZB.out; omega)
  have HR1 : Hid (RInX w1 (fun b => w.heap.size + 2 ≤ b ∧ b < w1.heap.size) (.slice A1 n1 n1) x.kids) := hr1.weak fun b hb => ⟨by have := HZB.out; omega, hb.2⟩
  have Q0 := Lib.hid q0
  have Q1 := Lib.hid q1
  have k2 := q0.cell 2
  have f2 := q0.frozen 2
  clear hn1 hr1 hc1 hb1 q0 q1 e2
  go_wp2_with fail
  refine HCL.out.mono ?_
  rintro e w2 ⟨rfl, rfl⟩
  obtain ⟨w3, hw3⟩ : ∃ w3, w3 = w2.setCell ⟨w.heap.size, 2, none⟩ (.slice A1 n1 n1) := ⟨_, rfl⟩
  have r0 : Blk w3 w.heap.size 30 #[.int .i64 x.id, .int .i64 x.parent, .slice A1 n1 n1, .string x.text, .slice Px mx ex] := by rw [hw3]; exact Q0.out.set_ 2 _
  have r1 : Blk w3 (w.heap.size + 1) 30 #[.int .i64 0, .int .i64 0, .slice none 0 0, .string ⟨#[]⟩, .slice none 0 0] := by rw [hw3]; exact Q1.out.far (p := ⟨w.heap.size, 2, none⟩) (by show w.heap.size + 1 ≠ w.heap.size; omega) _
  have HB3 : Hid (Below w.heap.size w w3) := by rw [hw3]; exact HB1.out.setCell (p := ⟨w.heap.size, 2, none⟩) (Nat.le_refl _) _
  have hz3 : w3.heap.size = w2.heap.size := by rw [hw3]; simp [World.setCell]
  have HR3 : Hid (RInX w3 (fun b => w.heap.size + 2 ≤ b ∧ b < w3.heap.size) (.slice A1 n1 n1) x.kids) := by
    show RInX _ _ _ _
    rw [hz3]
    exact HR1.out.keep fun p hp => by rw [hw3]; exact World.cell?_setCell_other _ _ _ _ (by intro e; subst e; have := hp.1; simp at this; omega)
  have HCX := Lib.hid (HCP.out w3 HB3.out)
  have R0 := Lib.hid r0
  have R1 := Lib.hid r1
  have k4 := r0.cell 4
  have HW3 := Lib.hid hw3
  clear r0 r1 hw3
  go_upto_region 2 with fail
  rw [← HW3.out]
  clear k2 f2
  go_wp2_with fail
  refine HCX.out.mono ?_
  rintro e w4 ⟨⟨A4, n4, c4, rfl, hr4⟩, hb4⟩
  have hz4 : w3.heap.size ≤ w4.heap.size := hb4.size
  have hp0 := R0.out.below hb4 (by omega)
  have hp1 := R1.out.below hb4 (by omega)
  have HB4 : Hid (Below w.heap.size w w4) := HB3.out.trans (hb4.mono HB3.out.size)
  have HR4 : Hid (RInX w4 (fun b => w.heap.size + 2 ≤ b ∧ b < w4.heap.size) (.slice A1 n1 n1) x.kids) := (HR3.out.keep fun p hp => hb4.cell hp.2).weak fun b hb => ⟨hb.1, by omega⟩
  have HRP : Hid (RPrX w4 (fun b => w.heap.size + 2 ≤ b ∧ b < w4.heap.size) (.slice A4 n4 c4) x.props) := hr4.weak fun b hb => ⟨by omega, hb.2⟩
  have e0 := fun i => hp0.cell i
  have f0 := fun i => hp0.frozen i
  have e1 := fun i => hp1.cell i
  have f1 := fun i => hp1.frozen i
  have HP1 := Lib.hid hp1
  clear hr4 hb4 k4 hp0 hp1
  go_wp2_with fail
  have PF := (((((HP1.out.far (p := ⟨w.heap.size, 4, none⟩) (by show w.heap.size + 1 ≠ w.heap.size; omega) (.slice A4 n4 c4)).set_ 0 (.int .i64 x.id)).set_ 1 (.int .i64 x.parent)).set_ 2 (.slice A1 n1 n1)).set_ 3 (.string x.text)).set_ 4 (.slice A4 n4 c4)
  have HBF : Below w.heap.size w _ := (((((HB4.out.setCell (p := ⟨w.heap.size, 4, none⟩) (Nat.le_refl _) (.slice A4 n4 c4)).setCell (p := ⟨w.heap.size + 1, 0, none⟩) (Nat.le_succ _) (.int .i64 x.id)).setCell (p := ⟨w.heap.size + 1, 1, none⟩) (Nat.le_succ _) (.int .i64 x.parent)).setCell (p := ⟨w.heap.size + 1, 2, none⟩) (Nat.le_succ _) (.slice A1 n1 n1)).setCell (p := ⟨w.heap.size + 1, 3, none⟩) (Nat.le_succ _) (.string x.text)).setCell (p := ⟨w.heap.size + 1, 4, none⟩) (Nat.le_succ _) (.slice A4 n4 c4)
  obtain ⟨F, hF⟩ : ∃ F, F = ((((((w4.setCell ⟨w.heap.size, 4, none⟩ (.slice A4 n4 c4)).setCell ⟨w.heap.size + 1, 0, none⟩ (.int .i64 x.id)).setCell ⟨w.heap.size + 1, 1, none⟩ (.int .i64 x.parent)).setCell ⟨w.heap.size + 1, 2, none⟩ (.slice A1 n1 n1)).setCell ⟨w.heap.size + 1, 3, none⟩ (.string x.text)).setCell ⟨w.heap.size + 1, 4, none⟩ (.slice A4 n4 c4)) := ⟨_, rfl⟩
  rw [← hF] at PF HBF ⊢
  have hFk : ∀ p : Addr, w.heap.size + 2 ≤ p.block → F.cell? p = w4.cell? p := fun p h1 => by
    rw [hF]
    repeat rw [World.cell?_setCell_other _ _ p _ (by intro e; subst e; dsimp only at h1; omega)]
  have hFs : F.heap.size = w4.heap.size := by rw [hF]; simp [World.setCell]
  have r0 := PF.cell 0
  have r1 := PF.cell 1
  have r2 := PF.cell 2
  have r3 := PF.cell 3
  have r4 := PF.cell 4
  refine bodyPost_ret (v := AB (x, .slice A1 n1 n1, .slice A4 n4 c4)) (by simp [results, Try.results38, go_sem, r0, r1, r2, r3, r4, AB]) rfl ⟨⟨A1, n1, n1, A4, n4, c4, rfl, ?_, ?_⟩, HBF⟩
  · exact (HR4.out.keep (fun p hp => hFk p hp.1)).weak fun b hb => ⟨by omega, by rw [hFs]; exact hb.2⟩
  · exact (HRP.out.keep (fun p hp => hFk p hp.1)).weak fun b hb => ⟨by omega, by rw [hFs]; exact hb.2⟩
end Go.Proofs.Ytbkhnfdfdgdfkaa
