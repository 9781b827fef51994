/-
  DERIVED. The walks of prop.dayAt and prop.DayOf at every number. Conditions: none.
  The walk of prop.CopyProps. Conditions: sizes.
  By an AI agent.
-/
import Derived.Test.YtbdcimakdiegnaaGreatDoorVa05
import Derived.Test.YtbdcimakdiegnaaGreatDoorVa14
import Derived.Test.YtbdcimakdiegnaaGreatDoorVa09
import Derived.Deep.RegionHeld3
namespace Go.Proofs.YtbdcimakdiegnaaGreatDoor
open Go.RowKit cal

theorem len_at (y : Int) (j : Nat) (hj : j < 12) : (lenL y).toArray[j]? = some (.int .i64 (ml y (j + 1))) := by
  have h : j = 0 ∨ j = 1 ∨ j = 2 ∨ j = 3 ∨ j = 4 ∨ j = 5 ∨ j = 6 ∨ j = 7 ∨ j = 8 ∨ j = 9 ∨ j = 10 ∨ j = 11 := by omega
  rcases h with rfl | rfl | rfl | rfl | rfl | rfl | rfl | rfl | rfl | rfl | rfl | rfl <;> rfl

theorem lit_at (y : Int) (j : Nat) (hj : j < 12) : ∀ h, ([.int .i64 31, .int .i64 (28 + lp y), .int .i64 31, .int .i64 30, .int .i64 31, .int .i64 30, .int .i64 31, .int .i64 31, .int .i64 30, .int .i64 31, .int .i64 30, .int .i64 31] : List Value)[j]'h = .int .i64 (ml y ((j : Int) + 1)) := by
  intro h
  have := len_at y j hj
  unfold lenL at this
  rw [List.getElem?_toArray, List.getElem?_eq_getElem h] at this
  exact Option.some.inj this

set_option maxHeartbeats 2000000 in
theorem dayAt_ok (y : Int) (j : Nat) (k : Int) (w : World) (hj : j < 12) (hy : 2001 ≤ y) (hy' : y ≤ 9999) (hk : 1 ≤ k) (hk' : k ≤ ml y ((j : Int) + 1)) :
    Calls Tryz.prog 43 #[.int .i64 y, .int .i64 ((j : Int) + 1), .int .i64 k] w fun e w' => e = .returned (.tuple #[.int .i64 (bef y + cum y ((j : Int) + 1) + k - 1), .bool true]) ∧ Below w.heap.size w w' := by
  have hlo := bef_lo hy
  have hhi : bef y ≤ 366 * 8000 := by unfold bef; omega
  have hl1 := ml_hi y ((j : Int) + 1)
  go_enter Tryz.func43, Tryz.ntmps43
  go_wp2_with fail
  refine (outside_no ((j : Int) + 1) 1 12 _ (by omega) (by omega)).mono ?_
  rintro e w1 ⟨rfl, rfl⟩
  go_wp2_with fail
  refine (lengths_any y _ hy (by omega)).mono ?_
  rintro e w1 ⟨rfl, hb1⟩
  rw [show (lenL y).toArray = #[.int .i64 31, .int .i64 (28 + lp y), .int .i64 31, .int .i64 30, .int .i64 31, .int .i64 30, .int .i64 31, .int .i64 31, .int .i64 30, .int .i64 31, .int .i64 30, .int .i64 31] from rfl]
  have hle := lit_at y j hj
  go_wp2_with fail
  refine (outside_no k 1 (ml y ((j : Int) + 1)) _ hk hk').mono ?_
  rintro e w2 ⟨rfl, hw2⟩
  rw [← hw2]
  clear hw2
  go_wp2_with fail
  refine (before_any y _ hy (by omega)).mono ?_
  rintro e w2 ⟨rfl, hw2⟩
  rw [← hw2]
  clear hw2
  go_wp2
  go_loop [9, 28] (fun n i => ∃ (a : Nat) (c : Int), a ≤ j ∧ i = .int .i64 a ∧ c = cum y ((a : Int) + 1) ∧ n = .int .i64 (bef y + k - 1 + c)) (fun _ i => j - (intOf i).toNat)
  case atStart => exact ⟨0, 0, by omega, rfl, rfl, by simp⟩
  case round =>
    obtain ⟨a, c, ha, rfl, hc, rfl⟩ := hrel
    have hb0 := cum_bd y (m := (a : Int) + 1) (by omega) (by omega)
    have hs0 := cum_succ y (m := (a : Int) + 1) (by omega) (by omega)
    have hl0 := ml_lo y ((a : Int) + 1)
    have hl3 := ml_hi y ((a : Int) + 1)
    have hbc : 0 ≤ c ∧ c ≤ 366 := by rw [hc]; exact hb0
    have HC := Lib.hid hc
    have HS := Lib.hid hs0
    obtain ⟨hbc0, hbc1⟩ := hbc
    clear hc hs0 hb0
    by_cases hlt : a < j
    · have ha12 : a < 12 := by omega
      have hla := lit_at y a ha12
      go_wp2
      go_round
      case rel => exact ⟨a + 1, c + ml y ((a : Int) + 1), by omega, by go_num, by have := HS.out; rw [← HC.out] at this; rw [← this]; congr 1, by go_num⟩
      case measure => simp [intOf]; omega
    · obtain rfl : a = j := by omega
      go_wp2
      go_ret2
      refine ⟨?_, hb1.trans ((Below.refl _ _).alloc (by exact hb1.size) _)⟩
      rw [← HC.out]
      congr 3
      simp
      omega

set_option maxHeartbeats 1000000 in
theorem dayAt_badm (y m k : Int) (w : World) (h : m < 1 ∨ 12 < m) :
    Calls Tryz.prog 43 #[.int .i64 y, .int .i64 m, .int .i64 k] w fun e w' => e = .returned (.tuple #[.int .i64 0, .bool false]) ∧ Below w.heap.size w w' := by
  go_enter Tryz.func43, Tryz.ntmps43
  go_wp2_with fail
  refine (outside_yes m 1 12 _ h).mono ?_
  rintro e w1 ⟨rfl, rfl⟩
  go_wp2_with fail
  go_ret2
  exact ⟨rfl, Below.refl _ _⟩
set_option maxHeartbeats 2000000 in
theorem dayAt_badk (y : Int) (j : Nat) (k : Int) (w : World) (hj : j < 12) (hy : 2001 ≤ y) (hy' : y ≤ 9999) (hk : k < 1 ∨ ml y ((j : Int) + 1) < k) :
    Calls Tryz.prog 43 #[.int .i64 y, .int .i64 ((j : Int) + 1), .int .i64 k] w fun e w' => e = .returned (.tuple #[.int .i64 0, .bool false]) ∧ Below w.heap.size w w' := by
  have HK := Lib.hid hk
  clear hk
  go_enter Tryz.func43, Tryz.ntmps43
  go_wp2_with fail
  refine (outside_no ((j : Int) + 1) 1 12 _ (by omega) (by omega)).mono ?_
  rintro e w1 ⟨rfl, rfl⟩
  go_wp2_with fail
  refine (lengths_any y _ hy (by omega)).mono ?_
  rintro e w1 ⟨rfl, hb1⟩
  rw [show (lenL y).toArray = #[.int .i64 31, .int .i64 (28 + lp y), .int .i64 31, .int .i64 30, .int .i64 31, .int .i64 30, .int .i64 31, .int .i64 31, .int .i64 30, .int .i64 31, .int .i64 30, .int .i64 31] from rfl]
  have hle := lit_at y j hj
  go_wp2_with fail
  refine (outside_yes k 1 (ml y ((j : Int) + 1)) _ HK.out).mono ?_
  rintro e w2 ⟨rfl, hw2⟩
  rw [← hw2]
  clear hw2
  go_wp2_with fail
  go_ret2
  exact ⟨rfl, hb1.trans ((Below.refl _ _).alloc (by exact hb1.size) _)⟩

set_option maxHeartbeats 1000000 in
theorem dayOf_all (y m k : Int) (w : World) :
    Calls Tryz.prog 15 #[.int .i64 y, .int .i64 m, .int .i64 k] w fun e w' => e = .returned (.tuple #[.int .i64 (doD y m k).1, .int .i64 (doD y m k).2]) ∧ Below w.heap.size w w' := by
  unfold doD
  by_cases hy : y < 2001 ∨ 9999 < y
  · rw [if_pos hy]
    have HY := Lib.hid hy
    clear hy
    go_enter Tryz.func15, Tryz.ntmps15
    go_wp2_with fail
    refine (outside_yes y 2001 9999 _ HY.out).mono ?_
    rintro e w1 ⟨rfl, rfl⟩
    go_wp2_with fail
    go_ret2
    exact ⟨rfl, Below.refl _ _⟩
  rw [if_neg hy]
  have y0 : 2001 ≤ y := by omega
  have y1 : y ≤ 9999 := by omega
  clear hy
  by_cases hm : m < 1 ∨ 12 < m
  · rw [if_pos hm]
    have HM := Lib.hid fun W => dayAt_badm y m k W hm
    clear hm
    go_enter Tryz.func15, Tryz.ntmps15
    go_wp2_with fail
    refine (outside_no y 2001 9999 _ y0 y1).mono ?_
    rintro e w1 ⟨rfl, rfl⟩
    go_wp2_with fail
    refine (HM.out _).mono ?_
    rintro e w1 ⟨rfl, hb⟩
    go_wp2_with fail
    go_ret2
    exact ⟨rfl, hb⟩
  rw [if_neg hm]
  obtain ⟨j, rfl⟩ : ∃ j : Nat, m = (j : Int) + 1 := ⟨(m - 1).toNat, by omega⟩
  have hj : j < 12 := by omega
  clear hm
  by_cases hk : k < 1 ∨ ml y ((j : Int) + 1) < k
  · rw [if_pos hk]
    have HM := Lib.hid fun W => dayAt_badk y j k W hj y0 y1 hk
    clear hk
    go_enter Tryz.func15, Tryz.ntmps15
    go_wp2_with fail
    refine (outside_no y 2001 9999 _ y0 y1).mono ?_
    rintro e w1 ⟨rfl, rfl⟩
    go_wp2_with fail
    refine (HM.out _).mono ?_
    rintro e w1 ⟨rfl, hb⟩
    go_wp2_with fail
    go_ret2
    exact ⟨rfl, hb⟩
  rw [if_neg hk]
  have k0 : 1 ≤ k := by omega
  have k1 : k ≤ ml y ((j : Int) + 1) := by omega
  have HM := Lib.hid fun W => dayAt_ok y j k W hj y0 y1 k0 k1
  have hlo := bef_lo y0
  have hc := (cum_bd y (m := (j : Int) + 1) (by omega) (by omega)).1
  have hd0 : 0 ≤ bef y + cum y ((j : Int) + 1) + k - 1 := by omega
  obtain ⟨d, hd⟩ : ∃ d, d = bef y + cum y ((j : Int) + 1) + k - 1 := ⟨_, rfl⟩
  rw [← hd] at HM hd0 ⊢
  clear hk hlo hc hd k0 k1
  by_cases hz : 100000 < d
  · rw [if_pos hz]
    go_enter Tryz.func15, Tryz.ntmps15
    go_wp2_with fail
    refine (outside_no y 2001 9999 _ y0 y1).mono ?_
    rintro e w1 ⟨rfl, rfl⟩
    go_wp2_with fail
    refine (HM.out _).mono ?_
    rintro e w1 ⟨rfl, hb⟩
    go_wp2_with fail
    refine (outside_yes d 0 100000 _ (.inr hz)).mono ?_
    rintro e w2 ⟨rfl, rfl⟩
    go_wp2_with fail
    go_ret2
    exact ⟨rfl, hb⟩
  · rw [if_neg hz]
    go_enter Tryz.func15, Tryz.ntmps15
    go_wp2_with fail
    refine (outside_no y 2001 9999 _ y0 y1).mono ?_
    rintro e w1 ⟨rfl, rfl⟩
    go_wp2_with fail
    refine (HM.out _).mono ?_
    rintro e w1 ⟨rfl, hb⟩
    go_wp2_with fail
    refine (outside_no d 0 100000 _ hd0 (by omega)).mono ?_
    rintro e w2 ⟨rfl, rfl⟩
    go_wp2_with fail
    go_ret2
    exact ⟨rfl, hb⟩
end Go.Proofs.YtbdcimakdiegnaaGreatDoor
namespace Go.Proofs.YtbdcimakdiegnaaGreatDoor
open Go.RowKit

set_option maxHeartbeats 400000 in
theorem clipP_any (A : Option Addr) (n c : Nat) (w : World) (hn : n ≤ c) (_h0 : A = none → n = 0 ∧ c = 0) :
    Calls Tryz.prog 59 #[.slice A n c] w fun e w' => e = .returned (.slice A n n) ∧ w' = w := by
  have i0 : (0 : Int) ≤ (n : Int) := by omega
  have i1 : (n : Int) ≤ (c : Int) := by omega
  go_enter Tryz.func59, Tryz.ntmps59
  go_wp2_with fail
  go_ret
  exact ⟨rfl, rfl⟩
def pZ : Value := .agg #[.string ⟨#[]⟩, .int .i64 0, .int .i64 0, .int .i64 0, .string ⟨#[]⟩, .slice none 0 0]
theorem prop_info : (Tryz.prog.info? 60).map (fun i => (i.zero, i.size, i.bytes)) = some (some pZ, 6, 80) := by kernel_rfl
theorem prV_one (x : Pr × Value) (hx : ∃ A n c, x.2 = .slice A n c) : ∀ u ∈ prV x, u.oneCell' = true := by
  intro u hu
  rcases List.mem_cons.1 hu with rfl | hu
  · rfl
  · exact vlV_one (x.1.val, x.2) hx u hu
/-- what copying properties leaves -/
def CopyPR (l : List Pr) (w : World) (e : Ending) (w' : World) : Prop := (∃ A n c, e = .returned (.slice A n c) ∧ RPrX w' (fun b => w.heap.size ≤ b ∧ b < w'.heap.size) (.slice A n c) l) ∧ Below w.heap.size w w'

set_option maxRecDepth 100000 in
set_option maxHeartbeats 8000000 in
theorem copyProps_walk (M : List (Pr × Value)) (A : Option Addr) (n c : Nat) (w : World) (B : Nat) (hB : B ≤ w.heap.size) (h1 : Reads w B 6 A n (M.flatMap prV)) (hn : n = M.length) (hbig : n * 80 ≤ 140737488351232)
    (hs1 : ∀ x ∈ M, ∃ A n c, x.2 = .slice A n c)
    (hcl : ∀ x ∈ M, ∀ W, Below w.heap.size w W → Calls Tryz.prog 19 #[AV (x.1.val, x.2)] W (CopyR x.1.val W)) :
    Calls Tryz.prog 30 #[.slice A n c] w (CopyPR (M.map Prod.fst) w) := by
  obtain ⟨i0, hi, hq0, hq1, hq2⟩ := info_parts prop_info
  have H1 := Lib.hid h1
  have HN := Lib.hid hn
  have HC := Lib.hid hcl
  have S1 := Lib.hid hs1
  clear h1 hn hcl hs1
  have HS : Hid (OwnX prV 6 60 NP w w.heap.size (.slice none 0 0) []) := OwnX.start _ _
  go_enter Tryz.func30, Tryz.ntmps30
  go_wp2_with fail
  go_loopg [3, 8] n (fun gg s3 s8 wr => ∃ (k : Nat) (v : Value) (L : List (Pr × Value)), k + gg = n ∧ v = s3 ∧ s8 = .int .i64 (k : Int) ∧ Hid (L.map Prod.fst = (M.map Prod.fst).take k) ∧ Hid (OwnX prV 6 60 NP wr w.heap.size v L) ∧ Hid (Below w.heap.size w wr))
  case atStart => exact ⟨0, _, [], by omega, rfl, rfl, rfl, HS, Below.refl _ _⟩
  case round =>
    obtain ⟨k, v, L, hkg, rfl, rfl, hL, hown, hbel⟩ := hrel
    obtain ⟨W1, rfl⟩ : ∃ W1, W1 = wr := ⟨_, rfl⟩
    have hzr : w.heap.size ≤ W1.heap.size := hbel.out.size
    have HLL : Hid (L.length = k) := by
      show _ = _
      have := congrArg List.length hL.out
      rw [List.length_map, List.length_take, List.length_map, ← HN.out] at this
      omega
    by_cases hk : k < n
    · obtain ⟨y, hy⟩ : ∃ y, M[k]? = some y := ⟨_, List.getElem?_eq_getElem (by have := HN.out; omega)⟩
      obtain ⟨b, off, rfl, hbb, hc⟩ := H1.out.plain_at (by omega) prV_len HN.out hy
      have HLK : Hid ((M.map Prod.fst).take (k + 1) = (M.map Prod.fst).take k ++ [y.1]) := by
        show _ = _
        obtain ⟨hkk, e⟩ := List.getElem?_eq_some_iff.1 hy
        rw [List.take_succ_eq_append_getElem (by rw [List.length_map]; exact hkk), List.getElem_map, e]
      have HX := HC.out y (List.mem_of_getElem? hy)
      obtain ⟨⟨nm, ⟨kx, ix, tx, sx, lx⟩⟩, vx⟩ := y
      obtain ⟨Ax, nx, cx, rfl⟩ := S1.out _ (List.mem_of_getElem? hy)
      have g0 : W1.cell? ⟨b, off + k * 6, none⟩ = some (.string nm) := (hbel.out.cell (p := ⟨b, off + k * 6, none⟩) (by show b < _; omega)).trans (hc 0 _ rfl)
      have g1 : W1.cell? ⟨b, off + k * 6 + 1, none⟩ = some (.int .i64 kx) := (hbel.out.cell (p := ⟨b, off + k * 6 + 1, none⟩) (by show b < _; omega)).trans (hc 1 _ rfl)
      have g2 : W1.cell? ⟨b, off + k * 6 + 2, none⟩ = some (.int .i64 ix) := (hbel.out.cell (p := ⟨b, off + k * 6 + 2, none⟩) (by show b < _; omega)).trans (hc 2 _ rfl)
      have g3 : W1.cell? ⟨b, off + k * 6 + 3, none⟩ = some (.int .i64 tx) := (hbel.out.cell (p := ⟨b, off + k * 6 + 3, none⟩) (by show b < _; omega)).trans (hc 3 _ rfl)
      have g4 : W1.cell? ⟨b, off + k * 6 + 4, none⟩ = some (.string sx) := (hbel.out.cell (p := ⟨b, off + k * 6 + 4, none⟩) (by show b < _; omega)).trans (hc 4 _ rfl)
      have g5 : W1.cell? ⟨b, off + k * 6 + 5, none⟩ = some (.slice Ax nx cx) := (hbel.out.cell (p := ⟨b, off + k * 6 + 5, none⟩) (by show b < _; omega)).trans (hc 5 _ rfl)
      have j0 : (0 : Int) ≤ (k : Int) := by omega
      have j1 : (k : Int) < (n : Int) := by omega
      obtain ⟨wa, hwa⟩ : ∃ wa, wa = W1.alloc (.cells #[.string nm, .int .i64 kx, .int .i64 ix, .int .i64 tx, .string sx, .slice Ax nx cx] 60) := ⟨_, rfl⟩
      have hal : Below W1.heap.size W1 wa := by rw [hwa]; exact (Below.refl _ _).alloc (Nat.le_refl _) _
      have hza : W1.heap.size < wa.heap.size := by rw [hwa]; simp
      have q0 : Blk wa W1.heap.size 60 #[.string nm, .int .i64 kx, .int .i64 ix, .int .i64 tx, .string sx, .slice Ax nx cx] := by rw [hwa]; exact Blk.new _ _ _
      have d0 : wa.cell? ⟨W1.heap.size, 0, none⟩ = some (.string nm) := q0.cell 0
      have d1 : wa.cell? ⟨W1.heap.size, 1, none⟩ = some (.int .i64 kx) := q0.cell 1
      have d2 : wa.cell? ⟨W1.heap.size, 2, none⟩ = some (.int .i64 ix) := q0.cell 2
      have d3 : wa.cell? ⟨W1.heap.size, 3, none⟩ = some (.int .i64 tx) := q0.cell 3
      have d4 : wa.cell? ⟨W1.heap.size, 4, none⟩ = some (.string sx) := q0.cell 4
      have d5 : wa.cell? ⟨W1.heap.size, 5, none⟩ = some (.slice Ax nx cx) := q0.cell 5
      have HBA : Hid (Below w.heap.size w wa) := hbel.out.trans (hal.mono hbel.out.size)
      have HX' : Hid (∀ W, Below wa.heap.size wa W → Calls _ _ #[AV (Vl.mk kx ix tx sx lx, Value.slice Ax nx cx)] W _) := fun W hW => HX W (HBA.out.trans (hW.mono HBA.out.size))
      dsimp only [AV, Vl.kind, Vl.int_, Vl.to_, Vl.text] at HX'
      have HOA := Lib.hid (hown.out.below NP_ok hal)
      have HWA := Lib.hid hwa
      have hkb : (L.length + 1) * 80 ≤ 140737488355328 := by have := HLL.out; omega
      have hkm : L.length + 1 ≤ maxLen := by have := HLL.out; unfold maxLen; omega
      have hvw : ∀ g, v.ownBlock = some g → g < W1.heap.size := fun g hg => (hown.out.blocks g hg).2
      clear hy hc HX hwa hal q0
      go_upto_region 5 with fail
      rw [← HWA.out]
      clear g0 g1 g2 g3 g4 g5
      go_region_held3 (fun w' => w'.cell? ⟨W1.heap.size, 0, none⟩ = some (.string nm) ∧ w'.cell? ⟨W1.heap.size, 1, none⟩ = some (.int .i64 kx) ∧ w'.cell? ⟨W1.heap.size, 2, none⟩ = some (.int .i64 ix) ∧ w'.cell? ⟨W1.heap.size, 3, none⟩ = some (.int .i64 tx) ∧ w'.cell? ⟨W1.heap.size, 4, none⟩ = some (.string sx) ∧ w'.cell? ⟨W1.heap.size, 5, none⟩ = some (.slice Ax nx cx))
          (first | exact ⟨d0, d1, d2, d3, d4, d5⟩ | exact ⟨e0, e1, e2, e3, e4, e5⟩ | exact ⟨f0, f1, f2, f3, f4, f5⟩ | go_keep)
          (first | (go_at_call 19; refine (HX'.out wa.drew (Below.refl _ _).drew).mono ?_; rintro e w2 ⟨⟨A', n', c', rfl, hrv⟩, hb⟩; have hb : Below wa.heap.size wa w2 := (Below.refl wa.heap.size wa).drew.trans hb; have e0 := (hb.cell (p := ⟨W1.heap.size, 0, none⟩) hza).trans d0; have e1 := (hb.cell (p := ⟨W1.heap.size, 1, none⟩) hza).trans d1; have e2 := (hb.cell (p := ⟨W1.heap.size, 2, none⟩) hza).trans d2; have e3 := (hb.cell (p := ⟨W1.heap.size, 3, none⟩) hza).trans d3; have e4 := (hb.cell (p := ⟨W1.heap.size, 4, none⟩) hza).trans d4; have e5 := (hb.cell (p := ⟨W1.heap.size, 5, none⟩) hza).trans d5; have HBB := Lib.hid hb; have HRV := Lib.hid hrv; have HO2 := Lib.hid (HOA.out.below NP_ok hb); clear hb hrv; dsimp only [AV, Vl.kind, Vl.int_, Vl.to_, Vl.text]) | (refine step_append_any _ (by rfl) _ _ _ (by rfl) w.heap.size 60 i0 pZ 6 80 Tryz.underlying33 hi hq0 hq1 hq2 rfl (by decide) v L.length _ (by rfl) (HO2.out.own.alloc _) (w2.heap.size + 1) (some ⟨w2.heap.size, 0, none⟩) 1 1 (prV (⟨nm, Vl.mk kx ix tx sx lx⟩, Value.slice A' n' c')) (by rfl) (Reads.blk (Blk.new _ _ _) rfl) (prV_one _ ⟨_, _, _, rfl⟩) hkm hkb (by have := HBA.out.size; have := HBB.out.size; simp; omega) ?_; intro v' w3 hown3 hg3 hat3; have hkp : ∀ i, w3.cell? ⟨W1.heap.size, i, none⟩ = w2.cell? ⟨W1.heap.size, i, none⟩ := fun i => (World.cell?_of_block (hg3.block W1.heap.size (by have := HBB.out.size; simp; omega) (fun e => by have := hvw _ e.symm; omega))).trans (World.cell?_alloc_lt _ _ _ (by show W1.heap.size < w2.heap.size; have := HBB.out.size; omega)); have f0 := (hkp 0).trans e0; have f1 := (hkp 1).trans e1; have f2 := (hkp 2).trans e2; have f3 := (hkp 3).trans e3; have f4 := (hkp 4).trans e4; have f5 := (hkp 5).trans e5; clear hkp))
      have HO3 : Hid (OwnX prV 6 60 NP w3 w.heap.size v' (L ++ [(⟨nm, Vl.mk kx ix tx sx lx⟩, Value.slice A' n' c')])) := (HO2.out.below NP_ok ((Below.refl _ _).alloc (Nat.le_refl _) (.cells #[.string nm, .int .i64 kx, .int .i64 ix, .int .i64 tx, .string sx, .slice A' n' c'] 60))).app NP_ok (S := fun b => wa.heap.size ≤ b ∧ b < w2.heap.size) (HRV.out.keep fun p hp => World.cell?_alloc_lt _ _ _ hp.2) (fun b hb => ⟨by omega, by simp; omega, fun e => by have := hvw b e; omega⟩) hown3 hg3 hat3
      have HB3 : Hid (Below w.heap.size w w3) := ((HBA.out.trans (HBB.out.mono HBA.out.size)).alloc (by have := HBA.out.size; have := HBB.out.size; omega) _).grown hg3 (by have := HBA.out.size; have := HBB.out.size; simp; omega) (fun g hg => (hown.out.blocks g hg).1)
      have HL3 : Hid ((L ++ [((⟨nm, Vl.mk kx ix tx sx lx⟩ : Pr), Value.slice A' n' c')]).map Prod.fst = (M.map Prod.fst).take (k + 1)) := by
        show _ = _
        rw [List.map_append, hL.out, HLK.out]; rfl
      clear hown3 hg3 hat3 e0 e1 e2 e3 e4 e5
      go_wp2_with fail
      go_roundg (n - (k + 1))
      case measure => omega
      case rel => exact ⟨k + 1, v', _, by omega, rfl, by go_num, HL3, HO3, HB3⟩
    · obtain rfl : n = k := by omega
      obtain ⟨Ar, cr, rfl, hcr, hrd⟩ := RdX.of_own hown.out.own
      have HL' : Hid (L.map Prod.fst = M.map Prod.fst) := hL.out.trans (by rw [List.take_of_length_le (by rw [List.length_map, ← HN.out]; exact Nat.le_refl _)])
      obtain rfl : L.length = n := HLL.out
      have hnone : Ar = none → L.length = 0 ∧ cr = 0 := fun e => by
        rcases hown.out.own.2 with ⟨h, h0⟩ | ⟨g, cap, cur, h, _⟩
        · injection h with _ _ h2
          omega
        · injection h with h; rw [e] at h; cases h
      have HCL := Lib.hid fun W => clipP_any Ar L.length cr W hcr hnone
      have HRX : Hid (RPrX W1 (fun b => w.heap.size ≤ b ∧ b < W1.heap.size) (.slice Ar L.length L.length) (M.map Prod.fst)) :=
        ⟨Ar, L.length, L.length, L, HL'.out, rfl, rfl, ⟨Nat.le_refl _, hbig⟩, hrd.weak fun b hb => ⟨hb.2.1, hb.2.2⟩, fun x hx => (hown.out.nest x hx).weak fun b hb => ⟨hb.1, hb.2.1⟩⟩
      clear hcr hrd hnone
      go_wp2_with fail
      refine (HCL.out _).mono ?_
      rintro e w4 ⟨rfl, rfl⟩
      go_wp2_with fail
      go_ret
      exact ⟨⟨Ar, L.length, L.length, rfl, HRX.out⟩, hbel.out⟩
/-- prop.CopyProps -/
theorem copyProps_any (A : Option Addr) (n c : Nat) (l : List Pr) (w : World) (B : Nat) (hB : B ≤ w.heap.size) (h : RPr w B (.slice A n c) l) :
    Calls Tryz.prog 30 #[.slice A n c] w (CopyPR l w) := by
  obtain ⟨A', n', c', M, rfl, e, h3, h4, h5, h6⟩ := h
  injection e with e1 e2 e3
  subst e1 e2 e3
  refine copyProps_walk M A n c w B hB h5 h3 h4.2 (fun z hz => (h6 z hz).slice) fun z hz W hW => ?_
  obtain ⟨d, hd⟩ := h6 z hz
  exact copyValue_any d (z.1.val, z.2) W B (Nat.le_trans hB hW.size) (hd.below (hW.mono hB))
end Go.Proofs.YtbdcimakdiegnaaGreatDoor
