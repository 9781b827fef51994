/-
  DERIVED. The walks of day.reader's day and unit, of slices.Index at strings and strings.CutSuffix. Conditions: sizes. By an AI agent.
-/
import Derived.Test.YtbdcimakdiegnaaGreatDoorRuRead
import Derived.Test.YtbdcimakdiegnaaGreatDoorRuTxt
namespace Go.Proofs.YtbdcimakdiegnaaGreatDoor
open Go.RowKit
open cal

theorem dat_form {d : Int} (h : 0 ≤ d) (h' : d ≤ 100000) : dForm (datL d) = true ∧ rdDate (datL d) = (d, 0) := by
  obtain ⟨a0, a1, a2, a3, b0, b1, c0, c1, e, hd, hv⟩ := dat_ten h h'
  rw [e]
  refine ⟨?_, hv⟩
  unfold dForm
  simpa using hd
theorem readDate_dt {d : Int} (h : 0 ≤ d) (h' : d ≤ 100000) (w : World) :
    Calls Tryz.prog 80 #[.string (dtS d)] w fun e w' => e = .returned (.tuple #[.int .i64 d, .int .i64 0]) ∧ Below w.heap.size w w' := by
  have e : (dtS d).data.toList = datL d := rfl
  have := readDate_any (dtS d) w (by rw [e]; exact (dat_form h h').1)
  rw [e, (dat_form h h').2] at this
  exact this

set_option maxHeartbeats 1000000 in
theorem dayW_any (rb g : Nat) (d : Int) (h0 : 0 ≤ d) (h1 : d ≤ 100000) (r : List ByteArray) (w : World) (h : RW w rb g (dtS d :: r)) :
    Calls Tryz.prog 71 #[.pointer (some ⟨rb, 0, none⟩)] w fun e w' => e = .returned (.int .i64 d) ∧ RW w' rb g r ∧ w.grownBy w' (some rb) := by
  have HN := Lib.hid (next_any rb g (dtS d) r w h)
  have HP := Lib.hid fun W => readDate_dt h0 h1 W
  generalize dtS d = x at HN HP
  clear h h0 h1
  go_enter Tryz.func71, Tryz.ntmps71
  go_wp2_with fail
  refine HN.out.mono ?_
  rintro e w1 ⟨rfl, hr1, hg1⟩
  have HR1 := Lib.hid hr1
  have HG1 := Lib.hid hg1
  clear hr1 hg1 HN
  go_wp2_with fail
  refine (HP.out w1).mono ?_
  rintro e w2 ⟨rfl, hb2⟩
  have hr2 := HR1.out.below hb2
  have HG2 := Lib.hid (gr_below HG1.out hb2)
  obtain ⟨off, c, k1, k2, k3⟩ := hr2.rd
  have c1 : w2.cell? ⟨rb, 1, none⟩ = some (.bool false) := k1.cell 1
  have f1 : w2.frozen? ⟨rb, 1, none⟩ = false := k1.frozen 1
  have HF : Hid (RW (w2.setCell ⟨rb, 1, none⟩ (.bool false)) rb g r) := by
    refine ⟨⟨off, c, k1.set_ 1 _, k2, fun j y hy => ?_⟩, hr2.ne, by simpa [World.setCell] using hr2.lt, hr2.len⟩
    exact (World.cell?_of_block (a := ⟨g, off + j, none⟩) (Below.heap_setCell _ ⟨rb, _, none⟩ _ g hr2.ne)).trans (k3 j y hy)
  have HG : Hid (w.grownBy (w2.setCell ⟨rb, 1, none⟩ (.bool false)) (some rb)) := gr_set HG2.out 1 _
  clear hr2 k1 k2 k3 hb2 HP HR1 HG1 HG2
  go_wp2_with fail
  go_ret
  exact ⟨rfl, HF.out, HG.out⟩

set_option maxHeartbeats 1000000 in
/-- slices.Index at strings: the first m are others; the one behind them is it, if there is one -/
theorem indexS_any (ys : List ByteArray) (x : ByteArray) (b n m : Nat) (w : World) (hn : n = ys.length) (hn0 : n ≤ 100) (hc : ∀ (j : Nat) y, ys[j]? = some y → w.cell? ⟨b, j, none⟩ = some (.string y)) (hm : m ≤ n) (hne : ∀ j y, j < m → ys[j]? = some y → y ≠ x) (hq : m < n → ys[m]? = some x) :
    Calls Tryz.prog 78 #[.slice (some ⟨b, 0, none⟩) n n, .string x] w fun e w' => e = .returned (.int .i64 (if m < n then (m : Int) else -1)) ∧ w' = w := by
  have HN := Lib.hid hn
  have HC := Lib.hid hc
  have HNE := Lib.hid hne
  have HQ := Lib.hid hq
  obtain ⟨R, hR⟩ : ∃ R : Int, R = if m < n then (m : Int) else -1 := ⟨_, rfl⟩
  rw [← hR]
  have HR := Lib.hid hR
  clear hn hc hne hq hR
  go_enter Tryz.func78, Tryz.ntmps78
  go_wp2_with fail
  go_loopg [8] n (fun gg s8 wr => ∃ k : Nat, k + gg = n ∧ s8 = .int .i64 (k : Int) ∧ wr = w ∧ k ≤ m)
  case atStart => exact ⟨0, by omega, rfl, rfl, by omega⟩
  case round =>
    obtain ⟨k, hkg, rfl, rfl, hkm⟩ := hrel
    by_cases hk : k < n
    · obtain ⟨y, hy⟩ : ∃ y, ys[k]? = some y := ⟨_, List.getElem?_eq_getElem (by have := HN.out; omega)⟩
      have g0 := HC.out k y hy
      have j1 : (k : Int) < (n : Int) := by omega
      by_cases hkm2 : k = m
      · have e : y = x := by
          have := HQ.out (by omega)
          rw [← hkm2, hy] at this
          injection this
        have hr : R = (k : Int) := by rw [HR.out, if_pos (by omega), hkm2]
        subst e hr
        clear hy hkm hkm2 hm HR HN
        go_wp2_with fail
        go_ret
        exact ⟨rfl, rfl⟩
      · have e := HNE.out k y (by omega) hy
        have he : (x.toList == y.toList) = false := by
          rw [ba_eq, decide_eq_false_iff_not]
          intro q
          exact e (ByteArray.ext (Array.ext' q)).symm
        clear hy e
        go_wp2_with fail
        go_roundg (n - (k + 1))
        case measure => omega
        case rel => exact ⟨k + 1, by omega, by go_num, rfl, by omega⟩
    · have hr : R = -1 := by rw [HR.out, if_neg (by omega)]
      subst hr
      obtain rfl : n = k := by omega
      clear HR hkm hm HQ HNE HN
      go_wp2_with fail
      go_ret
      exact ⟨rfl, rfl⟩

theorem ext_end (x : ByteArray) (c : UInt8) : (x ++ ⟨#[c]⟩).extract x.size (x.size + 1) = ⟨#[c]⟩ := by
  apply ByteArray.ext
  apply Array.ext'
  rw [ext_toL]
  simp only [ByteArray.data_append, Array.toList_append]
  rw [show x.size = x.data.toList.length from Lib.size_eq x, List.drop_left]
  simp
theorem ext_front (x y : ByteArray) : (x ++ y).extract 0 x.size = x := by
  apply ByteArray.ext
  apply Array.ext'
  rw [ext_toL]
  simp only [ByteArray.data_append, Array.toList_append]
  rw [show x.size = x.data.toList.length from Lib.size_eq x]
  simp
set_option maxHeartbeats 1000000 in
theorem cutSuffix_s (x : ByteArray) (hx : x.size ≤ 1000) (w : World) :
    Calls Tryz.prog 102 #[.string (x ++ ⟨#[115]⟩), .string ⟨#[115]⟩] w fun e w' => e = .returned (.tuple #[.string x, .bool true]) ∧ w' = w := by
  have h1 := ext_end x 115
  have h2 := ext_front x ⟨#[115]⟩
  obtain ⟨S, hS⟩ : ∃ S, S = x ++ ⟨#[115]⟩ := ⟨_, rfl⟩
  obtain ⟨k, hk⟩ : ∃ k, k = x.size := ⟨_, rfl⟩
  have hz : S.size = k + 1 := by rw [hS, ByteArray.size_append, hk]; rfl
  rw [← hS, ← hk] at h1 h2
  rw [← hS]
  have hk1 : k ≤ 1000 := by omega
  have h3 : S.extract k S.size = ⟨#[115]⟩ := by rw [hz]; exact h1
  have iw : IntKind.i64.wrap ((S.size : Int) - 1) = (k : Int) := by rw [hz, IntWalk.i64_in _ (by omega)]; omega
  have j1 : (1 : Int) ≤ (S.size : Int) := by omega
  have j2 : (k : Int) ≤ (S.size : Int) := by omega
  have j3 : k ≤ S.size := by omega
  have e1 : ((⟨#[115]⟩ : ByteArray).toList == (⟨#[115]⟩ : ByteArray).toList) = true := by rw [ba_eq]; decide
  clear hS hk hz h1
  have H1 : Hid (∀ W, Calls Tryz.prog 103 #[.string S, .string ⟨#[115]⟩] W fun e w' => e = .returned (.bool true) ∧ w' = W) := fun W => by
    clear h2
    go_enter Tryz.func103, Tryz.ntmps103
    go_wp2_with fail
    go_ret
    exact ⟨rfl, rfl⟩
  have H2 : Hid (∀ W, Calls Tryz.prog 135 #[.string S, .string ⟨#[115]⟩] W fun e w' => e = .returned (.tuple #[.string x, .bool true]) ∧ w' = W) := fun W => by
    clear h3 e1
    go_enter Tryz.func135, Tryz.ntmps135
    go_wp2_with fail
    refine (H1.out _).mono ?_
    rintro e w1 ⟨rfl, rfl⟩
    go_wp2_with fail
    go_ret2
    exact ⟨rfl, rfl⟩
  clear H1 h2 h3 iw j1 j2 j3 e1
  go_enter Tryz.func102, Tryz.ntmps102
  go_wp2_with fail
  refine (H2.out _).mono ?_
  rintro e w1 ⟨rfl, rfl⟩
  go_wp2_with fail
  go_ret2
  exact ⟨rfl, rfl⟩

theorem unW_inj {i j : Int} (hi : 1 ≤ i ∧ i ≤ 4) (hj : 1 ≤ j ∧ j ≤ 4) (h : unW i = unW j) : i = j := by
  rcases unW_ways hi with rfl | rfl | rfl | rfl <;> rcases unW_ways hj with rfl | rfl | rfl | rfl <;> first | rfl | (exfalso; revert h; decide)
theorem wdW_inj {i j : Int} (hi : 0 ≤ i ∧ i ≤ 6) (hj : 0 ≤ j ∧ j ≤ 6) (h : wdW i = wdW j) : i = j := by
  rcases wdW_ways hi with rfl | rfl | rfl | rfl | rfl | rfl | rfl <;> rcases wdW_ways hj with rfl | rfl | rfl | rfl | rfl | rfl | rfl <;> first | rfl | (exfalso; revert h; decide)

set_option maxHeartbeats 2000000 in
theorem unitW_any (rb g : Nat) (u ev : Int) (hu : 1 ≤ u ∧ u ≤ 4) (r : List ByteArray) (w : World) (h : RW w rb g ((unW u ++ esW ev) :: r)) :
    Calls Tryz.prog 70 #[.pointer (some ⟨rb, 0, none⟩), .int .i64 ev] w fun e w' => e = .returned (.int .i64 u) ∧ RW w' rb g r ∧ w.grownBy w' (some rb) := by
  obtain ⟨m, hm⟩ : ∃ m : Nat, u = (m : Int) + 1 := ⟨(u - 1).toNat, by omega⟩
  have hm4 : m < 4 := by omega
  have HN := Lib.hid (next_any rb g _ r w h)
  have HCS : Hid (ev ≠ 1 → ∀ W, Calls Tryz.prog 102 #[.string (unW u ++ esW ev), .string ⟨#[115]⟩] W fun e w' => e = .returned (.tuple #[.string (unW u), .bool true]) ∧ w' = W) := fun hev W => by
    unfold esW
    rw [if_neg hev]
    exact cutSuffix_s (unW u) (by unfold unW; split; decide; split; decide; split <;> decide) W
  have HES : Hid (ev = 1 → unW u ++ esW ev = unW u) := fun hev => by
    unfold esW
    rw [if_pos hev]
    exact ba_nil _
  have HUW : Hid (∀ W, Calls Tryz.prog 35 #[] W fun e w' => ∃ g', e = .returned (.slice (some ⟨g', 0, none⟩) 4 4) ∧ Below W.heap.size W w' ∧ Calls Tryz.prog 78 #[.slice (some ⟨g', 0, none⟩) 4 4, .string (unW u)] w' fun e w2 => e = .returned (.int .i64 (m : Int)) ∧ w2 = w') := fun W => by
    refine (unitWords_any W).mono ?_
    rintro e w' ⟨rfl, h2, h3, h4⟩
    refine ⟨_, rfl, h4, ?_⟩
    have := indexS_any [unW 1, unW 2, unW 3, unW 4] (unW u) W.heap.size 4 m w' rfl (by omega) (fun j y hy => ?_) (by omega) (fun j y hj hy => ?_) (fun _ => ?_)
    · rw [if_pos hm4] at this
      exact this
    · have hj := (List.getElem?_eq_some_iff.1 hy).1
      simp only [List.length_cons, List.length_nil] at hj
      rw [h2 j (by omega)]
      rcases (show j = 0 ∨ j = 1 ∨ j = 2 ∨ j = 3 by omega) with rfl | rfl | rfl | rfl <;> (simp at hy; subst hy; rfl)
    · have hy2 : y = unW ((j : Int) + 1) := by
        rcases (show j = 0 ∨ j = 1 ∨ j = 2 ∨ j = 3 by omega) with rfl | rfl | rfl | rfl <;> (simp at hy; subst hy; rfl)
      rw [hy2]
      intro e
      have := unW_inj (by omega) hu e
      omega
    · rw [hm]
      rcases (show m = 0 ∨ m = 1 ∨ m = 2 ∨ m = 3 by omega) with rfl | rfl | rfl | rfl <;> rfl
  have iw : IntKind.i64.wrap ((m : Int) + 1) = u := by rw [IntWalk.i64_in _ (by omega)]; omega
  have j0 : ¬ (m : Int) < 0 := by omega
  generalize unW u ++ esW ev = S at HN HCS HES h
  generalize unW u = U at HCS HES HUW
  clear h hm hm4 hu
  by_cases hev : ev = 1
  · obtain rfl : S = U := HES.out hev
    subst hev
    clear HES HCS
    go_enter Tryz.func70, Tryz.ntmps70
    go_wp2_with fail
    refine HN.out.mono ?_
    rintro e w1 ⟨rfl, hr1, hg1⟩
    have HR1 := Lib.hid hr1
    have HG1 := Lib.hid hg1
    clear hr1 hg1 HN
    go_wp2_with fail
    refine (HUW.out w1).mono ?_
    rintro e w2 ⟨g', rfl, hb2, hix⟩
    have hr2 := HR1.out.below hb2
    have HG2 := Lib.hid (gr_below HG1.out hb2)
    have HIX := Lib.hid hix
    obtain ⟨off, c, k1, k2, k3⟩ := hr2.rd
    have c1 : w2.cell? ⟨rb, 1, none⟩ = some (.bool false) := k1.cell 1
    have f1 : w2.frozen? ⟨rb, 1, none⟩ = false := k1.frozen 1
    have HF : Hid (RW (w2.setCell ⟨rb, 1, none⟩ (.bool false)) rb g r) := by
      refine ⟨⟨off, c, k1.set_ 1 _, k2, fun j y hy => ?_⟩, hr2.ne, by simpa [World.setCell] using hr2.lt, hr2.len⟩
      exact (World.cell?_of_block (a := ⟨g, off + j, none⟩) (Below.heap_setCell _ ⟨rb, _, none⟩ _ g hr2.ne)).trans (k3 j y hy)
    have HG : Hid (w.grownBy (w2.setCell ⟨rb, 1, none⟩ (.bool false)) (some rb)) := gr_set HG2.out 1 _
    clear hr2 k1 k2 k3 hb2 HR1 HG1 HG2 hix HUW
    go_wp2_with fail
    refine HIX.out.mono ?_
    rintro e w3 ⟨rfl, rfl⟩
    go_wp2_with fail
    go_ret
    exact ⟨rfl, HF.out, HG.out⟩
  · have HCS := Lib.hid (HCS.out hev)
    have k0 : (ev != 1) = true := bne_iff_ne.2 hev
    clear HES hev
    go_enter Tryz.func70, Tryz.ntmps70
    go_wp2_with fail
    refine HN.out.mono ?_
    rintro e w1 ⟨rfl, hr1, hg1⟩
    obtain ⟨off0, c0, k01, k02, k03⟩ := hr1.rd
    have c01 : w1.cell? ⟨rb, 1, none⟩ = some (.bool false) := k01.cell 1
    have f01 : w1.frozen? ⟨rb, 1, none⟩ = false := k01.frozen 1
    have HR1 : Hid (RW (w1.setCell ⟨rb, 1, none⟩ (.bool false)) rb g r) := by
      refine ⟨⟨off0, c0, k01.set_ 1 _, k02, fun j y hy => ?_⟩, hr1.ne, by simpa [World.setCell] using hr1.lt, hr1.len⟩
      exact (World.cell?_of_block (a := ⟨g, off0 + j, none⟩) (Below.heap_setCell _ ⟨rb, _, none⟩ _ g hr1.ne)).trans (k03 j y hy)
    have HG1 : Hid (w.grownBy (w1.setCell ⟨rb, 1, none⟩ (.bool false)) (some rb)) := gr_set hg1 1 _
    clear hr1 hg1 HN k01 k02 k03
    go_wp2_with fail
    refine (HCS.out w1).mono ?_
    rintro e w1' ⟨rfl, rfl⟩
    go_wp2_with fail
    refine (HUW.out _).mono ?_
    rintro e w2 ⟨g', rfl, hb2, hix⟩
    have hr2 := HR1.out.below hb2
    have HG2 := Lib.hid (gr_below HG1.out hb2)
    have HIX := Lib.hid hix
    obtain ⟨off, c, k1, k2, k3⟩ := hr2.rd
    have c1 : w2.cell? ⟨rb, 1, none⟩ = some (.bool false) := k1.cell 1
    have f1 : w2.frozen? ⟨rb, 1, none⟩ = false := k1.frozen 1
    have HF : Hid (RW (w2.setCell ⟨rb, 1, none⟩ (.bool false)) rb g r) := by
      refine ⟨⟨off, c, k1.set_ 1 _, k2, fun j y hy => ?_⟩, hr2.ne, by simpa [World.setCell] using hr2.lt, hr2.len⟩
      exact (World.cell?_of_block (a := ⟨g, off + j, none⟩) (Below.heap_setCell _ ⟨rb, _, none⟩ _ g hr2.ne)).trans (k3 j y hy)
    have HG : Hid (w.grownBy (w2.setCell ⟨rb, 1, none⟩ (.bool false)) (some rb)) := gr_set HG2.out 1 _
    clear hr2 k1 k2 k3 hb2 HR1 HG1 HG2 hix HUW HCS
    go_wp2_with fail
    refine HIX.out.mono ?_
    rintro e w3 ⟨rfl, rfl⟩
    go_wp2_with fail
    go_ret
    exact ⟨rfl, HF.out, HG.out⟩
end Go.Proofs.YtbdcimakdiegnaaGreatDoor
