/-
  DERIVED. The walk of the law TreeCarried. Conditions: sizes. By an AI agent.
-/
import Derived.Test.YtmkicfjcgbfaaaaGreatDoorCrTop
import Derived.Test.YtmkicfjcgbfaaaaGreatDoorCrRead
import Derived.Test.YtmkicfjcgbfaaaaGreatDoorTc35
import Derived.Test.YtmkicfjcgbfaaaaGreatDoorTc37
import Derived.Test.YtmkicfjcgbfaaaaGreatDoorTc34
import Derived.Test.YtmkicfjcgbfaaaaGreatDoorTc18
import Derived.Test.YtmkicfjcgbfaaaaGreatDoorTc26
namespace Go.Proofs.YtmkicfjcgbfaaaaGreatDoor
open Go.RowKit

set_option maxRecDepth 100000 in
set_option maxHeartbeats 4000000 in
theorem crLaw_bad (l : List Bl) (f : Int → Option Int) (hf : DepOk l f) (A : Option Addr) (n c : Nat) (id : Int) (hid : I64 id) (w : World) (h : RB w w.heap.size (.slice A n c) l) (hne : ciE l f id ≠ 0) :
    Calls Tryz.prog 3 #[.slice A n c, .int .i64 id] w fun e w' => e = .returned (.bool true) ∧ Below w.heap.size w w' := by
  have HAW := Lib.hid (awakeTree_any w)
  have HOT := Lib.hid fun W (hW : Below w.heap.size w W) => outlineText_bad l f hf A n c id hid W ((h.below hW).more hW.size) hne
  obtain ⟨er, her⟩ : ∃ er, er = ciE l f id := ⟨_, rfl⟩
  rw [← her] at HOT hne
  have h0' : (er != 0) = true := by simpa using hne
  clear her hne h
  go_enter Tryz.func3, Tryz.ntmps3
  go_wp2_with fail
  refine HAW.out.mono ?_
  rintro e w1 ⟨rfl, hb1⟩
  have HB1 := Lib.hid hb1
  clear hb1
  go_wp2_with fail
  refine (HOT.out w1 HB1.out).mono ?_
  rintro e w2 ⟨rfl, hb2⟩
  have HB2 : Hid (Below w.heap.size w w2) := HB1.out.trans (hb2.mono HB1.out.size)
  clear hb2
  go_wp2_with fail
  go_ret
  exact ⟨rfl, HB2.out⟩
set_option maxRecDepth 100000 in
set_option maxHeartbeats 8000000 in
theorem crLaw_good (l : List Bl) (f : Int → Option Int) (G : Good l f) (A : Option Addr) (n c : Nat) (id : Int) (hid : I64 id) (d : Nat) (hD : Dp l id d) (hc0 : ciE l f id = 0) (m : Int) (w : World) (h : RB w w.heap.size (.slice A n c) l) (hm : w.cell? ⟨0, 0, none⟩ = some (.int .i64 m)) (hz0 : 0 < w.heap.size) :
    Calls Tryz.prog 3 #[.slice A n c, .int .i64 id] w fun e w' => e = .returned (.bool true) ∧ Below w.heap.size w w' := by
  have HAW := Lib.hid (awakeTree_any w)
  have HOT := Lib.hid fun W (hW : Below w.heap.size w W) => outlineText_any l f G A n c id hid d hD hc0 W ((h.below hW).more hW.size)
  obtain ⟨ls0, hls0⟩ : ∃ ls0, ls0 = lnsO l f d id := ⟨_, rfl⟩
  have hread := lnsO_read G hD
  have hfirst := first_zero (lnsO_txt G hD)
  have hfew := lnsO_few G hD
  have hlines := lines_of G hD
  have hol : olS l f d (ord l (41 - d) id) = ls0.map fun x => olB x.1 x.2 := by
    rw [hls0]
    unfold olS
    rw [List.map_map]; rfl
  have htx := lnsO_txt G hD
  have hdep : ∀ x ∈ ls0, x.1 ≤ 40 := fun x hx => by
    rw [hls0] at hx
    obtain ⟨k, hk, rfl⟩ := List.mem_map.1 hx
    obtain ⟨j, h1, _⟩ := ord_mem G.kids _ hD hk
    have := G.low h1
    show dOf f k - (d + 1) ≤ 40
    rw [dOf_dp G h1]
    omega
  rw [← hls0] at hread hfirst hfew hlines htx
  obtain ⟨s, hs⟩ : ∃ s, s = catA (olS l f d (ord l (41 - d) id)) := ⟨_, rfl⟩
  rw [← hs] at HOT hread
  rw [hol] at hs
  have hsz : s.size ≤ 140737488351232 := by
    have h1 := catA_size (ls0.map fun x => olB x.1 x.2) 2200 fun y hy => by
      obtain ⟨x, hx, rfl⟩ := List.mem_map.1 hy
      rw [olB_size]
      have h1 := hdep x hx
      have h2 : x.2.size ≤ 2000 := by
        have := htx x hx
        unfold txErr at this
        split at this
        · omega
        · omega
      omega
    rw [List.length_map] at h1
    rw [hs]
    have : ls0.length * 2200 ≤ 2000 * 2200 := Nat.mul_le_mul_right _ hfew
    omega
  have HS := Lib.hid hs
  have HREAD := Lib.hid hread
  have HFIRST := Lib.hid hfirst
  have HFEW : Hid (ls0.length ≤ 2000) := hfew
  have HLINES := Lib.hid hlines
  have HDEP := Lib.hid hdep
  have HRO := Lib.hid fun W (hW : Below w.heap.size w W) => readOutline_any s m W hsz ((hW.cell (p := ⟨0, 0, none⟩) hz0).trans hm) (Nat.lt_of_lt_of_le hz0 hW.size)
  obtain ⟨E, hE⟩ : ∃ E, E = olE s := ⟨_, rfl⟩
  obtain ⟨OL, hOL⟩ : ∃ OL, OL = olL s := ⟨_, rfl⟩
  unfold OutlP at HRO
  rw [← hE, ← hOL] at HRO
  have hcase : (E = 4) ∨ (E = 0 ∧ OL = lnR ls0) := by
    by_cases hbig : 400000 < s.size
    · exact .inl (by rw [hE]; exact (olE_big hbig).1)
    · have h1 := olE_some (by omega) hread
      have h2 : firstE (List.map (fun x => (x.1, x.2.data.toList)) ls0) = 0 := hfirst
      have h3 : ¬ 2000 < (List.map (fun x : Nat × ByteArray => (x.1, x.2.data.toList)) ls0).length := by rw [List.length_map]; omega
      rw [h2, if_pos rfl, if_neg h3, if_pos rfl, if_neg h3] at h1
      exact .inr ⟨by rw [hE]; exact h1.1, by rw [hOL]; exact h1.2⟩
  clear hE hOL hs hread hfirst hfew hlines htx hdep hol hls0 h hm hsz G
  go_enter Tryz.func3, Tryz.ntmps3
  go_wp2_with fail
  refine HAW.out.mono ?_
  rintro e w1 ⟨rfl, hb1⟩
  have HB1 := Lib.hid hb1
  clear hb1
  go_wp2_with fail
  refine (HOT.out w1 HB1.out).mono ?_
  rintro e w2 ⟨rfl, hb2⟩
  have HB2 : Hid (Below w.heap.size w w2) := HB1.out.trans (hb2.mono HB1.out.size)
  clear hb2
  go_wp2_with fail
  refine (HRO.out w2 HB2.out).mono ?_
  rintro e w3 ⟨A3, c3, rfl, hrd, _, hcap, hb3⟩
  have HB3 : Hid (Below w.heap.size w w3) := HB2.out.trans (hb3.mono HB2.out.size)
  rcases hcase with rfl | ⟨rfl, hOL⟩
  · clear hrd hcap hb3
    go_wp2_with fail
    go_ret
    exact ⟨rfl, HB3.out⟩
  · subst hOL
    have hln : (lnR ls0).length = ls0.length := List.length_map ..
    rw [hln] at hrd hcap ⊢
    rw [flat_lines] at hrd
    obtain ⟨nl0, hnl0⟩ : ∃ nl0, nl0 = ls0.length := ⟨_, rfl⟩
    rw [← hnl0] at hrd hcap ⊢
    have hli : (lnI ls0).length = nl0 := by rw [hnl0]; exact List.length_map ..
    obtain ⟨f0, _, G0⟩ := empty_good
    have HRD := Lib.hid hrd
    have HNL := Lib.hid hnl0
    have HLI := Lib.hid hli
    have HG0 := Lib.hid G0
    clear hrd hnl0 hli hln hb3 G0
    go_wp2_with fail
    refine (empty_any w3).mono ?_
    rintro e w4 ⟨rfl, hw4⟩
    have hb4 : Below w3.heap.size w3 w4 := by rw [hw4]; exact (Below.refl _ _).alloc (Nat.le_refl _) _
    have HB4 : Hid (Below w.heap.size w w4) := HB3.out.trans (hb4.mono HB3.out.size)
    have HRB4 : Hid (RB w4 w4.heap.size (.slice (some ⟨w3.heap.size, 0, none⟩) 1 1) [zB]) := by
      have := empty_row w3
      rw [← hw4] at this
      exact this.more (by rw [hw4]; simp)
    have HRL4 : Hid (RLn w4 w4.heap.size (.slice A3 nl0 c3) (lnI ls0)) := ⟨A3, nl0, c3, rfl, HLI.out.symm, hcap, by have := HFEW.out; have := HNL.out; omega, (HRD.out.below hb4).more hb4.size, fun x hx => ⟨by
      unfold lnI at hx
      obtain ⟨y, hy, rfl⟩ := List.mem_map.1 hx
      have := HDEP.out y hy
      show I64 ((y.1 : Nat) : Int)
      unfold I64
      omega, HLINES.out.size x hx⟩⟩
    have HGR := Lib.hid (graft_any [zB] f0 HG0.out (some ⟨w3.heap.size, 0, none⟩) 1 1 0 0 (by unfold I64; omega) (lnI ls0) A3 nl0 c3 w4 HRB4.out HRL4.out 0 zB rfl rfl (Int.le_refl _) (by decide))
    obtain ⟨os, hos⟩ : ∃ os, os = crO (lnI ls0) (lnI ls0).length := ⟨_, rfl⟩
    have hgo : grO [zB] 0 0 (lnI ls0) = os := hos.symm
    unfold GrR at HGR
    rw [hgo] at HGR
    unfold ManyR at HGR
    have HOS := Lib.hid hos
    clear hb4 hw4 hos hgo
    go_wp2_with fail
    refine HGR.out.mono ?_
    rintro e w5 (⟨hno, _⟩ | ⟨_, er, ht, ⟨⟨A5, n5, c5, rfl, hc5⟩, hb5⟩⟩)
    · exact absurd HLINES.out.steps hno
    · have HB5 : Hid (Below w.heap.size w w5) := HB4.out.trans (hb5.mono HB4.out.size)
      have her := HLINES.out.err (by rw [← HOS.out]; exact ht)
      rcases her with rfl | rfl | rfl
      · have hro : ROs w5 w5.heap.size (.slice A5 n5 c5) os := by
          rcases hc5 with ⟨_, h⟩ | ⟨h, _⟩
          · exact h
          · exact absurd rfl h
        have hok : OkAll [zB] os := by
          rcases ht with ⟨h, _⟩ | ⟨h, _⟩
          · exact h
          · exact absurd rfl h
        obtain ⟨g, I⟩ := HLINES.out.ok _ (Nat.le_refl _) (by rw [← HOS.out]; exact hok)
        rw [← HOS.out] at I
        obtain ⟨f1, G1⟩ := hok.good HG0.out _ (Nat.le_refl _)
        rw [List.take_length] at G1
        have hback := crI_back I G1
        obtain ⟨L1, hL1⟩ : ∃ L1, L1 = applL [zB] os := ⟨_, rfl⟩
        rw [← hL1] at hback G1
        have HS2 : Hid (catA (olS L1 f1 0 (ord L1 (41 - 0) 0)) = s) := by
          show _ = _
          rw [show 41 - 0 = 41 from rfl, hback, HS.out]
        have HRO5 := Lib.hid hro
        have HOK := Lib.hid hok
        have HG1 := Lib.hid G1
        have HL1 := Lib.hid hL1
        clear hc5 ht hro hok I G1 hback hL1 hb5
        go_wp2_with fail
        refine (empty_any w5).mono ?_
        rintro e w6 ⟨rfl, hw6⟩
        have hb6 : Below w5.heap.size w5 w6 := by rw [hw6]; exact (Below.refl _ _).alloc (Nat.le_refl _) _
        have HB6 : Hid (Below w.heap.size w w6) := HB5.out.trans (hb6.mono HB5.out.size)
        have HRB6 : Hid (RB w6 w6.heap.size (.slice (some ⟨w5.heap.size, 0, none⟩) 1 1) [zB]) := by
          have := empty_row w5
          rw [← hw6] at this
          exact this.more (by rw [hw6]; simp)
        have HAL := Lib.hid (allTop_any [zB] f0 HG0.out (some ⟨w5.heap.size, 0, none⟩) 1 1 os A5 n5 c5 w6 w6.heap.size (Nat.le_refl _) HRB6.out ((HRO5.out.below hb6).more hb6.size))
        unfold AllR at HAL
        clear hb6 hw6
        go_wp2_with fail
        refine HAL.out.mono ?_
        rintro e w7 ⟨⟨k, er, hk, hb, _⟩ | ⟨_, g', cap, n7, M, rfl, hml, hmm, hrow, _⟩, hg⟩
        · exact absurd (bad_lt hb (k' := k + 1) (HOK.out.pre _)) (by omega)
        · have hb7 : Below w6.heap.size w6 w7 := (Below.refl _ _).grown hg (Nat.le_refl _) fun g hg => by cases hg
          have HB7 : Hid (Below w.heap.size w w7) := HB6.out.trans (hb7.mono HB6.out.size)
          have HR7 : Hid (RB w7 w7.heap.size (.slice (some ⟨g', 0, none⟩) n7 cap) L1) := by
            have := hrow.rb
            rw [hml, hmm, ← HL1.out] at this
            exact this
          have hc1 : ciE L1 f1 0 = 0 := by
            obtain ⟨r, hr, hr0, _⟩ := HG1.out.kids.root
            have h1 := posOf_of HG1.out.kids.rise hr
            rw [hr0] at h1
            unfold ciE
            rw [HG1.out.clean, if_neg (by decide), if_neg (by omega)]
          have HOT2 := Lib.hid (outlineText_any L1 f1 HG1.out (some ⟨g', 0, none⟩) n7 cap 0 (by unfold I64; omega) 0 .root hc1 w7 HR7.out)
          rw [HS2.out] at HOT2
          clear hml hmm hrow hg hb7 hc1
          go_wp2_with fail
          refine HOT2.out.mono ?_
          rintro e w8 ⟨rfl, hb8⟩
          have HB8 : Hid (Below w.heap.size w w8) := HB7.out.trans (hb8.mono HB7.out.size)
          clear hb8
          go_wp2_with fail
          go_ret
          exact ⟨rfl, HB8.out⟩
      · clear hc5 ht hb5
        go_wp2_with fail
        go_ret
        exact ⟨rfl, HB5.out⟩
      · clear hc5 ht hb5
        go_wp2_with fail
        go_ret
        exact ⟨rfl, HB5.out⟩
/-- the law, for every base and every number -/
theorem crLaw_any (l : List Bl) (f : Int → Option Int) (hf : DepOk l f) (A : Option Addr) (n c : Nat) (id : Int) (hid : I64 id) (m : Int) (w : World) (h : RB w w.heap.size (.slice A n c) l) (hm : w.cell? ⟨0, 0, none⟩ = some (.int .i64 m)) (hz0 : 0 < w.heap.size) :
    Calls Tryz.prog 3 #[.slice A n c, .int .i64 id] w fun e w' => e = .returned (.bool true) ∧ Below w.heap.size w w' := by
  by_cases hc : ciE l f id = 0
  · have h0 : baseE l f = 0 := by
      unfold ciE at hc
      by_cases h0 : baseE l f = 0
      · exact h0
      · rw [if_pos h0] at hc; exact absurd hc h0
    have G := good_of h0 hf
    have hp : 0 ≤ posOf l id := by
      unfold ciE at hc
      rw [if_neg (fun h => h h0)] at hc
      by_cases hp : posOf l id < 0
      · rw [if_pos hp] at hc; omega
      · omega
    obtain ⟨_, _, d, _, _, _, _, hD, _⟩ := G.blk_at hp
    exact crLaw_good l f G A n c id hid d hD hc m w h hm hz0
  · exact crLaw_bad l f hf A n c id hid w h hc
end Go.Proofs.YtmkicfjcgbfaaaaGreatDoor
