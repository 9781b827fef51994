/-
  DERIVED. The walk of the law ShowDiffs. Conditions: sizes. By an AI agent.
-/
import Derived.Test.YtmkicfjcgbfaaaaGreatSdDiff
import Derived.Test.YtmkicfjcgbfaaaaGreatTg45
import Derived.Test.YtmkicfjcgbfaaaaGreatTg36
import Derived.Test.YtmkicfjcgbfaaaaGreatTg21
import Derived.Test.YtmkicfjcgbfaaaaGreatTg22
namespace Go.Proofs.YtmkicfjcgbfaaaaGreat
open Go.RowKit

theorem sd_eqL_refl {α : Type} {f : α → α → Bool} (hf : ∀ x, f x x = true) (l : List α) : eqL f l l = true :=
  eqL_of rfl fun k x y h1 h2 => by
    rw [h1] at h2
    rw [← Option.some.inj h2]; exact hf x
theorem sdPs_refl (l : List Pr) : samePs l l = true := sd_eqL_refl (fun x => by unfold samePr; rw [beq_self_eq_true, sameV_refl]; rfl) l
theorem sdB_refl (x : Bl) : sameB x x = true := by unfold sameB; rw [beq_self_eq_true, beq_self_eq_true, beq_self_eq_true, beq_self_eq_true, sdPs_refl]; rfl
theorem sdBs_refl (l : List Bl) : sameBs l l = true := sd_eqL_refl sdB_refl l
set_option maxRecDepth 100000 in
set_option maxHeartbeats 4000000 in
/-- tree.All at a base without error -/
theorem sdAll_any (l : List Bl) (f : Int → Option Int) (G : Good l f) (A : Option Addr) (n c : Nat) (os : List Opn) (Ao : Option Addr) (no co : Nat) (w : World) (B : Nat) (hB : B ≤ w.heap.size) (h : RB w B (.slice A n c) l) (ho : ROs w B (.slice Ao no co) os) :
    Calls Tryz.prog 32 #[.slice A n c, .slice Ao no co] w (AllR l os none w) := by
  have HC := Lib.hid (treeCheck_any l f A n c w B hB h fun _ => G.dep)
  rw [G.clean] at HC
  have hn0 : 0 < n := by
    obtain ⟨r, hr, _⟩ := G.kids.root
    have := (List.getElem?_eq_some_iff.1 hr).1
    have := h.len.1
    omega
  have hn1 : n ≤ 100000 := by have := G.kids.short; have := h.len.1; omega
  have HCB := Lib.hid fun W (hW : Below w.heap.size w W) => copyBase_any l A n c W B (Nat.le_trans hB hW.size) (h.below (hW.mono hB)) hn0 hn1
  have HO := Lib.hid ho
  have HG := Lib.hid G
  clear h ho G hn0 hn1
  go_enter Tryz.func32, Tryz.ntmps32
  go_wp2_with fail
  refine HC.out.mono ?_
  rintro e w1 ⟨rfl, hb1⟩
  have HB1 := Lib.hid hb1
  clear hb1
  go_wp2_with fail
  refine (HCB.out w1 HB1.out).mono ?_
  rintro e w2 ⟨g, n2, M, rfl, hl2, hm2, hg2, hr2, hb2⟩
  have HB2 : Hid (Below w.heap.size w w2) := HB1.out.trans (hb2.mono HB1.out.size)
  have hz1 := HB1.out.size
  have hz2 := HB2.out.size
  have hgl : w.heap.size ≤ g := Nat.le_trans hz1 hg2
  have HA := Lib.hid (allIn_any w2 g n2 n2 M l f os hr2 hl2 hm2 HG.out Ao no co (((ROsX.of HO.out).keep fun p hp => HB2.out.cell (by have hp : p.block < B := hp; omega)).weak fun b hb => ⟨by have hb : b < B := hb; omega, by have hb : b < B := hb; omega⟩))
  clear hb2 hl2 hm2 hr2
  go_wp2_with fail
  refine HA.out.mono ?_
  rintro e w3 ⟨hcase, hg3⟩
  have HB3 : Hid (w.grownBy w3 none) := grown_below (below_own HB2.out hg3 hgl) _
  rcases hcase with ⟨k, er, h1, h2, rfl⟩ | ⟨h1, g', cap', n3, M3, rfl, h3, h4, h5, h6⟩
  · have H1 := Lib.hid h1
    have H2 := Lib.hid h2
    clear h1 h2 hg3
    go_wp2_with fail
    go_ret3
    exact ⟨.inl ⟨k, er, H1.out, H2.out, rfl⟩, HB3.out⟩
  · have H1 := Lib.hid h1
    have H3 := Lib.hid h3
    have H4 := Lib.hid h4
    have H5 := Lib.hid h5
    have H6 : Hid (some g' = (none : Option Nat) ∨ w.heap.size ≤ g') := .inr (by
      rcases h6 with e | e
      · obtain rfl := Option.some.inj e
        exact hgl
      · omega)
    clear h1 h3 h4 h5 h6 hg3
    go_wp2_with fail
    go_ret3
    exact ⟨.inr ⟨H1.out, g', cap', n3, M3, rfl, H3.out, H4.out, H5.out, H6.out⟩, HB3.out⟩
/-- what Diff gives is a way from one base to the other -/
def WayP (la lb : List Bl) (os : List Opn) : Prop := OkAll la os ∧ sameBs (applL la os) lb = true
theorem way_good {la lb : List Bl} {f1 f2 : Int → Option Int} (G1 : Good la f1) (G2 : Good lb f2) {r : Bl} (hr : la[0]? = some r) : WayP la lb (dfO la r lb) := by
  have hrm := List.mem_of_getElem? hr
  have hr0 : r.id = 0 := by
    obtain ⟨r', h, h0, _⟩ := G1.kids.root
    rw [hr] at h
    rw [Option.some.inj h]; exact h0
  obtain ⟨h1, h2⟩ := away_all G1 hrm hr0
  obtain ⟨f0, G0⟩ := h1.good G1 _ (Nat.le_refl _)
  rw [List.take_length, h2] at G0
  obtain ⟨h3, h4⟩ := grow_all G2 G0
  refine ⟨h1.app (by rw [h2]; exact h3), ?_⟩
  unfold dfO
  rw [applL_app, h2, h4]
  exact sdBs_refl lb
/-- Diff of two bases without error -/
theorem diff_way (la lb : List Bl) (f1 f2 : Int → Option Int) (G1 : Good la f1) (G2 : Good lb f2) (A1 A2 : Option Addr) (n1 c1 n2 c2 : Nat) (w : World) (h1 : RB w w.heap.size (.slice A1 n1 c1) la) (h2 : RB w w.heap.size (.slice A2 n2 c2) lb) :
    ∃ os, WayP la lb os ∧ Calls Tryz.prog 31 #[.slice A1 n1 c1, .slice A2 n2 c2] w (DiffR os w) := by
  cases hs : sameBs la lb with
  | true =>
    refine ⟨[], ⟨fun i o hi => by simp at hi, hs⟩, (diff_none la lb f1 f2 (fun _ => G1.dep) (fun _ => G2.dep) A1 A2 n1 c1 n2 c2 w h1 h2 0 (by rw [G1.clean, G2.clean]; rfl) (.inr hs)).mono ?_⟩
    rintro e w' ⟨rfl, hb⟩
    exact ⟨⟨none, 0, 0, rfl, none, 0, 0, [], rfl, rfl, rfl, ⟨Nat.le_refl _, by omega⟩, ⟨rfl, fun h => absurd h (by omega)⟩, fun x hx => by cases hx⟩, hb⟩
  | false =>
    obtain ⟨r, hr, _⟩ := G1.kids.root
    exact ⟨_, way_good G1 G2 hr, diff_good la lb f1 f2 G1 G2 r hr A1 A2 n1 c1 n2 c2 w h1 h2 hs⟩
set_option maxRecDepth 100000 in
set_option maxHeartbeats 4000000 in
theorem sdLaw_bad (la lb : List Bl) (f1 f2 : Int → Option Int) (hf1 : DepOk la f1) (hf2 : DepOk lb f2) (A1 A2 : Option Addr) (n1 c1 n2 c2 : Nat) (w : World) (h1 : RB w w.heap.size (.slice A1 n1 c1) la) (h2 : RB w w.heap.size (.slice A2 n2 c2) lb) (hne : baseE la f1 ≠ 0 ∨ baseE lb f2 ≠ 0) :
    Calls Tryz.prog 5 #[.slice A1 n1 c1, .slice A2 n2 c2] w fun e w' => e = .returned (.bool true) ∧ Below w.heap.size w w' := by
  obtain ⟨er, her⟩ : ∃ er, er = if baseE la f1 ≠ 0 then baseE la f1 else baseE lb f2 := ⟨_, rfl⟩
  have hn : er ≠ 0 := by
    rw [her]
    by_cases h : baseE la f1 ≠ 0
    · rw [if_pos h]; exact h
    · rw [if_neg h]; exact hne.resolve_left h
  have HD := Lib.hid (diff_none la lb f1 f2 hf1 hf2 A1 A2 n1 c1 n2 c2 w h1 h2 er her (.inl hn))
  have HB1 := Lib.hid fun W (hW : Below w.heap.size w W) => baseError_any la f1 A1 n1 c1 W w.heap.size hW.size (h1.below hW) hf1
  have HB2 := Lib.hid fun W (hW : Below w.heap.size w W) => baseError_any lb f2 A2 n2 c2 W w.heap.size hW.size (h2.below hW) hf2
  obtain ⟨e1, he1⟩ : ∃ e1, e1 = baseE la f1 := ⟨_, rfl⟩
  obtain ⟨e2, he2⟩ : ∃ e2, e2 = baseE lb f2 := ⟨_, rfl⟩
  rw [← he1] at HB1 her
  rw [← he2] at HB2 her
  have HER := Lib.hid her
  have hn' : (er != 0) = true := by simpa using hn
  clear he1 he2 h1 h2 her hf1 hf2 hne hn
  go_enter Tryz.func5, Tryz.ntmps5
  go_wp2_with fail
  refine HD.out.mono ?_
  rintro e w1 ⟨rfl, hb1⟩
  have HW1 := Lib.hid hb1
  clear hb1
  go_wp2_with fail
  refine (HB1.out w1 HW1.out).mono ?_
  rintro e w2 ⟨rfl, hb2⟩
  have HW2 : Hid (Below w.heap.size w w2) := HW1.out.trans (hb2.mono HW1.out.size)
  clear hb2
  by_cases h0 : e1 = 0
  · have h2 : er = e2 := by rw [HER.out, if_neg (by rw [h0]; decide)]
    subst h0
    subst h2
    go_wp2_with fail
    refine (HB2.out w2 HW2.out).mono ?_
    rintro e w3 ⟨rfl, hb3⟩
    have HW3 : Hid (Below w.heap.size w w3) := HW2.out.trans (hb3.mono HW2.out.size)
    clear hb3
    go_wp2_with fail
    go_ret
    exact ⟨rfl, HW3.out⟩
  · have h2 : er = e1 := by rw [HER.out, if_pos h0]
    have h0' : (e1 == 0) = false := by simpa using h0
    subst h2
    clear h0
    go_wp2_with fail
    go_ret
    exact ⟨rfl, HW2.out⟩
set_option maxRecDepth 100000 in
set_option maxHeartbeats 8000000 in
theorem sdLaw_good (la lb : List Bl) (f1 f2 : Int → Option Int) (G1 : Good la f1) (G2 : Good lb f2) (A1 A2 : Option Addr) (n1 c1 n2 c2 : Nat) (w : World) (h1 : RB w w.heap.size (.slice A1 n1 c1) la) (h2 : RB w w.heap.size (.slice A2 n2 c2) lb) :
    Calls Tryz.prog 5 #[.slice A1 n1 c1, .slice A2 n2 c2] w fun e w' => e = .returned (.bool true) ∧ Below w.heap.size w w' := by
  obtain ⟨os, ⟨hok, hsm⟩, hd⟩ := diff_way la lb f1 f2 G1 G2 A1 A2 n1 c1 n2 c2 w h1 h2
  unfold DiffR at hd
  have HD := Lib.hid hd
  have HOK := Lib.hid hok
  have HSM := Lib.hid hsm
  have HB1 := Lib.hid fun W (hW : Below w.heap.size w W) => baseError_any la f1 A1 n1 c1 W w.heap.size hW.size (h1.below hW) fun _ => G1.dep
  have HB2 := Lib.hid fun W (hW : Below w.heap.size w W) => baseError_any lb f2 A2 n2 c2 W w.heap.size hW.size (h2.below hW) fun _ => G2.dep
  rw [G1.clean] at HB1
  rw [G2.clean] at HB2
  have HR1 := Lib.hid h1
  have HR2 := Lib.hid h2
  have HG1 := Lib.hid G1
  clear hd hok hsm h1 h2 G1 G2
  go_enter Tryz.func5, Tryz.ntmps5
  go_wp2_with fail
  refine HD.out.mono ?_
  rintro e w1 ⟨⟨A, n, c, rfl, hro⟩, hb1⟩
  have HW1 := Lib.hid hb1
  have HRO := Lib.hid hro
  clear hb1 hro
  go_wp2_with fail
  refine (HB1.out w1 HW1.out).mono ?_
  rintro e w2 ⟨rfl, hb2⟩
  have HW2 : Hid (Below w.heap.size w w2) := HW1.out.trans (hb2.mono HW1.out.size)
  have HRO2 : Hid (ROs w2 w2.heap.size (.slice A n c) os) := (HRO.out.below hb2).more hb2.size
  clear hb2
  go_wp2_with fail
  refine (HB2.out w2 HW2.out).mono ?_
  rintro e w3 ⟨rfl, hb3⟩
  have HW3 : Hid (Below w.heap.size w w3) := HW2.out.trans (hb3.mono HW2.out.size)
  have HRO3 : Hid (ROs w3 w3.heap.size (.slice A n c) os) := (HRO2.out.below hb3).more hb3.size
  have HAL := Lib.hid (sdAll_any la f1 HG1.out A1 n1 c1 os A n c w3 w3.heap.size (Nat.le_refl _) ((HR1.out.below HW3.out).more HW3.out.size) HRO3.out)
  unfold AllR at HAL
  clear hb3
  go_wp2_with fail
  refine HAL.out.mono ?_
  rintro e w4 ⟨⟨k, er, hk, hb, _⟩ | ⟨_, g, cap, m, M, rfl, hml, hmm, hrow, _⟩, hg⟩
  · exact absurd (bad_lt hb (k' := k + 1) (HOK.out.pre _)) (by omega)
  · have hb4 : Below w3.heap.size w3 w4 := (Below.refl _ _).grown hg (Nat.le_refl _) fun g hg => by cases hg
    have HW4 : Hid (Below w.heap.size w w4) := HW3.out.trans (hb4.mono HW3.out.size)
    have HRO4 : Hid (ROs w4 w4.heap.size (.slice A n c) os) := (HRO3.out.below hb4).more hb4.size
    have HRC : Hid (RB w4 w4.heap.size (.slice (some ⟨g, 0, none⟩) m cap) (applL la os)) := by
      have := hrow.rb
      rw [hml, hmm] at this
      exact this
    have HAO := Lib.hid (allOf_any la f1 HG1.out A1 n1 c1 os A n c w4 ((HR1.out.below HW4.out).more HW4.out.size) HRO4.out)
    unfold AllOfR at HAO
    clear hb4 hml hmm hrow hg
    go_wp2_with fail
    refine HAO.out.mono ?_
    rintro e w5 ⟨⟨A5, n5, c5, k5, er5, rfl, htry, hrb⟩, hb5⟩
    obtain rfl : er5 = 0 := htry.uniq (.inl ⟨HOK.out, rfl⟩)
    have HW5 : Hid (Below w.heap.size w w5) := HW4.out.trans (hb5.mono HW4.out.size)
    have HS1 := Lib.hid (sameBase_any (applL la os) lb (some ⟨g, 0, none⟩) A2 m cap n2 c2 w5 w5.heap.size (Nat.le_refl _) ((HRC.out.below hb5).more hb5.size) ((HR2.out.below HW5.out).more HW5.out.size))
    have HS2 := Lib.hid fun W (hW : Below w5.heap.size w5 W) => sameBase_any (applL la os) lb A5 A2 n5 c5 n2 c2 W w5.heap.size hW.size ((hrb rfl).below hW) (((HR2.out.below HW5.out).more HW5.out.size).below hW)
    rw [HSM.out] at HS1 HS2
    clear htry hrb hb5
    go_wp2_with fail
    refine HS1.out.mono ?_
    rintro e w6 ⟨rfl, hb6⟩
    have HB6 := Lib.hid hb6
    clear hb6
    go_wp2_with fail
    refine (HS2.out w6 HB6.out).mono ?_
    rintro e w7 ⟨rfl, hb7⟩
    have HW7 : Hid (Below w.heap.size w w7) := HW5.out.trans ((HB6.out.trans (hb7.mono HB6.out.size)).mono HW5.out.size)
    clear hb7
    go_wp2_with fail
    go_ret
    exact ⟨rfl, HW7.out⟩
/-- the law, for all bases -/
theorem sdLaw_any (la lb : List Bl) (f1 f2 : Int → Option Int) (hf1 : DepOk la f1) (hf2 : DepOk lb f2) (A1 A2 : Option Addr) (n1 c1 n2 c2 : Nat) (w : World) (h1 : RB w w.heap.size (.slice A1 n1 c1) la) (h2 : RB w w.heap.size (.slice A2 n2 c2) lb) :
    Calls Tryz.prog 5 #[.slice A1 n1 c1, .slice A2 n2 c2] w fun e w' => e = .returned (.bool true) ∧ Below w.heap.size w w' := by
  by_cases e1 : baseE la f1 = 0
  · by_cases e2 : baseE lb f2 = 0
    · exact sdLaw_good la lb f1 f2 (good_of e1 hf1) (good_of e2 hf2) A1 A2 n1 c1 n2 c2 w h1 h2
    · exact sdLaw_bad la lb f1 f2 hf1 hf2 A1 A2 n1 c1 n2 c2 w h1 h2 (.inr e2)
  · exact sdLaw_bad la lb f1 f2 hf1 hf2 A1 A2 n1 c1 n2 c2 w h1 h2 (.inl e1)
end Go.Proofs.YtmkicfjcgbfaaaaGreat
