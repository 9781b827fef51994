/-
  DERIVED. The walks of tree.Depth, Path, Below, PageOf, Pages, Order, NextId, Empty and the reference's NextOf. Conditions: sizes. By an AI agent.
-/
import Derived.Test.YtbkhnfdfdgdfkaaBsTop
namespace Go.Proofs.Ytbkhnfdfdgdfkaa
open Go.RowKit

/-- the error of a base, and of a block that must be there -/
def ciE (l : List Bl) (f : Int → Option Int) (id : Int) : Int := if baseE l f ≠ 0 then baseE l f else if posOf l id < 0 then 7 else 0
def cinE (l : List Bl) (f : Int → Option Int) (id : Int) : Int := if ciE l f id ≠ 0 then ciE l f id else if id ≠ 0 then 0 else 7
def dOf (f : Int → Option Int) (id : Int) : Nat := ((f id).getD 0).toNat
section
variable {l : List Bl} {f : Int → Option Int} {id : Int}
theorem Good.low' (G : Good l f) : ∀ id d, Dp l id d → d ≤ 40 := fun _ _ h => G.low h
theorem Good.at_ (G : Good l f) (h : 0 ≤ posOf l id) : Dp l id (dOf f id) ∧ dOf f id ≤ 40 := by
  obtain ⟨_, b, h2, h3⟩ := posOf_lt h
  obtain ⟨d, h4, h5, h6⟩ := G.dp (List.mem_of_getElem? h2)
  rw [h3] at h4 h5
  have : dOf f id = d := by unfold dOf; rw [h4]; rfl
  rw [this]; exact ⟨h5, h6⟩
theorem ciE_zero (h : ciE l f id = 0) (hf : DepOk l f) : Good l f ∧ 0 ≤ posOf l id := by
  unfold ciE at h
  by_cases h1 : baseE l f = 0
  · rw [if_neg (fun e => e h1)] at h
    by_cases h2 : posOf l id < 0
    · rw [if_pos h2] at h; omega
    · exact ⟨good_of h1 hf, by omega⟩
  · rw [if_pos h1] at h; exact absurd h h1
end

set_option maxHeartbeats 1000000 in
theorem checkId_any (l : List Bl) (f : Int → Option Int) (A : Option Addr) (n c : Nat) (id : Int) (hid : I64 id) (w : World) (B : Nat) (hB : B ≤ w.heap.size) (h : RB w B (.slice A n c) l) (hf : DepOk l f) :
    Calls Try.prog 41 #[.slice A n c, .int .i64 id] w fun e w' => e = .returned (.int .i64 (ciE l f id)) ∧ Below w.heap.size w w' := by
  have HC := treeCheck_any l f A n c w B hB h hf
  obtain ⟨V, hV⟩ : ∃ V, V = ciE l f id := ⟨_, rfl⟩
  rw [← hV]
  unfold ciE at hV
  have HI : Hid (baseE l f = 0 → ∀ W, Below w.heap.size w W → Calls Try.prog 52 #[.slice A n c, .int .i64 id] W fun e w' => e = .returned (.int .i64 (posOf l id)) ∧ Below W.heap.size W w') := fun h0 W hW => by
    have G := good_of h0 hf
    exact index_any l A n c id W B (Nat.le_trans hB hW.size) (h.below (hW.mono hB)) G.kids.rise G.kids.ids hid
  obtain ⟨E, hE⟩ : ∃ E, E = baseE l f := ⟨_, rfl⟩
  rw [← hE] at HC hV HI
  have HC := Lib.hid HC
  clear h hf hE
  by_cases h0 : E = 0
  · have HI' := Lib.hid (HI.out h0)
    rw [if_neg (fun e => e h0)] at hV
    subst h0
    by_cases hp : posOf l id < 0
    · rw [if_pos hp] at hV
      subst hV
      go_enter Try.func41, Try.ntmps41
      go_wp2_with fail
      refine HC.out.mono ?_
      rintro e w1 ⟨rfl, hb1⟩
      have HB1 := Lib.hid hb1
      have HX := Lib.hid (HI'.out w1 hb1)
      clear hb1
      go_wp2_with fail
      refine HX.out.mono ?_
      rintro e w2 ⟨rfl, hb2⟩
      have HB2 : Hid (Below w.heap.size w w2) := HB1.out.trans (hb2.mono HB1.out.size)
      clear hb2
      go_wp2_with fail
      go_ret
      exact ⟨rfl, HB2.out⟩
    · rw [if_neg hp] at hV
      subst hV
      go_enter Try.func41, Try.ntmps41
      go_wp2_with fail
      refine HC.out.mono ?_
      rintro e w1 ⟨rfl, hb1⟩
      have HB1 := Lib.hid hb1
      have HX := Lib.hid (HI'.out w1 hb1)
      clear hb1
      go_wp2_with fail
      refine HX.out.mono ?_
      rintro e w2 ⟨rfl, hb2⟩
      have HB2 : Hid (Below w.heap.size w w2) := HB1.out.trans (hb2.mono HB1.out.size)
      clear hb2
      go_wp2_with fail
      go_ret
      exact ⟨rfl, HB2.out⟩
  · rw [if_pos h0] at hV
    have h0' : (E != 0) = true := by simpa using h0
    subst hV
    clear HI h0
    go_enter Try.func41, Try.ntmps41
    go_wp2_with fail
    refine HC.out.mono ?_
    rintro e w1 ⟨rfl, hb1⟩
    have HB1 := Lib.hid hb1
    clear hb1
    go_wp2_with fail
    go_ret
    exact ⟨rfl, HB1.out⟩
set_option maxHeartbeats 1000000 in
theorem checkInner_any (l : List Bl) (f : Int → Option Int) (A : Option Addr) (n c : Nat) (id : Int) (hid : I64 id) (w : World) (B : Nat) (hB : B ≤ w.heap.size) (h : RB w B (.slice A n c) l) (hf : DepOk l f) :
    Calls Try.prog 45 #[.slice A n c, .int .i64 id] w fun e w' => e = .returned (.int .i64 (cinE l f id)) ∧ Below w.heap.size w w' := by
  have HC := checkId_any l f A n c id hid w B hB h hf
  obtain ⟨V, hV⟩ : ∃ V, V = cinE l f id := ⟨_, rfl⟩
  rw [← hV]
  unfold cinE at hV
  obtain ⟨E, hE⟩ : ∃ E, E = ciE l f id := ⟨_, rfl⟩
  rw [← hE] at HC hV
  have HC := Lib.hid HC
  clear h hf hE
  by_cases h0 : E = 0
  · rw [if_neg (fun e => e h0)] at hV
    subst h0
    by_cases hp : id = 0
    · rw [if_neg (fun e => e hp)] at hV
      subst hV
      have hp' : (id != 0) = false := by simpa using hp
      clear hp
      go_enter Try.func45, Try.ntmps45
      go_wp2_with fail
      refine HC.out.mono ?_
      rintro e w1 ⟨rfl, hb1⟩
      have HB1 := Lib.hid hb1
      clear hb1
      go_wp2_with fail
      go_ret
      exact ⟨rfl, HB1.out⟩
    · rw [if_pos hp] at hV
      subst hV
      have hp' : (id != 0) = true := by simpa using hp
      clear hp
      go_enter Try.func45, Try.ntmps45
      go_wp2_with fail
      refine HC.out.mono ?_
      rintro e w1 ⟨rfl, hb1⟩
      have HB1 := Lib.hid hb1
      clear hb1
      go_wp2_with fail
      go_ret
      exact ⟨rfl, HB1.out⟩
  · rw [if_pos h0] at hV
    have h0' : (E != 0) = true := by simpa using h0
    subst hV
    clear h0
    go_enter Try.func45, Try.ntmps45
    go_wp2_with fail
    refine HC.out.mono ?_
    rintro e w1 ⟨rfl, hb1⟩
    have HB1 := Lib.hid hb1
    clear hb1
    go_wp2_with fail
    go_ret
    exact ⟨rfl, HB1.out⟩

def depV (l : List Bl) (f : Int → Option Int) (id : Int) : Int := if ciE l f id = 0 then (dOf f id : Int) else 0
def pathL (l : List Bl) (f : Int → Option Int) (id : Int) : List Int := if ciE l f id = 0 then pth l (dOf f id) id else []
def belL (l : List Bl) (f : Int → Option Int) (id : Int) : List Int := if ciE l f id = 0 then ord l (41 - dOf f id) id else []
def pageV (l : List Bl) (f : Int → Option Int) (id : Int) : Int := if cinE l f id = 0 then ((pth l (dOf f id) id)[0]?).getD 0 else 0
set_option maxHeartbeats 1000000 in
theorem depth_any (l : List Bl) (f : Int → Option Int) (A : Option Addr) (n c : Nat) (id : Int) (hid : I64 id) (w : World) (B : Nat) (hB : B ≤ w.heap.size) (h : RB w B (.slice A n c) l) (hf : DepOk l f) :
    Calls Try.prog 13 #[.slice A n c, .int .i64 id] w fun e w' => e = .returned (.tuple #[.int .i64 (depV l f id), .int .i64 (ciE l f id)]) ∧ Below w.heap.size w w' := by
  have HC := checkId_any l f A n c id hid w B hB h hf
  have HP : Hid (ciE l f id = 0 → ∀ W, Below w.heap.size w W → Calls _ _ _ W _) := fun h0 W hW => by
    obtain ⟨G, hp⟩ := ciE_zero h0 hf
    obtain ⟨h1, h2⟩ := G.at_ hp
    exact path_any l G.kids A n c id (dOf f id) h1 h2 W B (Nat.le_trans hB hW.size) (h.below (hW.mono hB))
  obtain ⟨V, hV⟩ : ∃ V, V = depV l f id := ⟨_, rfl⟩
  rw [← hV]
  unfold depV at hV
  obtain ⟨E, hE⟩ : ∃ E, E = ciE l f id := ⟨_, rfl⟩
  rw [← hE] at HC hV HP ⊢
  have HC := Lib.hid HC
  clear h hf hE
  by_cases h0 : E = 0
  · rw [if_pos h0] at hV
    have HP' := Lib.hid (HP.out h0)
    have HLEN := Lib.hid (pth_len (l := l) (dOf f id) id)
    subst h0
    have HV := Lib.hid hV
    clear hV
    go_enter Try.func13, Try.ntmps13
    go_wp2_with fail
    refine HC.out.mono ?_
    rintro e w1 ⟨rfl, hb1⟩
    have HB1 := Lib.hid hb1
    have HX := Lib.hid (HP'.out w1 hb1)
    clear hb1
    go_wp2_with fail
    refine HX.out.mono ?_
    rintro e w2 ⟨⟨A', n', rfl, hr⟩, hb2⟩
    have HB2 : Hid (Below w.heap.size w w2) := HB1.out.trans (hb2.mono HB1.out.size)
    have hn : n' = dOf f id := by
      obtain ⟨_, _, _, e, e2, _⟩ := hr
      injection e with _ e1
      rw [e1, e2]; exact HLEN.out
    have HVN : Hid (V = (n' : Int)) := by show _ = _; rw [hn]; exact HV.out
    clear hb2 hr hn
    go_wp2_with fail
    go_ret2
    exact ⟨by rw [HVN.out]; rfl, HB2.out⟩
  · rw [if_neg h0] at hV
    have h0' : (E != 0) = true := by simpa using h0
    subst hV
    clear HP h0
    go_enter Try.func13, Try.ntmps13
    go_wp2_with fail
    refine HC.out.mono ?_
    rintro e w1 ⟨rfl, hb1⟩
    have HB1 := Lib.hid hb1
    clear hb1
    go_wp2_with fail
    go_ret2
    exact ⟨rfl, HB1.out⟩
/-- ints and an error -/
def IntsE (L : List Int) (E : Int) (w : World) (e : Ending) (w' : World) : Prop := (∃ A n c, e = .returned (.tuple #[.slice A n c, .int .i64 E]) ∧ RInX w' (fun b => w.heap.size ≤ b ∧ b < w'.heap.size) (.slice A n c) L) ∧ Below w.heap.size w w'
set_option maxHeartbeats 1000000 in
theorem treePath_any (l : List Bl) (f : Int → Option Int) (A : Option Addr) (n c : Nat) (id : Int) (hid : I64 id) (w : World) (B : Nat) (hB : B ≤ w.heap.size) (h : RB w B (.slice A n c) l) (hf : DepOk l f) :
    Calls Try.prog 14 #[.slice A n c, .int .i64 id] w (IntsE (pathL l f id) (ciE l f id) w) := by
  have HC := checkId_any l f A n c id hid w B hB h hf
  have HP : Hid (ciE l f id = 0 → ∀ W, Below w.heap.size w W → Calls _ _ _ W _) := fun h0 W hW => by
    obtain ⟨G, hp⟩ := ciE_zero h0 hf
    obtain ⟨h1, h2⟩ := G.at_ hp
    exact path_any l G.kids A n c id (dOf f id) h1 h2 W B (Nat.le_trans hB hW.size) (h.below (hW.mono hB))
  obtain ⟨V, hV⟩ : ∃ V, V = pathL l f id := ⟨_, rfl⟩
  rw [← hV]
  unfold pathL at hV
  obtain ⟨E, hE⟩ : ∃ E, E = ciE l f id := ⟨_, rfl⟩
  rw [← hE] at HC hV HP ⊢
  have HC := Lib.hid HC
  clear h hf hE
  by_cases h0 : E = 0
  · rw [if_pos h0] at hV
    have HP' := Lib.hid (HP.out h0)
    subst h0
    have HV := Lib.hid hV
    clear hV
    go_enter Try.func14, Try.ntmps14
    go_wp2_with fail
    refine HC.out.mono ?_
    rintro e w1 ⟨rfl, hb1⟩
    have HB1 := Lib.hid hb1
    have HX := Lib.hid (HP'.out w1 hb1)
    have hz1 := hb1.size
    clear hb1
    go_wp2_with fail
    refine HX.out.mono ?_
    rintro e w2 ⟨⟨A', n', rfl, hr⟩, hb2⟩
    rw [← HV.out] at hr
    have HB2 : Hid (Below w.heap.size w w2) := HB1.out.trans (hb2.mono hz1)
    have HR := Lib.hid (hr.weak (S' := fun b => w.heap.size ≤ b ∧ b < w2.heap.size) fun b hb => ⟨by omega, hb.2⟩)
    clear hb2 hr
    go_wp2_with fail
    go_ret2
    exact ⟨⟨_, _, _, rfl, HR.out⟩, HB2.out⟩
  · rw [if_neg h0] at hV
    have h0' : (E != 0) = true := by simpa using h0
    have HV := Lib.hid hV
    clear HP h0 hV
    go_enter Try.func14, Try.ntmps14
    go_wp2_with fail
    refine HC.out.mono ?_
    rintro e w1 ⟨rfl, hb1⟩
    have HB1 := Lib.hid hb1
    clear hb1
    go_wp2_with fail
    go_ret2
    exact ⟨⟨_, _, _, rfl, by rw [HV.out]; exact RInX.nil _ _⟩, HB1.out⟩
set_option maxHeartbeats 1000000 in
theorem treeBel_any (l : List Bl) (f : Int → Option Int) (A : Option Addr) (n c : Nat) (id : Int) (hid : I64 id) (w : World) (B : Nat) (hB : B ≤ w.heap.size) (h : RB w B (.slice A n c) l) (hf : DepOk l f) :
    Calls Try.prog 15 #[.slice A n c, .int .i64 id] w (IntsE (belL l f id) (ciE l f id) w) := by
  have HC := checkId_any l f A n c id hid w B hB h hf
  have HP : Hid (ciE l f id = 0 → ∀ W, Below w.heap.size w W → Calls _ _ _ W _) := fun h0 W hW => by
    obtain ⟨G, hp⟩ := ciE_zero h0 hf
    obtain ⟨h1, h2⟩ := G.at_ hp
    exact treeBelow_any l G.kids G.low' A n c B (41 - dOf f id) id (dOf f id) W h1 (by omega) (Nat.le_trans hB hW.size) (h.below (hW.mono hB))
  obtain ⟨V, hV⟩ : ∃ V, V = belL l f id := ⟨_, rfl⟩
  rw [← hV]
  unfold belL at hV
  obtain ⟨E, hE⟩ : ∃ E, E = ciE l f id := ⟨_, rfl⟩
  rw [← hE] at HC hV HP ⊢
  have HC := Lib.hid HC
  clear h hf hE
  by_cases h0 : E = 0
  · rw [if_pos h0] at hV
    have HP' := Lib.hid (HP.out h0)
    subst h0
    have HV := Lib.hid hV
    clear hV
    go_enter Try.func15, Try.ntmps15
    go_wp2_with fail
    refine HC.out.mono ?_
    rintro e w1 ⟨rfl, hb1⟩
    have HB1 := Lib.hid hb1
    have HX := Lib.hid (HP'.out w1 hb1)
    have hz1 := hb1.size
    clear hb1
    go_wp2_with fail
    refine HX.out.mono ?_
    rintro e w2 ⟨⟨A', n', c', rfl, hr0, _, hr, hcc⟩, hb2⟩
    rw [← HV.out] at hr
    have HCL := Lib.hid (clipI_any A' n' c' w2 hcc hr0)
    have HB2 : Hid (Below w.heap.size w w2) := HB1.out.trans (hb2.mono hz1)
    have HR := Lib.hid (hr.weak (S' := fun b => w.heap.size ≤ b ∧ b < w2.heap.size) fun b hb => ⟨by omega, hb.2⟩)
    clear hb2 hr hr0 hcc
    go_wp2_with fail
    refine HCL.out.mono ?_
    rintro e w3 ⟨rfl, rfl⟩
    go_wp2_with fail
    go_ret2
    exact ⟨⟨_, _, _, rfl, HR.out⟩, HB2.out⟩
  · rw [if_neg h0] at hV
    have h0' : (E != 0) = true := by simpa using h0
    have HV := Lib.hid hV
    clear HP h0 hV
    go_enter Try.func15, Try.ntmps15
    go_wp2_with fail
    refine HC.out.mono ?_
    rintro e w1 ⟨rfl, hb1⟩
    have HB1 := Lib.hid hb1
    clear hb1
    go_wp2_with fail
    go_ret2
    exact ⟨⟨_, _, _, rfl, by rw [HV.out]; exact RInX.nil _ _⟩, HB1.out⟩
set_option maxHeartbeats 1000000 in
theorem pageOf_any (l : List Bl) (f : Int → Option Int) (A : Option Addr) (n c : Nat) (id : Int) (hid : I64 id) (w : World) (B : Nat) (hB : B ≤ w.heap.size) (h : RB w B (.slice A n c) l) (hf : DepOk l f) :
    Calls Try.prog 16 #[.slice A n c, .int .i64 id] w fun e w' => e = .returned (.tuple #[.int .i64 (pageV l f id), .int .i64 (cinE l f id)]) ∧ Below w.heap.size w w' := by
  have HC := checkInner_any l f A n c id hid w B hB h hf
  have hci : cinE l f id = 0 → ciE l f id = 0 ∧ id ≠ 0 := fun h0 => by
    unfold cinE at h0
    by_cases h1 : ciE l f id = 0
    · rw [if_neg (fun e => e h1)] at h0
      by_cases h2 : id = 0
      · rw [if_neg (fun e => e h2)] at h0; omega
      · exact ⟨h1, h2⟩
    · rw [if_pos h1] at h0; exact absurd h0 h1
  have HP : Hid (cinE l f id = 0 → dOf f id ≠ 0 ∧ ∀ W, Below w.heap.size w W → Calls _ _ _ W _) := fun h0 => by
    obtain ⟨h3, h4⟩ := hci h0
    obtain ⟨G, hp⟩ := ciE_zero h3 hf
    obtain ⟨h1, h2⟩ := G.at_ hp
    exact ⟨fun e => h4 ((Dp.zero_iff G.kids h1).2 e), fun W hW => path_any l G.kids A n c id (dOf f id) h1 h2 W B (Nat.le_trans hB hW.size) (h.below (hW.mono hB))⟩
  obtain ⟨V, hV⟩ : ∃ V, V = pageV l f id := ⟨_, rfl⟩
  rw [← hV]
  unfold pageV at hV
  obtain ⟨E, hE⟩ : ∃ E, E = cinE l f id := ⟨_, rfl⟩
  rw [← hE] at HC hV HP ⊢
  have HC := Lib.hid HC
  clear h hf hE hci
  by_cases h0 : E = 0
  · rw [if_pos h0] at hV
    obtain ⟨hdz, HP'⟩ := HP.out h0
    have HP' := Lib.hid HP'
    have hdz' := hdz
    have HLEN := Lib.hid (pth_len (l := l) (dOf f id) id)
    have HDZ := Lib.hid hdz
    subst h0
    have HV := Lib.hid hV
    clear hV hdz hdz'
    go_enter Try.func16, Try.ntmps16
    go_wp2_with fail
    refine HC.out.mono ?_
    rintro e w1 ⟨rfl, hb1⟩
    have HB1 := Lib.hid hb1
    have HX := Lib.hid (HP'.out w1 hb1)
    clear hb1
    go_wp2_with fail
    refine HX.out.mono ?_
    rintro e w2 ⟨⟨A', n', rfl, hr⟩, hb2⟩
    have HB2 : Hid (Below w.heap.size w w2) := HB1.out.trans (hb2.mono HB1.out.size)
    have hri := hr.reads (B := w2.heap.size) fun b hb => hb.2
    have hn := hri.len.1
    rw [HLEN.out] at hn
    have hn0 : 0 < n' := by have := HDZ.out; omega
    obtain ⟨y, hy⟩ : ∃ y, (pth l (dOf f id) id)[0]? = some y := ⟨_, List.getElem?_eq_getElem (by rw [HLEN.out]; omega)⟩
    obtain ⟨bb, oo, rfl, hbbq, g0⟩ := hri.at_ hy
    rw [Nat.add_zero] at g0
    have hn0' : (0 : Int) < (n' : Int) := by omega
    have HVY : Hid (V = y) := by show _ = _; rw [HV.out, hy]; rfl
    clear hb2 hr hri hn hy
    go_wp2_with fail
    go_ret2
    exact ⟨by rw [HVY.out]; rfl, HB2.out⟩
  · rw [if_neg h0] at hV
    have h0' : (E != 0) = true := by simpa using h0
    subst hV
    clear HP h0
    go_enter Try.func16, Try.ntmps16
    go_wp2_with fail
    refine HC.out.mono ?_
    rintro e w1 ⟨rfl, hb1⟩
    have HB1 := Lib.hid hb1
    clear hb1
    go_wp2_with fail
    go_ret2
    exact ⟨rfl, HB1.out⟩
end Go.Proofs.Ytbkhnfdfdgdfkaa
