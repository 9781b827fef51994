/-
  DERIVED. The walk of tree.checkBlock. Conditions: sizes.
  The error of a base, in plain words; what a base without error is. Conditions: none.
  A base without error: what is below a block, and the way to a block. Plain law. Conditions: none.
  What the law TopTree says of a base without error, in plain Lean: the order has each block but the root, each behind its parent; a path ends at its block and begins at a page. Conditions: a base without error.
  By an AI agent.
-/
import Derived.Test.YtmkicfjcgbfaaaaGreatDoorTc04
import Derived.Test.YtmkicfjcgbfaaaaGreatDoorTc07
import Derived.Test.YtmkicfjcgbfaaaaGreatDoorTc11
import Derived.Test.YtmkicfjcgbfaaaaGreatDoorTc05
namespace Go.Proofs.YtmkicfjcgbfaaaaGreatDoor
open Go.RowKit

def rngB : Option Bl → Bl → Bool
  | none, x => x.id != 0
  | some _, x => decide (x.id < 1) || decide (1000000 < x.id)
def ordB : Option Bl → Bl → Bool
  | none, _ => false
  | some y, x => decide (x.id ≤ y.id)
def rootB : Option Bl → Bl → Bool
  | none, x => !x.text.toList.isEmpty || decide (0 < x.props.length) || (x.parent != 0)
  | some _, _ => false
/-- the error of a block behind another (none: the first) -/
def blkErr (p : Option Bl) (x : Bl) : Int :=
  if rngB p x = true then 2 else if ordB p x = true then 5 else if rootB p x = true then 1 else if txErr x.text ≠ 0 then txErr x.text else if 500 < x.kids.length then 4 else cpErr x.props
def prevB (l : List Bl) (k : Nat) : Option Bl := if k = 0 then none else l[k - 1]?
theorem prevB_succ {l : List Bl} {k : Nat} {x : Bl} (h : l[k]? = some x) : prevB l (k + 1) = some x := by
  unfold prevB; rw [if_neg (by omega), Nat.add_sub_cancel, h]
set_option maxHeartbeats 4000000 in
/-- tree.checkBlock -/
theorem checkBlock_any (l : List Bl) (A : Option Addr) (n c : Nat) (k : Nat) (x : Bl) (w : World) (B : Nat) (hB : B ≤ w.heap.size) (h : RB w B (.slice A n c) l) (hx : l[k]? = some x) :
    Calls Tryz.prog 44 #[.slice A n c, .int .i64 k] w fun e w' => e = .returned (.int .i64 (blkErr (prevB l k) x)) ∧ Below w.heap.size w w' := by
  have hbg : n * 80 ≤ 140737488351232 := h.len.2.2
  have hkl := (List.getElem?_eq_some_iff.1 hx).1
  have hkn : k < n := by have := h.len.1; omega
  obtain ⟨b, off, Ak, nk, ck, Ap, np, cp, rfl, hbb, g0, g1, g2, g3, g4, hK, hP⟩ := h.at_ hx
  obtain ⟨V, hV⟩ : ∃ V, V = blkErr (prevB l k) x := ⟨_, rfl⟩
  rw [← hV]
  unfold blkErr at hV
  have hk1 := hK.len
  have hp1 : np = x.props.length := by
    obtain ⟨A', n', c', M, e1, e, e2, _⟩ := hP
    injection e with _ e3
    rw [e3, e2, ← e1, List.length_map]
  rw [← hk1.1] at hV
  obtain ⟨r1, hr1⟩ : ∃ r, r = rngB (prevB l k) x := ⟨_, rfl⟩
  obtain ⟨r2, hr2⟩ : ∃ r, r = ordB (prevB l k) x := ⟨_, rfl⟩
  obtain ⟨r3, hr3⟩ : ∃ r, r = rootB (prevB l k) x := ⟨_, rfl⟩
  rw [← hr1, ← hr2, ← hr3] at hV
  have HV := Lib.hid hV
  have R1 := Lib.hid hr1
  have R2 := Lib.hid hr2
  have R3 := Lib.hid hr3
  have HPL := Lib.hid hp1
  have HT := Lib.hid fun W => checkT_any x.text W
  have HCP := Lib.hid fun W hW => checkProps_any (.slice Ap np cp) x.props W B (Nat.le_trans hB (Below.size hW)) (hP.below (Below.mono hW hB))
  have hkb := hk1.2
  have H := Lib.hid h
  have HX := Lib.hid hx
  clear hV hr1 hr2 hr3 h hx hK hP hk1 hp1 hkl
  have j0 : (0 : Int) ≤ (k : Int) := by omega
  have j1 : (k : Int) < (n : Int) := by omega
  obtain ⟨wa, hwa⟩ : ∃ wa, wa = w.alloc (.cells #[.int .i64 x.id, .int .i64 x.parent, .slice Ak nk ck, .string x.text, .slice Ap np cp] 52) := ⟨_, rfl⟩
  have HBA : Hid (Below w.heap.size w wa) := by rw [hwa]; exact (Below.refl _ _).alloc (Nat.le_refl _) _
  have p0 : Blk wa w.heap.size 52 #[.int .i64 x.id, .int .i64 x.parent, .slice Ak nk ck, .string x.text, .slice Ap np cp] := by rw [hwa]; exact Blk.new w _ _
  have m0 : wa.cell? ⟨w.heap.size, 0, none⟩ = some (.int .i64 x.id) := p0.cell 0
  have m1 : wa.cell? ⟨w.heap.size, 1, none⟩ = some (.int .i64 x.parent) := p0.cell 1
  have m2 : wa.cell? ⟨w.heap.size, 2, none⟩ = some (.slice Ak nk ck) := p0.cell 2
  have m3 : wa.cell? ⟨w.heap.size, 3, none⟩ = some (.string x.text) := p0.cell 3
  have m4 : wa.cell? ⟨w.heap.size, 4, none⟩ = some (.slice Ap np cp) := p0.cell 4
  go_enter Tryz.func44, Tryz.ntmps44
  go_upto_region 2 with fail
  rw [← hwa]
  clear hwa p0
  go_cut [11] (fun s11 wc => s11 = .bool r1 ∧ wa = wc)
  case first =>
    rcases k with _ | j
    · have e := R1.out
      rw [show prevB l 0 = none from rfl] at e
      unfold rngB at e
      dsimp only at e
      obtain ⟨q1, hq1⟩ : ∃ q, (x.id != 0) = q := ⟨_, rfl⟩
      rw [hq1] at e
      subst e
      cases r1
      all_goals
        go_wp2_with fail
        go_meet
        exact ⟨rfl, rfl⟩
    · have hj : j < l.length := by have := (List.getElem?_eq_some_iff.1 HX.out).1; omega
      have e := R1.out
      rw [prevB_succ (List.getElem?_eq_getElem hj)] at e
      unfold rngB at e
      dsimp only at e
      have z0 : ¬ ((j + 1 : Nat) : Int) = 0 := by omega
      have z1 : (0 : Int) < ((j + 1 : Nat) : Int) := by omega
      have z2 : (((j + 1 : Nat) : Int) == 0) = false := by simpa using z0
      by_cases a1 : x.id < 1
      · rw [decide_eq_true a1, Bool.true_or] at e
        subst e
        go_wp2_with fail
        go_meet
        exact ⟨rfl, rfl⟩
      · by_cases a2 : 1000000 < x.id
        · rw [decide_eq_true a2, Bool.or_true] at e
          subst e
          go_wp2_with fail
          go_meet
          exact ⟨rfl, rfl⟩
        · rw [decide_eq_false a1, decide_eq_false a2] at e
          obtain rfl : r1 = false := e
          go_wp2_with fail
          go_meet
          exact ⟨rfl, rfl⟩
  case rest =>
  obtain ⟨rfl, rfl⟩ := hcut
  cases r1
  case true =>
    have hv := HV.out.trans (if_pos rfl)
    have HZ := Lib.hid hv
    clear hv
    go_wp2_with fail
    go_ret
    exact ⟨by rw [HZ.out]; rfl, HBA.out⟩
  have HV2 := Lib.hid (HV.out.trans (if_neg (by decide)))
  clear HV
  go_upto_region 4 with fail
  go_cut [33] (fun s33 wc => s33 = .bool r2 ∧ ∃ q, wc = wa.drewN q)
  case first =>
    rcases k with _ | j
    · obtain rfl : r2 = false := R2.out
      have jz : ¬ (0 : Int) < ((0 : Nat) : Int) := by omega
      go_quiet (fail)
      go_wp2_with fail
      go_meet
      exact ⟨rfl, _, rfl⟩
    · have hj : j < l.length := by have := (List.getElem?_eq_some_iff.1 HX.out).1; omega
      have hy := List.getElem?_eq_getElem hj
      obtain ⟨y, hyy⟩ : ∃ y, y = l[j] := ⟨_, rfl⟩
      rw [← hyy] at hy
      have e := R2.out
      rw [prevB_succ hy] at e
      unfold ordB at e
      dsimp only at e
      obtain ⟨b', off', Ak', nk', ck', Ap', np', cp', e2, hbb', k0, _⟩ := H.out.at_ hy
      obtain ⟨rfl, rfl⟩ : b = b' ∧ off = off' := by injection e2 with e; injection e with e1 e2; exact ⟨e1, e2⟩
      have k0 := (HBA.out.cell (p := ⟨b, off + j * 5, none⟩) (by show b < _; omega)).trans k0
      have jz : (0 : Int) < ((j + 1 : Nat) : Int) := by omega
      have jw : IntKind.i64.wrap (j : Int) = (j : Int) := IntWalk.i64_in _ (by omega)
      have jn : (j : Int) < (n : Int) := by omega
      have jp : (0 : Int) ≤ (j : Int) := by omega
      obtain ⟨q1, hq1⟩ : ∃ q, decide (x.id ≤ y.id) = q := ⟨_, rfl⟩
      rw [hq1] at e
      subst e
      clear hyy hy e2
      cases r2
      · have hq1 := of_decide_eq_false hq1
        go_quiet (fail)
        go_wp2_with fail
        go_meet
        exact ⟨rfl, _, rfl⟩
      · have hq1 := of_decide_eq_true hq1
        go_quiet (fail)
        go_wp2_with fail
        go_meet
        exact ⟨rfl, _, rfl⟩
  case rest =>
  obtain ⟨rfl, q, rfl⟩ := hcut
  have HBQ : Hid (Below w.heap.size w (wa.drewN q)) := bdrew HBA.out _
  cases r2
  case true =>
    have hv := HV2.out.trans (if_pos rfl)
    have HZ := Lib.hid hv
    clear hv
    go_wp2_with fail
    go_ret
    exact ⟨by rw [HZ.out]; rfl, HBQ.out⟩
  have HV3 := Lib.hid (HV2.out.trans (if_neg (by decide)))
  clear HV2
  go_upto_region 6 with fail
  go_cut [47] (fun s47 wc => s47 = .bool r3 ∧ wc = wa.drewN q)
  case first =>
    rcases k with _ | j
    · have e := R3.out
      rw [show prevB l 0 = none from rfl] at e
      unfold rootB at e
      dsimp only at e
      rw [← HPL.out] at e
      obtain ⟨q1, hq1⟩ : ∃ q, (!x.text.toList.isEmpty) = q := ⟨_, rfl⟩
      obtain ⟨q2, hq2⟩ : ∃ q, decide (0 < np) = q := ⟨_, rfl⟩
      obtain ⟨q3, hq3⟩ : ∃ q, (x.parent != 0) = q := ⟨_, rfl⟩
      rw [hq1, hq2, hq3] at e
      have hq2' : decide ((0 : Int) < (np : Int)) = q2 := by rw [← hq2, Bool.eq_iff_iff, decide_eq_true_iff, decide_eq_true_iff]; omega
      subst e
      clear HV3
      cases q1 <;> cases q2 <;> cases q3
      all_goals
        go_wp2_with fail
        go_meet
        exact ⟨rfl, rfl⟩
    · have hj : j < l.length := by have := (List.getElem?_eq_some_iff.1 HX.out).1; omega
      have e := R3.out
      rw [prevB_succ (List.getElem?_eq_getElem hj)] at e
      obtain rfl : r3 = false := e
      have z0 : ¬ ((j + 1 : Nat) : Int) = 0 := by omega
      have z2 : (((j + 1 : Nat) : Int) == 0) = false := by simpa using z0
      go_wp2_with fail
      go_meet
      exact ⟨rfl, rfl⟩
  case rest =>
  obtain ⟨rfl, rfl⟩ := hcut
  cases r3
  case true =>
    have hv := HV3.out.trans (if_pos rfl)
    have HZ := Lib.hid hv
    clear hv
    go_wp2_with fail
    go_ret
    exact ⟨by rw [HZ.out]; rfl, HBQ.out⟩
  have HV4 := Lib.hid (HV3.out.trans (if_neg (by decide)))
  clear HV3
  obtain ⟨tx, htx⟩ : ∃ tx, tx = txErr x.text := ⟨_, rfl⟩
  rw [← htx] at HT HV4
  clear htx
  by_cases hz : tx = 0
  case neg =>
    have HZ := Lib.hid (HV4.out.trans (if_pos hz))
    have hz' : (tx != 0) = true := by simpa using hz
    clear hz
    go_wp2_with fail
    refine (HT.out _).mono ?_
    rintro e w1 ⟨rfl, rfl⟩
    go_wp2_with fail
    go_ret
    exact ⟨by rw [HZ.out]; rfl, HBQ.out⟩
  have HV5 := Lib.hid (HV4.out.trans (if_neg (fun e => e hz)))
  subst hz
  clear HV4
  by_cases hl : 500 < nk
  case pos =>
    have HZ := Lib.hid (HV5.out.trans (if_pos hl))
    have hl' : (500 : Int) < (nk : Int) := by omega
    go_wp2_with fail
    refine (HT.out _).mono ?_
    rintro e w1 ⟨rfl, rfl⟩
    go_wp2_with fail
    go_ret
    exact ⟨by rw [HZ.out]; rfl, HBQ.out⟩
  have HV6 := Lib.hid (HV5.out.trans (if_neg hl))
  have hl' : ¬ (500 : Int) < (nk : Int) := by omega
  clear HV5
  go_wp2_with fail
  refine (HT.out _).mono ?_
  rintro e w1 ⟨rfl, rfl⟩
  go_wp2_with fail
  refine (HCP.out _ HBQ.out).mono ?_
  rintro e w1 ⟨rfl, hb⟩
  have HB2 := Lib.hid (HBQ.out.trans (hb.mono HBQ.out.size))
  clear hb
  rw [← HV6.out]
  go_wp2_with fail
  go_ret
  exact ⟨rfl, HB2.out⟩
end Go.Proofs.YtmkicfjcgbfaaaaGreatDoor
namespace Go.Proofs.YtmkicfjcgbfaaaaGreatDoor

/-- the error of blocks behind another -/
def blksErr : Option Bl → List Bl → Int
  | _, [] => 0
  | p, x :: l => if blkErr p x ≠ 0 then blkErr p x else blksErr (some x) l
theorem blksErr_at {l : List Bl} {k : Nat} {x : Bl} (h : l[k]? = some x) : blksErr (prevB l k) (l.drop k) = if blkErr (prevB l k) x ≠ 0 then blkErr (prevB l k) x else blksErr (prevB l (k + 1)) (l.drop (k + 1)) := by
  rw [prevB_succ h]
  obtain ⟨hk, e⟩ := List.getElem?_eq_some_iff.1 h
  rw [List.drop_eq_getElem_cons hk, blksErr, e]
/-- the error of a base; f says how deep its blocks are -/
def baseE (l : List Bl) (f : Int → Option Int) : Int :=
  if l.length = 0 then 1 else if 2000 < l.length then 4 else if blksErr none l ≠ 0 then blksErr none l else if allKids l l ≠ 0 then allKids l l else lvlE f l

theorem blks_zero {l : List Bl} (h : blksErr none l = 0) : ∀ (k : Nat) (x : Bl), l[k]? = some x → blkErr (prevB l k) x = 0 := by
  have key : ∀ k, k ≤ l.length → blksErr (prevB l k) (l.drop k) = 0 := by
    intro k
    induction k with
    | zero => intro _; exact h
    | succ k ih =>
      intro hk
      have := ih (by omega)
      rw [blksErr_at (List.getElem?_eq_getElem (by omega : k < l.length))] at this
      split at this
      · rename_i h1; exact absurd this h1
      · exact this
  intro k x hx
  have hk := (List.getElem?_eq_some_iff.1 hx).1
  have := key k (by omega)
  rw [blksErr_at hx] at this
  split at this
  · exact this
  · rename_i h1
    exact Decidable.byContradiction fun h2 => h1 h2
theorem blkErr_zero {p : Option Bl} {x : Bl} (h : blkErr p x = 0) : rngB p x = false ∧ ordB p x = false ∧ rootB p x = false ∧ txErr x.text = 0 ∧ x.kids.length ≤ 500 ∧ cpErr x.props = 0 := by
  unfold blkErr at h
  cases h1 : rngB p x
  · cases h2 : ordB p x
    · cases h3 : rootB p x
      · rw [h1, h2, h3, if_neg (by decide), if_neg (by decide), if_neg (by decide)] at h
        by_cases h4 : txErr x.text = 0
        · rw [if_neg (fun e => e h4)] at h
          by_cases h5 : 500 < x.kids.length
          · rw [if_pos h5] at h; omega
          · rw [if_neg h5] at h
            exact ⟨rfl, rfl, rfl, h4, by omega, h⟩
        · rw [if_pos h4] at h; exact absurd h h4
      · rw [h1, h2, h3, if_neg (by decide), if_neg (by decide), if_pos rfl] at h; omega
    · rw [h1, h2, if_neg (by decide), if_pos rfl] at h; omega
  · rw [h1, if_pos rfl] at h; omega
theorem rise_of {l : List Bl} (h : blksErr none l = 0) : Rise l := by
  have step : ∀ (k : Nat) (x y : Bl), l[k]? = some x → l[k + 1]? = some y → x.id < y.id := by
    intro k x y hx hy
    obtain ⟨_, h2, _⟩ := blkErr_zero (blks_zero h _ _ hy)
    rw [prevB_succ hx] at h2
    have := of_decide_eq_false h2
    omega
  intro i j
  induction j with
  | zero => intro x y hij; omega
  | succ j ih =>
    intro x y hij hx hy
    have hj : j < l.length := by have := (List.getElem?_eq_some_iff.1 hy).1; omega
    have hz := List.getElem?_eq_getElem hj
    have h1 := step j _ y hz hy
    rcases Nat.lt_succ_iff_lt_or_eq.1 hij with g | g
    · have := ih x _ g hx hz; omega
    · subst g
      rw [hx] at hz
      obtain rfl := Option.some.inj hz
      exact h1
theorem ids_of {l : List Bl} (h : blksErr none l = 0) : IdsIn l := by
  intro x hx
  obtain ⟨k, hk, rfl⟩ := List.mem_iff_getElem.1 hx
  obtain ⟨h1, _⟩ := blkErr_zero (blks_zero h _ _ (List.getElem?_eq_getElem hk))
  rcases k with _ | k
  · have h1 : (l[0].id != 0) = false := h1
    have : l[0].id = 0 := by simpa using h1
    omega
  · rw [prevB_succ (List.getElem?_eq_getElem (by omega : k < l.length))] at h1
    have h1 : (decide (l[k + 1].id < 1) || decide (1000000 < l[k + 1].id)) = false := h1
    rw [Bool.or_eq_false_iff, decide_eq_false_iff_not, decide_eq_false_iff_not] at h1
    omega
theorem kidE_zero {l : List Bl} {bid : Int} {seen : List Int} {k : Int} (h : kidE l bid seen k = 0) : k ≠ 0 ∧ (∃ y ∈ l, y.id = k ∧ y.parent = bid) ∧ k ∉ seen := by
  rcases kidE_ways l bid seen k with ⟨_, h2⟩ | ⟨p, y, h1, h2, h3, ⟨h4, h5⟩ | ⟨h4, h5⟩⟩
  · omega
  · omega
  · rw [Bool.or_eq_false_iff] at h4
    refine ⟨by simpa using h4.2, ⟨y, List.mem_of_getElem? h2, h3, by simpa using h4.1⟩, ?_⟩
    rw [h5] at h
    intro hk
    rw [if_pos (by simpa using hk)] at h
    omega
theorem kids_zero {l : List Bl} {bid : Int} {kids : List Int} (h : kidsE l bid [] kids = 0) : ∀ (j : Nat) (k : Int), kids[j]? = some k → kidE l bid (kids.take j) k = 0 := by
  have key : ∀ j, j ≤ kids.length → kidsE l bid (kids.take j) (kids.drop j) = 0 := by
    intro j
    induction j with
    | zero => intro _; exact h
    | succ j ih =>
      intro hj
      have := ih (by omega)
      rw [kidsE_at (List.getElem?_eq_getElem (by omega : j < kids.length))] at this
      split at this
      · rename_i h1; exact absurd this h1
      · exact this
  intro j k hk
  have hj := (List.getElem?_eq_some_iff.1 hk).1
  have := key j (by omega)
  rw [kidsE_at hk] at this
  split at this
  · exact this
  · rename_i h1
    exact Decidable.byContradiction fun h2 => h1 h2
theorem nodup_of_take : ∀ {kids : List Int}, (∀ (j : Nat) (k : Int), kids[j]? = some k → k ∉ kids.take j) → kids.Nodup := by
  intro kids h
  rw [List.nodup_iff_pairwise_ne, List.pairwise_iff_getElem]
  intro i j hi hj hij e
  refine h j kids[j] (List.getElem?_eq_getElem hj) ?_
  rw [← e, List.mem_take_iff_getElem]
  exact ⟨i, by omega, rfl⟩
theorem allKids_zero {l : List Bl} : ∀ {M : List Bl}, allKids l M = 0 → ∀ b ∈ M, kidsE l b.id [] b.kids = 0
  | [], _, b, hb => by cases hb
  | x :: M, h, b, hb => by
    rw [allKids] at h
    split at h
    · rename_i h1; exact absurd h h1
    · rename_i h1
      rcases List.mem_cons.1 hb with rfl | hb
      · exact Decidable.byContradiction fun h2 => h1 h2
      · exact allKids_zero h b hb
theorem root_id {l : List Bl} (h : blksErr none l = 0) {r : Bl} (hr : l[0]? = some r) : r.id = 0 := by
  obtain ⟨e1, _⟩ := blkErr_zero (blks_zero h _ _ hr)
  have e1 : (r.id != 0) = false := e1
  simpa using e1
theorem zero_iff {l : List Bl} (h : blksErr none l = 0) {p : Nat} {y : Bl} (hy : l[p]? = some y) : ((p : Int) == 0) = (y.id == 0) := by
  rw [Bool.eq_iff_iff, beq_iff_eq, beq_iff_eq]
  have hp := (List.getElem?_eq_some_iff.1 hy).1
  have hr := List.getElem?_eq_getElem (by omega : 0 < l.length)
  have h0 := root_id h hr
  constructor
  · intro e
    obtain rfl : p = 0 := by omega
    exact root_id h hy
  · intro e
    rcases Nat.eq_zero_or_pos p with g | g
    · omega
    · have := rise_of h 0 p _ _ g hr hy
      omega
/-- a base whose blocks and kids have no error -/
theorem kids_of {l : List Bl} (h0 : l.length ≠ 0) (h1 : ¬ 2000 < l.length) (h2 : blksErr none l = 0) (h3 : allKids l l = 0) : Kids l where
  rise := rise_of h2
  ids := ids_of h2
  root := by
    have hx := List.getElem?_eq_getElem (by omega : 0 < l.length)
    obtain ⟨e1, _, e3, _⟩ := blkErr_zero (blks_zero h2 _ _ hx)
    have e1 : (l[0].id != 0) = false := e1
    have e3 : (!l[0].text.toList.isEmpty || decide (0 < l[0].props.length) || (l[0].parent != 0)) = false := e3
    rw [Bool.or_eq_false_iff] at e3
    exact ⟨_, hx, by simpa using e1, by simpa using e3.2⟩
  kid b hb k hk := by
    obtain ⟨j, hj, rfl⟩ := List.mem_iff_getElem.1 hk
    obtain ⟨a1, a2, _⟩ := kidE_zero (kids_zero (allKids_zero h3 b hb) j _ (List.getElem?_eq_getElem hj))
    exact ⟨a1, a2⟩
  nod b hb := nodup_of_take fun j k hk => (kidE_zero (kids_zero (allKids_zero h3 b hb) j k hk)).2.2
  short := by omega
  few b hb := by
    obtain ⟨k, hk, rfl⟩ := List.mem_iff_getElem.1 hb
    exact (blkErr_zero (blks_zero h2 _ _ (List.getElem?_eq_getElem hk))).2.2.2.2.1
/-- f says how deep the blocks are, if the kids are right -/
def DepOk (l : List Bl) (f : Int → Option Int) : Prop := Kids l → IsDep l f
theorem DepOk.exists (l : List Bl) : ∃ f, DepOk l f := by
  by_cases K : Kids l
  · obtain ⟨f, hf⟩ := IsDep.exists K
    exact ⟨f, fun _ => hf⟩
  · exact ⟨fun _ => none, fun h => absurd h K⟩
end Go.Proofs.YtmkicfjcgbfaaaaGreatDoor
namespace Go.Proofs.YtmkicfjcgbfaaaaGreatDoor

/-- a base without error; f says how deep its blocks are -/
structure Good (l : List Bl) (f : Int → Option Int) : Prop where
  kids : Kids l
  dep : IsDep l f
  all : ∀ x ∈ l, ∃ d : Nat, f x.id = some (d : Int) ∧ d ≤ 40
  blk : ∀ (k : Nat) (x : Bl), l[k]? = some x → blkErr (prevB l k) x = 0
theorem lvlE_zero {l : List Bl} {f : Int → Option Int} (hf : IsDep l f) : ∀ {M : List Bl}, lvlE f M = 0 → ∀ x ∈ M, ∃ d : Nat, f x.id = some (d : Int) ∧ d ≤ 40
  | [], _, x, hx => by cases hx
  | a :: M, h, x, hx => by
    rw [lvlE] at h
    cases hfa : f a.id with
    | none => rw [hfa, if_pos rfl] at h; omega
    | some d =>
      rw [hfa, if_neg (by simp)] at h
      by_cases hd : 40 < d
      · rw [Option.getD_some, if_pos hd] at h; omega
      · rw [Option.getD_some, if_neg hd] at h
        rcases List.mem_cons.1 hx with rfl | hx
        · obtain ⟨n, rfl, _⟩ := (hf _ _).1 hfa
          exact ⟨n, hfa, by omega⟩
        · exact lvlE_zero hf h x hx
theorem good_of {l : List Bl} {f : Int → Option Int} (h : baseE l f = 0) (hf : DepOk l f) : Good l f := by
  unfold baseE at h
  by_cases h0 : l.length = 0
  · rw [if_pos h0] at h; omega
  rw [if_neg h0] at h
  by_cases h1 : 2000 < l.length
  · rw [if_pos h1] at h; omega
  rw [if_neg h1] at h
  by_cases h2 : blksErr none l = 0
  case neg => rw [if_pos h2] at h; exact absurd h h2
  rw [if_neg (fun e => e h2)] at h
  by_cases h3 : allKids l l = 0
  case neg => rw [if_pos h3] at h; exact absurd h h3
  rw [if_neg (fun e => e h3)] at h
  have K := kids_of h0 h1 h2 h3
  exact ⟨K, hf K, lvlE_zero (hf K) h, blks_zero h2⟩
section
variable {l : List Bl} {f : Int → Option Int}
theorem Good.dp (G : Good l f) {x : Bl} (hx : x ∈ l) : ∃ d : Nat, f x.id = some (d : Int) ∧ Dp l x.id d ∧ d ≤ 40 := by
  obtain ⟨d, h1, h2⟩ := G.all x hx
  obtain ⟨n, e, h3⟩ := (G.dep _ _).1 h1
  obtain rfl : d = n := by omega
  exact ⟨d, h1, h3, h2⟩
theorem Good.low (G : Good l f) {id : Int} {d : Nat} (h : Dp l id d) : d ≤ 40 := by
  obtain ⟨y, hy, e⟩ := h.mem G.kids
  obtain ⟨d', h1, h2, h3⟩ := G.dp hy
  rw [e] at h2
  rw [h.fun_ G.kids h2]; exact h3
/-- the parent of the block with an id -/
def parOf (l : List Bl) (id : Int) : Int := parAt l (posOf l id)
theorem parOf_eq (K : Kids l) {y : Bl} (hy : y ∈ l) : parOf l y.id = y.parent := by
  obtain ⟨p, hp, e⟩ := List.mem_iff_getElem.1 hy
  have h : l[p]? = some y := by rw [List.getElem?_eq_getElem hp, e]
  unfold parOf parAt
  rw [posOf_of K.rise h, Int.toNat_natCast, h]
theorem parOf_kid (K : Kids l) {b : Bl} (hb : b ∈ l) {k : Int} (hk : k ∈ b.kids) : parOf l k = b.id := by
  obtain ⟨_, y, hy, e1, e2⟩ := K.kid b hb k hk
  rw [← e1, parOf_eq K hy, e2]
/-- the block with an id -/
theorem Dp.blk (K : Kids l) {id : Int} {d : Nat} (h : Dp l id d) : ∃ (p : Nat) (b : Bl), posOf l id = (p : Int) ∧ l[p]? = some b ∧ b.id = id := by
  obtain ⟨b, hb, e⟩ := h.mem K
  obtain ⟨p, hp, e'⟩ := List.mem_iff_getElem.1 hb
  have h : l[p]? = some b := by rw [List.getElem?_eq_getElem hp, e']
  exact ⟨p, b, by rw [← e]; exact posOf_of K.rise h, h, e⟩
/-- the ids of all blocks below one, each ahead of its kids -/
def ord (l : List Bl) : Nat → Int → List Int
  | 0, _ => []
  | n + 1, id => match l[(posOf l id).toNat]? with
    | some b => b.kids.flatMap fun k => k :: ord l n k
    | none => []
theorem ord_at {id : Int} {p : Nat} {b : Bl} (hp : posOf l id = (p : Int)) (hb : l[p]? = some b) (n : Nat) : ord l (n + 1) id = b.kids.flatMap fun k => k :: ord l n k := by
  rw [ord, hp, Int.toNat_natCast, hb]
def upN (l : List Bl) : Nat → Int → Int
  | 0, x => x
  | j + 1, x => upN l j (parOf l x)
theorem upN_succ : ∀ (j : Nat) (x : Int), upN l (j + 1) x = parOf l (upN l j x)
  | 0, _ => rfl
  | j + 1, x => by
    show upN l (j + 1) (parOf l x) = _
    rw [upN_succ j]; rfl
theorem ord_mem (K : Kids l) : ∀ (n : Nat) {id : Int} {d : Nat} {x : Int}, Dp l id d → x ∈ ord l n id → ∃ j, Dp l x (d + (j + 1)) ∧ upN l (j + 1) x = id
  | 0, _, _, _, _, h => by cases h
  | n + 1, id, d, x, hd, h => by
    obtain ⟨p, b, h1, h2, h3⟩ := hd.blk K
    have hb := List.mem_of_getElem? h2
    rw [ord_at h1 h2, List.mem_flatMap] at h
    obtain ⟨k, hk, hx⟩ := h
    have hdk : Dp l k (d + 1) := .step b d k (h3 ▸ hd) hb hk
    rcases List.mem_cons.1 hx with rfl | hx
    · exact ⟨0, hdk, (parOf_kid K hb hk).trans h3⟩
    · obtain ⟨j, h4, h5⟩ := ord_mem K n hdk hx
      refine ⟨j + 1, by rw [show d + (j + 1 + 1) = d + 1 + (j + 1) by omega]; exact h4, ?_⟩
      rw [upN_succ, h5, parOf_kid K hb hk, h3]
theorem ord_nodup (K : Kids l) : ∀ (n : Nat) {id : Int} {d : Nat}, Dp l id d → (ord l n id).Nodup
  | 0, _, _, _ => List.nodup_nil
  | n + 1, id, d, hd => by
    obtain ⟨p, b, h1, h2, h3⟩ := hd.blk K
    have hb := List.mem_of_getElem? h2
    rw [ord_at h1 h2]
    have part : ∀ k ∈ b.kids, ∀ x ∈ k :: ord l n k, ∃ j, Dp l x (d + 1 + j) ∧ upN l j x = k := fun k hk x hx => by
      have hdk : Dp l k (d + 1) := .step b d k (h3 ▸ hd) hb hk
      rcases List.mem_cons.1 hx with rfl | hx
      · exact ⟨0, hdk, rfl⟩
      · obtain ⟨j, h4, h5⟩ := ord_mem K n hdk hx
        exact ⟨j + 1, h4, h5⟩
    unfold List.Nodup
    rw [List.pairwise_flatMap]
    refine ⟨fun k hk => ?_, ?_⟩
    · have hdk : Dp l k (d + 1) := .step b d k (h3 ▸ hd) hb hk
      refine List.nodup_cons.2 ⟨fun hm => ?_, ord_nodup K n hdk⟩
      obtain ⟨j, h4, _⟩ := ord_mem K n hdk hm
      have := h4.fun_ K hdk
      omega
    · refine List.Pairwise.imp_of_mem ?_ (K.nod b hb)
      intro k1 k2 hk1 hk2 hne x hx y hy e
      subst e
      obtain ⟨j1, a1, a2⟩ := part k1 hk1 x hx
      obtain ⟨j2, b1, b2⟩ := part k2 hk2 x hy
      have := a1.fun_ K b1
      obtain rfl : j1 = j2 := by omega
      exact hne (a2.symm.trans b2)
theorem nodup_short : ∀ {L M : List Int}, L.Nodup → (∀ x ∈ L, x ∈ M) → L.length ≤ M.length
  | [], _, _, _ => Nat.zero_le _
  | a :: L, M, h, hm => by
    have ha := hm a (by simp)
    have hn := List.nodup_cons.1 h
    have := nodup_short (M := M.erase a) hn.2 fun x hx => by
      rw [List.mem_erase_of_ne (fun e => hn.1 (by rw [← e]; exact hx))]
      exact hm x (by simp [hx])
    rw [List.length_erase_of_mem ha] at this
    have := List.length_pos_of_mem ha
    rw [List.length_cons]
    omega
theorem ord_short (K : Kids l) (n : Nat) {id : Int} {d : Nat} (hd : Dp l id d) : (ord l n id).length ≤ l.length := by
  have := nodup_short (M := l.map (·.id)) (ord_nodup K n hd) fun x hx => by
    obtain ⟨j, h, _⟩ := ord_mem K n hd hx
    obtain ⟨y, hy, e⟩ := h.mem K
    exact List.mem_map.2 ⟨y, hy, e⟩
  rwa [List.length_map] at this
theorem ord_i64 (K : Kids l) (n : Nat) {id : Int} {d : Nat} (hd : Dp l id d) : ∀ x ∈ ord l n id, I64 x := fun x hx => by
  obtain ⟨j, h, _⟩ := ord_mem K n hd hx
  obtain ⟨y, hy, rfl⟩ := h.mem K
  have := K.ids y hy
  unfold I64; omega
theorem flat_take_le (g : Int → List Int) (ks : List Int) (j : Nat) : ((ks.take j).flatMap g).length ≤ (ks.flatMap g).length := by
  rw [← List.take_append_drop j ks, List.flatMap_append, List.length_append, List.take_append_drop]
  omega
/-- the blocks from the page of a block to it -/
def pth (l : List Bl) : Nat → Int → List Int
  | 0, _ => []
  | d + 1, id => pth l d (parOf l id) ++ [id]
theorem pth_len : ∀ (d : Nat) (id : Int), (pth l d id).length = d
  | 0, _ => rfl
  | d + 1, id => by rw [pth, List.length_append, pth_len d]; rfl
theorem Dp.up (K : Kids l) {id : Int} {d : Nat} (h : Dp l id (d + 1)) : id ≠ 0 ∧ Dp l (parOf l id) d := by
  generalize hn : d + 1 = n at h
  cases h with
  | root => omega
  | step b d' k h hb hk =>
    obtain rfl : d = d' := by omega
    rw [parOf_kid K hb hk]
    exact ⟨(K.kid b hb _ hk).1, h⟩
theorem Dp.zero_iff (K : Kids l) {id : Int} {d : Nat} (h : Dp l id d) : id = 0 ↔ d = 0 := by
  constructor
  · rintro rfl; exact h.zero K
  · rintro rfl
    generalize hn : (0 : Nat) = n at h
    cases h with
    | root => rfl
    | step b d' k h hb hk => omega
theorem pth_i64 (K : Kids l) : ∀ {d : Nat} {id : Int}, Dp l id d → ∀ x ∈ pth l d id, I64 x
  | 0, _, _, x, hx => by cases hx
  | d + 1, id, h, x, hx => by
    rw [pth, List.mem_append] at hx
    rcases hx with hx | hx
    · exact pth_i64 K (h.up K).2 x hx
    · obtain rfl : x = id := by simpa using hx
      obtain ⟨y, hy, rfl⟩ := h.mem K
      have := K.ids y hy
      unfold I64; omega
end
end Go.Proofs.YtmkicfjcgbfaaaaGreatDoor
namespace Go.Proofs.YtmkicfjcgbfaaaaGreatDoor
open Go.RowKit

section
variable {l : List Bl} {f : Int → Option Int}
theorem ord_blk (K : Kids l) (n : Nat) {b : Bl} (hb : b ∈ l) : ord l (n + 1) b.id = b.kids.flatMap fun k => k :: ord l n k := by
  obtain ⟨p, hp, e⟩ := List.mem_iff_getElem.1 hb
  have h : l[p]? = some b := by rw [List.getElem?_eq_getElem hp, e]
  exact ord_at (posOf_of K.rise h) h n
end
end Go.Proofs.YtmkicfjcgbfaaaaGreatDoor
