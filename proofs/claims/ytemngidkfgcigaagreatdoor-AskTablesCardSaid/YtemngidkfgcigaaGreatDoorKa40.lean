/-
  DERIVED. The walk of the law AskTables. Conditions: sizes.
  By an AI agent.
-/
import Derived.Test.YtemngidkfgcigaaGreatDoorKa39
import Derived.Test.YtemngidkfgcigaaGreatDoorKa35
import Derived.Test.YtemngidkfgcigaaGreatDoorKa21
import Derived.Test.YtemngidkfgcigaaGreatDoorKa16
import Derived.Test.YtemngidkfgcigaaGreatDoorKa27
namespace Go.Proofs.YtemngidkfgcigaaGreatDoor
open Go.RowKit

/-- what is wanted behind some tests -/
def wnt {α : Type} (w0 e : Int) (g : α → Bool) (L : List α) : Int := if w0 ≠ 0 then w0 else if L.all g then 0 else e
theorem wnt_nil {α : Type} (w0 e : Int) (g : α → Bool) : wnt w0 e g [] = w0 := by
  unfold wnt
  by_cases h : w0 = 0
  · rw [if_neg (fun k => k h), h]; rfl
  · rw [if_pos h]
theorem wnt_bad {α : Type} {w0 e : Int} {g : α → Bool} {L : List α} {x : α} (_he : e ≠ 0) (h : wnt w0 e g L ≠ 0) : wnt w0 e g (L ++ [x]) = wnt w0 e g L := by
  unfold wnt at h ⊢
  by_cases h0 : w0 = 0
  · by_cases h1 : L.all g = true
    · simp [h0, h1] at h
    · simp [h0, h1]
  · simp [h0]
theorem wnt_ok {α : Type} {w0 e : Int} {g : α → Bool} {L : List α} {x : α} (he : e ≠ 0) (h : wnt w0 e g L = 0) : wnt w0 e g (L ++ [x]) = if g x then 0 else e := by
  unfold wnt at h ⊢
  by_cases h0 : w0 = 0
  · by_cases h1 : L.all g = true
    · have h2 : ∀ y ∈ L, g y = true := List.all_eq_true.1 h1
      simp only [h0, ne_eq, not_true_eq_false, if_false, List.all_append, h1, Bool.true_and, List.all_cons, List.all_nil, Bool.and_true]
    · simp [h0, h1, he] at h
  · simp [h0] at h
theorem wnt_zero {α : Type} {w0 e : Int} {g : α → Bool} {L : List α} (h : wnt w0 e g L = 0) : w0 = 0 := by
  unfold wnt at h
  by_cases h0 : w0 = 0
  · exact h0
  · rw [if_pos h0] at h; exact absurd h h0
theorem plcd_eq {l : List Bl} {f : Int → Option Int} (G : Good l f) (id : Int) : plcd l id = (!(id == 0) && decide (0 ≤ posOf l id)) := by
  unfold plcd
  rw [Bool.eq_iff_iff, decide_eq_true_iff, plc_iff G, Bool.and_eq_true_iff, decide_eq_true_iff]
  have : (!(id == 0)) = true ↔ id ≠ 0 := by simp
  rw [this]
  refine and_congr_right fun _ => ?_
  rcases posOf_spec l id with ⟨e, h⟩ | ⟨i, b, e, h1, h2, _⟩
  · rw [e]
    exact ⟨fun ⟨b, hb, hi⟩ => absurd hi (h b hb), fun h => absurd h (by omega)⟩
  · rw [e]
    exact ⟨fun _ => by omega, fun _ => ⟨b, List.mem_of_getElem? h1, h2⟩⟩
/-- what is wanted of a table is its error -/
theorem wnt_tab (l : List Bl) (f : Int → Option Int) (ids : List Int) (cols : List ByteArray) : wnt (wnt (if baseE l f = 0 then (if 2000 < ids.length ∨ 10 < cols.length then 4 else 0) else baseE l f) 7 (plcd l) ids) 3 isByL cols = tabE l f ids cols := by
  unfold tabE wnt
  by_cases h : baseE l f = 0
  · by_cases h1 : 2000 < ids.length ∨ 10 < cols.length
    · simp [h, h1]
    · by_cases h2 : ids.all (plcd l) = true
      · simp only [h, h1, h2, ne_eq, not_true_eq_false, if_false, if_true]
      · simp only [h, h1, h2, ne_eq, not_true_eq_false, if_false, if_true]
        simp
  · simp only [h, ne_eq, not_false_eq_true, if_true, if_false]
/-- a table without error -/
theorem tabE_ok {l : List Bl} {f : Int → Option Int} {ids : List Int} {cols : List ByteArray} (h : tabE l f ids cols = 0) : baseE l f = 0 ∧ ids.all (plcd l) = true ∧ ids.length ≤ 2000 ∧ cols.length ≤ 10 := by
  unfold tabE at h
  by_cases h0 : baseE l f = 0
  · rw [if_neg (fun k => k h0)] at h
    by_cases h1 : 2000 < ids.length ∨ 10 < cols.length
    · rw [if_pos h1] at h; exact absurd h (by decide)
    · rw [if_neg h1] at h
      by_cases h2 : ids.all (plcd l) = true
      · exact ⟨h0, h2, by omega, by omega⟩
      · rw [if_neg h2] at h; exact absurd h (by decide)
  · rw [if_pos h0] at h; exact absurd h h0
theorem TabP.open_ {er : Int} {tt : List (List Vl)} {w : World} {e : Ending} {w' : World} (h : TabP er tt w e w') : ∃ A n c, e = .returned (.tuple #[.slice A n c, .int .i64 er]) ∧ (er ≠ 0 → n = 0) ∧ (er = 0 → RTab w' (fun b => w.heap.size ≤ b ∧ b < w'.heap.size) (.slice A n c) tt) ∧ Below w.heap.size w w' := by
  obtain ⟨h1 | ⟨h1, A, n, h2, h3⟩, hb⟩ := h
  · exact ⟨none, 0, 0, h1.2, fun _ => rfl, fun h => absurd h h1.1, hb⟩
  · subst h1
    exact ⟨A, n, n, h2, fun h => absurd rfl h, fun _ => h3, hb⟩
set_option maxHeartbeats 16000000 in
set_option maxRecDepth 100000 in
/-- the law AskTables -/
theorem tablesLaw_any (l : List Bl) (A : Option Addr) (n c : Nat) (ids : List Int) (Ai : Option Addr) (ni ci : Nat) (cols : List ByteArray) (Ac : Option Addr) (nc cc : Nat) (xs ys : List Gp) (Ax Ay : Option Addr) (nx cx ny cy : Nat) (w : World) (hb : RB w w.heap.size (.slice A n c) l)
    (hi : RIn w w.heap.size (.slice Ai ni ci) ids) (hc : RSs w w.heap.size (.slice Ac nc cc) cols) (hx : RGp w w.heap.size (.slice Ax nx cx) xs) (hy : RGp w w.heap.size (.slice Ay ny cy) ys) :
    Calls Tryz.prog 3 #[.slice A n c, .slice Ai ni ci, .slice Ac nc cc, .slice Ax nx cx, .slice Ay ny cy] w fun e w' => e = .returned (.bool true) ∧ Below w.heap.size w w' := by
  obtain ⟨f, hf⟩ := DepOk.exists l
  obtain ⟨sg, hsg⟩ : ∃ q, sameGs xs ys = q := ⟨_, rfl⟩
  have hG := sameGroups_any xs ys Ax Ay nx cx ny cy w w.heap.size (Nat.le_refl _) hx hy
  have HGR : Hid (∀ W, Below w.heap.size w W → Calls Tryz.prog 5 #[.slice Ax nx cx, .slice Ay ny cy] W fun e w' => e = .returned (.bool sg) ∧ Below W.heap.size W w') := fun W hW => by
    rw [← hsg]
    exact sameGroupsR_any xs ys Ax Ay nx cx ny cy W w.heap.size hW.size (hx.below hW) (hy.below hW)
  rw [hsg] at hG
  have HG1 := Lib.hid hG
  have hq : (sg != sg) = false := by cases sg <;> rfl
  have HTB := Lib.hid fun W (hW : Below w.heap.size w W) => table_any l f hf A n c ids Ai ni ci cols Ac nc cc W ((hb.below hW).more hW.size) ((hi.below hW).more hW.size) (by
    obtain ⟨A', n', c', k1, k2, k3, k4⟩ := hc.below hW
    exact ⟨A', n', c', k1, k2, k3, k4.more hW.size⟩)
  have HBE := Lib.hid fun W (hW : Below w.heap.size w W) => baseError_any l f A n c W w.heap.size hW.size (hb.below hW) hf
  obtain ⟨er, her⟩ : ∃ er, tabE l f ids cols = er := ⟨_, rfl⟩
  obtain ⟨tt, htt⟩ : ∃ tt, ids.map (rowL l f cols) = tt := ⟨_, rfl⟩
  obtain ⟨be, hbe⟩ : ∃ be, baseE l f = be := ⟨_, rfl⟩
  have HWT : Hid (wnt (wnt (if be = 0 then (if 2000 < ids.length ∨ 10 < cols.length then 4 else 0) else be) 7 (plcd l) ids) 3 isByL cols = er) := by
    show _ = er
    rw [← her, ← wnt_tab l f ids cols, hbe]
  have HOKE := Lib.hid fun (h : er = 0) => tabE_ok (her.trans h)
  have HGD : Hid (be = 0 → Good l f) := fun h => good_of (hbe.trans h) hf
  rw [her, htt] at HTB
  rw [hbe] at HBE HOKE
  have HTT := Lib.hid htt
  have HI := Lib.hid hi
  have HCO := Lib.hid hc
  have HB := Lib.hid hb
  have HNI := Lib.hid hi.len
  have HNC := Lib.hid hc.len
  have hbgi : ni * 8 ≤ 140737488351232 := hi.len.2.2
  have hbgc : nc * 16 ≤ 140737488351232 := hc.len.2.2
  clear hf hsg hG hx hy hi hc hb her hbe htt
  go_enter Tryz.func3, Tryz.ntmps3
  go_wp2_with fail
  refine HG1.out.mono ?_
  rintro e w1 ⟨rfl, hb1⟩
  have HB1 := Lib.hid hb1
  clear hb1
  go_wp2_with fail
  refine (HGR.out _ HB1.out).mono ?_
  rintro e w2 ⟨rfl, hb2⟩
  have HB2 : Hid (Below w.heap.size w w2) := HB1.out.trans (hb2.mono HB1.out.size)
  clear hb2
  go_wp2_with fail
  refine (HTB.out _ HB2.out).mono ?_
  intro e w3 h3
  obtain ⟨At, nt, ct, rfl, hnt, hrt, hb3⟩ := h3.open_
  have HB3 : Hid (Below w.heap.size w w3) := HB2.out.trans (hb3.mono HB2.out.size)
  have HNT := Lib.hid hnt
  have HRT := Lib.hid hrt
  clear hb3 hnt hrt h3 hq
  go_wp2_with fail
  refine (HBE.out _ HB3.out).mono ?_
  rintro e w4 ⟨rfl, hb4⟩
  have HB4 : Hid (Below w3.heap.size w3 w4) := hb4
  clear hb4
  go_upto_region 5 with fail
  obtain ⟨w0, hw0⟩ : ∃ w0, (if be = 0 then (if 2000 < ids.length ∨ 10 < cols.length then (4 : Int) else 0) else be) = w0 := ⟨_, rfl⟩
  have hwt := HWT.out
  rw [hw0] at hwt
  have HWT2 := Lib.hid hwt
  have HW0 := Lib.hid hw0
  clear HWT hw0 hwt
  go_cut [49] (fun s49 wc => ∃ q : Bool, s49 = .bool q ∧ Hid (q = decide (be = 0 ∧ (2000 < ids.length ∨ 10 < cols.length))) ∧ wc = w4)
  case first =>
    by_cases hb0 : be = 0
    · subst hb0
      by_cases h1 : 2000 < ids.length
      · have d1 : decide ((2000 : Int) < (ni : Int)) = true := decide_eq_true (by have := HNI.out.1; omega)
        have HQ : Hid (true = decide ((0 : Int) = 0 ∧ (2000 < ids.length ∨ 10 < cols.length))) := (decide_eq_true ⟨rfl, .inl h1⟩).symm
        clear h1
        go_wp2_with fail
        go_meet
        exact ⟨true, rfl, HQ, rfl⟩
      · have d1 : decide ((2000 : Int) < (ni : Int)) = false := decide_eq_false (by have := HNI.out.1; omega)
        obtain ⟨q2, hq2⟩ : ∃ q, decide ((10 : Int) < (nc : Int)) = q := ⟨_, rfl⟩
        have HQ : Hid (q2 = decide ((0 : Int) = 0 ∧ (2000 < ids.length ∨ 10 < cols.length))) := by
          show q2 = _
          rw [← hq2, Bool.eq_iff_iff, decide_eq_true_iff, decide_eq_true_iff]
          have := HNC.out.1
          exact ⟨fun h => ⟨rfl, .inr (by omega)⟩, fun h => by rcases h.2 with h | h <;> omega⟩
        clear h1
        cases q2
        · go_wp2_with fail
          go_meet
          exact ⟨false, rfl, HQ, rfl⟩
        · go_wp2_with fail
          go_meet
          exact ⟨true, rfl, HQ, rfl⟩
    · have e1 : (be == 0) = false := by simpa using hb0
      have HQ : Hid (false = decide (be = 0 ∧ (2000 < ids.length ∨ 10 < cols.length))) := (decide_eq_false fun h => hb0 h.1).symm
      clear hb0
      go_wp2_with fail
      go_meet
      exact ⟨false, rfl, HQ, rfl⟩
  case rest =>
  obtain ⟨q, rfl, hq, rfl⟩ := hcut
  go_upto_if 49 with fail
  go_cut [13] (fun s13 wy => s13 = .int .i64 w0 ∧ wy = wc)
  case first =>
    cases q
    · have HE : Hid (w0 = be) := by
        show w0 = be
        rw [← HW0.out]
        by_cases h : be = 0
        · rw [if_pos h, if_neg (fun k => of_decide_eq_false hq.out.symm ⟨h, k⟩), h]
        · rw [if_neg h]
      go_wp2_with fail
      go_meet
      exact ⟨by rw [HE.out], rfl⟩
    · have HE : Hid (w0 = 4) := by
        show w0 = 4
        have h := of_decide_eq_true hq.out.symm
        rw [← HW0.out, if_pos h.1, if_pos h.2]
      go_wp2_with fail
      go_meet
      exact ⟨by rw [HE.out], rfl⟩
  case rest =>
  obtain ⟨rfl, rfl⟩ := hcut
  have HW0B : Hid (w0 = 0 → be = 0) := fun h => by
    have e := HW0.out
    by_cases hb : be = 0
    · exact hb
    · rw [if_neg hb] at e; exact absurd (e.trans h) hb
  clear hq
  obtain ⟨W4, rfl⟩ : ∃ W4, W4 = wc := ⟨_, rfl⟩
  have HB40 : Hid (Below w.heap.size w W4) := HB3.out.trans (HB4.out.mono HB3.out.size)
  go_wp2_with fail
  go_loopg [13, 52] ni (fun gg s13 s52 wr => ∃ k : Nat, k + gg = ni ∧ s52 = .int .i64 (k : Int) ∧ s13 = .int .i64 (wnt w0 7 (plcd l) (ids.take k)) ∧ Hid (Below W4.heap.size W4 wr))
  case atStart => exact ⟨0, by omega, rfl, by rw [List.take_zero, wnt_nil], Below.refl _ _⟩
  case round =>
  obtain ⟨k, hkg, rfl, rfl, hbel⟩ := hrel
  have hbw : Below w.heap.size w wr := HB40.out.trans (hbel.out.mono HB40.out.size)
  have HBW := Lib.hid hbw
  by_cases hk : k < ni
  · obtain ⟨x, hx⟩ : ∃ x, ids[k]? = some x := ⟨_, List.getElem?_eq_getElem (by have := HNI.out.1; omega)⟩
    obtain ⟨b, off, rfl, hbb, hcl⟩ := HI.out.at_ hx
    have hcl' := (hbw.cell (p := ⟨b, off + k, none⟩) hbb).trans hcl
    have HTK : Hid (ids.take (k + 1) = ids.take k ++ [x]) := by show _ = _; rw [List.take_add_one, hx]; rfl
    obtain ⟨wk, hwk⟩ : ∃ wk, wnt w0 7 (plcd l) (ids.take k) = wk := ⟨_, rfl⟩
    have HWK := Lib.hid hwk
    rw [hwk]
    have j0 : (0 : Int) ≤ (k : Int) := by omega
    have j1 : (k : Int) < (ni : Int) := by omega
    obtain ⟨wa, hwa⟩ : ∃ wa, wa = wr.alloc (.cells #[.int .i64 x] 3) := ⟨_, rfl⟩
    have hal : Below wr.heap.size wr wa := by rw [hwa]; exact (Below.refl _ _).alloc (Nat.le_refl _) _
    have q0 : Blk wa wr.heap.size 3 #[.int .i64 x] := by rw [hwa]; exact Blk.new _ _ _
    have c0 : wa.cell? ⟨wr.heap.size, 0, none⟩ = some (.int .i64 x) := q0.cell 0
    have HBA : Hid (Below W4.heap.size W4 wa) := hbel.out.trans (hal.mono hbel.out.size)
    have HBWA : Hid (Below w.heap.size w wa) := hbw.trans (hal.mono hbw.size)
    have HQ0 := Lib.hid q0
    have HWA := Lib.hid hwa
    clear hx hbb hcl hwk hwa hal q0 hbw
    go_upto_region 10 with fail
    rw [← HWA.out]
    clear hcl'
    by_cases hz : wk = 0
    · subst hz
      have hG := HGD.out (HW0B.out (wnt_zero HWK.out))
      have HN : Hid (wnt w0 7 (plcd l) (ids.take (k + 1)) = if plcd l x then 0 else 7) := by show _ = _; rw [HTK.out]; exact wnt_ok (by decide) HWK.out
      have HPE := Lib.hid (plcd_eq hG x)
      by_cases hx0 : x = 0
      · subst hx0
        have HN7 : Hid (wnt w0 7 (plcd l) (ids.take (k + 1)) = 7) := by show _ = _; rw [HN.out, HPE.out]; rfl
        go_wp2_with fail
        go_roundg (ni - (k + 1))
        case measure => omega
        case rel => exact ⟨k + 1, by omega, by go_num, by rw [HN7.out], HBA⟩
      · have e2 : (x == 0) = false := by simpa using hx0
        have HCF := Lib.hid (containsF_any 9 tables1_any (Go.Proofs.enters_of Tryz.func9 (by kernel_rfl) rfl) l A n c wr.heap.size x wa w.heap.size HBWA.out.size (HQ0.out.lt) c0 (HB.out.below HBWA.out))
        obtain ⟨q, hq⟩ : ∃ q, decide (0 ≤ posOf l x) = q := ⟨_, rfl⟩
        rw [hq] at HCF
        have HN7 : Hid (wnt w0 7 (plcd l) (ids.take (k + 1)) = if q then 0 else 7) := by show _ = _; rw [HN.out, HPE.out, hq, e2]; rfl
        clear hx0 hq HN HPE hG
        go_wp2_with fail
        refine HCF.out.mono ?_
        rintro e w5 ⟨rfl, hb5⟩
        have HB5 : Hid (Below W4.heap.size W4 w5) := HBA.out.trans (hb5.mono HBA.out.size)
        clear hb5
        cases q
        · go_wp2_with fail
          go_roundg (ni - (k + 1))
          case measure => omega
          case rel => exact ⟨k + 1, by omega, by go_num, by rw [HN7.out]; rfl, HB5⟩
        · go_wp2_with fail
          go_roundg (ni - (k + 1))
          case measure => omega
          case rel => exact ⟨k + 1, by omega, by go_num, by rw [HN7.out]; rfl, HB5⟩
    · have e1 : (wk == 0) = false := by simpa using hz
      have HN7 : Hid (wnt w0 7 (plcd l) (ids.take (k + 1)) = wk) := by show _ = _; rw [HTK.out, wnt_bad (by decide) (by rw [HWK.out]; exact hz), HWK.out]
      clear hz
      go_wp2_with fail
      go_roundg (ni - (k + 1))
      case measure => omega
      case rel => exact ⟨k + 1, by omega, by go_num, by rw [HN7.out], HBA⟩
  obtain rfl : ni = k := by omega
  rw [show ids.take ni = ids from List.take_of_length_le (by rw [← HNI.out.1]; exact Nat.le_refl _)]
  obtain ⟨w1', hw1⟩ : ∃ w1', wnt w0 7 (plcd l) ids = w1' := ⟨_, rfl⟩
  rw [hw1]
  have hwt := HWT2.out
  rw [hw1] at hwt
  have HWT3 := Lib.hid hwt
  clear hw1 hwt HWT2 hbw
  obtain ⟨W5, rfl⟩ : ∃ W5, W5 = wr := ⟨_, rfl⟩
  go_wp2_with fail
  go_loopg [13, 71] nc (fun gg s13 s71 wy => ∃ k : Nat, k + gg = nc ∧ s71 = .int .i64 (k : Int) ∧ s13 = .int .i64 (wnt w1' 3 isByL (cols.take k)) ∧ wy = W5)
  case atStart => exact ⟨0, by omega, rfl, by rw [List.take_zero, wnt_nil], rfl⟩
  case round =>
  obtain ⟨k, hkg, rfl, rfl, rfl⟩ := hrel
  by_cases hk : k < nc
  · obtain ⟨x, hx⟩ : ∃ x, cols[k]? = some x := ⟨_, List.getElem?_eq_getElem (by have := HNC.out.1; omega)⟩
    obtain ⟨b, off, rfl, hbb, hcl⟩ := HCO.out.at_ hx
    have hcl' := (HBW.out.cell (p := ⟨b, off + k, none⟩) hbb).trans hcl
    have HTK : Hid (cols.take (k + 1) = cols.take k ++ [x]) := by show _ = _; rw [List.take_add_one, hx]; rfl
    obtain ⟨wk, hwk⟩ : ∃ wk, wnt w1' 3 isByL (cols.take k) = wk := ⟨_, rfl⟩
    have HWK := Lib.hid hwk
    rw [hwk]
    have j0 : (0 : Int) ≤ (k : Int) := by omega
    have j1 : (k : Int) < (nc : Int) := by omega
    have HSE := Lib.hid (sortError_any x wr)
    clear hx hbb hcl hwk
    by_cases hz : wk = 0
    · subst hz
      have HN : Hid (wnt w1' 3 isByL (cols.take (k + 1)) = sortE x) := by show _ = _; rw [HTK.out]; exact wnt_ok (by decide) HWK.out
      go_wp2_with fail
      refine HSE.out.mono ?_
      rintro e w5 ⟨rfl, rfl⟩
      go_wp2_with fail
      go_roundg (nc - (k + 1))
      case measure => omega
      case rel => exact ⟨k + 1, by omega, by go_num, by rw [HN.out], rfl⟩
    · have e1 : (wk == 0) = false := by simpa using hz
      have HN7 : Hid (wnt w1' 3 isByL (cols.take (k + 1)) = wk) := by show _ = _; rw [HTK.out, wnt_bad (by decide) (by rw [HWK.out]; exact hz), HWK.out]
      clear hz
      go_wp2_with fail
      go_roundg (nc - (k + 1))
      case measure => omega
      case rel => exact ⟨k + 1, by omega, by go_num, by rw [HN7.out], rfl⟩
  obtain rfl : nc = k := by omega
  rw [show cols.take nc = cols from List.take_of_length_le (by rw [← HNC.out.1]; exact Nat.le_refl _), HWT3.out]
  clear HWT3
  by_cases h0 : er = 0
  case neg =>
    obtain rfl : nt = 0 := HNT.out h0
    have e1 : (er == er) = true := beq_self_eq_true er
    have e2 : (er != 0) = true := by simpa using h0
    clear h0
    go_wp2_with fail
    go_ret
    exact ⟨rfl, HBW.out⟩
  obtain rfl := h0
  have hrt := HRT.out rfl
  obtain ⟨hbe0, hall, h2000, h10⟩ := HOKE.out rfl
  have HG := Lib.hid (HGD.out hbe0)
  have HALL := Lib.hid hall
  obtain rfl : nt = ni := by
    have := hrt.len
    rw [← HTT.out, List.length_map] at this
    rw [this, HNI.out.1]
  have HB34 : Hid (Below w3.heap.size w3 wr) := HB4.out.trans (hbel.out.mono HB4.out.size)
  have HZ3 := HB34.out.size
  have HZ0 := HBW.out.size
  have HRT5 : Hid (RTab wr (fun b => w2.heap.size ≤ b ∧ b < w3.heap.size) (.slice At nt ct) tt) := hrt.keep fun p hp => HB34.out.cell hp.2
  have hni : nt ≤ 2000 := by have := HNI.out.1; omega
  have hnc : nc ≤ 10 := by have := HNC.out.1; omega
  clear hrt hbe0 hall h2000 h10 HRT HNT
  obtain ⟨W6, rfl⟩ : ∃ W6, W6 = wr := ⟨_, rfl⟩
  go_wp2_with fail
  go_loopg [101] nt (fun gg s101 wx => ∃ i : Nat, i + gg = nt ∧ s101 = .int .i64 (i : Int) ∧ Hid (Below W6.heap.size W6 wx))
  case atStart => exact ⟨0, by omega, rfl, Below.refl _ _⟩
  case round =>
  obtain ⟨i, hig, rfl, hbl⟩ := hrel
  have HBW7 : Hid (Below w.heap.size w wr) := HBW.out.trans (hbl.out.mono HZ0)
  by_cases hii : i < nt
  case neg =>
    obtain rfl : nt = i := by omega
    go_wp2_with fail
    go_ret
    exact ⟨rfl, HBW7.out⟩
  obtain ⟨x, hx⟩ : ∃ x, ids[i]? = some x := ⟨_, List.getElem?_eq_getElem (by have := HNI.out.1; omega)⟩
  obtain ⟨b, off, rfl, hbb, hcl⟩ := HI.out.at_ hx
  have hcl' := (HBW7.out.cell (p := ⟨b, off + i, none⟩) hbb).trans hcl
  have hxo : x ∈ ord l 41 0 := by
    have := List.all_eq_true.1 HALL.out x (List.mem_of_getElem? hx)
    exact of_decide_eq_true this
  obtain ⟨d, p, bb, hd, hd40, hlp, hbi, hpo, _⟩ := plc_blk HG.out hxo
  have hdp := dpI_of HG.out hd
  have hrow : tt[i]? = some (cols.map (cellV bb (dpI f x))) := by
    rw [← HTT.out, List.getElem?_map, hx]
    exact congrArg some (rowL_of hpo hlp)
  rw [hdp] at hrow
  obtain ⟨tb, tq, Ar, nr, cr, rfl, htb, htc, hrv⟩ := (HRT5.out.keep (w' := wr) (fun p hp => hbl.out.cell (Nat.lt_of_lt_of_le hp.2 HZ3))).at_ (B := w3.heap.size) (fun b hb => hb.2) hrow
  obtain rfl : nr = nc := by
    have := hrv.len_.1
    rw [List.length_map] at this
    rw [this, HNC.out.1]
  have HRW := Lib.hid hrv
  have HCE := Lib.hid fun (u : ByteArray) (W : World) (hW : Below w.heap.size w W) => cellOf_any l HG.out.kids A n c x p bb u d w.heap.size W hW.size (HB.out.below hW) hd hd40 hlp hbi (good_text HG.out bb (List.mem_of_getElem? hlp))
  have j0 : (0 : Int) ≤ (i : Int) := by omega
  have j1 : (i : Int) < (nt : Int) := by omega
  have hzz := hbl.out.size
  have htw : tb < wr.heap.size := by omega
  clear hx hbb hcl hxo hd hlp hbi hpo hdp hrow hrv
  obtain ⟨W7, rfl⟩ : ∃ W7, W7 = wr := ⟨_, rfl⟩
  go_wp2_with fail
  go_loopg [116] nr (fun gg s116 wx => ∃ k : Nat, k + gg = nr ∧ s116 = .int .i64 (k : Int) ∧ Hid (Below W7.heap.size W7 wx))
  case atStart => exact ⟨0, by omega, rfl, Below.refl _ _⟩
  case round =>
  obtain ⟨k, hkg, rfl, hbk⟩ := hrel
  have HZ7 := HBW7.out.size
  have HBW8 : Hid (Below w.heap.size w wr) := HBW7.out.trans (hbk.out.mono HZ7)
  by_cases hk : k < nr
  case neg =>
    obtain rfl : nr = k := by omega
    go_wp2_with fail
    go_roundg (nt - (i + 1))
    case measure => omega
    case rel => exact ⟨i + 1, by omega, by go_num, hbl.out.trans (hbk.out.mono hzz)⟩
  obtain ⟨y, hy⟩ : ∃ y, cols[k]? = some y := ⟨_, List.getElem?_eq_getElem (by have := HNC.out.1; omega)⟩
  obtain ⟨b2, off2, rfl, hbb2, hcl2⟩ := HCO.out.at_ hy
  have hcl2' := (HBW8.out.cell (p := ⟨b2, off2 + k, none⟩) hbb2).trans hcl2
  have hval : (cols.map (cellV bb (d : Int)))[k]? = some (cellV bb (d : Int) y) := by rw [List.getElem?_map, hy]; rfl
  obtain ⟨v, hv⟩ : ∃ v, cellV bb (d : Int) y = v := ⟨_, rfl⟩
  rw [hv] at hval
  obtain ⟨rb, ro, Av, nv, cv, rfl, hrb, g0, g1, g2, g3, g4, hvi⟩ := (RV.below (W' := wr) HRW.out (hbk.out.mono (by omega))).at_ hval
  have htc' : wr.cell? ⟨tb, tq + i, none⟩ = some (.slice (some ⟨rb, ro, none⟩) nr cr) := (hbk.out.cell (p := ⟨tb, tq + i, none⟩) htw).trans htc
  have hzk := hbk.out.size
  have hrw : rb < wr.heap.size := by omega
  have htw' : tb < wr.heap.size := by omega
  have HCY : Hid (∀ W, Below wr.heap.size wr W → Calls Tryz.prog 12 #[.slice A n c, .int .i64 x, .string y] W (ValR1 v W)) := fun W hW => by
    rw [← hv]
    exact HCE.out y W (HBW8.out.trans (hW.mono HBW8.out.size))
  have HSV : Hid (∀ (W : World) (A' : Option Addr) (n' c' : Nat), Below wr.heap.size wr W → RV W W.heap.size (.slice A' n' c') v.items → Calls Tryz.prog 11 #[AV (v, .slice Av nv cv), AV (v, .slice A' n' c')] W fun e w' => e = .returned (.bool true) ∧ Below W.heap.size W w') := fun W A' n' c' hW hr => by
    have := sameRef_at v v Av A' nv cv n' c' W W.heap.size (Nat.le_refl _) ((hvi.below (hW.mono (by omega))).more (by have := hW.size; omega)) hr
    rw [sameV_refl] at this
    exact this
  dsimp only [AV] at HSV
  have i0' : (0 : Int) ≤ (k : Int) := by omega
  have i1' : (k : Int) < (nr : Int) := by omega
  clear hy hbb2 hcl2 hval hv hvi
  go_upto_region 31 with fail
  clear hcl2'
  go_region_held3 (fun w' => w'.cell? ⟨tb, tq + i, none⟩ = some (.slice (some ⟨rb, ro, none⟩) nr cr) ∧ w'.cell? ⟨rb, ro + k * 5, none⟩ = some (.int .i64 v.kind) ∧ w'.cell? ⟨rb, ro + k * 5 + 1, none⟩ = some (.int .i64 v.int_) ∧ w'.cell? ⟨rb, ro + k * 5 + 2, none⟩ = some (.int .i64 v.to_) ∧ w'.cell? ⟨rb, ro + k * 5 + 3, none⟩ = some (.string v.text) ∧ w'.cell? ⟨rb, ro + k * 5 + 4, none⟩ = some (.slice Av nv cv))
    (first | exact ⟨htc', g0, g1, g2, g3, g4⟩ | exact ⟨kp _ _ _ htw' htc', kp _ _ _ hrw g0, kp _ _ _ hrw g1, kp _ _ _ hrw g2, kp _ _ _ hrw g3, kp _ _ _ hrw g4⟩)
    (first
      | (go_at_call 12; refine (HCY.out _ (Below.refl _ _).drew).mono ?_; rintro e w8 ⟨⟨A', n', c', rfl, hrv⟩, hb8⟩; have hb8 : Below wr.heap.size wr w8 := (Below.refl wr.heap.size wr).drew.trans hb8; have kp : ∀ (bb oo : Nat) (u : Value), bb < wr.heap.size → wr.cell? ⟨bb, oo, none⟩ = some u → w8.cell? ⟨bb, oo, none⟩ = some u := fun bb oo u h1 h2 => (hb8.cell (p := ⟨bb, oo, none⟩) h1).trans h2; have HB8 := Lib.hid hb8; have HRV := Lib.hid (hrv.reads (B := w8.heap.size) fun b hb => hb.2); clear hb8 hrv; (try dsimp only [AV]))
      | (go_at_call 11; refine (HSV.out _ _ _ _ HB8.out HRV.out).mono ?_; rintro e w9 ⟨rfl, hb9⟩; have HB9 : Hid (Below wr.heap.size wr w9) := HB8.out.trans (hb9.mono HB8.out.size); clear kp; have kp : ∀ (bb oo : Nat) (u : Value), bb < wr.heap.size → wr.cell? ⟨bb, oo, none⟩ = some u → w9.cell? ⟨bb, oo, none⟩ = some u := fun bb oo u h1 h2 => (HB9.out.cell (p := ⟨bb, oo, none⟩) h1).trans h2; clear hb9))
  clear kp
  clear g0 g1 g2 g3 g4 htc'
  have HB10 : Hid (Below W7.heap.size W7 w9) := hbk.out.trans (HB9.out.mono hzk)
  go_wp2_with fail
  go_roundg (nr - (k + 1))
  case measure => omega
  case rel => exact ⟨k + 1, by omega, by go_num, HB10⟩
end Go.Proofs.YtemngidkfgcigaaGreatDoor
