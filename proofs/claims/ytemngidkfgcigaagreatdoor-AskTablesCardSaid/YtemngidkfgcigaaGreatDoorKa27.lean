/-
  DERIVED. The walk of the reference's BaseError. Conditions: sizes.
  By an AI agent.
-/
import Derived.Test.YtemngidkfgcigaaGreatDoorKa23
import Derived.Test.YtemngidkfgcigaaGreatDoorKa17
import Derived.Deep.RegionHeld3
namespace Go.Proofs.YtemngidkfgcigaaGreatDoor
open Go.RowKit

theorem ints_zero (n : Nat) : madeCells #[.int .i64 0] n = ints (List.replicate n 0) := by
  unfold ints
  apply Array.ext
  · simp [size_madeCells]
  · intro i h1 h2
    simp [madeCells, Nat.mod_one]
theorem run_ints (w : World) (n : Nat) (hn : n ≤ 4294967290) : (Instr.makeSlice 23 (.int .i64 (n : Int)) (.int .i64 (n : Int))).run Tryz.prog w = .ok (.slice (some ⟨w.heap.size, 0, none⟩) n n) (w.alloc (.cells (ints (List.replicate n 0)) 3)) := by
  obtain ⟨i0, hi, hz0, hz1, hz2⟩ := info_parts (by kernel_rfl : (Tryz.prog.info? 3).map (fun i => (i.zero, i.size, i.bytes)) = some (some (.int .i64 0), 1, 8))
  have h := run_make (P := Tryz.prog) w 23 3 i0 (.int .i64 0) Tryz.underlying23 hi hz0 .i64 .i64 n n (by omega) (Int.le_refl _) (by rw [hz2]; omega) (by omega)
  rw [hz1] at h
  rw [← ints_zero]
  simpa [Value.cells] using h

set_option maxRecDepth 100000 in
set_option maxHeartbeats 8000000 in
/-- the reference's BaseError -/
theorem baseError_any (l : List Bl) (f : Int → Option Int) (A : Option Addr) (n c : Nat) (w : World) (B : Nat) (hB : B ≤ w.heap.size) (h : RB w B (.slice A n c) l) (hf : DepOk l f) :
    Calls Tryz.prog 7 #[.slice A n c] w fun e w' => e = .returned (.int .i64 (baseE l f)) ∧ Below w.heap.size w w' := by
  obtain ⟨V, hV⟩ : ∃ V, V = baseE l f := ⟨_, rfl⟩
  rw [← hV]
  unfold baseE at hV
  have hn := h.len
  rw [← hn.1] at hV
  by_cases h0 : n = 0
  · subst h0
    rw [if_pos rfl] at hV
    subst hV
    clear h hn hf
    go_enter Tryz.func7, Tryz.ntmps7
    go_wp2_with fail
    go_ret
    exact ⟨rfl, Below.refl _ _⟩
  rw [if_neg h0] at hV
  have h0' : ((n : Int) == 0) = false := by simpa using h0
  by_cases h1 : 2000 < n
  · rw [if_pos h1] at hV
    have h1' : (2000 : Int) < (n : Int) := by omega
    subst hV
    clear h hn hf h0 h1
    go_enter Tryz.func7, Tryz.ntmps7
    go_wp2_with fail
    go_ret
    exact ⟨rfl, Below.refl _ _⟩
  rw [if_neg h1] at hV
  have h1' : ¬ (2000 : Int) < (n : Int) := by omega
  have HAT := Lib.hid fun (id : Int) (W : World) (hW : Below w.heap.size w W) => at_any l A n c id W B (Nat.le_trans hB hW.size) (h.below (hW.mono hB))
  have HCP := Lib.hid fun (v : Value) (ps : List Pr) (W : World) (hp : RPr w B v ps) (hW : Below w.heap.size w W) => checkProps_any v ps W B (Nat.le_trans hB (Below.size hW)) (hp.below (Below.mono hW hB))
  have HIR := Lib.hid fun (a : Int) (W : World) => inRange_any a 1 1000000 W
  have HTX := Lib.hid fun (s : ByteArray) (W : World) => textError_any s W
  have H := Lib.hid h
  have HN := Lib.hid hn
  have HV := Lib.hid hV
  have HF := Lib.hid hf
  have H0 := Lib.hid h0
  have H1 := Lib.hid h1
  obtain ⟨U, hU⟩ : ∃ U, U = blksErr none l := ⟨_, rfl⟩
  rw [← hU] at HV
  have HU : Hid (U = blksErr (prevB l 0) (l.drop 0)) := hU
  have HU0 : Hid (U = 0 → blksErr none l = 0) := fun e => hU.symm.trans e
  clear h hn hV hf h0 hU
  go_enter Tryz.func7, Tryz.ntmps7
  go_wp2_with fail
  go_loopg [24] n (fun gg s24 wr => ∃ i : Nat, i + gg = n ∧ s24 = .int .i64 (i : Int) ∧ Hid (U = blksErr (prevB l i) (l.drop i)) ∧ Hid (Below w.heap.size w wr))
  case atStart => exact ⟨0, by omega, rfl, HU, Below.refl _ _⟩
  case round =>
    obtain ⟨k, hig, rfl, hno, hbel⟩ := hrel
    obtain ⟨W1, rfl⟩ : ∃ W1, W1 = wr := ⟨_, rfl⟩
    have hbg : n * 80 ≤ 140737488351232 := HN.out.2.2
    by_cases hk : k < n
    case pos =>
      obtain ⟨x, hx⟩ : ∃ x, l[k]? = some x := ⟨_, List.getElem?_eq_getElem (by have := HN.out.1; omega)⟩
      have hst := hno.out.trans (blksErr_at hx)
      obtain ⟨b, off, Ak, nk, ck, Ap, np, cp, rfl, hbb, g0, g1, g2, g3, g4, hK, hP⟩ := H.out.at_ hx
      have g0 := (hbel.out.cell (p := ⟨b, off + k * 5, none⟩) (by show b < _; omega)).trans g0
      have g1 := (hbel.out.cell (p := ⟨b, off + k * 5 + 1, none⟩) (by show b < _; omega)).trans g1
      have g2 := (hbel.out.cell (p := ⟨b, off + k * 5 + 2, none⟩) (by show b < _; omega)).trans g2
      have g3 := (hbel.out.cell (p := ⟨b, off + k * 5 + 3, none⟩) (by show b < _; omega)).trans g3
      have g4 := (hbel.out.cell (p := ⟨b, off + k * 5 + 4, none⟩) (by show b < _; omega)).trans g4
      have hk1 := hK.len
      have hp1 : np = x.props.length := by
        obtain ⟨A', n', c', M, e1, e, e2, _⟩ := hP
        injection e with _ e3
        rw [e3, e2, ← e1, List.length_map]
      have HST := Lib.hid hst
      have j0 : (0 : Int) ≤ (k : Int) := by omega
      have j1 : (k : Int) < (n : Int) := by omega
      obtain ⟨E, hE⟩ : ∃ E, E = blkErr (prevB l k) x := ⟨_, rfl⟩
      rw [← hE] at HST
      unfold blkErr at hE
      rw [← hk1.1] at hE
      obtain ⟨r1, hr1⟩ : ∃ r, r = rngB (prevB l k) x := ⟨_, rfl⟩
      obtain ⟨r2, hr2⟩ : ∃ r, r = ordB (prevB l k) x := ⟨_, rfl⟩
      obtain ⟨r3, hr3⟩ : ∃ r, r = rootB (prevB l k) x := ⟨_, rfl⟩
      rw [← hr1, ← hr2, ← hr3] at hE
      -- an error of this block is the answer
      have HBAD : Hid (E ≠ 0 → V = E) := fun he => by
        have hs := HST.out.trans (if_pos he)
        exact HV.out.trans ((if_pos (by rw [hs]; exact he)).trans hs)
      have HE := Lib.hid hE
      have R1 := Lib.hid hr1
      have R2 := Lib.hid hr2
      have R3 := Lib.hid hr3
      have HPL := Lib.hid hp1
      have HPP := Lib.hid hP
      have HX := Lib.hid hx
      have HNX : Hid (E = 0 → U = blksErr (prevB l (k + 1)) (l.drop (k + 1))) := fun he => HST.out.trans (if_neg (fun h => h he))
      have hkb := hk1.2
      clear hst hE hr1 hr2 hr3 hx hK hP hk1 hp1 HST
      obtain ⟨wa, hwa⟩ : ∃ wa, wa = W1.alloc (.cells #[.int .i64 x.id, .int .i64 x.parent, .slice Ak nk ck, .string x.text, .slice Ap np cp] 35) := ⟨_, rfl⟩
      have HBA : Hid (Below w.heap.size w wa) := by rw [hwa]; exact hbel.out.alloc hbel.out.size _
      have p0 : Blk wa W1.heap.size 35 #[.int .i64 x.id, .int .i64 x.parent, .slice Ak nk ck, .string x.text, .slice Ap np cp] := by rw [hwa]; exact Blk.new W1 _ _
      have m0 : wa.cell? ⟨W1.heap.size, 0, none⟩ = some (.int .i64 x.id) := p0.cell 0
      have m1 : wa.cell? ⟨W1.heap.size, 1, none⟩ = some (.int .i64 x.parent) := p0.cell 1
      have m2 : wa.cell? ⟨W1.heap.size, 2, none⟩ = some (.slice Ak nk ck) := p0.cell 2
      have m3 : wa.cell? ⟨W1.heap.size, 3, none⟩ = some (.string x.text) := p0.cell 3
      have m4 : wa.cell? ⟨W1.heap.size, 4, none⟩ = some (.slice Ap np cp) := p0.cell 4
      have HWA := Lib.hid hwa
      clear p0 hwa
      go_upto_region 8 with fail
      rw [← HWA.out]
      clear g0 g1 g2 g3 g4
      go_cut [45] (fun s45 wc => s45 = .bool r1 ∧ wa = wc)
      case first =>
        rcases k with _ | j
        · have e := R1.out
          rw [show prevB l 0 = none from rfl] at e
          unfold rngB at e
          dsimp only at e
          obtain ⟨q1, hq1⟩ : ∃ q, (x.id != 0) = q := ⟨_, rfl⟩
          rw [hq1] at e
          subst e
          cases r1
          all_goals
            go_wp2_with fail
            go_meet
            exact ⟨rfl, rfl⟩
        · have hj : j < l.length := by have := (List.getElem?_eq_some_iff.1 HX.out).1; omega
          have e := R1.out
          rw [prevB_succ (List.getElem?_eq_getElem hj)] at e
          unfold rngB at e
          dsimp only at e
          have z0 : ¬ ((j + 1 : Nat) : Int) = 0 := by omega
          have z1 : (0 : Int) < ((j + 1 : Nat) : Int) := by omega
          have z2 : (((j + 1 : Nat) : Int) == 0) = false := by simpa using z0
          have HIX := HIR.out x.id wa
          have eq1 : decide (1 ≤ x.id ∧ x.id ≤ 1000000) = !r1 := by
            rw [e, Bool.eq_iff_iff]
            simp
          rw [eq1] at HIX
          have HIX := Lib.hid HIX
          clear e eq1
          go_wp2_with fail
          refine HIX.out.mono ?_
          rintro e' w2 ⟨rfl, rfl⟩
          cases r1
          all_goals
            go_wp2_with fail
            go_meet
            exact ⟨rfl, rfl⟩
      case rest =>
      obtain ⟨rfl, rfl⟩ := hcut
      cases r1
      case true =>
        have he : E = 2 := HE.out.trans (if_pos rfl)
        have HZ := Lib.hid ((HBAD.out (by omega)).trans he)
        clear he
        go_wp2_with fail
        go_ret
        exact ⟨by rw [HZ.out]; rfl, HBA.out⟩
      have HE2 := Lib.hid (HE.out.trans (if_neg (by decide)))
      clear HE
      go_upto_region 10 with fail
      go_cut [58] (fun s58 wc => s58 = .bool r2 ∧ ∃ q, wc = wa.drewN q)
      case first =>
        rcases k with _ | j
        · obtain rfl : r2 = false := R2.out
          have jz : ¬ (0 : Int) < ((0 : Nat) : Int) := by omega
          go_quiet (fail)
          go_wp2_with fail
          go_meet
          exact ⟨rfl, _, rfl⟩
        · have hj : j < l.length := by have := (List.getElem?_eq_some_iff.1 HX.out).1; omega
          have hy := List.getElem?_eq_getElem hj
          obtain ⟨y, hyy⟩ : ∃ y, y = l[j] := ⟨_, rfl⟩
          rw [← hyy] at hy
          have e := R2.out
          rw [prevB_succ hy] at e
          unfold ordB at e
          dsimp only at e
          obtain ⟨b', off', Ak', nk', ck', Ap', np', cp', e2, hbb', k0, _⟩ := H.out.at_ hy
          obtain ⟨rfl, rfl⟩ : b = b' ∧ off = off' := by injection e2 with e; injection e with e1 e2; exact ⟨e1, e2⟩
          have k0 := (HBA.out.cell (p := ⟨b, off + j * 5, none⟩) (by show b < _; omega)).trans k0
          have jz : (0 : Int) < ((j + 1 : Nat) : Int) := by omega
          have jw : IntKind.i64.wrap (j : Int) = (j : Int) := IntWalk.i64_in _ (by omega)
          have jn : (j : Int) < (n : Int) := by omega
          have jp : (0 : Int) ≤ (j : Int) := by omega
          obtain ⟨q1, hq1⟩ : ∃ q, decide (x.id ≤ y.id) = q := ⟨_, rfl⟩
          rw [hq1] at e
          subst e
          clear hyy hy e2
          cases r2
          · have hq1 := of_decide_eq_false hq1
            go_quiet (fail)
            go_wp2_with fail
            go_meet
            exact ⟨rfl, _, rfl⟩
          · have hq1 := of_decide_eq_true hq1
            go_quiet (fail)
            go_wp2_with fail
            go_meet
            exact ⟨rfl, _, rfl⟩
      case rest =>
      obtain ⟨rfl, q, rfl⟩ := hcut
      have HBQ : Hid (Below w.heap.size w (wa.drewN q)) := bdrew HBA.out _
      cases r2
      case true =>
        have he : E = 5 := HE2.out.trans (if_pos rfl)
        have HZ := Lib.hid ((HBAD.out (by omega)).trans he)
        clear he
        go_wp2_with fail
        go_ret
        exact ⟨by rw [HZ.out]; rfl, HBQ.out⟩
      have HE3 := Lib.hid (HE2.out.trans (if_neg (by decide)))
      clear HE2
      go_upto_region 12 with fail
      go_cut [76] (fun s76 wc => s76 = .bool r3 ∧ wc = wa.drewN q)
      case first =>
        rcases k with _ | j
        · have e := R3.out
          rw [show prevB l 0 = none from rfl] at e
          unfold rootB at e
          dsimp only at e
          rw [← HPL.out] at e
          obtain ⟨q1, hq1⟩ : ∃ q, (!x.text.toList.isEmpty) = q := ⟨_, rfl⟩
          obtain ⟨q2, hq2⟩ : ∃ q, decide (0 < np) = q := ⟨_, rfl⟩
          obtain ⟨q3, hq3⟩ : ∃ q, (x.parent != 0) = q := ⟨_, rfl⟩
          rw [hq1, hq2, hq3] at e
          have hq2' : decide ((0 : Int) < (np : Int)) = q2 := by rw [← hq2, Bool.eq_iff_iff, decide_eq_true_iff, decide_eq_true_iff]; omega
          subst e
          clear HE3
          cases q1 <;> cases q2 <;> cases q3
          all_goals
            go_wp2_with fail
            go_meet
            exact ⟨rfl, rfl⟩
        · have hj : j < l.length := by have := (List.getElem?_eq_some_iff.1 HX.out).1; omega
          have e := R3.out
          rw [prevB_succ (List.getElem?_eq_getElem hj)] at e
          obtain rfl : r3 = false := e
          have z0 : ¬ ((j + 1 : Nat) : Int) = 0 := by omega
          have z2 : (((j + 1 : Nat) : Int) == 0) = false := by simpa using z0
          go_wp2_with fail
          go_meet
          exact ⟨rfl, rfl⟩
      case rest =>
      obtain ⟨rfl, rfl⟩ := hcut
      cases r3
      case true =>
        have he : E = 1 := HE3.out.trans (if_pos rfl)
        have HZ := Lib.hid ((HBAD.out (by omega)).trans he)
        clear he
        go_wp2_with fail
        go_ret
        exact ⟨by rw [HZ.out]; rfl, HBQ.out⟩
      have HE4 := Lib.hid (HE3.out.trans (if_neg (by decide)))
      clear HE3
      have HT := HTX.out x.text
      obtain ⟨tx, htx⟩ : ∃ tx, tx = txErr x.text := ⟨_, rfl⟩
      rw [← htx] at HT HE4
      have HT := Lib.hid HT
      clear htx
      by_cases hz : tx = 0
      case neg =>
        have he : E = tx := HE4.out.trans (if_pos hz)
        have HZ := Lib.hid ((HBAD.out (by rw [he]; exact hz)).trans he)
        have hz' : (tx != 0) = true := by simpa using hz
        clear hz he
        go_wp2_with fail
        refine (HT.out _).mono ?_
        rintro e w1 ⟨rfl, rfl⟩
        go_wp2_with fail
        go_ret
        exact ⟨by rw [HZ.out]; rfl, HBQ.out⟩
      have HE5 := Lib.hid (HE4.out.trans (if_neg (fun e => e hz)))
      subst hz
      clear HE4
      by_cases hl : 500 < nk
      case pos =>
        have he : E = 4 := HE5.out.trans (if_pos hl)
        have HZ := Lib.hid ((HBAD.out (by omega)).trans he)
        have hl' : (500 : Int) < (nk : Int) := by omega
        clear he
        go_wp2_with fail
        refine (HT.out _).mono ?_
        rintro e w1 ⟨rfl, rfl⟩
        go_wp2_with fail
        go_ret
        exact ⟨by rw [HZ.out]; rfl, HBQ.out⟩
      have HE6 := Lib.hid (HE5.out.trans (if_neg hl))
      have hl' : ¬ (500 : Int) < (nk : Int) := by omega
      clear HE5
      have HCX := HCP.out _ _ _ HPP.out HBQ.out
      rw [← HE6.out] at HCX
      have HCX := Lib.hid HCX
      by_cases hz : E = 0
      · have HS := Lib.hid (HNX.out hz)
        subst hz
        go_wp2_with fail
        refine (HT.out _).mono ?_
        rintro e w1 ⟨rfl, rfl⟩
        go_wp2_with fail
        refine HCX.out.mono ?_
        rintro e w1 ⟨rfl, hb⟩
        have HB2 := Lib.hid (HBQ.out.trans (hb.mono HBQ.out.size))
        clear hb
        go_wp2_with fail
        go_roundg (n - (k + 1))
        case measure => omega
        case rel => exact ⟨k + 1, by omega, by go_num, HS, HB2⟩
      · have HZ := Lib.hid (HBAD.out hz)
        have hz' : (E != 0) = true := by simpa using hz
        clear hz
        go_wp2_with fail
        refine (HT.out _).mono ?_
        rintro e w1 ⟨rfl, rfl⟩
        go_wp2_with fail
        refine HCX.out.mono ?_
        rintro e w1 ⟨rfl, hb⟩
        have HB2 := Lib.hid (HBQ.out.trans (hb.mono HBQ.out.size))
        clear hb
        go_wp2_with fail
        go_ret
        exact ⟨by rw [HZ.out]; rfl, HB2.out⟩
    case neg =>
    obtain rfl : n = k := by omega
    have hu : U = 0 := hno.out.trans (by rw [List.drop_of_length_le (by rw [← HN.out.1]; exact Nat.le_refl _)]; cases prevB l n <;> rfl)
    have hb0 := HU0.out hu
    have HV2 := Lib.hid (HV.out.trans (if_neg (fun h => h hu)))
    have HB0 := Lib.hid hb0
    have HK : Hid (allKids l l = 0 → Kids l) := fun h3 => kids_of (by have := HN.out.1; have := H0.out; omega) (by have := HN.out.1; have := H1.out; omega) hb0 h3
    obtain ⟨G, hG⟩ : ∃ G, G = allKids l l := ⟨_, rfl⟩
    rw [← hG] at HV2 HK
    have HG : Hid (G = allKids l (l.drop 0)) := hG
    have HBAD : Hid (G ≠ 0 → V = G) := fun he => HV2.out.trans (if_pos he)
    have hn0 : n ≠ 0 := H0.out
    clear hu hb0 hno hG HV HU0
    go_wp2_with fail
    go_loopg [96] n (fun gg s96 wr => ∃ i : Nat, i + gg = n ∧ s96 = .int .i64 (i : Int) ∧ Hid (G = allKids l (l.drop i)) ∧ Hid (Below w.heap.size w wr))
    case atStart => exact ⟨0, by omega, rfl, HG, hbel⟩
    case round =>
      obtain ⟨i, hig, rfl, hno, hbel⟩ := hrel
      obtain ⟨W2, rfl⟩ : ∃ W2, W2 = wr := ⟨_, rfl⟩
      by_cases hi : i < n
      case pos =>
        obtain ⟨x, hx⟩ : ∃ x, l[i]? = some x := ⟨_, List.getElem?_eq_getElem (by have := HN.out.1; omega)⟩
        obtain ⟨b, off, Ak, nk, ck, Ap, np, cp, rfl, hbb, g0, g1, g2, g3, g4, hK, _⟩ := H.out.at_ hx
        have g0 := (hbel.out.cell (p := ⟨b, off + i * 5, none⟩) (by show b < _; omega)).trans g0
        have g1 := (hbel.out.cell (p := ⟨b, off + i * 5 + 1, none⟩) (by show b < _; omega)).trans g1
        have g2 := (hbel.out.cell (p := ⟨b, off + i * 5 + 2, none⟩) (by show b < _; omega)).trans g2
        have g3 := (hbel.out.cell (p := ⟨b, off + i * 5 + 3, none⟩) (by show b < _; omega)).trans g3
        have g4 := (hbel.out.cell (p := ⟨b, off + i * 5 + 4, none⟩) (by show b < _; omega)).trans g4
        have HST := Lib.hid (hno.out.trans (allKids_at (l := l) hx))
        have HKK := Lib.hid hK
        have HKL := Lib.hid hK.len
        have j0 : (0 : Int) ≤ (i : Int) := by omega
        have j1 : (i : Int) < (n : Int) := by omega
        obtain ⟨wa, hwa⟩ : ∃ wa, wa = W2.alloc (.cells #[.int .i64 x.id, .int .i64 x.parent, .slice Ak nk ck, .string x.text, .slice Ap np cp] 35) := ⟨_, rfl⟩
        have HBA : Hid (Below w.heap.size w wa) := by rw [hwa]; exact hbel.out.alloc hbel.out.size _
        have p0 : Blk wa W2.heap.size 35 #[.int .i64 x.id, .int .i64 x.parent, .slice Ak nk ck, .string x.text, .slice Ap np cp] := by rw [hwa]; exact Blk.new W2 _ _
        have m2 : wa.cell? ⟨W2.heap.size, 2, none⟩ = some (.slice Ak nk ck) := p0.cell 2
        have HP0 := Lib.hid p0
        have HWA := Lib.hid hwa
        have hw2 : w.heap.size ≤ W2.heap.size := hbel.out.size
        clear hx hK p0 hwa
        obtain ⟨S, hS⟩ : ∃ S, S = kidsE l x.id [] x.kids := ⟨_, rfl⟩
        rw [← hS] at HST
        have HS0 : Hid (S = kidsE l x.id (x.kids.take 0) (x.kids.drop 0)) := hS
        have HBAD2 : Hid (S ≠ 0 → V = S) := fun he => by
          have hg := HST.out.trans (if_pos he)
          exact (HBAD.out (by rw [hg]; exact he)).trans hg
        clear hS
        go_upto_region 26 with fail
        rw [← HWA.out]
        clear g0 g1 g2 g3 g4
        go_wp2_with fail
        go_loopg [103] nk (fun gg s103 wr => ∃ j : Nat, j + gg = nk ∧ s103 = .int .i64 (j : Int) ∧ Hid (S = kidsE l x.id (x.kids.take j) (x.kids.drop j)) ∧ Hid (Below w.heap.size w wr) ∧ Hid (Blk wr W2.heap.size 35 #[.int .i64 x.id, .int .i64 x.parent, .slice Ak nk ck, .string x.text, .slice Ap np cp]))
        case atStart => exact ⟨0, by omega, rfl, HS0, HBA, HP0⟩
        case round =>
          obtain ⟨j, hjg, rfl, hno2, hbel2, hp2⟩ := hrel
          obtain ⟨W3, rfl⟩ : ∃ W3, W3 = wr := ⟨_, rfl⟩
          have hbk : nk ≤ ck ∧ nk * 8 ≤ 140737488351232 := HKL.out.2
          by_cases hj : j < nk
          case neg =>
            obtain rfl : j = nk := by omega
            have hz : S = 0 := hno2.out.trans (by rw [List.drop_of_length_le (by rw [← HKL.out.1]; exact Nat.le_refl _)]; rfl)
            have HG' := Lib.hid (HST.out.trans (if_neg (fun e => e hz)))
            clear hz
            go_wp2_with fail
            go_roundg (n - (i + 1))
            case measure => omega
            case rel => exact ⟨i + 1, by omega, by go_num, HG', hbel2⟩
          obtain ⟨k, hkk⟩ : ∃ k, x.kids[j]? = some k := ⟨_, List.getElem?_eq_getElem (by have := HKL.out.1; omega)⟩
          obtain ⟨bk, ok, rfl, hbk2, q0⟩ := HKK.out.at_ hkk
          have q0 := (hbel2.out.cell (p := ⟨bk, ok + j, none⟩) (by show bk < _; omega)).trans q0
          have z0 : (0 : Int) ≤ (j : Int) := by omega
          have z1 : (j : Int) < (nk : Int) := by omega
          have hst2 := hno2.out.trans (kidsE_at (l := l) (bid := x.id) hkk)
          have HIX := HAT.out k W3 hbel2.out
          have HKE := Lib.hid hkk
          have hg1 : W2.heap.size < W3.heap.size := hp2.out.lt
          have hgw : w.heap.size ≤ W3.heap.size := hbel2.out.size
          clear hkk
          rcases kidE_ways l x.id (x.kids.take j) k with ⟨h1, h2⟩ | ⟨p, y, h1, h2, h3, h4⟩
          · rw [h2] at hst2
            rw [h1] at HIX
            have HIX := Lib.hid HIX
            have hz := hst2.trans (if_pos (by decide))
            have HZ := Lib.hid ((HBAD2.out (by omega)).trans hz)
            clear hst2 hz h1 h2
            go_wp2_with fail
            refine HIX.out.mono ?_
            rintro e w2 ⟨rfl, hb⟩
            have HB2 : Hid (Below w.heap.size w w2) := hbel2.out.trans (hb.mono hgw)
            clear hb
            go_wp2_with fail
            go_ret
            exact ⟨by rw [HZ.out]; rfl, HB2.out⟩
          rw [h1] at HIX
          have HIX := Lib.hid HIX
          obtain ⟨b', off', Ay, ny, cy, Azp, nzp, czp, e2, hbb', k0, k1, _⟩ := H.out.at_ h2
          obtain ⟨rfl, rfl⟩ : b = b' ∧ off = off' := by injection e2 with e; injection e with e1 e2; exact ⟨e1, e2⟩
          have hpn : p < n := by have := (List.getElem?_eq_some_iff.1 h2).1; have := HN.out.1; omega
          have y0 : (0 : Int) ≤ (p : Int) := by omega
          have y1 : (p : Int) < (n : Int) := by omega
          have hz0 := zero_iff HB0.out h2
          rw [h3] at hz0
          rw [← hz0] at h4
          obtain ⟨r, hrr⟩ : ∃ r, r = ((y.parent != x.id) || ((p : Int) == 0)) := ⟨_, rfl⟩
          rw [← hrr] at h4
          obtain ⟨r1, hr1⟩ : ∃ r, (y.parent != x.id) = r := ⟨_, rfl⟩
          obtain ⟨r2, hr2⟩ : ∃ r, ((p : Int) == 0) = r := ⟨_, rfl⟩
          rw [hr1, hr2] at hrr
          clear h1 h2 h3 e2 k0 hz0
          go_wp2_with fail
          refine HIX.out.mono ?_
          rintro e w2 ⟨rfl, hb⟩
          have HB2 : Hid (Below w.heap.size w w2) := hbel2.out.trans (hb.mono hgw)
          have HP2 : Hid (Blk w2 W2.heap.size 35 #[.int .i64 x.id, .int .i64 x.parent, .slice (some ⟨bk, ok, none⟩) nk ck, .string x.text, .slice Ap np cp]) := hp2.out.below hb hg1
          have k1 := (HB2.out.cell (p := ⟨b, off + p * 5 + 1, none⟩) (by show b < _; omega)).trans k1
          have m0 : w2.cell? ⟨W2.heap.size, 0, none⟩ = some (.int .i64 x.id) := HP2.out.cell 0
          clear hb
          go_upto_region 32 with fail
          go_cut [124] (fun s124 wc => s124 = .bool r ∧ ∃ q, wc = w2.drewN q)
          case first =>
            subst hrr
            clear h4 hst2
            cases r1
            · cases r2
              · go_quiet (fail)
                go_wp2_with fail
                go_meet
                exact ⟨rfl, _, rfl⟩
              · go_quiet (fail)
                go_wp2_with fail
                go_meet
                exact ⟨rfl, _, rfl⟩
            · go_quiet (fail)
              go_wp2_with fail
              go_meet
              exact ⟨rfl, _, rfl⟩
          case rest =>
          obtain ⟨rfl, q, rfl⟩ := hcut
          have HBQ : Hid (Below w.heap.size w (w2.drewN q)) := bdrew HB2.out _
          have HPQ := Lib.hid (HP2.out.drewN q)
          have m2' : (w2.drewN q).cell? ⟨W2.heap.size, 2, none⟩ = some (.slice (some ⟨bk, ok, none⟩) nk ck) := HPQ.out.cell 2
          clear hrr hr1 hr2 k1 m0
          cases r
          case true =>
            have h5 : kidE l x.id (x.kids.take j) k = 1 := by
              rcases h4 with ⟨_, h⟩ | ⟨h, _⟩
              · exact h
              · cases h
            rw [h5] at hst2
            have hz := hst2.trans (if_pos (by decide))
            have HZ := Lib.hid ((HBAD2.out (by omega)).trans hz)
            clear hst2 hz h4 h5
            go_wp2_with fail
            go_ret
            exact ⟨by rw [HZ.out]; rfl, HBQ.out⟩
          have h5 : kidE l x.id (x.kids.take j) k = if (x.kids.take j).contains k = true then 6 else 0 := by
            rcases h4 with ⟨h, _⟩ | ⟨_, h⟩
            · cases h
            · exact h
          rw [h5] at hst2
          have HST2 := Lib.hid hst2
          have hjc : (j : Int) ≤ (ck : Int) := by omega
          clear h4 h5 hst2
          go_wp2_with fail
          go_loopg [130] j (fun gg s130 wr => ∃ q' : Nat, q' + gg = j ∧ s130 = .int .i64 (q' : Int) ∧ Hid (k ∉ x.kids.take q') ∧ wr = w2.drewN q)
          case atStart => exact ⟨0, by omega, rfl, (by show k ∉ _; simp), rfl⟩
          case round =>
            obtain ⟨t, htg, rfl, hno3, rfl⟩ := hrel
            by_cases ht : t < j
            case neg =>
              obtain rfl : j = t := by omega
              have hz := HST2.out.trans (if_neg (fun h => h (if_neg (by simpa using hno3.out))))
              have HZ := Lib.hid hz
              clear hz
              go_wp2_with fail
              go_roundg (nk - (j + 1))
              case measure => omega
              case rel => exact ⟨j + 1, by omega, by go_num, HZ, HBQ, HPQ⟩
            obtain ⟨o, ho⟩ : ∃ o, x.kids[t]? = some o := ⟨_, List.getElem?_eq_getElem (by have := HKL.out.1; omega)⟩
            obtain ⟨bk', ok', e3, _, q1⟩ := HKK.out.at_ ho
            obtain ⟨rfl, rfl⟩ : bk = bk' ∧ ok = ok' := by injection e3 with e; injection e with e1 e2; exact ⟨e1, e2⟩
            have q1 := (HBQ.out.cell (p := ⟨bk, ok + t, none⟩) (by show bk < _; omega)).trans q1
            have t0 : (0 : Int) ≤ (t : Int) := by omega
            have t1 : (t : Int) < (j : Int) := by omega
            have hot := (List.getElem?_eq_some_iff.1 ho)
            have HOT : Hid (x.kids.take (t + 1) = x.kids.take t ++ [o]) := by
              show _ = _
              obtain ⟨hk, e⟩ := hot
              rw [List.take_succ_eq_append_getElem hk, e]
            have HO := Lib.hid ho
            clear ho e3 hot
            by_cases he : o = k
            · subst he
              have hin : (x.kids.take j).contains o = true := by
                rw [List.contains_iff_mem, List.mem_take_iff_getElem]
                obtain ⟨hk, e⟩ := List.getElem?_eq_some_iff.1 HO.out
                exact ⟨t, by omega, e⟩
              have hz := HST2.out
              rw [if_pos hin] at hz
              have hz := hz.trans (if_pos (by decide))
              have HZ := Lib.hid ((HBAD2.out (by omega)).trans hz)
              clear hz hin
              go_wp2_with fail
              go_ret
              exact ⟨by rw [HZ.out]; rfl, HBQ.out⟩
            · have HN3 : Hid (k ∉ x.kids.take (t + 1)) := by
                show k ∉ _
                rw [HOT.out, List.mem_append]
                rintro (h | h)
                · exact hno3.out h
                · exact he (List.mem_singleton.1 h).symm
              have he' : (o == k) = false := by simpa using he
              clear he
              go_wp2_with fail
              go_roundg (j - (t + 1))
              case measure => omega
              case rel => exact ⟨t + 1, by omega, by go_num, HN3, rfl⟩
      case neg =>
      obtain rfl : n = i := by omega
      have hg : G = 0 := hno.out.trans (by rw [List.drop_of_length_le (by rw [← HN.out.1]; exact Nat.le_refl _)]; rfl)
      have K := HK.out hg
      have HV3 := Lib.hid (HV2.out.trans (if_neg (fun h => h hg)))
      have HFD := Lib.hid (HF.out K)
      have hw2 : w.heap.size ≤ W2.heap.size := hbel.out.size
      obtain ⟨rt, hrt⟩ : ∃ r, l[0]? = some r := ⟨_, List.getElem?_eq_getElem (by have := HN.out.1; omega)⟩
      have hmk := run_ints W2 n (by omega)
      obtain ⟨wd, hwd⟩ : ∃ wd, wd = W2.alloc (.cells (ints (List.replicate n 0)) 3) := ⟨_, rfl⟩
      have hbd : Blk wd W2.heap.size 3 (ints (List.replicate n 0)) := by rw [hwd]; exact Blk.new W2 _ _
      have HBD : Hid (Below w.heap.size w wd) := by rw [hwd]; exact hbel.out.alloc hw2 _
      have hD0 : ∀ (j : Nat) (d : Int), (List.replicate n (0 : Int))[j]? = some d → d = 0 := fun j d hd => by
        rw [List.getElem?_replicate] at hd
        split at hd
        · injection hd with hd; exact hd.symm
        · cases hd
      have hrc : Rch l (List.replicate n 0) := ⟨by rw [List.length_replicate]; exact HN.out.1, fun j d hd h0 => absurd (hD0 j d hd) h0⟩
      have hzz : zeros (List.replicate n 0) ≤ n := by have := zeros_le (List.replicate n 0); rw [List.length_replicate] at this; exact this
      have hr0 : rt.id = 0 := root_id HB0.out hrt
      have HRC : Hid (Calls Tryz.prog 28 #[.slice A n c, .int .i64 0, .int .i64 0, .slice (some ⟨W2.heap.size, 0, none⟩) n n] wd (ReachP l (List.replicate n 0) rt.kids W2.heap.size wd)) := reach_any l K A n c B W2.heap.size (by omega) n (List.replicate n 0) 0 0 rt wd hzz (H.out.below (HBD.out.mono hB)) hrt (by rw [hr0]; exact .root) (by omega) hbd hrc
      rw [← hwd] at hmk
      have HR0 := Lib.hid (show f rt.id = some 0 from (HFD.out rt.id 0).2 ⟨0, rfl, by rw [hr0]; exact .root⟩)
      have HRT := Lib.hid hrt
      have HKK := Lib.hid K
      have HD0 := Lib.hid hD0
      clear hg K hno hrt hwd hbd hD0 hrc hr0
      go_wp2_with fail
      refine HRC.out.mono ?_
      rintro e w3 ⟨rfl, D', hr, hb3, hg3⟩
      have HB3 : Hid (Below w.heap.size w w3) := HBD.out.trans (below_of_grown hg3 (by omega) (Below.size HBD.out))
      have HBLK := Lib.hid hb3
      have HDP := Lib.hid (hr.isDep HKK.out HFD.out HRT.out HD0.out (by rw [List.length_replicate]; exact HN.out.1))
      clear hr hb3 hg3
      go_wp2_with fail
      go_loopg [148] n (fun gg s148 wr => ∃ i : Nat, i + gg = n ∧ s148 = .int .i64 (i : Int) ∧ Hid (V = lvlE f (l.drop i)) ∧ wr = w3)
      case atStart => exact ⟨0, by omega, rfl, HV3, rfl⟩
      case round =>
        obtain ⟨i, hig, rfl, hno, rfl⟩ := hrel
        by_cases hi : i < n
        case neg =>
          obtain rfl : n = i := by omega
          have hu : V = 0 := hno.out.trans (by rw [List.drop_of_length_le (by rw [← HN.out.1]; exact Nat.le_refl _)]; rfl)
          have HZ := Lib.hid hu
          clear hu
          go_wp2_with fail
          go_ret
          exact ⟨by rw [HZ.out]; rfl, HB3.out⟩
        obtain ⟨x, hx⟩ : ∃ x, l[i]? = some x := ⟨_, List.getElem?_eq_getElem (by have := HN.out.1; omega)⟩
        have hst := hno.out.trans (lvlE_at hx)
        have j0 : (0 : Int) ≤ (i : Int) := by omega
        have j1 : (i : Int) < (n : Int) := by omega
        by_cases hi0 : i = 0
        · subst hi0
          have e : rt = x := by have := HRT.out.symm.trans hx; injection this
          subst e
          rw [HR0.out] at hst
          have HZ := Lib.hid (hst.trans ((if_neg (by simp)).trans (if_neg (by decide))))
          clear hst hx
          go_wp2_with fail
          go_roundg (n - (0 + 1))
          case measure => omega
          case rel => exact ⟨0 + 1, by omega, by go_num, HZ, rfl⟩
        · obtain ⟨d, hd, hd1, hd2⟩ := HDP.out i x hx hi0
          have c0 : wr.cell? ⟨W2.heap.size, i, none⟩ = some (.int .i64 d) := (HBLK.out.cell i).trans (ints_at hd)
          have hi0' : ((i : Int) == 0) = false := by simpa using hi0
          clear hd hx
          by_cases h0 : d = 0
          · have HZ := Lib.hid (hst.trans (if_pos (hd1 h0)))
            subst h0
            clear hst hd1 hd2
            go_wp2_with fail
            go_ret
            exact ⟨by rw [HZ.out]; rfl, HB3.out⟩
          · rw [hd2 h0] at hst
            have hst := hst.trans (if_neg (by simp))
            have h0' : (d == 0) = false := by simpa using h0
            clear hd1 hd2 h0
            by_cases hdd : 40 < d
            · have HZ := Lib.hid (hst.trans (if_pos hdd))
              clear hst
              go_wp2_with fail
              go_ret
              exact ⟨by rw [HZ.out]; rfl, HB3.out⟩
            · have HZ := Lib.hid (hst.trans (if_neg hdd))
              clear hst
              go_wp2_with fail
              go_roundg (n - (i + 1))
              case measure => omega
              case rel => exact ⟨i + 1, by omega, by go_num, HZ, rfl⟩
end Go.Proofs.YtemngidkfgcigaaGreatDoor
