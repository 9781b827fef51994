/-
  DERIVED. The walk of text.Check. Conditions: a length in reach.
  The reference's walk beside hasControl. Conditions: a length in reach.
  The walks of small functions of a base's check: inRange, the reference's TextError. Conditions: sizes.
  The walk of tree.checkKids. Conditions: sizes; ids that rise within their bounds.
  Plain law: the error of an edit, and what it makes. Conditions: none.
  The walks of text.edited, florref1.Edited, text.CheckEdit, florref1.EditError. Conditions: the lengths are within the form's reach.
  Plain law: how many bytes two strings have in common at the front, and behind that at the end. Conditions: none.
  Plain law: a list of edits, one after the other. Conditions: none.
  The walks of text.Apply and text.Inverse. Conditions: the lengths are within the form's reach.
  By an AI agent.
-/
import Derived.Test.YtmkicfjcgbfaaaaGreatTg03
import Derived.Test.YtmkicfjcgbfaaaaGreatTg05
import Derived.Carry
import Derived.Deep.QuietTactic
import Derived.BigQuiet
import Derived.WalkSpells
import Derived.Test.YtmkicfjcgbfaaaaGreatTg01
import Derived.RegionTactic
namespace Go.Proofs.YtmkicfjcgbfaaaaGreat
open Go.RowKit

def chkE (s : ByteArray) : Int := if 2000 < s.size then 4 else if ctl s = true then 9 else 0
set_option maxHeartbeats 400000 in
theorem check_any (s : ByteArray) (w : World) (hs : s.size ≤ 140737488351232) :
    Calls Tryz.prog 119 #[.string s] w fun e w' => e = .returned (.int .i64 (chkE s)) ∧ w = w' := by
  by_cases h : 2000 < s.size
  · have HV : Hid (chkE s = 4) := by show _ = _; unfold chkE; rw [if_pos h]
    have h' : (2000 : Int) < (s.size : Int) := by omega
    clear h
    go_enter Tryz.func119, Tryz.ntmps119
    go_wp2
    go_ret
    exact ⟨by rw [HV.out]; rfl, rfl⟩
  · have h' : ¬ (2000 : Int) < (s.size : Int) := by omega
    cases hc : ctl s
    · have HV : Hid (chkE s = 0) := by show _ = _; unfold chkE; rw [if_neg h, if_neg (by rw [hc]; decide)]
      clear h
      go_enter Tryz.func119, Tryz.ntmps119
      go_wp2_with fail
      refine (hasControl_any s _ hs).mono ?_
      rintro e w1 ⟨rfl, hw⟩
      rw [hc, ← hw]
      clear hw
      go_wp2
      go_ret
      exact ⟨by rw [HV.out]; rfl, rfl⟩
    · have HV : Hid (chkE s = 9) := by show _ = _; unfold chkE; rw [if_neg h, if_pos hc]
      clear h
      go_enter Tryz.func119, Tryz.ntmps119
      go_wp2_with fail
      refine (hasControl_any s _ hs).mono ?_
      rintro e w1 ⟨rfl, hw⟩
      rw [hc, ← hw]
      clear hw
      go_wp2
      go_ret
      exact ⟨by rw [HV.out]; rfl, rfl⟩
end Go.Proofs.YtmkicfjcgbfaaaaGreat
namespace Go.Proofs.YtmkicfjcgbfaaaaGreat
open Go.RowKit

set_option maxHeartbeats 400000 in
theorem below_any (s : ByteArray) (w : World) (hs : s.size ≤ 140737488351232) :
    Calls Tryz.prog 136 #[.string s] w fun e w' => e = .returned (.bool (ctl s)) ∧ w = w' := by
  go_enter Tryz.func136, Tryz.ntmps136
  go_wp2
  go_loop [3] (fun i => ∃ k : Nat, k ≤ s.size ∧ i = .int .i64 k ∧ ctlTo s k) (fun i => s.size - (intOf i).toNat)
  case atStart => exact ⟨0, Nat.zero_le _, rfl, fun j _ h => absurd h (by omega)⟩
  case round =>
    obtain ⟨k, hk, rfl, ht⟩ := hrel
    by_cases hlt : k < s.size
    · have H1 := Lib.hid (ctl_yes s k hlt)
      have H2 := Lib.hid (ctlTo_succ s k hlt ht)
      clear ht
      rcases ctlB_ways s[k] with g | ⟨g, g'⟩ | ⟨g, g'⟩
      · go_wp2
        go_ret
        exact ⟨ret_bool' (H1.out (ctlB_low g)).symm, rfl⟩
      · go_wp2
        go_ret
        exact ⟨ret_bool' (H1.out (ctlB_del g')).symm, rfl⟩
      · go_wp2
        go_round
        case rel => exact ⟨k + 1, by omega, by go_num, H2.out (ctlB_not g g')⟩
        case measure => simp [intOf]; omega
    · obtain rfl : k = s.size := by omega
      have H := Lib.hid (ctl_no s ht)
      clear ht
      go_wp2
      go_ret
      exact ⟨ret_bool' H.out.symm, rfl⟩

end Go.Proofs.YtmkicfjcgbfaaaaGreat
namespace Go.Proofs.YtmkicfjcgbfaaaaGreat
open Go.RowKit

set_option maxHeartbeats 400000 in
theorem inRange_any (n a b : Int) (w : World) :
    Calls Tryz.prog 68 #[.int .i64 n, .int .i64 a, .int .i64 b] w fun e w' => e = .returned (.bool (decide (a ≤ n ∧ n ≤ b))) ∧ w' = w := by
  by_cases h1 : a ≤ n
  · by_cases h2 : n ≤ b
    · rw [decide_eq_true ⟨h1, h2⟩]
      go_enter Tryz.func68, Tryz.ntmps68
      go_wp2
      go_ret
      exact ⟨rfl, rfl⟩
    · rw [decide_eq_false (fun h => h2 h.2)]
      go_enter Tryz.func68, Tryz.ntmps68
      go_wp2
      go_ret
      exact ⟨rfl, rfl⟩
  · rw [decide_eq_false (fun h => h1 h.1)]
    go_enter Tryz.func68, Tryz.ntmps68
    go_wp2
    go_ret
    exact ⟨rfl, rfl⟩
set_option maxHeartbeats 400000 in
theorem textError_any (s : ByteArray) (w : World) :
    Calls Tryz.prog 69 #[.string s] w fun e w' => e = .returned (.int .i64 (txErr s)) ∧ w' = w := by
  by_cases h1 : 2000 < s.size
  · have hv : txErr s = 4 := if_pos h1
    rw [hv]
    have h1' : (2000 : Int) < (s.size : Int) := by omega
    clear hv
    go_enter Tryz.func69, Tryz.ntmps69
    go_wp2_with fail
    go_ret
    exact ⟨rfl, rfl⟩
  · have h1' : ¬ (2000 : Int) < (s.size : Int) := by omega
    have hv : txErr s = if ctl s = true then 9 else 0 := if_neg h1
    rw [hv]
    have HB := Lib.hid (below_any s w (by omega))
    obtain ⟨q, hq⟩ : ∃ q, q = ctl s := ⟨_, rfl⟩
    rw [← hq] at HB ⊢
    clear hv hq
    go_enter Tryz.func69, Tryz.ntmps69
    go_wp2_with fail
    refine HB.out.mono ?_
    rintro e w1 ⟨rfl, rfl⟩
    cases q
    · go_wp2_with fail
      go_ret
      exact ⟨rfl, rfl⟩
    · go_wp2_with fail
      go_ret
      exact ⟨rfl, rfl⟩
/-- text.Check, whatever the length -/
theorem checkT_any (s : ByteArray) (w : World) :
    Calls Tryz.prog 119 #[.string s] w fun e w' => e = .returned (.int .i64 (txErr s)) ∧ w' = w := by
  by_cases h : s.size ≤ 140737488351232
  · exact (check_any s w h).mono fun e w' ⟨h1, h2⟩ => ⟨h1, h2.symm⟩
  · have hv : txErr s = 4 := if_pos (by omega)
    rw [hv]
    have h' : (2000 : Int) < (s.size : Int) := by omega
    clear h hv
    go_enter Tryz.func119, Tryz.ntmps119
    go_wp2
    go_ret
    exact ⟨rfl, rfl⟩
end Go.Proofs.YtmkicfjcgbfaaaaGreat
namespace Go.Proofs.YtmkicfjcgbfaaaaGreat
open Go.RowKit

/-- the parent of the block at a place -/
def parAt (l : List Bl) (p : Int) : Int := match l[p.toNat]? with | some y => y.parent | none => 0
/-- the error of a kid behind others -/
def kidE (l : List Bl) (bid : Int) (seen : List Int) (k : Int) : Int := if posOf l k < 0 then 7 else if (parAt l (posOf l k) != bid || k == 0) = true then 1 else if seen.contains k = true then 6 else 0
/-- the error of kids behind others -/
def kidsE (l : List Bl) (bid : Int) : List Int → List Int → Int
  | _, [] => 0
  | seen, k :: r => if kidE l bid seen k ≠ 0 then kidE l bid seen k else kidsE l bid (seen ++ [k]) r
/-- the error of the kids of blocks -/
def allKids (l : List Bl) : List Bl → Int
  | [] => 0
  | b :: r => if kidsE l b.id [] b.kids ≠ 0 then kidsE l b.id [] b.kids else allKids l r
theorem kidsE_at {l : List Bl} {bid : Int} {kids : List Int} {j : Nat} {k : Int} (h : kids[j]? = some k) : kidsE l bid (kids.take j) (kids.drop j) = if kidE l bid (kids.take j) k ≠ 0 then kidE l bid (kids.take j) k else kidsE l bid (kids.take (j + 1)) (kids.drop (j + 1)) := by
  obtain ⟨hk, e⟩ := List.getElem?_eq_some_iff.1 h
  rw [List.drop_eq_getElem_cons hk, kidsE, List.take_succ_eq_append_getElem hk, e]
theorem allKids_at {l M : List Bl} {i : Nat} {b : Bl} (h : M[i]? = some b) : allKids l (M.drop i) = if kidsE l b.id [] b.kids ≠ 0 then kidsE l b.id [] b.kids else allKids l (M.drop (i + 1)) := by
  obtain ⟨hk, e⟩ := List.getElem?_eq_some_iff.1 h
  rw [List.drop_eq_getElem_cons hk, allKids, e]
def seenF (L : List Int) (x : Int) : Option Bool := if L.contains x = true then some true else none
theorem seenF_get (L : List Int) (x : Int) : (seenF L x).getD false = L.contains x := by
  unfold seenF; split
  · rename_i h; rw [h]; rfl
  · rename_i h; simpa using h
theorem seenF_put (L : List Int) (x : Int) : putF (seenF L) x true = seenF (L ++ [x]) := by
  funext y
  unfold putF seenF
  by_cases h : y = x
  · rw [if_pos h, if_pos (by subst h; simp)]
  · rw [if_neg h]
    have : (L ++ [x]).contains y = L.contains y := by
      rw [Bool.eq_iff_iff]
      simp [h]
    rw [this]
theorem kidE_ways (l : List Bl) (bid : Int) (seen : List Int) (k : Int) : (posOf l k = -1 ∧ kidE l bid seen k = 7) ∨ ∃ (p : Nat) (y : Bl), posOf l k = (p : Int) ∧ l[p]? = some y ∧ y.id = k ∧ ((((y.parent != bid) || (k == 0)) = true ∧ kidE l bid seen k = 1) ∨ (((y.parent != bid) || (k == 0)) = false ∧ kidE l bid seen k = if seen.contains k = true then 6 else 0)) := by
  unfold kidE
  rcases posOf_spec l k with ⟨h1, _⟩ | ⟨p, y, h1, h2, h3, _⟩
  · exact .inl ⟨h1, if_pos (by omega)⟩
  · refine .inr ⟨p, y, h1, h2, h3, ?_⟩
    rw [if_neg (by omega)]
    have e : parAt l (posOf l k) = y.parent := by unfold parAt; rw [h1, Int.toNat_natCast, h2]
    rw [e]
    cases hq : ((y.parent != bid) || (k == 0))
    · exact .inr ⟨rfl, if_neg (by decide)⟩
    · exact .inl ⟨rfl, if_pos rfl⟩
theorem bool_zero : ∀ w, (zeroValue 4).run Tryz.prog w = .ok (.bool false) w := fun w => Tryz.zeroValue4 w

set_option maxHeartbeats 4000000 in
theorem checkKids_any (l : List Bl) (A : Option Addr) (n c : Nat) (w : World) (B : Nat) (hB : B ≤ w.heap.size) (h : RB w B (.slice A n c) l) (hr : Rise l) (hi : IdsIn l) :
    Calls Tryz.prog 58 #[.slice A n c] w fun e w' => e = .returned (.int .i64 (allKids l l)) ∧ Below w.heap.size w w' := by
  obtain ⟨V, hV⟩ : ∃ V, V = allKids l l := ⟨_, rfl⟩
  rw [← hV]
  have HV : Hid (V = allKids l (l.drop 0)) := hV
  have HN := Lib.hid h.len
  have HI := Lib.hid fun (id : Int) W (hid : I64 id) (hW : Below w.heap.size w W) => index_any l A n c id W B (Nat.le_trans hB hW.size) (h.below (hW.mono hB)) hr hi hid
  have H := Lib.hid h
  have hmm := fun W => run_makeMap (P := Tryz.prog) 141 W
  have HE := Lib.hid (boolElem (P := Tryz.prog) (e := 4) Tryz.underlying4 bool_zero)
  clear h hV
  go_enter Tryz.func58, Tryz.ntmps58
  go_wp2_with fail
  go_loopg [11] n (fun gg s11 wr => ∃ i : Nat, i + gg = n ∧ s11 = .int .i64 (i : Int) ∧ Hid (V = allKids l (l.drop i)) ∧ Hid (Below w.heap.size w wr))
  case atStart => exact ⟨0, by omega, rfl, HV, Below.refl _ _⟩
  case round =>
    obtain ⟨i, hig, rfl, hno, hbel⟩ := hrel
    obtain ⟨W1, rfl⟩ : ∃ W1, W1 = wr := ⟨_, rfl⟩
    have hbg : n * 80 ≤ 140737488351232 := HN.out.2.2
    by_cases hk : i < n
    case neg =>
      obtain rfl : i = n := by omega
      have HZ : Hid (V = 0) := hno.out.trans (by rw [List.drop_of_length_le (by rw [← HN.out.1]; exact Nat.le_refl _)]; rfl)
      go_wp2_with fail
      go_ret
      exact ⟨by rw [HZ.out]; rfl, hbel.out⟩
    obtain ⟨x, hx⟩ : ∃ x, l[i]? = some x := ⟨_, List.getElem?_eq_getElem (by have := HN.out.1; omega)⟩
    obtain ⟨b, off, Ak, nk, ck, Ap, np, cp, rfl, hbb, g0, g1, g2, g3, g4, hK, _⟩ := H.out.at_ hx
    have g0 := (hbel.out.cell (p := ⟨b, off + i * 5, none⟩) (by show b < _; omega)).trans g0
    have g1 := (hbel.out.cell (p := ⟨b, off + i * 5 + 1, none⟩) (by show b < _; omega)).trans g1
    have g2 := (hbel.out.cell (p := ⟨b, off + i * 5 + 2, none⟩) (by show b < _; omega)).trans g2
    have g3 := (hbel.out.cell (p := ⟨b, off + i * 5 + 3, none⟩) (by show b < _; omega)).trans g3
    have g4 := (hbel.out.cell (p := ⟨b, off + i * 5 + 4, none⟩) (by show b < _; omega)).trans g4
    have hst := hno.out.trans (allKids_at (l := l) hx)
    have HK := Lib.hid hK
    have HKL := Lib.hid hK.len
    have j0 : (0 : Int) ≤ (i : Int) := by omega
    have j1 : (i : Int) < (n : Int) := by omega
    have HST := Lib.hid hst
    clear hx hK hst
    have HBA := Lib.hid (hbel.out.alloc hbel.out.size (.cells #[.int .i64 x.id, .int .i64 x.parent, .slice Ak nk ck, .string x.text, .slice Ap np cp] 38))
    obtain ⟨wa, hwa⟩ : ∃ wa, wa = W1.alloc (.cells #[.int .i64 x.id, .int .i64 x.parent, .slice Ak nk ck, .string x.text, .slice Ap np cp] 38) := ⟨_, rfl⟩
    have p0 : Blk wa W1.heap.size 38 #[.int .i64 x.id, .int .i64 x.parent, .slice Ak nk ck, .string x.text, .slice Ap np cp] := by rw [hwa]; exact Blk.new W1 _ _
    have hza : wa.heap.size = W1.heap.size + 1 := by rw [hwa]; simp
    rw [← hwa] at HBA
    have m2 : wa.cell? ⟨W1.heap.size, 2, none⟩ = some (.slice Ak nk ck) := p0.cell 2
    have m2' : (wa.alloc (.map #[] 0)).cell? ⟨W1.heap.size, 2, none⟩ = some (.slice Ak nk ck) := (p0.alloc _).cell 2
    have HP0 := Lib.hid (p0.alloc (.map #[] 0))
    have HM0 := Lib.hid (MapIn.made (P := Tryz.prog) (k := 3) (e := 4) (lt := fun x => .lit (.bool x)) wa)
    have HBM := Lib.hid (HBA.out.alloc HBA.out.size (.map #[] 0))
    have hgm : W1.heap.size < wa.heap.size := p0.lt
    have hw1 : w.heap.size ≤ W1.heap.size := hbel.out.size
    have HWA := Lib.hid hwa
    have HZA := Lib.hid hza
    clear p0 hwa hza
    go_upto_region 4 with fail
    rw [← HWA.out]
    go_upto_region 5 with fail
    obtain ⟨bm, hbm⟩ : ∃ bm, bm = wa.heap.size := ⟨_, rfl⟩
    rw [← hbm] at HM0 hgm ⊢
    have HBMZ : Hid (bm = wa.heap.size) := hbm
    clear hbm
    obtain ⟨U, hU⟩ : ∃ U, U = kidsE l x.id [] x.kids := ⟨_, rfl⟩
    rw [← hU] at HST
    have HU : Hid (U = kidsE l x.id (x.kids.take 0) (x.kids.drop 0)) := hU
    clear hU
    go_wp2_with fail
    go_loopg [19] nk (fun gg s19 wr => ∃ j : Nat, j + gg = nk ∧ s19 = .int .i64 (j : Int) ∧ Hid (U = kidsE l x.id (x.kids.take j) (x.kids.drop j)) ∧ Hid (Below w.heap.size w wr) ∧ Hid (Blk wr W1.heap.size 38 #[.int .i64 x.id, .int .i64 x.parent, .slice Ak nk ck, .string x.text, .slice Ap np cp]) ∧ Hid (MapIn Tryz.prog 3 4 (fun x => .lit (.bool x)) wr bm j (seenF (x.kids.take j))))
    case atStart => exact ⟨0, by omega, rfl, HU, HBM.out, HP0.out, HM0.out⟩
    case round =>
      obtain ⟨j, hjg, rfl, hno2, hbel2, hp2, hm2⟩ := hrel
      have hbk : nk ≤ ck ∧ nk * 8 ≤ 140737488351232 := HKL.out.2
      by_cases hj : j < nk
      case neg =>
        obtain rfl : j = nk := by omega
        have hz : U = 0 := hno2.out.trans (by rw [List.drop_of_length_le (by rw [← HKL.out.1]; exact Nat.le_refl _)]; rfl)
        have HV' := Lib.hid (HST.out.trans (if_neg (fun e => e hz)))
        clear hz
        go_wp2_with fail
        go_roundg (n - (i + 1))
        case measure => omega
        case rel => exact ⟨i + 1, by omega, by go_num, HV', hbel2⟩
      obtain ⟨k, hkk⟩ : ∃ k, x.kids[j]? = some k := ⟨_, List.getElem?_eq_getElem (by have := HKL.out.1; omega)⟩
      have hki : I64 k := HK.out.i64 (List.mem_of_getElem? hkk)
      obtain ⟨bk, ok, rfl, hbk2, q0⟩ := HK.out.at_ hkk
      have q0 := (hbel2.out.cell (p := ⟨bk, ok + j, none⟩) (by show bk < _; omega)).trans q0
      have z0 : (0 : Int) ≤ (j : Int) := by omega
      have z1 : (j : Int) < (nk : Int) := by omega
      have hst2 := hno2.out.trans (kidsE_at (l := l) (bid := x.id) hkk)
      have HTK : Hid (x.kids.take (j + 1) = x.kids.take j ++ [k]) := by
        show _ = _
        obtain ⟨hk, e⟩ := List.getElem?_eq_some_iff.1 hkk
        rw [List.take_succ_eq_append_getElem hk, e]
      have HIX := Lib.hid (HI.out k wr hki hbel2.out)
      clear hkk
      have hg1 : W1.heap.size < wr.heap.size := hp2.out.lt
      have hg2 : bm < wr.heap.size := hm2.out.lt_
      have hgw : w.heap.size ≤ wr.heap.size := hbel2.out.size
      rcases kidE_ways l x.id (x.kids.take j) k with ⟨h1, h2⟩ | ⟨p, y, h1, h2, h3, h4⟩
      · rw [h2] at hst2
        rw [h1] at HIX
        have hz := hst2.trans (if_pos (by decide))
        have HZ := Lib.hid (HST.out.trans ((if_pos (by rw [hz]; decide)).trans hz))
        clear hst2 hz h1 h2
        go_wp2_with fail
        refine HIX.out.mono ?_
        rintro e w2 ⟨rfl, hb⟩
        have HB2 : Hid (Below w.heap.size w w2) := hbel2.out.trans (hb.mono hgw)
        clear hb
        go_wp2_with fail
        go_ret
        exact ⟨by rw [HZ.out]; rfl, HB2.out⟩
      rw [h1] at HIX
      obtain ⟨b', off', Ay, ny, cy, Azp, nzp, czp, e2, hbb', k0, k1, _⟩ := H.out.at_ h2
      obtain ⟨rfl, rfl⟩ : b = b' ∧ off = off' := by injection e2 with e; injection e with e1 e2; exact ⟨e1, e2⟩
      have hpn : p < n := by have := (List.getElem?_eq_some_iff.1 h2).1; have := HN.out.1; omega
      have y0 : (0 : Int) ≤ (p : Int) := by omega
      have y1 : (p : Int) < (n : Int) := by omega
      clear h1 h2 h3 e2 k0
      obtain ⟨r, hrr⟩ : ∃ r, r = ((y.parent != x.id) || (k == 0)) := ⟨_, rfl⟩
      rw [← hrr] at h4
      obtain ⟨r1, hr1⟩ : ∃ r, (y.parent != x.id) = r := ⟨_, rfl⟩
      obtain ⟨r2, hr2⟩ : ∃ r, (k == 0) = r := ⟨_, rfl⟩
      rw [hr1, hr2] at hrr
      go_wp2_with fail
      refine HIX.out.mono ?_
      rintro e w2 ⟨rfl, hb⟩
      have HB2 : Hid (Below w.heap.size w w2) := hbel2.out.trans (hb.mono hgw)
      have HP2 : Hid (Blk w2 W1.heap.size 38 #[.int .i64 x.id, .int .i64 x.parent, .slice (some ⟨bk, ok, none⟩) nk ck, .string x.text, .slice Ap np cp]) := hp2.out.below hb hg1
      have HM2 := Lib.hid (hm2.out.below hb hg2)
      have k1 := (HB2.out.cell (p := ⟨b, off + p * 5 + 1, none⟩) (by show b < _; omega)).trans k1
      have m0 : w2.cell? ⟨W1.heap.size, 0, none⟩ = some (.int .i64 x.id) := HP2.out.cell 0
      have hw2 : wr.heap.size ≤ w2.heap.size := hb.size
      clear hb
      go_upto_region 11 with fail
      go_cut [29] (fun s29 wc => s29 = .bool r ∧ ∃ q, wc = w2.drewN q)
      case first =>
        subst hrr
        clear h4 hst2
        cases r1
        · cases r2
          · go_quiet (fail)
            go_wp2_with fail
            go_meet
            exact ⟨rfl, _, rfl⟩
          · go_quiet (fail)
            go_wp2_with fail
            go_meet
            exact ⟨rfl, _, rfl⟩
        · go_quiet (fail)
          go_wp2_with fail
          go_meet
          exact ⟨rfl, _, rfl⟩
      case rest =>
      obtain ⟨rfl, q, rfl⟩ := hcut
      have HBQ : Hid (Below w.heap.size w (w2.drewN q)) := bdrew HB2.out _
      clear hrr hr1 hr2 k1
      cases r
      case true =>
        have h5 : kidE l x.id (x.kids.take j) k = 1 := by
          rcases h4 with ⟨_, h⟩ | ⟨h, _⟩
          · exact h
          · cases h
        rw [h5] at hst2
        have hz := hst2.trans (if_pos (by decide))
        have HZ := Lib.hid (HST.out.trans ((if_pos (by rw [hz]; decide)).trans hz))
        clear hst2 hz h4 h5
        go_wp2_with fail
        go_ret
        exact ⟨by rw [HZ.out]; rfl, HBQ.out⟩
      have h5 : kidE l x.id (x.kids.take j) k = if (x.kids.take j).contains k = true then 6 else 0 := by
        rcases h4 with ⟨h, _⟩ | ⟨_, h⟩
        · cases h
        · exact h
      rw [h5] at hst2
      clear h4 h5
      have hlk := (HM2.out.drewN q).look HE.out Tryz.underlying3 Tryz.underlying141 hki
      rw [seenF_get] at hlk
      obtain ⟨w3, hup, hm3, hg3⟩ := (HM2.out.drewN q).put HE.out Tryz.underlying3 Tryz.underlying141 (by unfold maxLen; omega) hki (a := true) trivial
      rw [seenF_put, ← HTK.out] at hm3
      have HM3 := Lib.hid hm3
      have hw2g : W1.heap.size < w2.heap.size := by omega
      have HB3 : Hid (Below w.heap.size w w3) := HBQ.out.grown hg3 HBQ.out.size (fun k hk => by injection hk with hk; omega)
      have HP3 : Hid (Blk w3 W1.heap.size 38 #[.int .i64 x.id, .int .i64 x.parent, .slice (some ⟨bk, ok, none⟩) nk ck, .string x.text, .slice Ap np cp]) := (HP2.out.drewN q).grown hg3 (fun e => by injection e with e; omega)
      clear hm3 hg3
      obtain ⟨sn, hsn⟩ : ∃ sn, (x.kids.take j).contains k = sn := ⟨_, rfl⟩
      rw [hsn] at hlk hst2
      clear hsn
      cases sn
      · have HU3 := Lib.hid (hst2.trans (if_neg (by decide)))
        clear hst2
        go_wp2_with fail
        go_roundg (nk - (j + 1))
        case measure => omega
        case rel => exact ⟨j + 1, by omega, by go_num, HU3, HB3, HP3, HM3⟩
      · have hz := hst2.trans (if_pos (by decide))
        have hz : U = 6 := hz
        have HZ := Lib.hid (HST.out.trans ((if_pos (by rw [hz]; decide)).trans hz))
        clear hst2 hz
        go_wp2_with fail
        go_ret
        exact ⟨by rw [HZ.out]; rfl, HBQ.out⟩
end Go.Proofs.YtmkicfjcgbfaaaaGreat
namespace Go.Proofs.YtmkicfjcgbfaaaaGreat
open Go.RowKit

def edS (s x : ByteArray) (f t : Int) : ByteArray := s.extract 0 f.toNat ++ x ++ s.extract t.toNat s.size
def edErr (s x : ByteArray) (f t : Int) : Int :=
  if f < 0 ∨ t < f ∨ (s.size : Int) < t then 2 else if ctl x = true then 9 else if 2000 < (s.size : Int) - (t - f) + x.size then 4 else 0

theorem edErr_ways (s x : ByteArray) (f t : Int) :
    f < 0 ∧ edErr s x f t = 2 ∨ (0 ≤ f ∧ t < f) ∧ edErr s x f t = 2 ∨ (0 ≤ f ∧ f ≤ t ∧ (s.size : Int) < t) ∧ edErr s x f t = 2 ∨
    (0 ≤ f ∧ f ≤ t ∧ t ≤ (s.size : Int)) ∧ ctl x = true ∧ edErr s x f t = 9 ∨
    (0 ≤ f ∧ f ≤ t ∧ t ≤ (s.size : Int)) ∧ ctl x = false ∧ 2000 < (s.size : Int) - (t - f) + x.size ∧ edErr s x f t = 4 ∨
    (0 ≤ f ∧ f ≤ t ∧ t ≤ (s.size : Int)) ∧ ctl x = false ∧ (s.size : Int) - (t - f) + x.size ≤ 2000 ∧ edErr s x f t = 0 := by
  unfold edErr
  by_cases h1 : f < 0
  · exact .inl ⟨h1, by rw [if_pos (.inl h1)]⟩
  by_cases h2 : t < f
  · exact .inr (.inl ⟨⟨by omega, h2⟩, by rw [if_pos (.inr (.inl h2))]⟩)
  by_cases h3 : (s.size : Int) < t
  · exact .inr (.inr (.inl ⟨⟨by omega, by omega, h3⟩, by rw [if_pos (.inr (.inr h3))]⟩))
  rw [if_neg (by omega)]
  cases h4 : ctl x
  · by_cases h5 : 2000 < (s.size : Int) - (t - f) + x.size
    · exact .inr (.inr (.inr (.inr (.inl ⟨by omega, rfl, h5, by rw [if_neg (by simp), if_pos h5]⟩))))
    · exact .inr (.inr (.inr (.inr (.inr ⟨by omega, rfl, by omega, by rw [if_neg (by simp), if_neg h5]⟩))))
  · exact .inr (.inr (.inr (.inl ⟨by omega, rfl, by rw [if_pos rfl]⟩)))

/-- an edit that may be made -/
theorem edErr_ok {s x : ByteArray} {f t : Int} (h : edErr s x f t = 0) : 0 ≤ f ∧ f ≤ t ∧ t ≤ (s.size : Int) ∧ ctl x = false ∧ (s.size : Int) - (t - f) + x.size ≤ 2000 := by
  rcases edErr_ways s x f t with ⟨_, g⟩ | ⟨_, g⟩ | ⟨_, g⟩ | ⟨_, _, g⟩ | ⟨_, _, _, g⟩ | ⟨a, b, c, g⟩
  all_goals first | omega | exact ⟨a.1, a.2.1, a.2.2, b, c⟩

theorem edS_size {s x : ByteArray} {f t : Int} (h0 : 0 ≤ f) (h1 : f ≤ t) (h2 : t ≤ (s.size : Int)) : ((edS s x f t).size : Int) = (s.size : Int) - (t - f) + x.size := by
  unfold edS
  simp only [ByteArray.size_append, ByteArray.size_extract]
  omega
end Go.Proofs.YtmkicfjcgbfaaaaGreat
namespace Go.Proofs.YtmkicfjcgbfaaaaGreat
open Go.RowKit

set_option maxHeartbeats 1000000 in
theorem edited_any (s x : ByteArray) (f t : Int) (w : World) (hs : s.size ≤ 140737488351232) (hx : x.size ≤ 140737488351232) (h0 : 0 ≤ f) (h1 : f ≤ t) (h2 : t ≤ (s.size : Int)) :
    Calls Tryz.prog 161 #[.string s, .agg #[.int .i64 f, .int .i64 t, .string x]] w fun e w' => e = .returned (.string (edS s x f t)) ∧ Below w.heap.size w w' := by
  obtain ⟨a, rfl⟩ := Int.eq_ofNat_of_zero_le h0
  obtain ⟨b, rfl⟩ := Int.eq_ofNat_of_zero_le (Int.le_trans h0 h1)
  go_enter Tryz.func161, Tryz.ntmps161
  go_wp2
  go_quiet (fail)
  go_wp2
  go_ret
  exact ⟨rfl, bdrew ((Below.refl _ _).alloc (Nat.le_refl _) _) _⟩

set_option maxHeartbeats 2000000 in
theorem checkEdit_any (s x : ByteArray) (f t : Int) (w : World) (hs : s.size ≤ 140737488351232) (hx : x.size ≤ 140737488351232) :
    Calls Tryz.prog 123 #[.string s, .agg #[.int .i64 f, .int .i64 t, .string x]] w fun e w' => e = .returned (.int .i64 (edErr s x f t)) ∧ Below w.heap.size w w' := by
  rcases edErr_ways s x f t with ⟨g, h⟩ | ⟨⟨g, g1⟩, h⟩ | ⟨⟨g, g1, g2⟩, h⟩ | ⟨⟨g, g1, g2⟩, g3, h⟩ | ⟨⟨g, g1, g2⟩, g3, g4, h⟩ | ⟨⟨g, g1, g2⟩, g3, g4, h⟩
  all_goals
    rw [h]
    clear h
    go_enter Tryz.func123, Tryz.ntmps123
    go_wp2_with (go_at_call 153; refine (hasControl_any x _ hx).mono ?_; rintro e w' ⟨rfl, rfl⟩)
    go_ret
    exact ⟨rfl, (Below.refl _ _).alloc (Nat.le_refl _) _⟩

end Go.Proofs.YtmkicfjcgbfaaaaGreat
namespace Go.Proofs.YtmkicfjcgbfaaaaGreat
open Go.RowKit

/-- the bytes are the same there -/
def eqAt (a b : ByteArray) (i j : Nat) : Bool := if h : i < a.size ∧ j < b.size then (a[i]'h.1).toNat == (b[j]'h.2).toNat else false
def cpN (a b : ByteArray) : Nat → Nat → Nat
  | 0, k => k
  | n + 1, k => if eqAt a b k k = true then cpN a b n (k + 1) else k
def cp (a b : ByteArray) : Nat := cpN a b a.size 0

end Go.Proofs.YtmkicfjcgbfaaaaGreat
namespace Go.Proofs.YtmkicfjcgbfaaaaGreat
open Go.RowKit

structure Ed where
  from_ : Int
  to_ : Int
  with_ : ByteArray

end Go.Proofs.YtmkicfjcgbfaaaaGreat
namespace Go.Proofs.YtmkicfjcgbfaaaaGreat
open Go.RowKit

set_option maxHeartbeats 1000000 in
theorem apply_ok (s x : ByteArray) (f t : Int) (w : World) (hs : s.size ≤ 140737488351232) (hx : x.size ≤ 140737488351232) (h : edErr s x f t = 0) :
    Calls Tryz.prog 132 #[.string s, .agg #[.int .i64 f, .int .i64 t, .string x]] w fun e w' => e = .returned (.tuple #[.string (edS s x f t), .int .i64 0]) ∧ Below w.heap.size w w' := by
  obtain ⟨h0, h1, h2, h3, h4⟩ := edErr_ok h
  have H := Lib.hid h
  clear h h3
  go_enter Tryz.func132, Tryz.ntmps132
  go_wp2_with fail
  refine (checkEdit_any s x f t _ hs hx).mono ?_
  rintro e w1 ⟨rfl, hb1⟩
  rw [H.out]
  have c0 := hb1.cell (p := ⟨w.heap.size, 0, none⟩) (by simp)
  have c1 := hb1.cell (p := ⟨w.heap.size, 1, none⟩) (by simp)
  have c2 := hb1.cell (p := ⟨w.heap.size, 2, none⟩) (by simp)
  go_wp2_with fail
  refine (edited_any s x f t _ hs hx h0 h1 h2).mono ?_
  rintro e w2 ⟨rfl, hb2⟩
  go_wp2
  go_ret2
  exact ⟨rfl, (((Below.refl _ _).alloc (Nat.le_refl _) _).trans (hb1.mono (by simp))).trans (hb2.mono (by have := hb1.size; simp at this; omega))⟩

end Go.Proofs.YtmkicfjcgbfaaaaGreat
