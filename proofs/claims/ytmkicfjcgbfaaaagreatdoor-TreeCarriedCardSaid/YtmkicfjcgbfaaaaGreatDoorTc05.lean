/-
  DERIVED. The walk of tree.checkKids. Conditions: sizes; ids that rise within their bounds.
  How deep the blocks of a base are: the relation, and what a search in the breadth or in the depth keeps. Plain law. Conditions: none.
  What the reference's search in the depth keeps. Plain law. Conditions: none.
  The walk of the reference's reach. Conditions: sizes; a base whose kids are right.
  DERIVED: slices.DeleteFunc at ints, laid at this program in plain words (lay-plain.mjs, shelf_marks.py).
  How a law's row closes: what the arguments weigh, part by part; the arguments read behind the call as before it. Conditions: none.
  By an AI agent.
-/
import Derived.Test.YtmkicfjcgbfaaaaGreatDoorTc04
import Derived.Carry
import Derived.Shelf.SlicesE.DeleteFunc
import Derived.Ground.SlgfProg
import Derived.Test.YtmkicfjcgbfaaaaGreatDoorProg
import Derived.Test.YtmkicfjcgbfaaaaGreatDoorRows
import Derived.Test.YtmkicfjcgbfaaaaGreatDoorTc01
import Derived.ProofKit
import Derived.SizedLaws
import Derived.OpenShut
import Derived.Lib.SmallJoins
import Derived.Deep.Slices
namespace Go.Proofs.YtmkicfjcgbfaaaaGreatDoor
open Go.RowKit

/-- the parent of the block at a place -/
def parAt (l : List Bl) (p : Int) : Int := match l[p.toNat]? with | some y => y.parent | none => 0
/-- the error of a kid behind others -/
def kidE (l : List Bl) (bid : Int) (seen : List Int) (k : Int) : Int := if posOf l k < 0 then 7 else if (parAt l (posOf l k) != bid || k == 0) = true then 1 else if seen.contains k = true then 6 else 0
/-- the error of kids behind others -/
def kidsE (l : List Bl) (bid : Int) : List Int → List Int → Int
  | _, [] => 0
  | seen, k :: r => if kidE l bid seen k ≠ 0 then kidE l bid seen k else kidsE l bid (seen ++ [k]) r
/-- the error of the kids of blocks -/
def allKids (l : List Bl) : List Bl → Int
  | [] => 0
  | b :: r => if kidsE l b.id [] b.kids ≠ 0 then kidsE l b.id [] b.kids else allKids l r
theorem kidsE_at {l : List Bl} {bid : Int} {kids : List Int} {j : Nat} {k : Int} (h : kids[j]? = some k) : kidsE l bid (kids.take j) (kids.drop j) = if kidE l bid (kids.take j) k ≠ 0 then kidE l bid (kids.take j) k else kidsE l bid (kids.take (j + 1)) (kids.drop (j + 1)) := by
  obtain ⟨hk, e⟩ := List.getElem?_eq_some_iff.1 h
  rw [List.drop_eq_getElem_cons hk, kidsE, List.take_succ_eq_append_getElem hk, e]
theorem allKids_at {l M : List Bl} {i : Nat} {b : Bl} (h : M[i]? = some b) : allKids l (M.drop i) = if kidsE l b.id [] b.kids ≠ 0 then kidsE l b.id [] b.kids else allKids l (M.drop (i + 1)) := by
  obtain ⟨hk, e⟩ := List.getElem?_eq_some_iff.1 h
  rw [List.drop_eq_getElem_cons hk, allKids, e]
def seenF (L : List Int) (x : Int) : Option Bool := if L.contains x = true then some true else none
theorem seenF_get (L : List Int) (x : Int) : (seenF L x).getD false = L.contains x := by
  unfold seenF; split
  · rename_i h; rw [h]; rfl
  · rename_i h; simpa using h
theorem seenF_put (L : List Int) (x : Int) : putF (seenF L) x true = seenF (L ++ [x]) := by
  funext y
  unfold putF seenF
  by_cases h : y = x
  · rw [if_pos h, if_pos (by subst h; simp)]
  · rw [if_neg h]
    have : (L ++ [x]).contains y = L.contains y := by
      rw [Bool.eq_iff_iff]
      simp [h]
    rw [this]
theorem kidE_ways (l : List Bl) (bid : Int) (seen : List Int) (k : Int) : (posOf l k = -1 ∧ kidE l bid seen k = 7) ∨ ∃ (p : Nat) (y : Bl), posOf l k = (p : Int) ∧ l[p]? = some y ∧ y.id = k ∧ ((((y.parent != bid) || (k == 0)) = true ∧ kidE l bid seen k = 1) ∨ (((y.parent != bid) || (k == 0)) = false ∧ kidE l bid seen k = if seen.contains k = true then 6 else 0)) := by
  unfold kidE
  rcases posOf_spec l k with ⟨h1, _⟩ | ⟨p, y, h1, h2, h3, _⟩
  · exact .inl ⟨h1, if_pos (by omega)⟩
  · refine .inr ⟨p, y, h1, h2, h3, ?_⟩
    rw [if_neg (by omega)]
    have e : parAt l (posOf l k) = y.parent := by unfold parAt; rw [h1, Int.toNat_natCast, h2]
    rw [e]
    cases hq : ((y.parent != bid) || (k == 0))
    · exact .inr ⟨rfl, if_neg (by decide)⟩
    · exact .inl ⟨rfl, if_pos rfl⟩
theorem bool_zero : ∀ w, (zeroValue 4).run Tryz.prog w = .ok (.bool false) w := fun w => Tryz.zeroValue4 w

set_option maxHeartbeats 4000000 in
theorem checkKids_any (l : List Bl) (A : Option Addr) (n c : Nat) (w : World) (B : Nat) (hB : B ≤ w.heap.size) (h : RB w B (.slice A n c) l) (hr : Rise l) (hi : IdsIn l) :
    Calls Tryz.prog 45 #[.slice A n c] w fun e w' => e = .returned (.int .i64 (allKids l l)) ∧ Below w.heap.size w w' := by
  obtain ⟨V, hV⟩ : ∃ V, V = allKids l l := ⟨_, rfl⟩
  rw [← hV]
  have HV : Hid (V = allKids l (l.drop 0)) := hV
  have HN := Lib.hid h.len
  have HI := Lib.hid fun (id : Int) W (hid : I64 id) (hW : Below w.heap.size w W) => index_any l A n c id W B (Nat.le_trans hB hW.size) (h.below (hW.mono hB)) hr hi hid
  have H := Lib.hid h
  have hmm := fun W => run_makeMap (P := Tryz.prog) 110 W
  have HE := Lib.hid (boolElem (P := Tryz.prog) (e := 4) Tryz.underlying4 bool_zero)
  clear h hV
  go_enter Tryz.func45, Tryz.ntmps45
  go_wp2_with fail
  go_loopg [11] n (fun gg s11 wr => ∃ i : Nat, i + gg = n ∧ s11 = .int .i64 (i : Int) ∧ Hid (V = allKids l (l.drop i)) ∧ Hid (Below w.heap.size w wr))
  case atStart => exact ⟨0, by omega, rfl, HV, Below.refl _ _⟩
  case round =>
    obtain ⟨i, hig, rfl, hno, hbel⟩ := hrel
    obtain ⟨W1, rfl⟩ : ∃ W1, W1 = wr := ⟨_, rfl⟩
    have hbg : n * 80 ≤ 140737488351232 := HN.out.2.2
    by_cases hk : i < n
    case neg =>
      obtain rfl : i = n := by omega
      have HZ : Hid (V = 0) := hno.out.trans (by rw [List.drop_of_length_le (by rw [← HN.out.1]; exact Nat.le_refl _)]; rfl)
      go_wp2_with fail
      go_ret
      exact ⟨by rw [HZ.out]; rfl, hbel.out⟩
    obtain ⟨x, hx⟩ : ∃ x, l[i]? = some x := ⟨_, List.getElem?_eq_getElem (by have := HN.out.1; omega)⟩
    obtain ⟨b, off, Ak, nk, ck, Ap, np, cp, rfl, hbb, g0, g1, g2, g3, g4, hK, _⟩ := H.out.at_ hx
    have g0 := (hbel.out.cell (p := ⟨b, off + i * 5, none⟩) (by show b < _; omega)).trans g0
    have g1 := (hbel.out.cell (p := ⟨b, off + i * 5 + 1, none⟩) (by show b < _; omega)).trans g1
    have g2 := (hbel.out.cell (p := ⟨b, off + i * 5 + 2, none⟩) (by show b < _; omega)).trans g2
    have g3 := (hbel.out.cell (p := ⟨b, off + i * 5 + 3, none⟩) (by show b < _; omega)).trans g3
    have g4 := (hbel.out.cell (p := ⟨b, off + i * 5 + 4, none⟩) (by show b < _; omega)).trans g4
    have hst := hno.out.trans (allKids_at (l := l) hx)
    have HK := Lib.hid hK
    have HKL := Lib.hid hK.len
    have j0 : (0 : Int) ≤ (i : Int) := by omega
    have j1 : (i : Int) < (n : Int) := by omega
    have HST := Lib.hid hst
    clear hx hK hst
    have HBA := Lib.hid (hbel.out.alloc hbel.out.size (.cells #[.int .i64 x.id, .int .i64 x.parent, .slice Ak nk ck, .string x.text, .slice Ap np cp] 52))
    obtain ⟨wa, hwa⟩ : ∃ wa, wa = W1.alloc (.cells #[.int .i64 x.id, .int .i64 x.parent, .slice Ak nk ck, .string x.text, .slice Ap np cp] 52) := ⟨_, rfl⟩
    have p0 : Blk wa W1.heap.size 52 #[.int .i64 x.id, .int .i64 x.parent, .slice Ak nk ck, .string x.text, .slice Ap np cp] := by rw [hwa]; exact Blk.new W1 _ _
    have hza : wa.heap.size = W1.heap.size + 1 := by rw [hwa]; simp
    rw [← hwa] at HBA
    have m2 : wa.cell? ⟨W1.heap.size, 2, none⟩ = some (.slice Ak nk ck) := p0.cell 2
    have m2' : (wa.alloc (.map #[] 0)).cell? ⟨W1.heap.size, 2, none⟩ = some (.slice Ak nk ck) := (p0.alloc _).cell 2
    have HP0 := Lib.hid (p0.alloc (.map #[] 0))
    have HM0 := Lib.hid (MapIn.made (P := Tryz.prog) (k := 3) (e := 4) (lt := fun x => .lit (.bool x)) wa)
    have HBM := Lib.hid (HBA.out.alloc HBA.out.size (.map #[] 0))
    have hgm : W1.heap.size < wa.heap.size := p0.lt
    have hw1 : w.heap.size ≤ W1.heap.size := hbel.out.size
    have HWA := Lib.hid hwa
    have HZA := Lib.hid hza
    clear p0 hwa hza
    go_upto_region 4 with fail
    rw [← HWA.out]
    go_upto_region 5 with fail
    obtain ⟨bm, hbm⟩ : ∃ bm, bm = wa.heap.size := ⟨_, rfl⟩
    rw [← hbm] at HM0 hgm ⊢
    have HBMZ : Hid (bm = wa.heap.size) := hbm
    clear hbm
    obtain ⟨U, hU⟩ : ∃ U, U = kidsE l x.id [] x.kids := ⟨_, rfl⟩
    rw [← hU] at HST
    have HU : Hid (U = kidsE l x.id (x.kids.take 0) (x.kids.drop 0)) := hU
    clear hU
    go_wp2_with fail
    go_loopg [19] nk (fun gg s19 wr => ∃ j : Nat, j + gg = nk ∧ s19 = .int .i64 (j : Int) ∧ Hid (U = kidsE l x.id (x.kids.take j) (x.kids.drop j)) ∧ Hid (Below w.heap.size w wr) ∧ Hid (Blk wr W1.heap.size 52 #[.int .i64 x.id, .int .i64 x.parent, .slice Ak nk ck, .string x.text, .slice Ap np cp]) ∧ Hid (MapIn Tryz.prog 3 4 (fun x => .lit (.bool x)) wr bm j (seenF (x.kids.take j))))
    case atStart => exact ⟨0, by omega, rfl, HU, HBM.out, HP0.out, HM0.out⟩
    case round =>
      obtain ⟨j, hjg, rfl, hno2, hbel2, hp2, hm2⟩ := hrel
      have hbk : nk ≤ ck ∧ nk * 8 ≤ 140737488351232 := HKL.out.2
      by_cases hj : j < nk
      case neg =>
        obtain rfl : j = nk := by omega
        have hz : U = 0 := hno2.out.trans (by rw [List.drop_of_length_le (by rw [← HKL.out.1]; exact Nat.le_refl _)]; rfl)
        have HV' := Lib.hid (HST.out.trans (if_neg (fun e => e hz)))
        clear hz
        go_wp2_with fail
        go_roundg (n - (i + 1))
        case measure => omega
        case rel => exact ⟨i + 1, by omega, by go_num, HV', hbel2⟩
      obtain ⟨k, hkk⟩ : ∃ k, x.kids[j]? = some k := ⟨_, List.getElem?_eq_getElem (by have := HKL.out.1; omega)⟩
      have hki : I64 k := HK.out.i64 (List.mem_of_getElem? hkk)
      obtain ⟨bk, ok, rfl, hbk2, q0⟩ := HK.out.at_ hkk
      have q0 := (hbel2.out.cell (p := ⟨bk, ok + j, none⟩) (by show bk < _; omega)).trans q0
      have z0 : (0 : Int) ≤ (j : Int) := by omega
      have z1 : (j : Int) < (nk : Int) := by omega
      have hst2 := hno2.out.trans (kidsE_at (l := l) (bid := x.id) hkk)
      have HTK : Hid (x.kids.take (j + 1) = x.kids.take j ++ [k]) := by
        show _ = _
        obtain ⟨hk, e⟩ := List.getElem?_eq_some_iff.1 hkk
        rw [List.take_succ_eq_append_getElem hk, e]
      have HIX := Lib.hid (HI.out k wr hki hbel2.out)
      clear hkk
      have hg1 : W1.heap.size < wr.heap.size := hp2.out.lt
      have hg2 : bm < wr.heap.size := hm2.out.lt_
      have hgw : w.heap.size ≤ wr.heap.size := hbel2.out.size
      rcases kidE_ways l x.id (x.kids.take j) k with ⟨h1, h2⟩ | ⟨p, y, h1, h2, h3, h4⟩
      · rw [h2] at hst2
        rw [h1] at HIX
        have hz := hst2.trans (if_pos (by decide))
        have HZ := Lib.hid (HST.out.trans ((if_pos (by rw [hz]; decide)).trans hz))
        clear hst2 hz h1 h2
        go_wp2_with fail
        refine HIX.out.mono ?_
        rintro e w2 ⟨rfl, hb⟩
        have HB2 : Hid (Below w.heap.size w w2) := hbel2.out.trans (hb.mono hgw)
        clear hb
        go_wp2_with fail
        go_ret
        exact ⟨by rw [HZ.out]; rfl, HB2.out⟩
      rw [h1] at HIX
      obtain ⟨b', off', Ay, ny, cy, Azp, nzp, czp, e2, hbb', k0, k1, _⟩ := H.out.at_ h2
      obtain ⟨rfl, rfl⟩ : b = b' ∧ off = off' := by injection e2 with e; injection e with e1 e2; exact ⟨e1, e2⟩
      have hpn : p < n := by have := (List.getElem?_eq_some_iff.1 h2).1; have := HN.out.1; omega
      have y0 : (0 : Int) ≤ (p : Int) := by omega
      have y1 : (p : Int) < (n : Int) := by omega
      clear h1 h2 h3 e2 k0
      obtain ⟨r, hrr⟩ : ∃ r, r = ((y.parent != x.id) || (k == 0)) := ⟨_, rfl⟩
      rw [← hrr] at h4
      obtain ⟨r1, hr1⟩ : ∃ r, (y.parent != x.id) = r := ⟨_, rfl⟩
      obtain ⟨r2, hr2⟩ : ∃ r, (k == 0) = r := ⟨_, rfl⟩
      rw [hr1, hr2] at hrr
      go_wp2_with fail
      refine HIX.out.mono ?_
      rintro e w2 ⟨rfl, hb⟩
      have HB2 : Hid (Below w.heap.size w w2) := hbel2.out.trans (hb.mono hgw)
      have HP2 : Hid (Blk w2 W1.heap.size 52 #[.int .i64 x.id, .int .i64 x.parent, .slice (some ⟨bk, ok, none⟩) nk ck, .string x.text, .slice Ap np cp]) := hp2.out.below hb hg1
      have HM2 := Lib.hid (hm2.out.below hb hg2)
      have k1 := (HB2.out.cell (p := ⟨b, off + p * 5 + 1, none⟩) (by show b < _; omega)).trans k1
      have m0 : w2.cell? ⟨W1.heap.size, 0, none⟩ = some (.int .i64 x.id) := HP2.out.cell 0
      have hw2 : wr.heap.size ≤ w2.heap.size := hb.size
      clear hb
      go_upto_region 11 with fail
      go_cut [29] (fun s29 wc => s29 = .bool r ∧ ∃ q, wc = w2.drewN q)
      case first =>
        subst hrr
        clear h4 hst2
        cases r1
        · cases r2
          · go_quiet (fail)
            go_wp2_with fail
            go_meet
            exact ⟨rfl, _, rfl⟩
          · go_quiet (fail)
            go_wp2_with fail
            go_meet
            exact ⟨rfl, _, rfl⟩
        · go_quiet (fail)
          go_wp2_with fail
          go_meet
          exact ⟨rfl, _, rfl⟩
      case rest =>
      obtain ⟨rfl, q, rfl⟩ := hcut
      have HBQ : Hid (Below w.heap.size w (w2.drewN q)) := bdrew HB2.out _
      clear hrr hr1 hr2 k1
      cases r
      case true =>
        have h5 : kidE l x.id (x.kids.take j) k = 1 := by
          rcases h4 with ⟨_, h⟩ | ⟨h, _⟩
          · exact h
          · cases h
        rw [h5] at hst2
        have hz := hst2.trans (if_pos (by decide))
        have HZ := Lib.hid (HST.out.trans ((if_pos (by rw [hz]; decide)).trans hz))
        clear hst2 hz h4 h5
        go_wp2_with fail
        go_ret
        exact ⟨by rw [HZ.out]; rfl, HBQ.out⟩
      have h5 : kidE l x.id (x.kids.take j) k = if (x.kids.take j).contains k = true then 6 else 0 := by
        rcases h4 with ⟨h, _⟩ | ⟨_, h⟩
        · cases h
        · exact h
      rw [h5] at hst2
      clear h4 h5
      have hlk := (HM2.out.drewN q).look HE.out Tryz.underlying3 Tryz.underlying110 hki
      rw [seenF_get] at hlk
      obtain ⟨w3, hup, hm3, hg3⟩ := (HM2.out.drewN q).put HE.out Tryz.underlying3 Tryz.underlying110 (by unfold maxLen; omega) hki (a := true) trivial
      rw [seenF_put, ← HTK.out] at hm3
      have HM3 := Lib.hid hm3
      have hw2g : W1.heap.size < w2.heap.size := by omega
      have HB3 : Hid (Below w.heap.size w w3) := HBQ.out.grown hg3 HBQ.out.size (fun k hk => by injection hk with hk; omega)
      have HP3 : Hid (Blk w3 W1.heap.size 52 #[.int .i64 x.id, .int .i64 x.parent, .slice (some ⟨bk, ok, none⟩) nk ck, .string x.text, .slice Ap np cp]) := (HP2.out.drewN q).grown hg3 (fun e => by injection e with e; omega)
      clear hm3 hg3
      obtain ⟨sn, hsn⟩ : ∃ sn, (x.kids.take j).contains k = sn := ⟨_, rfl⟩
      rw [hsn] at hlk hst2
      clear hsn
      cases sn
      · have HU3 := Lib.hid (hst2.trans (if_neg (by decide)))
        clear hst2
        go_wp2_with fail
        go_roundg (nk - (j + 1))
        case measure => omega
        case rel => exact ⟨j + 1, by omega, by go_num, HU3, HB3, HP3, HM3⟩
      · have hz := hst2.trans (if_pos (by decide))
        have hz : U = 6 := hz
        have HZ := Lib.hid (HST.out.trans ((if_pos (by rw [hz]; decide)).trans hz))
        clear hst2 hz
        go_wp2_with fail
        go_ret
        exact ⟨by rw [HZ.out]; rfl, HBQ.out⟩
end Go.Proofs.YtmkicfjcgbfaaaaGreatDoor
namespace Go.Proofs.YtmkicfjcgbfaaaaGreatDoor

/-- kids that are right -/
structure Kids (l : List Bl) : Prop where
  rise : Rise l
  ids : IdsIn l
  root : ∃ r, l[0]? = some r ∧ r.id = 0 ∧ r.parent = 0
  kid : ∀ b ∈ l, ∀ k ∈ b.kids, k ≠ 0 ∧ ∃ y ∈ l, y.id = k ∧ y.parent = b.id
  nod : ∀ b ∈ l, b.kids.Nodup
  short : l.length ≤ 2000
  few : ∀ b ∈ l, b.kids.length ≤ 500
theorem Rise.inj {l : List Bl} (h : Rise l) {x y : Bl} (hx : x ∈ l) (hy : y ∈ l) (e : x.id = y.id) : x = y := by
  obtain ⟨i, hi, rfl⟩ := List.mem_iff_getElem.1 hx
  obtain ⟨j, hj, rfl⟩ := List.mem_iff_getElem.1 hy
  rcases Nat.lt_trichotomy i j with g | g | g
  · have := h i j _ _ g (List.getElem?_eq_getElem hi) (List.getElem?_eq_getElem hj); omega
  · subst g; rfl
  · have := h j i _ _ g (List.getElem?_eq_getElem hj) (List.getElem?_eq_getElem hi); omega
/-- a block that the root reaches, and how deep it is -/
inductive Dp (l : List Bl) : Int → Nat → Prop
  | root : Dp l 0 0
  | step (b : Bl) (d : Nat) (k : Int) : Dp l b.id d → b ∈ l → k ∈ b.kids → Dp l k (d + 1)
theorem Dp.zero {l : List Bl} (K : Kids l) {d : Nat} (h : Dp l 0 d) : d = 0 := by
  generalize hz : (0 : Int) = z at h
  cases h with
  | root => rfl
  | step b d k h hb hk => exact absurd hz.symm (K.kid b hb _ hk).1
theorem Dp.fun_ {l : List Bl} (K : Kids l) {k : Int} {d : Nat} (h : Dp l k d) : ∀ {d' : Nat}, Dp l k d' → d = d' := by
  induction h with
  | root => intro d' h'; exact (h'.zero K).symm
  | step b d k h hb hk ih =>
    intro d' h'
    cases h' with
    | root => exact absurd rfl (K.kid b hb _ hk).1
    | step b' d' _ h' hb' hk' =>
      obtain ⟨_, y, hy, e1, e2⟩ := K.kid b hb k hk
      obtain ⟨_, y', hy', e1', e2'⟩ := K.kid b' hb' k hk'
      have e := K.rise.inj hy hy' (e1.trans e1'.symm)
      subst e
      rw [← e2', e2] at h'
      rw [ih h']
theorem Dp.mem {l : List Bl} (K : Kids l) {k : Int} {d : Nat} (h : Dp l k d) : ∃ y ∈ l, y.id = k := by
  cases h with
  | root =>
    obtain ⟨r, h1, h2, _⟩ := K.root
    exact ⟨r, List.mem_of_getElem? h1, h2⟩
  | step b d _ h hb hk =>
    obtain ⟨_, y, hy, e, _⟩ := K.kid b hb k hk
    exact ⟨y, hy, e⟩
/-- f says how deep each block is that the root reaches -/
def IsDep (l : List Bl) (f : Int → Option Int) : Prop := ∀ id d, f id = some d ↔ ∃ n : Nat, d = n ∧ Dp l id n
theorem IsDep.uniq {l : List Bl} {f g : Int → Option Int} (hf : IsDep l f) (hg : IsDep l g) : f = g := by
  funext id
  cases h : f id with
  | none =>
    cases h' : g id with
    | none => rfl
    | some d => rw [(hf id d).2 ((hg id d).1 h')] at h; cases h
  | some d => exact ((hg id d).2 ((hf id d).1 h)).symm
theorem IsDep.exists {l : List Bl} (K : Kids l) : ∃ f, IsDep l f := by
  classical
  refine ⟨fun id => if h : ∃ n : Nat, Dp l id n then some (h.choose : Int) else none, fun id d => ?_⟩
  by_cases h : ∃ n : Nat, Dp l id n
  · simp only [dif_pos h]
    constructor
    · intro e
      injection e with e
      exact ⟨h.choose, e.symm, h.choose_spec⟩
    · rintro ⟨n, rfl, hn⟩
      rw [h.choose_spec.fun_ K hn]
  · simp only [dif_neg h]
    exact ⟨(fun e => by cases e), fun ⟨n, _, hn⟩ => absurd ⟨n, hn⟩ h⟩
/-- the error of blocks' depths -/
def lvlE (f : Int → Option Int) : List Bl → Int
  | [] => 0
  | b :: r => if f b.id = none then 12 else if 40 < (f b.id).getD 0 then 13 else lvlE f r
theorem lvlE_at {f : Int → Option Int} {l : List Bl} {i : Nat} {b : Bl} (h : l[i]? = some b) : lvlE f (l.drop i) = if f b.id = none then 12 else if 40 < (f b.id).getD 0 then 13 else lvlE f (l.drop (i + 1)) := by
  obtain ⟨hk, e⟩ := List.getElem?_eq_some_iff.1 h
  rw [List.drop_eq_getElem_cons hk, lvlE, e]

/-! ### a search in the breadth -/
/-- how many blocks have no depth yet -/
def cntF (l : List Bl) (f : Int → Option Int) : Nat := (l.filter fun b => (f b.id).isNone).length
theorem cntF_le (l : List Bl) (f : Int → Option Int) : cntF l f ≤ l.length := List.length_filter_le _ _
theorem filter_less {α : Type} (p q : α → Bool) (hpq : ∀ x, q x = true → p x = true) {e : α} (hp : p e = true) (hq : q e = false) : ∀ {l : List α}, e ∈ l → (l.filter q).length < (l.filter p).length
  | [], h => by cases h
  | a :: l, h => by
    have hle : ∀ l : List α, (l.filter q).length ≤ (l.filter p).length := by
      intro l
      induction l with
      | nil => exact Nat.le_refl _
      | cons a l ih =>
        rw [List.filter_cons, List.filter_cons]
        cases h1 : q a with
        | false =>
          rw [if_neg (by decide)]
          cases h2 : p a with
          | false => rw [if_neg (by decide)]; exact ih
          | true => rw [if_pos rfl, List.length_cons]; omega
        | true => rw [if_pos rfl, if_pos (hpq a h1), List.length_cons, List.length_cons]; omega
    rw [List.filter_cons, List.filter_cons]
    rcases List.mem_cons.1 h with rfl | h
    · rw [hq, hp, if_neg (by decide), if_pos rfl, List.length_cons]
      have := hle l
      omega
    · have ih := filter_less p q hpq hp hq h
      cases h1 : q a with
      | false =>
        rw [if_neg (by decide)]
        cases h2 : p a with
        | false => rw [if_neg (by decide)]; exact ih
        | true => rw [if_pos rfl, List.length_cons]; omega
      | true => rw [if_pos rfl, if_pos (hpq a h1), List.length_cons, List.length_cons]; omega
/-- what the search keeps; t: the block that is being looked at, of whose kids the first are done -/
structure Bfs (l : List Bl) (f : Int → Option Int) (T : List Int) (t : Option (Bl × Nat)) (m : Nat) : Prop where
  zero : f 0 = some 0
  sound : ∀ id d, f id = some d → ∃ n : Nat, d = n ∧ Dp l id n ∧ n + cntF l f ≤ l.length
  queue : ∀ x ∈ T, ∃ d, f x = some d
  now : ∀ b j, t = some (b, j) → b ∈ l ∧ (∃ d, f b.id = some d) ∧ ∀ k ∈ b.kids.take j, ∃ d, f k = some d
  closed : ∀ b ∈ l, (∃ d, f b.id = some d) → b.id ∉ T → (∀ c j, t = some (c, j) → c.id ≠ b.id) → ∀ k ∈ b.kids, ∃ d, f k = some d
  less : cntF l f + T.length ≤ m
section
variable {l : List Bl} {f : Int → Option Int} {T : List Int} {m : Nat}
theorem Bfs.start (_K : Kids l) : Bfs l (fun id => if id = 0 then some 0 else none) [0] none (l.length + 1) where
  zero := rfl
  sound id d h := by
    have h : (if id = 0 then some (0 : Int) else none) = some d := h
    split at h
    · rename_i e
      injection h with h2
      subst h2
      rw [e]
      refine ⟨0, rfl, .root, ?_⟩
      have := cntF_le l (fun id => if id = 0 then some 0 else none)
      omega
    · cases h
  queue x hx := by
    obtain rfl : x = 0 := by simpa using hx
    exact ⟨0, rfl⟩
  now b j h := by cases h
  closed b hb h hT := by
    obtain ⟨d, h⟩ := h
    have h : (if b.id = 0 then some (0 : Int) else none) = some d := h
    split at h
    · rename_i e
      exact absurd (by rw [e]; simp) hT
    · cases h
  less := by
    have := cntF_le l (fun id => if id = 0 then some 0 else none)
    show _ + 1 ≤ _
    omega
theorem Bfs.pop {x : Int} (h : Bfs l f (x :: T) none (m + 1)) {b : Bl} (hb : b ∈ l) (e : b.id = x) : Bfs l f T (some (b, 0)) m where
  zero := h.zero
  sound := h.sound
  queue y hy := h.queue y (List.mem_cons_of_mem _ hy)
  now c j hc := by
    injection hc with hc
    injection hc with h1 h2
    subst h1 h2
    exact ⟨hb, e ▸ h.queue x (by simp), fun k hk => by simp at hk⟩
  closed c hc hf hT hn := h.closed c hc hf (fun hm => by
    rcases List.mem_cons.1 hm with g | g
    · exact hn b 0 rfl (e.trans g.symm)
    · exact hT g) (fun _ _ g => by cases g)
  less := by have := h.less; rw [List.length_cons] at this; omega
theorem Bfs.skip {b : Bl} {j : Nat} {k d : Int} (h : Bfs l f T (some (b, j)) m) (hk : b.kids[j]? = some k) (hd : f k = some d) : Bfs l f T (some (b, j + 1)) m where
  zero := h.zero
  sound := h.sound
  queue := h.queue
  now c i hc := by
    injection hc with hc
    injection hc with h1 h2
    subst h1 h2
    obtain ⟨a1, a2, a3⟩ := h.now b j rfl
    refine ⟨a1, a2, fun y hy => ?_⟩
    obtain ⟨hj, e⟩ := List.getElem?_eq_some_iff.1 hk
    rw [List.take_succ_eq_append_getElem hj, List.mem_append] at hy
    rcases hy with hy | hy
    · exact a3 y hy
    · obtain rfl : y = k := by rw [← e]; simpa using hy
      exact ⟨d, hd⟩
  closed c hc hf hT hn := h.closed c hc hf hT fun e i he => by
    injection he with he
    injection he with h1 h2
    subst h1 h2
    exact hn b (j + 1) rfl
  less := h.less
theorem cntF_put {k : Int} (hd : f k = none) {y : Bl} (hy : y ∈ l) (hyi : y.id = k) (d : Int) : cntF l (putF f k d) + 1 ≤ cntF l f := by
  refine Nat.succ_le_of_lt (filter_less _ _ (fun x hx => ?_) (e := y) (by simp [hyi, hd]) (by rw [hyi, putF_same]; rfl) hy)
  cases hfx : f x.id with
  | none => rfl
  | some v =>
    rw [putF_other f d (fun e => by rw [e, hd] at hfx; cases hfx), hfx] at hx
    cases hx
theorem Bfs.cnt (K : Kids l) {b : Bl} {j : Nat} {k : Int} (h : Bfs l f T (some (b, j)) m) (hk : b.kids[j]? = some k) (hd : f k = none) (d : Int) : cntF l (putF f k d) + 1 ≤ cntF l f := by
  obtain ⟨_, y, hy, hyi, _⟩ := K.kid b (h.now b j rfl).1 k (List.mem_of_getElem? hk)
  exact cntF_put hd hy hyi d
theorem Bfs.add (K : Kids l) {b : Bl} {j : Nat} {k : Int} (h : Bfs l f T (some (b, j)) m) (hk : b.kids[j]? = some k) (hd : f k = none) {d : Int} (hb : f b.id = some d) : Bfs l (putF f k (d + 1)) (T ++ [k]) (some (b, j + 1)) m := by
  obtain ⟨a1, a2, a3⟩ := h.now b j rfl
  have hkm : k ∈ b.kids := List.mem_of_getElem? hk
  have hsome : ∀ z d', f z = some d' → putF f k (d + 1) z = some d' := fun z d' h' => by
    unfold putF
    rw [if_neg (fun e => by rw [e, hd] at h'; cases h')]
    exact h'
  have hself : putF f k (d + 1) k = some (d + 1) := if_pos rfl
  have hc := h.cnt K hk hd (d + 1)
  obtain ⟨n, rfl, hn1, hn2⟩ := h.sound _ _ hb
  refine ⟨hsome _ _ h.zero, fun z e hz => ?_, fun x hx => ?_, fun c i hc => ?_, fun c hcl hf hT hn => ?_, ?_⟩
  · unfold putF at hz
    split at hz
    · rename_i e1
      injection hz with hz
      subst e1 hz
      exact ⟨n + 1, rfl, .step b n _ hn1 a1 hkm, by omega⟩
    · obtain ⟨n', h1, h2, h3⟩ := h.sound z e hz
      exact ⟨n', h1, h2, by omega⟩
  · rcases List.mem_append.1 hx with hx | hx
    · obtain ⟨v, hv⟩ := h.queue x hx
      exact ⟨v, hsome _ _ hv⟩
    · obtain rfl : x = k := by simpa using hx
      exact ⟨_, hself⟩
  · injection hc with hc
    injection hc with h1 h2
    subst h1 h2
    obtain ⟨v, hv⟩ := a2
    refine ⟨a1, ⟨v, hsome _ _ hv⟩, fun z hz => ?_⟩
    obtain ⟨hj, e⟩ := List.getElem?_eq_some_iff.1 hk
    rw [List.take_succ_eq_append_getElem hj, List.mem_append] at hz
    rcases hz with hz | hz
    · obtain ⟨v, hv⟩ := a3 z hz
      exact ⟨v, hsome _ _ hv⟩
    · obtain rfl : z = k := by rw [← e]; simpa using hz
      exact ⟨_, hself⟩
  · have hck : c.id ≠ k := fun e => hT (by rw [e]; simp)
    have hcT : c.id ∉ T := fun g => hT (List.mem_append_left _ g)
    obtain ⟨v, hv⟩ := hf
    have hv' : f c.id = some v := by
      unfold putF at hv
      rwa [if_neg hck] at hv
    intro z hz
    obtain ⟨v', hv2⟩ := h.closed c hcl ⟨v, hv'⟩ hcT (fun e i he => by
      injection he with he
      injection he with h1 h2
      subst h1 h2
      exact hn b (j + 1) rfl) z hz
    exact ⟨v', hsome _ _ hv2⟩
  · have := h.less
    rw [List.length_append, List.length_singleton]
    omega
theorem Bfs.done {b : Bl} {j : Nat} (h : Bfs l f T (some (b, j)) m) (hj : b.kids.length ≤ j) (K : Kids l) : Bfs l f T none m where
  zero := h.zero
  sound := h.sound
  queue := h.queue
  now c i hc := by cases hc
  closed c hc hf hT _ k hk := by
    obtain ⟨a1, a2, a3⟩ := h.now b j rfl
    by_cases e : b.id = c.id
    · have e := K.rise.inj a1 hc e
      subst e
      exact a3 k (by rw [List.take_of_length_le hj]; exact hk)
    · exact h.closed c hc hf hT (fun d i hd => by
        injection hd with hd
        injection hd with h1 h2
        subst h1
        exact e) k hk
  less := h.less
theorem Bfs.isDep (K : Kids l) (h : Bfs l f [] none m) : IsDep l f := by
  have key : ∀ {id : Int} {n : Nat}, Dp l id n → ∃ d, f id = some d := by
    intro id n hd
    induction hd with
    | root => exact ⟨0, h.zero⟩
    | step b d k hd hb hk ih => exact h.closed b hb ih (by simp) (fun _ _ g => by cases g) k hk
  intro id d
  constructor
  · intro hd
    obtain ⟨n, h1, h2, _⟩ := h.sound id d hd
    exact ⟨n, h1, h2⟩
  · rintro ⟨n, rfl, hn⟩
    obtain ⟨d, hd⟩ := key hn
    obtain ⟨n', rfl, h2, _⟩ := h.sound id d hd
    rw [hd, h2.fun_ K hn]
end
end Go.Proofs.YtmkicfjcgbfaaaaGreatDoor
namespace Go.Proofs.YtmkicfjcgbfaaaaGreatDoor

def zeros (D : List Int) : Nat := (D.filter (· == 0)).length
/-- depths that are right -/
structure Rch (l : List Bl) (D : List Int) : Prop where
  len : D.length = l.length
  sound : ∀ (i : Nat) (d : Int), D[i]? = some d → d ≠ 0 → ∃ (y : Bl) (n : Nat), l[i]? = some y ∧ d = (n : Int) ∧ Dp l y.id n
/-- a kid has its depth -/
def Mk (l : List Bl) (D : List Int) (k : Int) : Prop := ∃ (p : Nat) (d : Int), posOf l k = (p : Int) ∧ D[p]? = some d ∧ d ≠ 0
/-- what has been done since D, of the first j kids of x -/
structure RchTo (l : List Bl) (D D' : List Int) (kids : List Int) : Prop where
  rch : Rch l D'
  mono : ∀ (j : Nat) (d : Int), D[j]? = some d → d ≠ 0 → D'[j]? = some d
  fresh : ∀ (j : Nat) (d : Int) (y : Bl), D[j]? = some 0 → D'[j]? = some d → d ≠ 0 → l[j]? = some y → ∀ k ∈ y.kids, Mk l D' k
  kids : ∀ k ∈ kids, Mk l D' k
  less : zeros D' ≤ zeros D
section
variable {l : List Bl} {D D' D2 : List Int} {ks : List Int}
theorem RchTo.start (h : Rch l D) : RchTo l D D [] where
  rch := h
  mono _ _ h _ := h
  fresh j d y h h' hd := by rw [h] at h'; injection h' with h'; exact absurd h'.symm hd
  kids k hk := by cases hk
  less := Nat.le_refl _
theorem Mk.mono (h : RchTo l D D' ks) {k : Int} (hm : Mk l D k) : Mk l D' k := by
  obtain ⟨p, d, h1, h2, h3⟩ := hm
  exact ⟨p, d, h1, h.mono p d h2 h3, h3⟩
theorem RchTo.skip (h : RchTo l D D' ks) {k : Int} {p : Nat} {d : Int} (hp : posOf l k = (p : Int)) (hd : D'[p]? = some d) (h0 : d ≠ 0) : RchTo l D D' (ks ++ [k]) where
  rch := h.rch
  mono := h.mono
  fresh := h.fresh
  kids z hz := by
    rcases List.mem_append.1 hz with hz | hz
    · exact h.kids z hz
    · obtain rfl : z = k := by simpa using hz
      exact ⟨p, d, hp, hd, h0⟩
  less := h.less
theorem Rch.set (h : Rch l D) {x y : Bl} (hx : x ∈ l) {k : Int} (hk : k ∈ x.kids) {n : Nat} (hn : Dp l x.id n) {p : Nat} (hy : l[p]? = some y) (hyk : y.id = k) : Rch l (D.set p ((n : Int) + 1)) where
  len := by rw [List.length_set]; exact h.len
  sound i d hi hd := by
    rw [List.getElem?_set] at hi
    split at hi
    · rename_i e
      subst e
      split at hi
      · injection hi with hi
        exact ⟨y, n + 1, hy, by omega, by rw [hyk]; exact .step x n k hn hx hk⟩
      · cases hi
    · exact h.sound i d hi hd
/-- what the search from the root has found -/
theorem RchTo.isDep (K : Kids l) {f : Int → Option Int} (hf : IsDep l f) {r : Bl} (hr : l[0]? = some r) (hD : ∀ (j : Nat) (d : Int), D[j]? = some d → d = 0) (hl : D.length = l.length) (h : RchTo l D D' r.kids) : ∀ (i : Nat) (x : Bl), l[i]? = some x → i ≠ 0 → ∃ d, D'[i]? = some d ∧ (d = 0 → f x.id = none) ∧ (d ≠ 0 → f x.id = some d) := by
  have hr0 : r.id = 0 := by
    obtain ⟨r', h1, h2, _⟩ := K.root
    rw [hr] at h1
    rw [Option.some.inj h1]; exact h2
  have key : ∀ {id : Int} {n : Nat}, Dp l id n → id ≠ 0 → Mk l D' id := by
    intro id n hd
    induction hd with
    | root => intro h0; exact absurd rfl h0
    | step b d k hd hb hk ih =>
      intro _
      by_cases e : b.id = 0
      · have : b = r := K.rise.inj hb (List.mem_of_getElem? hr) (e.trans hr0.symm)
        subst this
        exact h.kids k hk
      · obtain ⟨p, v, h1, h2, h3⟩ := ih e
        obtain ⟨q, hq, hqe⟩ := List.mem_iff_getElem.1 hb
        have hbq : l[q]? = some b := by rw [List.getElem?_eq_getElem hq, hqe]
        have hpq : p = q := by
          have := posOf_of K.rise hbq
          rw [h1] at this
          omega
        subst hpq
        have hz : D[p]? = some 0 := by
          obtain ⟨z, hz⟩ : ∃ z, D[p]? = some z := ⟨_, List.getElem?_eq_getElem (by rw [hl]; exact hq)⟩
          rw [hz, hD p z hz]
        exact h.fresh p v b hz h2 h3 hbq k hk
  intro i x hx hi
  have hil := (List.getElem?_eq_some_iff.1 hx).1
  obtain ⟨d, hd⟩ : ∃ d, D'[i]? = some d := ⟨_, List.getElem?_eq_getElem (by rw [h.rch.len]; exact hil)⟩
  have hx0 : x.id ≠ 0 := by
    have := K.rise 0 i r x (by omega) hr hx
    omega
  refine ⟨d, hd, fun h0 => ?_, fun h0 => ?_⟩
  · cases hfx : f x.id with
    | none => rfl
    | some v =>
      obtain ⟨n, _, hn⟩ := (hf _ _).1 hfx
      obtain ⟨p, v', h1, h2, h3⟩ := key hn hx0
      have := posOf_of K.rise hx
      rw [h1] at this
      have hpi : p = i := by omega
      subst hpi
      rw [hd] at h2
      injection h2 with h2
      exact absurd (h2.symm.trans h0) h3
  · obtain ⟨y, n, h1, h2, h3⟩ := h.rch.sound i d hd h0
    rw [hx] at h1
    obtain rfl := Option.some.inj h1
    exact (hf _ _).2 ⟨n, h2, h3⟩
end
end Go.Proofs.YtmkicfjcgbfaaaaGreatDoor
namespace Go.Proofs.YtmkicfjcgbfaaaaGreatDoor
open Go.RowKit

end Go.Proofs.YtmkicfjcgbfaaaaGreatDoor
namespace Go.Proofs
open Go.Shelf

def Tryz.delI_ren : Go.Shelf.Ren := ⟨fun | 10 => 90 | 6 => 110 | n => n, fun | 22 => 43 | 23 => 3 | 25 => 139 | 3 => 3 | 4 => 4 | 0 => 0 | n => n, fun | n => n⟩
theorem Tryz.delI : Go.Proofs.SlLaysH.n10 Tryz.prog Tryz.delI_ren := {
  mixed := by kernel_rfl
  f6 := ⟨Tryz.f110.name, by decide, Tryz.func110.trans (congrArg some (by kernel_rfl))⟩
  f10 := ⟨Tryz.f90.name, by decide, Tryz.func90.trans (congrArg some (by kernel_rfl))⟩
  t0 := Tryz.underlying0
  a0 := Tryz.isAgg0
  z0 := Tryz.sizeOf0
  v0 := Tryz.zeroValue0
  t3 := Tryz.underlying3
  a3 := Tryz.isAgg3
  z3 := Tryz.sizeOf3
  v3 := Tryz.zeroValue3
  t4 := Tryz.underlying4
  a4 := Tryz.isAgg4
  z4 := Tryz.sizeOf4
  v4 := Tryz.zeroValue4
  t22 := Tryz.underlying43
  a22 := Tryz.isAgg43
  z22 := Tryz.sizeOf43
  v22 := Tryz.zeroValue43
  a23 := Tryz.isAgg3
  z23 := Tryz.sizeOf3
  t25 := Tryz.underlying139
  a25 := Tryz.isAgg139
  z25 := Tryz.sizeOf139
  v25 := Tryz.zeroValue139 }
end Go.Proofs
namespace Go.Proofs.YtmkicfjcgbfaaaaGreatDoor
open Go.ChangeShapes Go.WideShapes Go.ChangeAt Go.RowKit

theorem Tryz.own : ownKnob Tryz.prog.godebug = none := by kernel_rfl
/-- what a reading weighs is within the form's reach -/
def Fits {H : Type} (P : Program) (t : TypeId) (d : DataW H) : Prop := ∀ n ∈ d.weights P t, n ≤ reachBytes

section
variable {H : Type} {P : Program} {ts : List TypeId} {ds : List (DataW H)}
theorem Fits.part {t : TypeId} {fs : Array Field} {parts : List (DataW H)} (h : Fits P t (.agg parts)) (hu : P.underlying t = some (.struct fs)) {j : Nat} {f : Field} {d : DataW H} (hf : fs[j]? = some f) (hd : parts[j]? = some d) : Fits P f.type d := fun n hn =>
  h n (by
    simp only [DataW.weights, hu]
    exact DataW.weights_mem_each (by rw [List.getElem?_map, Array.getElem?_toList, hf]; rfl) hd n hn)

theorem weights_mem_all {e : TypeId} : ∀ {ds : List (DataW H)} {d : DataW H}, d ∈ ds → ∀ n ∈ d.weights P e, n ∈ DataW.weightsAll P e ds
  | d0 :: ds, d, hd, n, hn => by
    simp only [DataW.weightsAll, List.mem_append]
    rcases List.mem_cons.1 hd with rfl | hd
    · exact .inl hn
    · exact .inr (weights_mem_all hd n hn)

theorem Fits.elem {t e : TypeId} {elems spare : List (DataW H)} (h : Fits P t (.slice elems spare)) (hu : P.underlying t = some (.slice e)) {d : DataW H} (hd : d ∈ elems) : Fits P e d := fun n hn =>
  h n (by
    simp only [DataW.weights, hu]
    exact List.mem_cons_of_mem _ (List.mem_append_left _ (weights_mem_all hd n hn)))

theorem Fits.slice {t e : TypeId} {elems spare : List (DataW H)} (h : Fits P t (.slice elems spare)) (hu : P.underlying t = some (.slice e)) : (elems.length + spare.length) * P.bytesOf e ≤ 140737488351232 := by
  have := h ((elems.length + spare.length) * P.bytesOf e) (by simp only [DataW.weights, hu]; exact List.mem_cons_self ..)
  simpa [reachBytes] using this

theorem Fits.string {t : TypeId} {s : ByteArray} (h : Fits (H := H) P t (.lit (.string s.data.toList))) : s.size ≤ 140737488351232 := by
  have := h s.data.toList.length (by simp [DataW.weights])
  simpa [reachBytes] using this
end

theorem i64_bounds {n : Int} (h : (Lit.int .i64 n).wf = true) : -9223372036854775808 ≤ n ∧ n ≤ 9223372036854775807 := by
  have h1 : IntKind.i64.min = -9223372036854775808 := rfl
  have h2 : IntKind.i64.max = 9223372036854775807 := rfl
  simpa [Lit.wf, h1, h2] using h

end Go.Proofs.YtmkicfjcgbfaaaaGreatDoor
