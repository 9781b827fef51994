/-
  DERIVED. The walks of tree.path and the reference's PathOf. Conditions: sizes; a base without error.
  A base without error, another way to say it: each block but the root is among the kids of its parent. Plain law. Conditions: none.
  The walk of slices.Delete of one element at blocks, over a row of the call's own. Conditions: sizes.
  By an AI agent.
-/
import Derived.Test.YtmkicfjcgbfaaaaGreatDoorTc16
import Derived.Test.YtmkicfjcgbfaaaaGreatDoorTc09
import Derived.Test.YtmkicfjcgbfaaaaGreatDoorTc04
import Derived.Lib.OwnBridge
import Derived.Test.YtmkicfjcgbfaaaaGreatDoorTc13
namespace Go.Proofs.YtmkicfjcgbfaaaaGreatDoor
open Go.RowKit

/-- slices.Reverse of a row of the call's own -/
theorem revI_any {w : World} {base n : Nat} {v : Value} {L : List Int} (h : w.ownsRow base 3 1 v n (L.map (.int .i64))) (hs : n ≤ 100000) (w0 : World) (hb : Below base w0 w) :
    Calls Tryz.prog 28 #[v] w fun e w' => e = .returned (.tuple #[]) ∧ w'.ownsRow base 3 1 v n (L.reverse.map (.int .i64)) ∧ Below base w0 w' := by
  rcases h.2 with ⟨rfl, h0⟩ | ⟨g0, cap0, cur, rfl, _⟩
  · have hL : L = [] := by
      have := h.1
      rw [h0, List.length_map] at this
      exact List.eq_nil_of_length_eq_zero (by omega)
    subst hL h0
    refine (Tryz.slices_Reverse_int_empty none 0 w).mono ?_
    rintro e w' ⟨rfl, rfl⟩
    exact ⟨rfl, h, hb⟩
  · obtain ⟨g, cap, e, hg, hlt, hnc, hcm, hl, hH⟩ := Lib.holds_of_ownsRow h (by intro e; injection e with e; cases e)
    injection e with e1 _ e3
    injection e1 with e1
    injection e1 with e1
    subst e1 e3
    rw [← hl]
    refine (Tryz.slices_Reverse_int g0 0 cap0 L w hH (by omega)).mono ?_
    rintro e w' ⟨rfl, q, rfl⟩
    refine ⟨rfl, ?_, Lib.below_putRow hb hg⟩
    have := Lib.ownsRow_putRow (q := q) (k := n) h (ys := L.reverse) (by rw [List.length_reverse]; exact hl) (Nat.le_refl _)
    rw [List.take_of_length_le (by rw [List.length_reverse]; omega)] at this
    rw [hl]
    exact this

set_option maxHeartbeats 4000000 in
/-- tree.path -/
theorem path_any (l : List Bl) (K : Kids l) (A : Option Addr) (n c : Nat) (id : Int) (d : Nat) (hd : Dp l id d) (hd40 : d ≤ 40) (w : World) (B : Nat) (hB : B ≤ w.heap.size) (h : RB w B (.slice A n c) l) :
    Calls Tryz.prog 12 #[.slice A n c, .int .i64 id] w fun e w' => (∃ A' n', e = .returned (.slice A' n' n') ∧ RInX w' (fun b => w.heap.size ≤ b ∧ b < w'.heap.size) (.slice A' n' n') (pth l d id)) ∧ Below w.heap.size w w' := by
  obtain ⟨i0, hi, hq0, hq1, hq2⟩ := info_parts int_info
  have HIX := Lib.hid fun (x : Int) (W : World) (hx : I64 x) (hW : Below w.heap.size w W) => index_any l A n c x W B (Nat.le_trans hB hW.size) (h.below (hW.mono hB)) K.rise K.ids hx
  have H := Lib.hid h
  have KK := Lib.hid K
  have HP64 := Lib.hid (pth_i64 K hd)
  have HLEN := Lib.hid (pth_len (l := l) d id)
  obtain ⟨P, hP⟩ : ∃ P, P = pth l d id := ⟨_, rfl⟩
  rw [← hP] at HP64 HLEN ⊢
  have HDD := Lib.hid hd
  have HPP := Lib.hid hP
  clear h K hd hP
  go_enter Tryz.func12, Tryz.ntmps12
  go_wp2_with fail
  go_loopg [1, 5] d (fun gg s1 s5 wr => ∃ (x : Int) (d' t : Nat) (v : Value) (L : List Int), s1 = .int .i64 x ∧ v = s5 ∧ d' ≤ gg ∧ Hid (Dp l x d') ∧ Hid (pth l d' x ++ L.reverse = P) ∧ Hid (t = L.length) ∧ Hid (wr.ownsRow w.heap.size 3 1 v t (L.map (.int .i64))) ∧ Hid (Below w.heap.size w wr))
  case atStart => exact ⟨id, d, 0, _, [], rfl, rfl, Nat.le_refl _, HDD, (by show _ = _; rw [HPP.out]; simp), rfl, World.ownsRow_nil _ _ _ _, Below.refl _ _⟩
  case round =>
    obtain ⟨x, d', t, v, L, rfl, rfl, hdg, hdp, hpl, ht, hown, hbel⟩ := hrel
    obtain ⟨W1, rfl⟩ : ∃ W1, W1 = wr := ⟨_, rfl⟩
    have hzr : w.heap.size ≤ W1.heap.size := hbel.out.size
    have hts : t + d' = d := by
      have h1 := congrArg List.length hpl.out
      rw [List.length_append, List.length_reverse, pth_len, HLEN.out, ← ht.out] at h1
      omega
    rcases d' with _ | d'
    · have hx0 : x = 0 := (Dp.zero_iff KK.out hdp.out).2 rfl
      subst hx0
      have hL : Hid (L.reverse = P) := hpl.out
      have HRV := Lib.hid (revI_any hown.out (by omega) w hbel.out)
      go_wp2_with fail
      refine HRV.out.mono ?_
      rintro e w2 ⟨rfl, ho2, hb2⟩
      rw [hL.out] at ho2
      obtain ⟨A', c', rfl, h0, h1, h2⟩ := RInX.of_own ho2 (by rw [HLEN.out]; omega) (by omega) HP64.out
      have hcc : t ≤ c' := by
        obtain ⟨_, _, _, e, _, h3, _⟩ := h1
        injection e with _ e1 e2
        omega
      have HCL := Lib.hid (clipI_any A' t c' w2 hcc h0)
      have HB2 := Lib.hid hb2
      have HR2 := Lib.hid (h2.weak (S' := fun b => w.heap.size ≤ b ∧ b < w2.heap.size) fun b hb => hb.2)
      clear ho2 h0 h1 h2 hcc hb2
      go_wp2_with fail
      refine HCL.out.mono ?_
      rintro e w3 ⟨rfl, rfl⟩
      go_wp2_with fail
      go_ret
      exact ⟨⟨A', t, rfl, HR2.out⟩, HB2.out⟩
    · obtain ⟨hx0, hdu⟩ := Dp.up KK.out hdp.out
      obtain ⟨p, bx, hp, hlp, hbi⟩ := hdp.out.blk KK.out
      have hbx := List.mem_of_getElem? hlp
      have hx64 : I64 x := by have := KK.out.ids bx hbx; unfold I64; omega
      have hpar : parOf l x = bx.parent := by rw [← hbi]; exact parOf_eq KK.out hbx
      rw [hpar] at hdu
      have hpn : p < n := by have := (List.getElem?_eq_some_iff.1 hlp).1; have := H.out.len.1; omega
      obtain ⟨b, off, Ak, nk, ck, Ap, np, cp, rfl, hbb, g0, g1, g2, g3, g4, _, _⟩ := H.out.at_ hlp
      have HDU := Lib.hid hdu
      have HPL : Hid (pth l d' bx.parent ++ (L ++ [x]).reverse = P) := by
        show _ = _
        rw [List.reverse_append, ← hpl.out, pth, hpar]
        simp
      have HT2 : Hid (t + 1 = (L ++ [x]).length) := by show _ = _; rw [List.length_append, ← ht.out]; rfl
      have hx0' : (x != 0) = true := by simpa using hx0
      have hb1 : t + 1 ≤ maxLen := by unfold maxLen; omega
      have hb2 : (t + 1) * 8 ≤ 140737488355328 := by omega
      have HR1 : Hid (Reads (W1.alloc (.cells #[.int .i64 x] 3)) (W1.heap.size + 1) 1 (some ⟨W1.heap.size, 0, none⟩) 1 [.int .i64 x]) := Reads.blk (Blk.new _ _ _) rfl
      have hbase : w.heap.size ≤ (W1.alloc (.cells #[.int .i64 x] 3)).heap.size := by simp; omega
      have hone : ∀ u ∈ [Value.int .i64 x], u.oneCell' = true := ints_one [x]
      have HOW := Lib.hid (hown.out.alloc (.cells #[.int .i64 x] 3))
      have HBA := Lib.hid (hbel.out.alloc hzr (.cells #[.int .i64 x] 3))
      have HVB : Hid (∀ g, v.ownBlock = some g → w.heap.size ≤ g) := fun g hg => (own_block_lt hown.out g hg).1
      have HX := Lib.hid fun W hW => HIX.out x W hx64 hW
      rw [hp] at HX
      have HL3 : Hid (L.map (Value.int .i64) ++ [Value.int .i64 x] = (L ++ [x]).map (Value.int .i64)) := by show _ = _; simp
      have y0 : (0 : Int) ≤ (p : Int) := by omega
      have y1 : (p : Int) < (n : Int) := by omega
      clear hx0 hdu hp hlp hbi hbx hpar g0 g2 g3 g4
      go_wp2_with (at_builtin; refine wpList_append_any _ rfl _ _ 43 rfl w.heap.size 3 i0 (.int .i64 0) 1 8 Tryz.underlying43 hi hq0 hq1 hq2 rfl (by decide) v t _ rfl HOW.out _ _ 1 1 _ rfl HR1.out hone hb1 hb2 hbase ?_)
      intro v2 w2 hown2 hg2 hat2
      rw [HL3.out] at hown2
      have HO2 := Lib.hid hown2
      have HB2 : Hid (Below w.heap.size w w2) := HBA.out.grown hg2 (Nat.le_trans hzr (by simp)) (fun g hg => HVB.out g hg)
      have HX2 := Lib.hid (HX.out w2 HB2.out)
      clear hown2 hg2 hat2 hb1 hb2 hbase hone
      go_wp2_with fail
      refine HX2.out.mono ?_
      rintro e w3 ⟨rfl, hb3⟩
      have HO3 := Lib.hid (own_below HO2.out hb3)
      have HB3 : Hid (Below w.heap.size w w3) := HB2.out.trans (hb3.mono HB2.out.size)
      have g1 := (HB3.out.cell (p := ⟨b, off + p * 5 + 1, none⟩) (by show b < _; omega)).trans g1
      clear hb3
      go_wp2_with fail
      go_roundg d'
      case measure => omega
      case rel => exact ⟨bx.parent, d', t + 1, v2, L ++ [x], rfl, rfl, Nat.le_refl _, HDU, HPL, HT2, HO3, HB3⟩

end Go.Proofs.YtmkicfjcgbfaaaaGreatDoor
namespace Go.Proofs.YtmkicfjcgbfaaaaGreatDoor

theorem rise_iff {l : List Bl} : Rise l ↔ l.Pairwise (fun x y => x.id < y.id) := by
  rw [List.pairwise_iff_getElem]
  constructor
  · intro h i j hi hj hij
    exact h i j _ _ hij (List.getElem?_eq_getElem hi) (List.getElem?_eq_getElem hj)
  · intro h i j x y hij hx hy
    obtain ⟨hi, rfl⟩ := List.getElem?_eq_some_iff.1 hx
    obtain ⟨hj, rfl⟩ := List.getElem?_eq_some_iff.1 hy
    exact h i j hi hj hij

/-- a base without error; g says how deep its blocks are -/
structure Tree (l : List Bl) (g : Int → Nat) : Prop where
  rise : l.Pairwise (fun x y => x.id < y.id)
  ids : IdsIn l
  short : l.length ≤ 2000
  root : ∃ r r', l = r :: r' ∧ r.id = 0 ∧ r.parent = 0 ∧ r.text.toList = [] ∧ r.props = []
  loc : ∀ x ∈ l, txErr x.text = 0 ∧ x.kids.length ≤ 500 ∧ cpErr x.props = 0
  kid : ∀ b ∈ l, ∀ k ∈ b.kids, k ≠ 0 ∧ ∃ y ∈ l, y.id = k ∧ y.parent = b.id
  nod : ∀ b ∈ l, b.kids.Nodup
  par : ∀ x ∈ l, x.id ≠ 0 → ∃ b ∈ l, b.id = x.parent ∧ x.id ∈ b.kids ∧ g x.id = g b.id + 1
  zero : g 0 = 0
  deep : ∀ x ∈ l, g x.id ≤ 40
section
variable {l : List Bl} {g : Int → Nat} {f : Int → Option Int}
theorem Tree.kids (T : Tree l g) : Kids l where
  rise := rise_iff.2 T.rise
  ids := T.ids
  root := by
    obtain ⟨r, r', rfl, h1, h2, _⟩ := T.root
    exact ⟨r, rfl, h1, h2⟩
  kid := T.kid
  nod := T.nod
  short := T.short
  few b hb := (T.loc b hb).2.1
theorem Tree.dp (T : Tree l g) : ∀ (n : Nat) {x : Bl}, x ∈ l → g x.id = n → Dp l x.id n
  | 0, x, hx, h => by
    by_cases e : x.id = 0
    · rw [e]; exact .root
    · obtain ⟨b, _, _, _, h4⟩ := T.par x hx e
      omega
  | n + 1, x, hx, h => by
    by_cases e : x.id = 0
    · rw [e, T.zero] at h; omega
    · obtain ⟨b, hb, _, h3, h4⟩ := T.par x hx e
      exact .step b n _ (T.dp n hb (by omega)) hb h3
theorem Tree.good (T : Tree l g) (hf : IsDep l f) : Good l f where
  kids := T.kids
  dep := hf
  all x hx := ⟨g x.id, (hf _ _).2 ⟨_, rfl, T.dp _ hx rfl⟩, T.deep x hx⟩
  blk k x hk := by
    have hx := List.mem_of_getElem? hk
    obtain ⟨h1, h2, h3⟩ := T.loc x hx
    obtain ⟨r, r', hr, e1, e2, e3, e4⟩ := T.root
    unfold blkErr
    rcases k with _ | k
    · obtain rfl : r = x := by rw [hr] at hk; simpa using hk
      have q1 : rngB (prevB l 0) r = false := by show (r.id != 0) = false; rw [e1]; rfl
      have q2 : ordB (prevB l 0) r = false := rfl
      have q3 : rootB (prevB l 0) r = false := by
        show (!r.text.toList.isEmpty || decide (0 < r.props.length) || (r.parent != 0)) = false
        rw [e2, e3, e4]; rfl
      rw [q1, q2, q3, if_neg (by decide), if_neg (by decide), if_neg (by decide), if_neg (fun e => e h1), if_neg (by omega), h3]
    · have hkl := (List.getElem?_eq_some_iff.1 hk).1
      have hy := List.getElem?_eq_getElem (by omega : k < l.length)
      have hlt := rise_iff.2 T.rise k (k + 1) _ _ (Nat.lt_succ_self k) hy hk
      have hid := T.ids x hx
      have hid2 := T.ids _ (List.getElem_mem (by omega : k < l.length))
      rw [prevB_succ hy]
      have q1 : rngB (some l[k]) x = false := by
        show (decide (x.id < 1) || decide (1000000 < x.id)) = false
        rw [Bool.or_eq_false_iff, decide_eq_false_iff_not, decide_eq_false_iff_not]; omega
      have q2 : ordB (some l[k]) x = false := decide_eq_false (by omega)
      rw [q1, q2, if_neg (by decide), if_neg (by decide), if_neg (by simp [rootB]), if_neg (fun e => e h1), if_neg (by omega), h3]
theorem Good.tree (G : Good l f) : Tree l (fun id => ((f id).getD 0).toNat) where
  rise := rise_iff.1 G.kids.rise
  ids := G.kids.ids
  short := G.kids.short
  root := by
    obtain ⟨r, h1, h2, h3⟩ := G.kids.root
    obtain ⟨r', hr⟩ : ∃ r', l = r :: r' := by
      cases l with
      | nil => simp at h1
      | cons a l => obtain rfl : a = r := by simpa using h1
                    exact ⟨l, rfl⟩
    have := (blkErr_zero (G.blk 0 r h1)).2.2.1
    have e3 : (!r.text.toList.isEmpty || decide (0 < r.props.length) || (r.parent != 0)) = false := this
    rw [Bool.or_eq_false_iff, Bool.or_eq_false_iff] at e3
    refine ⟨r, r', hr, h2, h3, by simpa using e3.1.1, ?_⟩
    have := of_decide_eq_false e3.1.2
    exact List.eq_nil_of_length_eq_zero (by omega)
  loc x hx := by
    obtain ⟨k, hk, rfl⟩ := List.mem_iff_getElem.1 hx
    have := blkErr_zero (G.blk k _ (List.getElem?_eq_getElem hk))
    exact ⟨this.2.2.2.1, this.2.2.2.2.1, this.2.2.2.2.2⟩
  kid := G.kids.kid
  nod := G.kids.nod
  par x hx h0 := by
    obtain ⟨d, h1, h2, _⟩ := G.dp hx
    generalize hz : x.id = z at h1 h2 h0
    cases h2 with
    | root => exact absurd rfl h0
    | step b d' _ h hb hk =>
      obtain ⟨_, y, hy, e1, e2⟩ := G.kids.kid b hb z hk
      have e := G.kids.rise.inj hy hx (e1.trans hz.symm)
      subst e
      refine ⟨b, hb, e2.symm, hk, ?_⟩
      have := (G.dep _ _).2 ⟨d', rfl, h⟩
      simp only [h1, this, Option.getD_some]
      omega
  zero := by
    obtain ⟨r, h1, h2, _⟩ := G.kids.root
    have := (G.dep 0 0).2 ⟨0, rfl, .root⟩
    simp only [this, Option.getD_some]; rfl
  deep x hx := by
    obtain ⟨d, h1, h2⟩ := G.all x hx
    simp only [h1, Option.getD_some]; omega
theorem Tree.depth (T : Tree l g) (hf : IsDep l f) {x : Bl} (hx : x ∈ l) : f x.id = some (g x.id : Int) := (hf _ _).2 ⟨_, rfl, T.dp _ hx rfl⟩
theorem blks_of : ∀ (M : List Bl) (p : Option Bl), (∀ (k : Nat) (x : Bl), M[k]? = some x → blkErr (if k = 0 then p else M[k - 1]?) x = 0) → blksErr p M = 0
  | [], _, _ => by rw [blksErr]
  | x :: M, p, h => by
    have h0 := h 0 x rfl
    rw [if_pos rfl] at h0
    rw [blksErr, if_neg (fun e => e h0)]
    refine blks_of M (some x) fun k y hk => ?_
    have := h (k + 1) y (by simpa using hk)
    rw [if_neg (by omega), Nat.add_sub_cancel] at this
    rcases k with _ | k
    · exact this
    · rw [if_neg (by omega), Nat.add_sub_cancel]; simpa using this
theorem kids_none (l : List Bl) (bid : Int) : ∀ (kids seen : List Int), (∀ k ∈ kids, k ≠ 0 ∧ ∃ (p : Nat) (y : Bl), posOf l k = (p : Int) ∧ l[p]? = some y ∧ y.parent = bid) → kids.Nodup → (∀ k ∈ kids, k ∉ seen) → kidsE l bid seen kids = 0
  | [], _, _, _, _ => by rw [kidsE]
  | k :: r, seen, h, hn, hs => by
    obtain ⟨h0, p, y, h1, h2, h3⟩ := h k (by simp)
    have e : kidE l bid seen k = 0 := by
      unfold kidE
      rw [if_neg (by omega)]
      have e : parAt l (posOf l k) = y.parent := by unfold parAt; rw [h1, Int.toNat_natCast, h2]
      rw [e, h3, if_neg (by simpa using h0), if_neg (by simpa using hs k (by simp))]
    obtain ⟨n1, n2⟩ := List.nodup_cons.1 hn
    rw [kidsE, if_neg (fun q => q e)]
    refine kids_none l bid r _ (fun z hz => h z (by simp [hz])) n2 fun z hz hm => ?_
    rcases List.mem_append.1 hm with g | g
    · exact hs z (by simp [hz]) g
    · obtain rfl : z = k := by simpa using g
      exact n1 hz
theorem all_none (l : List Bl) : ∀ M : List Bl, (∀ b ∈ M, kidsE l b.id [] b.kids = 0) → allKids l M = 0
  | [], _ => by rw [allKids]
  | b :: M, h => by rw [allKids, if_neg (fun e => e (h b (by simp)))]; exact all_none l M fun x hx => h x (by simp [hx])
theorem lvl_none (f : Int → Option Int) : ∀ M : List Bl, (∀ x ∈ M, ∃ d : Nat, f x.id = some (d : Int) ∧ d ≤ 40) → lvlE f M = 0
  | [], _ => by rw [lvlE]
  | b :: M, h => by
    obtain ⟨d, h1, h2⟩ := h b (by simp)
    rw [lvlE, h1, if_neg (by simp), Option.getD_some, if_neg (by omega)]
    exact lvl_none f M fun x hx => h x (by simp [hx])
/-- a base without error has no error -/
theorem Good.clean (G : Good l f) : baseE l f = 0 := by
  unfold baseE
  obtain ⟨r, hr, _⟩ := G.kids.root
  have hl := (List.getElem?_eq_some_iff.1 hr).1
  have hb : blksErr none l = 0 := blks_of l none fun k x hx => by
    have := G.blk k x hx
    unfold prevB at this
    exact this
  rw [if_neg (by omega), if_neg (by have := G.kids.short; omega), if_neg (fun e => e hb)]
  have hk : allKids l l = 0 := all_none l l fun b hb => kids_none l b.id b.kids [] (fun k hk => by
    obtain ⟨h0, y, hy, e1, e2⟩ := G.kids.kid b hb k hk
    obtain ⟨p, hp, e⟩ := List.mem_iff_getElem.1 hy
    have h : l[p]? = some y := by rw [List.getElem?_eq_getElem hp, e]
    exact ⟨h0, p, y, by rw [← e1]; exact posOf_of G.kids.rise h, h, e2⟩) (G.kids.nod b hb) fun _ _ h => by cases h
  rw [if_neg (fun e => e hk)]
  exact lvl_none f l G.all
end
end Go.Proofs.YtmkicfjcgbfaaaaGreatDoor
namespace Go.Proofs.YtmkicfjcgbfaaaaGreatDoor
open Go.RowKit

theorem Blk.setCells {t : TypeId} {g : Nat} : ∀ (vs : List Value) (o : Nat) (w : World) (cs : Array Value), Blk w g t cs → ∃ cs' : Array Value, Blk (w.setCells g o vs) g t cs' ∧ cs'.size = cs.size ∧ cs'.toList.take o = cs.toList.take o
  | [], o, w, cs, h => ⟨cs, h, rfl, rfl⟩
  | v :: r, o, w, cs, h => by
    obtain ⟨cs', h1, h2, h3⟩ := Blk.setCells r (o + 1) (w.setCell ⟨g, o, none⟩ v) _ (h.set_ o v)
    refine ⟨cs', h1, by rw [h2, Array.size_setIfInBounds], ?_⟩
    have h4 : (cs'.toList.take (o + 1)).take o = ((cs.setIfInBounds o v).toList.take (o + 1)).take o := by rw [h3]
    rw [List.take_take, List.take_take, Nat.min_eq_left (Nat.le_succ o), Array.toList_setIfInBounds, List.take_set_of_le (Nat.le_refl o)] at h4
    exact h4
theorem setCells_other : ∀ (vs : List Value) (o g k : Nat) (w : World), k ≠ g → (w.setCells g o vs).heap[k]? = w.heap[k]?
  | [], _, _, _, _, _ => rfl
  | v :: r, o, g, k, w, h => by
    show ((w.setCell ⟨g, o, none⟩ v).setCells g (o + 1) r).heap[k]? = _
    rw [setCells_other r (o + 1) g k _ h]
    exact Below.heap_setCell w _ v k h
theorem setCells_size : ∀ (vs : List Value) (o g : Nat) (w : World), (w.setCells g o vs).heap.size = w.heap.size
  | [], _, _, _ => rfl
  | v :: r, o, g, w => by
    show ((w.setCell ⟨g, o, none⟩ v).setCells g (o + 1) r).heap.size = _
    rw [setCells_size r (o + 1) g _]; simp [World.setCell]
theorem setCells_rest : ∀ (vs : List Value) (o g : Nat) (w : World), (w.setCells g o vs).os = w.os ∧ (w.setCells g o vs).output = w.output ∧ (w.setCells g o vs).tape = w.tape
  | [], _, _, _ => ⟨rfl, rfl, rfl⟩
  | v :: r, o, g, w => setCells_rest r (o + 1) g (w.setCell ⟨g, o, none⟩ v)
theorem clearB_run (W : World) (g o cap : Nat) (cur : Array Value) (h : Blk W g 52 cur) (ho : o * 5 + 5 ≤ cur.size) (ty : TypeId) :
    (Builtin.clear_ #[22] ty #[.slice (some ⟨g, o * 5, none⟩) 1 cap]).run Tryz.prog W = .ok (.tuple #[]) (W.setCells g (o * 5) (Builtin.zeroCells bZ.cells 1).toList) := by
  have hv : ∀ w, (zeroValue 52).run Tryz.prog w = .ok bZ w := fun w => by
    obtain ⟨i0, hi0, hz0, hz1, hz2⟩ := info_parts block_info
    simp [zeroValue, typeInfo, hi0, hz0]
  have hl : (Builtin.zeroCells bZ.cells 1).toList.length = 5 := by
    simp [Builtin.zeroCells, bZ, Value.cells]
  have hst := run_storeCells_cells (P := Tryz.prog) g (o * 5) (Builtin.zeroCells bZ.cells 1).toList 0 W
    (fun j hj => by
      rw [hl] at hj
      rw [h.cell, Array.getElem?_eq_getElem (by omega)]; rfl)
    (fun j _ => h.frozen _)
    (fun v hv => by
      simp only [Builtin.zeroCells, Array.toList_map, List.mem_map] at hv
      obtain ⟨q, _, rfl⟩ := hv
      have hq : q % bZ.cells.size = 0 ∨ q % bZ.cells.size = 1 ∨ q % bZ.cells.size = 2 ∨ q % bZ.cells.size = 3 ∨ q % bZ.cells.size = 4 := by
        show q % 5 = 0 ∨ q % 5 = 1 ∨ q % 5 = 2 ∨ q % 5 = 3 ∨ q % 5 = 4
        omega
      rcases hq with e | e | e | e | e <;> rw [e] <;> rfl)
  simp only [Nat.add_zero] at hst
  simp [Builtin.clear_, run_underlying Tryz.underlying22, hv, hst]

/-- an append whose run is known, as one step of a region that draws -/
theorem step_append_runI {P : Program} {ops : Array Oper} {o : Oper} {a : Act} {w : World} {K : Act → World → Prop} {Q : Exit → Act → World → Prop} {E : Prop}
    (hg : o.guard = none) (s x : Operand) (t tn : TypeId) (hop : o.op = Op.call { callee := Callee.builtin Builtin.append, args := #[s, x], argTypes := #[t, tn] })
    (v u : Value) (hs : a.eval s = v) (hx : a.eval x = u) {v' : Value} {w' : World} (hr : (Builtin.append_ #[t, tn] o.type #[v, u]).run P w = .ok v' w') (hK : K (a.put o.dst v') w') :
    if Region.wanted o (yielded ops a.tmps) = true then Oper.wp P o a w K Q else E := by
  have hw : Region.wanted o (yielded ops a.tmps) = true := by simp [Region.wanted, hg]
  rw [if_pos hw]
  exact Lib.wp_append_run w s x t tn hop v u hs hx _ _ hr hK
/-- what a delete leaves -/
def DelR (base : Nat) (n : Nat) (xs : List Value) (i : Nat) (w : World) (v : Value) (e : Ending) (w' : World) : Prop :=
  ∃ v', e = .returned v' ∧ w'.ownsRow base 52 5 v' (n - 1) (xs.take (i * 5) ++ xs.drop ((i + 1) * 5)) ∧ w.grownBy w' v.ownBlock ∧ v'.ownBlock = v.ownBlock

set_option maxRecDepth 100000 in
set_option maxHeartbeats 4000000 in
/-- slices.Delete of one element at blocks -/
theorem deleteB_own (v : Value) (n : Nat) (xs : List Value) (base i : Nat) (w : World) (h : w.ownsRow base 52 5 v n xs) (hi : i < n) (hn : n ≤ 100000) (h1x : ∀ u ∈ xs, u.oneCell' = true) :
    Calls Tryz.prog 69 #[v, .int .i64 i, .int .i64 ((i : Int) + 1)] w (DelR base n xs i w v) := by
  obtain ⟨i0, hi0, hq0, hq1, hq2⟩ := info_parts block_info
  have hxl : xs.length = n * 5 := h.1
  rcases h.2 with ⟨_, h0⟩ | ⟨g, cap, cur, rfl, hg, hh, hnc, hcm, hcs, hct⟩
  · omega
  have hcell : ∀ j u, xs[j]? = some u → w.cell? ⟨g, j, none⟩ = some u := fun j u hu => by
    have hj := (List.getElem?_eq_some_iff.1 hu).1
    rw [Blk.cell (t := 52) (cs := cur) hh, ← hu, ← hct, List.getElem?_take, if_pos (by omega)]; simp
  have hcl : cur.toList.length = cap * 5 := by rw [Array.length_toList]; exact hcs
  have hdl : (xs.drop ((i + 1) * 5)).length = (n - (i + 1)) * 5 := by rw [List.length_drop, hxl]; omega
  have htl : (xs.take (i * 5)).length = i * 5 := by rw [List.length_take, hxl]; omega
  have hct2 : cur.toList.take (i * 5) = xs.take (i * 5) := by rw [← hct, List.take_take]; congr 1; omega
  have hgw : g < w.heap.size := Blk.lt (t := 52) (cs := cur) hh
  obtain ⟨R1, hR1⟩ : ∃ R1, R1 = cur.toList.take (i * 5) ++ xs.drop ((i + 1) * 5) ++ cur.toList.drop (i * 5 + (n - (i + 1)) * 5) := ⟨_, rfl⟩
  have hR1l : R1.length = cap * 5 := by
    rw [hR1, List.length_append, List.length_append, List.length_take, hdl, List.length_drop, hcl]; omega
  have hh1 : Blk (w.drew.setRow g R1.toArray) g 52 R1.toArray := setRow_heap w.drew g _ _ _ _ hh
  obtain ⟨Z, hZ⟩ : ∃ Z, Z = (Builtin.zeroCells bZ.cells 1).toList := ⟨_, rfl⟩
  have hcr : ∀ ty cc, (Builtin.clear_ #[22] ty #[.slice (some ⟨g, (n - 1) * 5, none⟩) 1 cc]).run Tryz.prog (w.drew.setRow g R1.toArray) = .ok (.tuple #[]) ((w.drew.setRow g R1.toArray).setCells g ((n - 1) * 5) Z) := fun ty cc => by
    rw [hZ]; exact clearB_run _ g (n - 1) cc _ hh1 (by rw [List.size_toArray, hR1l]; omega) ty
  have hap : ∀ ty c0 (ad : Addr), (0 < n - (i + 1) → ad = ⟨g, (i + 1) * 5, none⟩) → (Builtin.append_ #[22, 22] ty #[.slice (some ⟨g, 0, none⟩) i cap, .slice (some ad) (n - (i + 1)) c0]).run Tryz.prog w.drew = .ok (.slice (some ⟨g, 0, none⟩) (n - 1) cap) (w.drew.setRow g R1.toArray) := fun ty c0 ad had => by
    have := run_append_room (P := Tryz.prog) (ty := ty) w.drew 22 52 i0 Tryz.underlying22 hi0 g i cap cur hh ad (n - (i + 1)) c0 (xs.drop ((i + 1) * 5)) (by rw [hdl, hq1])
      (fun j v hj => by
        have hjl := (List.getElem?_eq_some_iff.1 hj).1
        rw [hdl] at hjl
        rw [had (by omega), Addr.add_lit]; exact hcell _ _ (by rwa [List.getElem?_drop] at hj)) (fun v hv => h1x v (List.mem_of_mem_drop hv)) (by omega) (by rw [hdl, hq1, hcs]; omega)
    rw [hq1, hdl, ← hR1, show i + (n - (i + 1)) = n - 1 by omega] at this
    exact this
  have hfin : DelR base n xs i w (.slice (some ⟨g, 0, none⟩) n cap) (.returned (.slice (some ⟨g, 0, none⟩) (n - 1) cap)) ((w.drew.setRow g R1.toArray).setCells g ((n - 1) * 5) Z) := by
    obtain ⟨cs', k1, k2, k3⟩ := Blk.setCells Z ((n - 1) * 5) _ _ hh1
    have hlen : (xs.take (i * 5) ++ xs.drop ((i + 1) * 5)).length = (n - 1) * 5 := by
      rw [List.length_append, htl, hdl]; omega
    obtain ⟨r1, r2, r3⟩ := setCells_rest Z ((n - 1) * 5) g (w.drew.setRow g R1.toArray)
    refine ⟨_, rfl, ⟨hlen, .inr ⟨g, cap, cs', rfl, hg, k1, by omega, hcm, by rw [k2, List.size_toArray, hR1l], ?_⟩⟩, ⟨r1, r3, r2, ?_, fun k hk hne => ?_⟩, rfl⟩
    · rw [k3, List.toList_toArray, hR1, hct2, ← hlen, List.take_append_of_le_length (Nat.le_refl _), List.take_length]
    · rw [setCells_size, setRow_size]; exact Nat.le_refl _
    · have hkg : k ≠ g := fun e => hne (by rw [e]; rfl)
      rw [setCells_other _ _ _ _ _ hkg, setRow_other _ _ _ _ hkg]; rfl
  have HF := Lib.hid hfin
  have hc63 : cap ≤ 9223372036854775807 := by unfold maxLen at hcm; omega
  have z1 : ¬ ((i : Int) = (i : Int) + 1) := by omega
  have z2 : (i : Int) ≤ (n : Int) := by omega
  have z3 : (i : Int) + 1 ≤ (n : Int) := by omega
  have w1 : IntKind.i64.wrap ((i : Int) + 1) = (i : Int) + 1 := IntWalk.i64_in _ (by omega)
  have w2 : (0 : Int) ≤ (i : Int) + 1 := by omega
  have w3 : ((i : Int) + 1).toNat = i + 1 := by omega
  have w4 : (i : Int) ≤ (cap : Int) := by omega
  have w5 : n - (n - 1) = 1 := by omega
  have mixed : Tryz.prog.follows Departure.mixedOrders = true := by kernel_rfl
  have z9 : ¬ (cap = n - 1) := by omega
  clear hfin hZ hR1 hR1l hct hct2 hcl hdl htl hxl hcell hh1 h1x h hh hcs
  have hcb : ∀ c : Nat, Builtin.clear_ #[22] c = Builtin.clear_ #[22] c := fun _ => rfl
  clear hcb
  by_cases hc : cap = i + 1
  · have HAP : ∀ ty c0, (Builtin.append_ #[22, 22] ty #[.slice (some ⟨g, 0, none⟩) i cap, .slice (some ⟨g, 0, none⟩) (n - (i + 1)) c0]).run Tryz.prog w.drew = .ok (.slice (some ⟨g, 0, none⟩) (n - 1) cap) (w.drew.setRow g R1.toArray) := fun ty c0 => hap ty c0 _ (by omega)
    clear hap
    subst hc
    have e0 : n - (i + 1) = 0 := by omega
    simp only [e0] at HAP
    clear e0
    have z11 : (i : Int) ≤ (i : Int) + 1 := by omega
    go_enter Tryz.func69, Tryz.ntmps69
    go_upto_region 5 with fail
    go_region_law_o (refine step_append_runI rfl _ _ 22 22 rfl (.slice (some ⟨g, 0, none⟩) i (i + 1)) (.slice (some ⟨g, 0, none⟩) 0 0) (by simp [Act.eval, Act.put]) (by simp [Act.eval, Act.put]) (HAP _ _) ?_)
    go_wp2_with fail
    go_ret
    exact HF.out
  · have HAP : ∀ ty c0, (Builtin.append_ #[22, 22] ty #[.slice (some ⟨g, 0, none⟩) i cap, .slice (some ⟨g, (i + 1) * 5, none⟩) (n - (i + 1)) c0]).run Tryz.prog w.drew = .ok (.slice (some ⟨g, 0, none⟩) (n - 1) cap) (w.drew.setRow g R1.toArray) := fun ty c0 => hap ty c0 _ (fun _ => rfl)
    clear hap
    have z11 : (i : Int) + 1 ≤ (n : Int) := by omega
    go_enter Tryz.func69, Tryz.ntmps69
    go_upto_region 5 with fail
    go_region_law_o (refine step_append_runI rfl _ _ 22 22 rfl (.slice (some ⟨g, 0, none⟩) i cap) (.slice (some ⟨g, (i + 1) * 5, none⟩) (n - (i + 1)) (cap - (i + 1))) (by simp [Act.eval, Act.put]) (by simp [Act.eval, Act.put]) (HAP _ _) ?_)
    go_wp2_with fail
    go_ret
    exact HF.out
end Go.Proofs.YtmkicfjcgbfaaaaGreatDoor
