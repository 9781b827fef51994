/-
  DERIVED. The walks of tree.path and the reference's PathOf. Conditions: sizes; a base without error.
  The walks of tree.below and the reference's OrderOf. Conditions: sizes; a base without error.
  By an AI agent.
-/
import Derived.Test.YtmkicfjcgbfaaaaGreatTe17
import Derived.Test.YtmkicfjcgbfaaaaGreatTe11
import Derived.Test.YtmkicfjcgbfaaaaGreatTe06
import Derived.Test.YtmkicfjcgbfaaaaGreatTe02
import Derived.Lib.OwnBridge
namespace Go.Proofs.YtmkicfjcgbfaaaaGreat
open Go.RowKit

/-- slices.Reverse of a row of the call's own -/
theorem revI_any {w : World} {base n : Nat} {v : Value} {L : List Int} (h : w.ownsRow base 3 1 v n (L.map (.int .i64))) (hs : n ≤ 100000) (w0 : World) (hb : Below base w0 w) :
    Calls Tryz.prog 135 #[v] w fun e w' => e = .returned (.tuple #[]) ∧ w'.ownsRow base 3 1 v n (L.reverse.map (.int .i64)) ∧ Below base w0 w' := by
  rcases h.2 with ⟨rfl, h0⟩ | ⟨g0, cap0, cur, rfl, _⟩
  · have hL : L = [] := by
      have := h.1
      rw [h0, List.length_map] at this
      exact List.eq_nil_of_length_eq_zero (by omega)
    subst hL h0
    refine (Tryz.slices_Reverse_int_empty none 0 w).mono ?_
    rintro e w' ⟨rfl, rfl⟩
    exact ⟨rfl, h, hb⟩
  · obtain ⟨g, cap, e, hg, hlt, hnc, hcm, hl, hH⟩ := Lib.holds_of_ownsRow h (by intro e; injection e with e; cases e)
    injection e with e1 _ e3
    injection e1 with e1
    injection e1 with e1
    subst e1 e3
    rw [← hl]
    refine (Tryz.slices_Reverse_int g0 0 cap0 L w hH (by omega)).mono ?_
    rintro e w' ⟨rfl, q, rfl⟩
    refine ⟨rfl, ?_, Lib.below_putRow hb hg⟩
    have := Lib.ownsRow_putRow (q := q) (k := n) h (ys := L.reverse) (by rw [List.length_reverse]; exact hl) (Nat.le_refl _)
    rw [List.take_of_length_le (by rw [List.length_reverse]; omega)] at this
    rw [hl]
    exact this

set_option maxHeartbeats 4000000 in
/-- tree.path -/
theorem path_any (l : List Bl) (K : Kids l) (A : Option Addr) (n c : Nat) (id : Int) (d : Nat) (hd : Dp l id d) (hd40 : d ≤ 40) (w : World) (B : Nat) (hB : B ≤ w.heap.size) (h : RB w B (.slice A n c) l) :
    Calls Tryz.prog 66 #[.slice A n c, .int .i64 id] w fun e w' => (∃ A' n', e = .returned (.slice A' n' n') ∧ RInX w' (fun b => w.heap.size ≤ b ∧ b < w'.heap.size) (.slice A' n' n') (pth l d id)) ∧ Below w.heap.size w w' := by
  obtain ⟨i0, hi, hq0, hq1, hq2⟩ := info_parts int_info
  have HIX := Lib.hid fun (x : Int) (W : World) (hx : I64 x) (hW : Below w.heap.size w W) => index_any l A n c x W B (Nat.le_trans hB hW.size) (h.below (hW.mono hB)) K.rise K.ids hx
  have H := Lib.hid h
  have KK := Lib.hid K
  have HP64 := Lib.hid (pth_i64 K hd)
  have HLEN := Lib.hid (pth_len (l := l) d id)
  obtain ⟨P, hP⟩ : ∃ P, P = pth l d id := ⟨_, rfl⟩
  rw [← hP] at HP64 HLEN ⊢
  have HDD := Lib.hid hd
  have HPP := Lib.hid hP
  clear h K hd hP
  go_enter Tryz.func66, Tryz.ntmps66
  go_wp2_with fail
  go_loopg [1, 5] d (fun gg s1 s5 wr => ∃ (x : Int) (d' t : Nat) (v : Value) (L : List Int), s1 = .int .i64 x ∧ v = s5 ∧ d' ≤ gg ∧ Hid (Dp l x d') ∧ Hid (pth l d' x ++ L.reverse = P) ∧ Hid (t = L.length) ∧ Hid (wr.ownsRow w.heap.size 3 1 v t (L.map (.int .i64))) ∧ Hid (Below w.heap.size w wr))
  case atStart => exact ⟨id, d, 0, _, [], rfl, rfl, Nat.le_refl _, HDD, (by show _ = _; rw [HPP.out]; simp), rfl, World.ownsRow_nil _ _ _ _, Below.refl _ _⟩
  case round =>
    obtain ⟨x, d', t, v, L, rfl, rfl, hdg, hdp, hpl, ht, hown, hbel⟩ := hrel
    obtain ⟨W1, rfl⟩ : ∃ W1, W1 = wr := ⟨_, rfl⟩
    have hzr : w.heap.size ≤ W1.heap.size := hbel.out.size
    have hts : t + d' = d := by
      have h1 := congrArg List.length hpl.out
      rw [List.length_append, List.length_reverse, pth_len, HLEN.out, ← ht.out] at h1
      omega
    rcases d' with _ | d'
    · have hx0 : x = 0 := (Dp.zero_iff KK.out hdp.out).2 rfl
      subst hx0
      have hL : Hid (L.reverse = P) := hpl.out
      have HRV := Lib.hid (revI_any hown.out (by omega) w hbel.out)
      go_wp2_with fail
      refine HRV.out.mono ?_
      rintro e w2 ⟨rfl, ho2, hb2⟩
      rw [hL.out] at ho2
      obtain ⟨A', c', rfl, h0, h1, h2⟩ := RInX.of_own ho2 (by rw [HLEN.out]; omega) (by omega) HP64.out
      have hcc : t ≤ c' := by
        obtain ⟨_, _, _, e, _, h3, _⟩ := h1
        injection e with _ e1 e2
        omega
      have HCL := Lib.hid (clipI_any A' t c' w2 hcc h0)
      have HB2 := Lib.hid hb2
      have HR2 := Lib.hid (h2.weak (S' := fun b => w.heap.size ≤ b ∧ b < w2.heap.size) fun b hb => hb.2)
      clear ho2 h0 h1 h2 hcc hb2
      go_wp2_with fail
      refine HCL.out.mono ?_
      rintro e w3 ⟨rfl, rfl⟩
      go_wp2_with fail
      go_ret
      exact ⟨⟨A', t, rfl, HR2.out⟩, HB2.out⟩
    · obtain ⟨hx0, hdu⟩ := Dp.up KK.out hdp.out
      obtain ⟨p, bx, hp, hlp, hbi⟩ := hdp.out.blk KK.out
      have hbx := List.mem_of_getElem? hlp
      have hx64 : I64 x := by have := KK.out.ids bx hbx; unfold I64; omega
      have hpar : parOf l x = bx.parent := by rw [← hbi]; exact parOf_eq KK.out hbx
      rw [hpar] at hdu
      have hpn : p < n := by have := (List.getElem?_eq_some_iff.1 hlp).1; have := H.out.len.1; omega
      obtain ⟨b, off, Ak, nk, ck, Ap, np, cp, rfl, hbb, g0, g1, g2, g3, g4, _, _⟩ := H.out.at_ hlp
      have HDU := Lib.hid hdu
      have HPL : Hid (pth l d' bx.parent ++ (L ++ [x]).reverse = P) := by
        show _ = _
        rw [List.reverse_append, ← hpl.out, pth, hpar]
        simp
      have HT2 : Hid (t + 1 = (L ++ [x]).length) := by show _ = _; rw [List.length_append, ← ht.out]; rfl
      have hx0' : (x != 0) = true := by simpa using hx0
      have hb1 : t + 1 ≤ maxLen := by unfold maxLen; omega
      have hb2 : (t + 1) * 8 ≤ 140737488355328 := by omega
      have HR1 : Hid (Reads (W1.alloc (.cells #[.int .i64 x] 3)) (W1.heap.size + 1) 1 (some ⟨W1.heap.size, 0, none⟩) 1 [.int .i64 x]) := Reads.blk (Blk.new _ _ _) rfl
      have hbase : w.heap.size ≤ (W1.alloc (.cells #[.int .i64 x] 3)).heap.size := by simp; omega
      have hone : ∀ u ∈ [Value.int .i64 x], u.oneCell' = true := ints_one [x]
      have HOW := Lib.hid (hown.out.alloc (.cells #[.int .i64 x] 3))
      have HBA := Lib.hid (hbel.out.alloc hzr (.cells #[.int .i64 x] 3))
      have HVB : Hid (∀ g, v.ownBlock = some g → w.heap.size ≤ g) := fun g hg => (own_block_lt hown.out g hg).1
      have HX := Lib.hid fun W hW => HIX.out x W hx64 hW
      rw [hp] at HX
      have HL3 : Hid (L.map (Value.int .i64) ++ [Value.int .i64 x] = (L ++ [x]).map (Value.int .i64)) := by show _ = _; simp
      have y0 : (0 : Int) ≤ (p : Int) := by omega
      have y1 : (p : Int) < (n : Int) := by omega
      clear hx0 hdu hp hlp hbi hbx hpar g0 g2 g3 g4
      go_wp2_with (at_builtin; refine wpList_append_any _ rfl _ _ 34 rfl w.heap.size 3 i0 (.int .i64 0) 1 8 Tryz.underlying34 hi hq0 hq1 hq2 rfl (by decide) v t _ rfl HOW.out _ _ 1 1 _ rfl HR1.out hone hb1 hb2 hbase ?_)
      intro v2 w2 hown2 hg2 hat2
      rw [HL3.out] at hown2
      have HO2 := Lib.hid hown2
      have HB2 : Hid (Below w.heap.size w w2) := HBA.out.grown hg2 (Nat.le_trans hzr (by simp)) (fun g hg => HVB.out g hg)
      have HX2 := Lib.hid (HX.out w2 HB2.out)
      clear hown2 hg2 hat2 hb1 hb2 hbase hone
      go_wp2_with fail
      refine HX2.out.mono ?_
      rintro e w3 ⟨rfl, hb3⟩
      have HO3 := Lib.hid (own_below HO2.out hb3)
      have HB3 : Hid (Below w.heap.size w w3) := HB2.out.trans (hb3.mono HB2.out.size)
      have g1 := (HB3.out.cell (p := ⟨b, off + p * 5 + 1, none⟩) (by show b < _; omega)).trans g1
      clear hb3
      go_wp2_with fail
      go_roundg d'
      case measure => omega
      case rel => exact ⟨bx.parent, d', t + 1, v2, L ++ [x], rfl, rfl, Nat.le_refl _, HDU, HPL, HT2, HO3, HB3⟩

set_option maxHeartbeats 4000000 in
theorem pathOf_walk (l : List Bl) (K : Kids l) (A : Option Addr) (n c : Nat) (id : Int) (d : Nat) (hd : Dp l id d) (hd40 : d ≤ 40) (w : World) (B : Nat) (hB : B ≤ w.heap.size) (h : RB w B (.slice A n c) l)
    (IH : ∀ (k : Int) (d' : Nat) (W : World), d = d' + 1 → Dp l k d' → Below w.heap.size w W → Calls Tryz.prog 75 #[.slice A n c, .int .i64 k] W fun e w' => ∃ v, e = .returned v ∧ w'.ownsRow W.heap.size 3 1 v d' ((pth l d' k).map (.int .i64)) ∧ Below W.heap.size W w') :
    Calls Tryz.prog 75 #[.slice A n c, .int .i64 id] w fun e w' => ∃ v, e = .returned v ∧ w'.ownsRow w.heap.size 3 1 v d ((pth l d id).map (.int .i64)) ∧ Below w.heap.size w w' := by
  obtain ⟨i0, hi, hq0, hq1, hq2⟩ := info_parts int_info
  rcases d with _ | d'
  · have hx0 : id = 0 := (Dp.zero_iff K hd).2 rfl
    subst hx0
    clear h IH hd
    go_enter Tryz.func75, Tryz.ntmps75
    go_wp2_with fail
    go_ret
    exact ⟨_, rfl, World.ownsRow_nil _ _ _ _, Below.refl _ _⟩
  · obtain ⟨hx0, hdu⟩ := Dp.up K hd
    obtain ⟨p, bx, hp, hlp, hbi⟩ := hd.blk K
    have hbx := List.mem_of_getElem? hlp
    have hpar : parOf l id = bx.parent := by rw [← hbi]; exact parOf_eq K hbx
    have HPT : Hid (pth l (d' + 1) id = pth l d' bx.parent ++ [id]) := by show _ = _; rw [pth, hpar]
    rw [hpar] at hdu
    have hpn : p < n := by have := (List.getElem?_eq_some_iff.1 hlp).1; have := h.len.1; omega
    have HX := at_any l A n c id w B hB h
    rw [hp] at HX
    have HX := Lib.hid HX
    obtain ⟨b, off, Ak, nk, ck, Ap, np, cp, rfl, hbb, g0, g1, g2, g3, g4, _, _⟩ := h.at_ hlp
    have HI := Lib.hid fun W hW => IH bx.parent d' W rfl hdu hW
    have hx0' : (id == 0) = false := by simpa using hx0
    have y0 : (0 : Int) ≤ (p : Int) := by omega
    have y1 : (p : Int) < (n : Int) := by omega
    clear h IH hd hdu hp hlp hbi hbx hpar g0 g2 g3 g4 hx0
    go_enter Tryz.func75, Tryz.ntmps75
    go_wp2_with fail
    refine HX.out.mono ?_
    rintro e w1 ⟨rfl, hb1⟩
    have HB1 := Lib.hid hb1
    have g1 := (hb1.cell (p := ⟨b, off + p * 5 + 1, none⟩) (by show b < _; omega)).trans g1
    have HI2 := Lib.hid (HI.out w1 hb1)
    clear hb1
    go_wp2_with fail
    refine HI2.out.mono ?_
    rintro e w2 ⟨v, rfl, ho, hb2⟩
    have HB2 : Hid (Below w.heap.size w w2) := HB1.out.trans (hb2.mono HB1.out.size)
    have hzr : w.heap.size ≤ w2.heap.size := HB2.out.size
    have hz1 : w.heap.size ≤ w1.heap.size := HB1.out.size
    have HO := Lib.hid (ho.mono hz1)
    clear ho hb2
    have hb1 : d' + 1 ≤ maxLen := by unfold maxLen; omega
    have hb2 : (d' + 1) * 8 ≤ 140737488355328 := by omega
    have HR1 : Hid (Reads (w2.alloc (.cells #[.int .i64 id] 3)) (w2.heap.size + 1) 1 (some ⟨w2.heap.size, 0, none⟩) 1 [.int .i64 id]) := Reads.blk (Blk.new _ _ _) rfl
    have hbase : w.heap.size ≤ (w2.alloc (.cells #[.int .i64 id] 3)).heap.size := by simp; omega
    have hone : ∀ u ∈ [Value.int .i64 id], u.oneCell' = true := ints_one [id]
    have HOW := Lib.hid (HO.out.alloc (.cells #[.int .i64 id] 3))
    have HBA := Lib.hid (HB2.out.alloc hzr (.cells #[.int .i64 id] 3))
    have HVB : Hid (∀ g, v.ownBlock = some g → w.heap.size ≤ g) := fun g hg => (own_block_lt HO.out g hg).1
    go_wp2_with (at_builtin; refine wpList_append_any _ rfl _ _ 34 rfl w.heap.size 3 i0 (.int .i64 0) 1 8 Tryz.underlying34 hi hq0 hq1 hq2 rfl (by decide) v d' _ rfl HOW.out _ _ 1 1 _ rfl HR1.out hone hb1 hb2 hbase ?_)
    intro v2 w3 hown2 hg2 hat2
    have HO3 : Hid (w3.ownsRow w.heap.size 3 1 v2 (d' + 1) ((pth l (d' + 1) id).map (.int .i64))) := by
      show w3.ownsRow _ _ _ _ _ _
      rw [HPT.out, List.map_append]; exact hown2
    have HB3 : Hid (Below w.heap.size w w3) := HBA.out.grown hg2 (Nat.le_trans hzr (by simp)) (fun g hg => HVB.out g hg)
    clear hown2 hg2 hat2
    go_wp2_with fail
    go_ret
    exact ⟨_, rfl, HO3.out, HB3.out⟩
/-- the reference's PathOf -/
theorem pathOf_own (l : List Bl) (K : Kids l) (A : Option Addr) (n c : Nat) (B : Nat) : ∀ (d : Nat) (id : Int) (w : World), Dp l id d → d ≤ 40 → B ≤ w.heap.size → RB w B (.slice A n c) l →
    Calls Tryz.prog 75 #[.slice A n c, .int .i64 id] w fun e w' => ∃ v, e = .returned v ∧ w'.ownsRow w.heap.size 3 1 v d ((pth l d id).map (.int .i64)) ∧ Below w.heap.size w w'
  | 0, id, w, hd, h40, hB, h => pathOf_walk l K A n c id 0 hd h40 w B hB h fun k d' W e => by omega
  | d + 1, id, w, hd, h40, hB, h => pathOf_walk l K A n c id (d + 1) hd h40 w B hB h fun k d' W e hk hW => by
    obtain rfl : d = d' := by omega
    exact pathOf_own l K A n c B d k W hk (by omega) (Nat.le_trans hB hW.size) (h.below (hW.mono hB))
theorem pathOf_any (l : List Bl) (K : Kids l) (A : Option Addr) (n c : Nat) (B d : Nat) (id : Int) (w : World) (hd : Dp l id d) (h40 : d ≤ 40) (hB : B ≤ w.heap.size) (h : RB w B (.slice A n c) l) :
    Calls Tryz.prog 75 #[.slice A n c, .int .i64 id] w (IntsR (pth l d id) w) :=
  (pathOf_own l K A n c B d id w hd h40 hB h).mono fun e w' ⟨v, he, ho, hb⟩ => by
    subst he
    exact IntsR.of_own ho (pth_len d id).symm (by omega) (pth_i64 K hd) hb
end Go.Proofs.YtmkicfjcgbfaaaaGreat
namespace Go.Proofs.YtmkicfjcgbfaaaaGreat
open Go.RowKit

set_option maxHeartbeats 4000000 in
theorem below_walk (l : List Bl) (K : Kids l) (A : Option Addr) (n c : Nat) (id : Int) (d m : Nat) (hd : Dp l id d) (w : World) (B : Nat) (hB : B ≤ w.heap.size) (h : RB w B (.slice A n c) l)
    (IH : ∀ (k : Int) (W : World), Dp l k (d + 1) → Below w.heap.size w W → Calls Tryz.prog 64 #[.slice A n c, .int .i64 k] W (IntsR (ord l m k) W)) :
    Calls Tryz.prog 64 #[.slice A n c, .int .i64 id] w (IntsR (ord l (m + 1) id) w) := by
  obtain ⟨i0, hi, hq0, hq1, hq2⟩ := info_parts int_info
  obtain ⟨p, bx, hp, hlp, hbi⟩ := hd.blk K
  have hbx := List.mem_of_getElem? hlp
  have HO : Hid (ord l (m + 1) id = bx.kids.flatMap fun k => k :: ord l m k) := ord_at hp hlp m
  have HS : Hid ((bx.kids.flatMap fun k => k :: ord l m k).length ≤ 2000) := by
    show _ ≤ _
    rw [← HO.out]
    exact Nat.le_trans (ord_short K _ hd) K.short
  have H64 : Hid (∀ x ∈ bx.kids.flatMap fun k => k :: ord l m k, I64 x) := by
    show ∀ x ∈ _, _
    rw [← HO.out]
    exact ord_i64 K _ hd
  have HIX := index_any l A n c id w B hB h K.rise K.ids (by rw [← hbi]; exact (by have := K.ids bx hbx; unfold I64; omega))
  rw [hp] at HIX
  have HIX := Lib.hid HIX
  have HN := Lib.hid h.len
  have hpn : p < n := by have := (List.getElem?_eq_some_iff.1 hlp).1; have := h.len.1; omega
  obtain ⟨b, off, Ak, nk, ck, Ap, np, cp, rfl, hbb, g0, g1, g2, g3, g4, hK, _⟩ := h.at_ hlp
  have HK := Lib.hid hK
  have HKL := Lib.hid hK.len
  have HKD : Hid (∀ k ∈ bx.kids, Dp l k (d + 1)) := fun k hk => .step bx d k (hbi ▸ hd) hbx hk
  have HI := Lib.hid IH
  have y0 : (0 : Int) ≤ (p : Int) := by omega
  have y1 : (p : Int) < (n : Int) := by omega
  clear h hd hp hlp hbi hbx hK IH g0 g1 g3 g4
  go_enter Tryz.func64, Tryz.ntmps64
  go_wp2_with fail
  refine HIX.out.mono ?_
  rintro e w1 ⟨rfl, hb1⟩
  have HB1 := Lib.hid hb1
  have g2 := (hb1.cell (p := ⟨b, off + p * 5 + 2, none⟩) (by show b < _; omega)).trans g2
  clear hb1
  go_wp2_with fail
  go_loopg [5, 16] nk (fun gg s5 s16 wr => ∃ (j t : Nat) (v : Value), j + gg = nk ∧ v = s5 ∧ s16 = .int .i64 (j : Int) ∧ Hid (t = ((bx.kids.take j).flatMap fun k => k :: ord l m k).length) ∧ Hid (wr.ownsRow w.heap.size 3 1 v t (((bx.kids.take j).flatMap fun k => k :: ord l m k).map (.int .i64))) ∧ Hid (Below w.heap.size w wr))
  case atStart => exact ⟨0, 0, _, by omega, rfl, rfl, rfl, World.ownsRow_nil _ _ _ _, HB1⟩
  case round =>
    obtain ⟨j, t, v, hjg, rfl, rfl, ht, hown, hbel⟩ := hrel
    obtain ⟨W1, rfl⟩ : ∃ W1, W1 = wr := ⟨_, rfl⟩
    have hzr : w.heap.size ≤ W1.heap.size := hbel.out.size
    have hbk : nk ≤ ck ∧ nk * 8 ≤ 140737488351232 := HKL.out.2
    have hts : t ≤ 2000 := by
      have := flat_take_le (fun k => k :: ord l m k) bx.kids j
      have := HS.out
      have := ht.out
      omega
    by_cases hj : j < nk
    case neg =>
      obtain rfl : nk = j := by omega
      have HF : Hid (IntsR (ord l (m + 1) id) w (.returned v) W1) := by
        show IntsR _ _ _ _
        have e : bx.kids.take nk = bx.kids := List.take_of_length_le (by rw [← HKL.out.1]; exact Nat.le_refl _)
        have h1 := hown.out
        have h2 := ht.out
        rw [e] at h1 h2
        rw [HO.out]
        exact IntsR.of_own h1 h2 (by omega) H64.out hbel.out
      go_wp2_with fail
      go_ret
      exact HF.out
    obtain ⟨k, hkk⟩ : ∃ k, bx.kids[j]? = some k := ⟨_, List.getElem?_eq_getElem (by have := HKL.out.1; omega)⟩
    obtain ⟨bk, ok, rfl, hbk2, q0⟩ := HK.out.at_ hkk
    have q0 := (hbel.out.cell (p := ⟨bk, ok + j, none⟩) (by show bk < _; omega)).trans q0
    have z0 : (0 : Int) ≤ (j : Int) := by omega
    have z1 : (j : Int) < (nk : Int) := by omega
    have HT : Hid ((bx.kids.take (j + 1)).flatMap (fun k => k :: ord l m k) = (bx.kids.take j).flatMap (fun k => k :: ord l m k) ++ (k :: ord l m k)) := by
      show _ = _
      obtain ⟨hk, e⟩ := List.getElem?_eq_some_iff.1 hkk
      rw [List.take_succ_eq_append_getElem hk, e, List.flatMap_append]
      simp
    have HL2 : Hid (t + 1 + (ord l m k).length ≤ 2000) := by
      show _ ≤ _
      have h1 := flat_take_le (fun k => k :: ord l m k) bx.kids (j + 1)
      rw [HT.out, List.length_append, List.length_cons] at h1
      have := HS.out
      have := ht.out
      omega
    have HX := Lib.hid fun W hW => HI.out k W (HKD.out k (List.mem_of_getElem? hkk)) hW
    clear hkk
    have hb1 : t + 1 ≤ maxLen := by unfold maxLen; omega
    have hb2 : (t + 1) * 8 ≤ 140737488355328 := by omega
    have HR1 : Hid (Reads (W1.alloc (.cells #[.int .i64 k] 3)) (W1.heap.size + 1) 1 (some ⟨W1.heap.size, 0, none⟩) 1 [.int .i64 k]) := Reads.blk (Blk.new _ _ _) rfl
    have hbase : w.heap.size ≤ (W1.alloc (.cells #[.int .i64 k] 3)).heap.size := by simp; omega
    have hone : ∀ u ∈ [Value.int .i64 k], u.oneCell' = true := ints_one [k]
    have HOW := Lib.hid (hown.out.alloc (.cells #[.int .i64 k] 3))
    have HBA := Lib.hid (hbel.out.alloc hzr (.cells #[.int .i64 k] 3))
    have HVB : Hid (∀ g, v.ownBlock = some g → w.heap.size ≤ g) := fun g hg => (own_block_lt hown.out g hg).1
    go_wp2_with (at_builtin; refine wpList_append_any _ rfl _ _ 34 rfl w.heap.size 3 i0 (.int .i64 0) 1 8 Tryz.underlying34 hi hq0 hq1 hq2 rfl (by decide) v t _ rfl HOW.out _ _ 1 1 _ rfl HR1.out hone hb1 hb2 hbase ?_)
    intro v2 w2 hown2 hg2 hat2
    have HO2 := Lib.hid hown2
    have HB2 : Hid (Below w.heap.size w w2) := HBA.out.grown hg2 (Nat.le_trans hzr (by simp)) (fun g hg => HVB.out g hg)
    have HX2 := Lib.hid (HX.out w2 HB2.out)
    clear hown2 hg2 hat2
    go_wp2_with fail
    refine HX2.out.mono ?_
    rintro e w3 ⟨⟨A3, n3, c3, rfl, h30, h31, h32, h33⟩, hb3⟩
    obtain ⟨hr3, hn3⟩ := h31.reads1 (B := w3.heap.size) (fun b hb => hb.2)
    have HO3 := Lib.hid (own_below HO2.out hb3)
    have HB3 : Hid (Below w.heap.size w w3) := HB2.out.trans (hb3.mono HB2.out.size)
    have HR3 := Lib.hid hr3
    have HN3 := Lib.hid hn3
    have hc1 : t + 1 + n3 ≤ maxLen := by have := HL2.out; unfold maxLen; omega
    have hc2 : (t + 1 + n3) * 8 ≤ 140737488355328 := by have := HL2.out; omega
    have hbase3 : w.heap.size ≤ w3.heap.size := HB3.out.size
    have hone3 := ints_one (ord l m k)
    have HVB2 : Hid (∀ g, v2.ownBlock = some g → w.heap.size ≤ g) := fun g hg => (own_block_lt HO2.out g hg).1
    clear h30 h31 h32 h33 hb3 hr3 hn3 hb1 hb2 hbase hone
    go_wp2_with (at_builtin; refine wpList_append_any _ rfl _ _ 34 rfl w.heap.size 3 i0 (.int .i64 0) 1 8 Tryz.underlying34 hi hq0 hq1 hq2 rfl (by decide) v2 (t + 1) _ rfl HO3.out _ A3 n3 c3 _ rfl HR3.out hone3 hc1 hc2 hbase3 ?_)
    intro v4 w4 hown4 hg4 hat4
    have HO4 : Hid (w4.ownsRow w.heap.size 3 1 v4 (t + 1 + n3) (((bx.kids.take (j + 1)).flatMap fun k => k :: ord l m k).map (.int .i64))) := by
      show w4.ownsRow _ _ _ _ _ _
      rw [HT.out, List.map_append, List.map_cons]
      exact hown4
    have HT4 : Hid (t + 1 + n3 = ((bx.kids.take (j + 1)).flatMap fun k => k :: ord l m k).length) := by
      show _ = _
      rw [HT.out, List.length_append, List.length_cons, ← ht.out, HN3.out]; omega
    have HB4 : Hid (Below w.heap.size w w4) := HB3.out.grown hg4 hbase3 (fun g hg => HVB2.out g hg)
    clear hown4 hg4 hat4
    go_wp2_with fail
    go_roundg (nk - (j + 1))
    case measure => omega
    case rel => exact ⟨j + 1, t + 1 + n3, v4, by omega, rfl, by go_num, HT4, HO4, HB4⟩
/-- tree.below -/
theorem treeBelow_any (l : List Bl) (K : Kids l) (hlow : ∀ id d, Dp l id d → d ≤ 40) (A : Option Addr) (n c : Nat) (B : Nat) : ∀ (m : Nat) (id : Int) (d : Nat) (w : World), Dp l id d → d + m = 41 → B ≤ w.heap.size → RB w B (.slice A n c) l →
    Calls Tryz.prog 64 #[.slice A n c, .int .i64 id] w (IntsR (ord l m id) w)
  | 0, id, d, w, hd, hm, hB, h => by have := hlow id d hd; omega
  | m + 1, id, d, w, hd, hm, hB, h => below_walk l K A n c id d m hd w B hB h fun k W hk hW => treeBelow_any l K hlow A n c B m k (d + 1) W hk (by omega) (Nat.le_trans hB hW.size) (h.below (hW.mono hB))
set_option maxHeartbeats 4000000 in
theorem order_walk (l : List Bl) (K : Kids l) (A : Option Addr) (n c : Nat) (id : Int) (d m : Nat) (hd : Dp l id d) (w : World) (B : Nat) (hB : B ≤ w.heap.size) (h : RB w B (.slice A n c) l)
    (IH : ∀ (k : Int) (W : World), Dp l k (d + 1) → Below w.heap.size w W → Calls Tryz.prog 114 #[.slice A n c, .int .i64 k] W (IntsR (ord l m k) W)) :
    Calls Tryz.prog 114 #[.slice A n c, .int .i64 id] w (IntsR (ord l (m + 1) id) w) := by
  obtain ⟨i0, hi, hq0, hq1, hq2⟩ := info_parts int_info
  obtain ⟨p, bx, hp, hlp, hbi⟩ := hd.blk K
  have hbx := List.mem_of_getElem? hlp
  have HO : Hid (ord l (m + 1) id = bx.kids.flatMap fun k => k :: ord l m k) := ord_at hp hlp m
  have HS : Hid ((bx.kids.flatMap fun k => k :: ord l m k).length ≤ 2000) := by
    show _ ≤ _
    rw [← HO.out]
    exact Nat.le_trans (ord_short K _ hd) K.short
  have H64 : Hid (∀ x ∈ bx.kids.flatMap fun k => k :: ord l m k, I64 x) := by
    show ∀ x ∈ _, _
    rw [← HO.out]
    exact ord_i64 K _ hd
  have HIX := at_any l A n c id w B hB h
  rw [hp] at HIX
  have HIX := Lib.hid HIX
  have HN := Lib.hid h.len
  have hpn : p < n := by have := (List.getElem?_eq_some_iff.1 hlp).1; have := h.len.1; omega
  obtain ⟨b, off, Ak, nk, ck, Ap, np, cp, rfl, hbb, g0, g1, g2, g3, g4, hK, _⟩ := h.at_ hlp
  have HK := Lib.hid hK
  have HKL := Lib.hid hK.len
  have HKD : Hid (∀ k ∈ bx.kids, Dp l k (d + 1)) := fun k hk => .step bx d k (hbi ▸ hd) hbx hk
  have HI := Lib.hid IH
  have y0 : (0 : Int) ≤ (p : Int) := by omega
  have y1 : (p : Int) < (n : Int) := by omega
  clear h hd hp hlp hbi hbx hK IH g0 g1 g3 g4
  go_enter Tryz.func114, Tryz.ntmps114
  go_wp2_with fail
  refine HIX.out.mono ?_
  rintro e w1 ⟨rfl, hb1⟩
  have HB1 := Lib.hid hb1
  have g2 := (hb1.cell (p := ⟨b, off + p * 5 + 2, none⟩) (by show b < _; omega)).trans g2
  clear hb1
  go_wp2_with fail
  go_loopg [5, 16] nk (fun gg s5 s16 wr => ∃ (j t : Nat) (v : Value), j + gg = nk ∧ v = s5 ∧ s16 = .int .i64 (j : Int) ∧ Hid (t = ((bx.kids.take j).flatMap fun k => k :: ord l m k).length) ∧ Hid (wr.ownsRow w.heap.size 3 1 v t (((bx.kids.take j).flatMap fun k => k :: ord l m k).map (.int .i64))) ∧ Hid (Below w.heap.size w wr))
  case atStart => exact ⟨0, 0, _, by omega, rfl, rfl, rfl, World.ownsRow_nil _ _ _ _, HB1⟩
  case round =>
    obtain ⟨j, t, v, hjg, rfl, rfl, ht, hown, hbel⟩ := hrel
    obtain ⟨W1, rfl⟩ : ∃ W1, W1 = wr := ⟨_, rfl⟩
    have hzr : w.heap.size ≤ W1.heap.size := hbel.out.size
    have hbk : nk ≤ ck ∧ nk * 8 ≤ 140737488351232 := HKL.out.2
    have hts : t ≤ 2000 := by
      have := flat_take_le (fun k => k :: ord l m k) bx.kids j
      have := HS.out
      have := ht.out
      omega
    by_cases hj : j < nk
    case neg =>
      obtain rfl : nk = j := by omega
      have HF : Hid (IntsR (ord l (m + 1) id) w (.returned v) W1) := by
        show IntsR _ _ _ _
        have e : bx.kids.take nk = bx.kids := List.take_of_length_le (by rw [← HKL.out.1]; exact Nat.le_refl _)
        have h1 := hown.out
        have h2 := ht.out
        rw [e] at h1 h2
        rw [HO.out]
        exact IntsR.of_own h1 h2 (by omega) H64.out hbel.out
      go_wp2_with fail
      go_ret
      exact HF.out
    obtain ⟨k, hkk⟩ : ∃ k, bx.kids[j]? = some k := ⟨_, List.getElem?_eq_getElem (by have := HKL.out.1; omega)⟩
    obtain ⟨bk, ok, rfl, hbk2, q0⟩ := HK.out.at_ hkk
    have q0 := (hbel.out.cell (p := ⟨bk, ok + j, none⟩) (by show bk < _; omega)).trans q0
    have z0 : (0 : Int) ≤ (j : Int) := by omega
    have z1 : (j : Int) < (nk : Int) := by omega
    have HT : Hid ((bx.kids.take (j + 1)).flatMap (fun k => k :: ord l m k) = (bx.kids.take j).flatMap (fun k => k :: ord l m k) ++ (k :: ord l m k)) := by
      show _ = _
      obtain ⟨hk, e⟩ := List.getElem?_eq_some_iff.1 hkk
      rw [List.take_succ_eq_append_getElem hk, e, List.flatMap_append]
      simp
    have HL2 : Hid (t + 1 + (ord l m k).length ≤ 2000) := by
      show _ ≤ _
      have h1 := flat_take_le (fun k => k :: ord l m k) bx.kids (j + 1)
      rw [HT.out, List.length_append, List.length_cons] at h1
      have := HS.out
      have := ht.out
      omega
    have HX := Lib.hid fun W hW => HI.out k W (HKD.out k (List.mem_of_getElem? hkk)) hW
    clear hkk
    have hb1 : t + 1 ≤ maxLen := by unfold maxLen; omega
    have hb2 : (t + 1) * 8 ≤ 140737488355328 := by omega
    have HR1 : Hid (Reads (W1.alloc (.cells #[.int .i64 k] 3)) (W1.heap.size + 1) 1 (some ⟨W1.heap.size, 0, none⟩) 1 [.int .i64 k]) := Reads.blk (Blk.new _ _ _) rfl
    have hbase : w.heap.size ≤ (W1.alloc (.cells #[.int .i64 k] 3)).heap.size := by simp; omega
    have hone : ∀ u ∈ [Value.int .i64 k], u.oneCell' = true := ints_one [k]
    have HOW := Lib.hid (hown.out.alloc (.cells #[.int .i64 k] 3))
    have HBA := Lib.hid (hbel.out.alloc hzr (.cells #[.int .i64 k] 3))
    have HVB : Hid (∀ g, v.ownBlock = some g → w.heap.size ≤ g) := fun g hg => (own_block_lt hown.out g hg).1
    go_wp2_with (at_builtin; refine wpList_append_any _ rfl _ _ 34 rfl w.heap.size 3 i0 (.int .i64 0) 1 8 Tryz.underlying34 hi hq0 hq1 hq2 rfl (by decide) v t _ rfl HOW.out _ _ 1 1 _ rfl HR1.out hone hb1 hb2 hbase ?_)
    intro v2 w2 hown2 hg2 hat2
    have HO2 := Lib.hid hown2
    have HB2 : Hid (Below w.heap.size w w2) := HBA.out.grown hg2 (Nat.le_trans hzr (by simp)) (fun g hg => HVB.out g hg)
    have HX2 := Lib.hid (HX.out w2 HB2.out)
    clear hown2 hg2 hat2
    go_wp2_with fail
    refine HX2.out.mono ?_
    rintro e w3 ⟨⟨A3, n3, c3, rfl, h30, h31, h32, h33⟩, hb3⟩
    obtain ⟨hr3, hn3⟩ := h31.reads1 (B := w3.heap.size) (fun b hb => hb.2)
    have HO3 := Lib.hid (own_below HO2.out hb3)
    have HB3 : Hid (Below w.heap.size w w3) := HB2.out.trans (hb3.mono HB2.out.size)
    have HR3 := Lib.hid hr3
    have HN3 := Lib.hid hn3
    have hc1 : t + 1 + n3 ≤ maxLen := by have := HL2.out; unfold maxLen; omega
    have hc2 : (t + 1 + n3) * 8 ≤ 140737488355328 := by have := HL2.out; omega
    have hbase3 : w.heap.size ≤ w3.heap.size := HB3.out.size
    have hone3 := ints_one (ord l m k)
    have HVB2 : Hid (∀ g, v2.ownBlock = some g → w.heap.size ≤ g) := fun g hg => (own_block_lt HO2.out g hg).1
    clear h30 h31 h32 h33 hb3 hr3 hn3 hb1 hb2 hbase hone
    go_wp2_with (at_builtin; refine wpList_append_any _ rfl _ _ 34 rfl w.heap.size 3 i0 (.int .i64 0) 1 8 Tryz.underlying34 hi hq0 hq1 hq2 rfl (by decide) v2 (t + 1) _ rfl HO3.out _ A3 n3 c3 _ rfl HR3.out hone3 hc1 hc2 hbase3 ?_)
    intro v4 w4 hown4 hg4 hat4
    have HO4 : Hid (w4.ownsRow w.heap.size 3 1 v4 (t + 1 + n3) (((bx.kids.take (j + 1)).flatMap fun k => k :: ord l m k).map (.int .i64))) := by
      show w4.ownsRow _ _ _ _ _ _
      rw [HT.out, List.map_append, List.map_cons]
      exact hown4
    have HT4 : Hid (t + 1 + n3 = ((bx.kids.take (j + 1)).flatMap fun k => k :: ord l m k).length) := by
      show _ = _
      rw [HT.out, List.length_append, List.length_cons, ← ht.out, HN3.out]; omega
    have HB4 : Hid (Below w.heap.size w w4) := HB3.out.grown hg4 hbase3 (fun g hg => HVB2.out g hg)
    clear hown4 hg4 hat4
    go_wp2_with fail
    go_roundg (nk - (j + 1))
    case measure => omega
    case rel => exact ⟨j + 1, t + 1 + n3, v4, by omega, rfl, by go_num, HT4, HO4, HB4⟩
/-- the reference's OrderOf -/
theorem orderOf_any (l : List Bl) (K : Kids l) (hlow : ∀ id d, Dp l id d → d ≤ 40) (A : Option Addr) (n c : Nat) (B : Nat) : ∀ (m : Nat) (id : Int) (d : Nat) (w : World), Dp l id d → d + m = 41 → B ≤ w.heap.size → RB w B (.slice A n c) l →
    Calls Tryz.prog 114 #[.slice A n c, .int .i64 id] w (IntsR (ord l m id) w)
  | 0, id, d, w, hd, hm, hB, h => by have := hlow id d hd; omega
  | m + 1, id, d, w, hd, hm, hB, h => order_walk l K A n c id d m hd w B hB h fun k W hk hW => orderOf_any l K hlow A n c B m k (d + 1) W hk (by omega) (Nat.le_trans hB hW.size) (h.below (hW.mono hB))
end Go.Proofs.YtmkicfjcgbfaaaaGreat
