/-
  DERIVED. DERIVED: THE SHELF's CONTRACTS AT THIS DUMP, IN PLAIN WORDS (tools/lay-plain.mjs out of 'TryShelf.lean', which tools/lay-shelf.mjs wrote): THE SAME DECLARATIONS UNDER THE SAME NAMES: 'import', 'namespace', 'open', 'def', 'theorem' AND NOTHING ELSE: no command of the shelf's: FOR A HAND-IN. Each laying: the table of numbers ('.._ren') and one theorem, a field a fact of the dump's own or the kernel's comparison; each contract: ONE APPLICATION.
  The walks of tree.path and the reference's PathOf. Conditions: sizes; a base without error.
  The walk of tree.checkInsert. Conditions: sizes; a base without error.
  What the walks of the reference's Applied share. Conditions: none.
  A base in a row of the call's own: one block taken out, one put in (append, copy, store). Conditions: sizes.
  By an AI agent.
-/
import Derived.Shelf.Slices.Reverse
import Derived.Shelf.Slices.Cells
import Derived.Test.YtackphgnkdpgnaaGreatProg
import Derived.Test.YtackphgnkdpgnaaGreatTj06
import Derived.Test.YtackphgnkdpgnaaGreatTj10
import Derived.Test.YtackphgnkdpgnaaGreatTj02
import Derived.Lib.OwnBridge
import Derived.Test.YtackphgnkdpgnaaGreatTj09
import Derived.Test.YtackphgnkdpgnaaGreatTj14
import Derived.Test.YtackphgnkdpgnaaGreatTj15
import Derived.Test.YtackphgnkdpgnaaGreatTj17
namespace Go.Proofs
open Go.Shelf
def Tryz.lays112_ren : Go.Shelf.Ren := ⟨fun | 112 => 96 | n => n, fun | 28 => 42 | 3 => 3 | 4 => 4 | 0 => 0 | n => n, fun | n => n⟩
theorem Tryz.lays112 : Go.Proofs.Lays.n112 Tryz.prog Tryz.lays112_ren := {
  mixed := by kernel_rfl
  f112 := Tryz.func96.trans (congrArg some (by kernel_rfl))
  t0 := Tryz.underlying0
  a0 := Tryz.isAgg0
  z0 := Tryz.sizeOf0
  v0 := Tryz.zeroValue0
  t3 := Tryz.underlying3
  a3 := Tryz.isAgg3
  z3 := Tryz.sizeOf3
  v3 := Tryz.zeroValue3
  t4 := Tryz.underlying4
  a4 := Tryz.isAgg4
  z4 := Tryz.sizeOf4
  v4 := Tryz.zeroValue4
  t28 := Tryz.underlying42
  a28 := Tryz.isAgg42
  z28 := Tryz.sizeOf42
  v28 := Tryz.zeroValue42 }
open Go.RowKit Go.Lib Go.Sort in
theorem Tryz.slices_Reverse_int (blk off cap : Nat) (zs : List Int) (w : World) (hH : Holds (Value.int .i64) w blk off zs.toArray) (hsz : zs.length ≤ 9223372036854775807) :
    Calls Tryz.prog 96 #[.slice (some ⟨blk, off, none⟩) zs.length cap] w fun e w' => e = .returned (.tuple #[]) ∧ ∃ n, w' = putRow (Value.int .i64) (Sort.ahead w n) blk off zs.reverse.toArray := Any.slices_Reverse_int Tryz.lays112 blk off cap zs w hH hsz
open Go.RowKit Go.Lib Go.Sort in
theorem Tryz.slices_Reverse_int_empty (a : Option Addr) (cap : Nat) (w : World) :
    Calls Tryz.prog 96 #[.slice a 0 cap] w fun e w' => e = .returned (.tuple #[]) ∧ w' = w := Any.slices_Reverse_int_empty Tryz.lays112 a cap w
open Go.RowKit Go.Lib Go.Sort in
theorem Tryz.slices_Reverse_int_cells (b off n c : Nat) (zs : List Int) (w : World) (hz : n ≤ zs.length) (hbig : n ≤ 9223372036854775807) (hc : ∀ j, j < zs.length → w.cell? ⟨b, off + j, none⟩ = some (.int .i64 (zs.getD j 0))) (hf : ∀ j, j < n → w.frozen? ⟨b, off + j, none⟩ = false) :
    Calls Tryz.prog 96 #[.slice (some ⟨b, off, none⟩) n c] w fun e w' => e = .returned (.tuple #[]) ∧ ∃ q, w' = (w.drewN q).setCells b off ((zs.take n).reverse.map (Value.int .i64)) := Any.slices_Reverse_int_cells Tryz.lays112 b off n c zs w hz hbig hc hf
end Go.Proofs
namespace Go.Proofs.YtackphgnkdpgnaaGreat
open Go.RowKit

/-- slices.Reverse of a row of the call's own -/
theorem revI_any {w : World} {base n : Nat} {v : Value} {L : List Int} (h : w.ownsRow base 3 1 v n (L.map (.int .i64))) (hs : n ≤ 100000) (w0 : World) (hb : Below base w0 w) :
    Calls Tryz.prog 96 #[v] w fun e w' => e = .returned (.tuple #[]) ∧ w'.ownsRow base 3 1 v n (L.reverse.map (.int .i64)) ∧ Below base w0 w' := by
  rcases h.2 with ⟨rfl, h0⟩ | ⟨g0, cap0, cur, rfl, _⟩
  · have hL : L = [] := by
      have := h.1
      rw [h0, List.length_map] at this
      exact List.eq_nil_of_length_eq_zero (by omega)
    subst hL h0
    refine (Tryz.slices_Reverse_int_empty none 0 w).mono ?_
    rintro e w' ⟨rfl, rfl⟩
    exact ⟨rfl, h, hb⟩
  · obtain ⟨g, cap, e, hg, hlt, hnc, hcm, hl, hH⟩ := Lib.holds_of_ownsRow h (by intro e; injection e with e; cases e)
    injection e with e1 _ e3
    injection e1 with e1
    injection e1 with e1
    subst e1 e3
    rw [← hl]
    refine (Tryz.slices_Reverse_int g0 0 cap0 L w hH (by omega)).mono ?_
    rintro e w' ⟨rfl, q, rfl⟩
    refine ⟨rfl, ?_, Lib.below_putRow hb hg⟩
    have := Lib.ownsRow_putRow (q := q) (k := n) h (ys := L.reverse) (by rw [List.length_reverse]; exact hl) (Nat.le_refl _)
    rw [List.take_of_length_le (by rw [List.length_reverse]; omega)] at this
    rw [hl]
    exact this

set_option maxHeartbeats 4000000 in
/-- tree.path -/
theorem path_any (l : List Bl) (K : Kids l) (A : Option Addr) (n c : Nat) (id : Int) (d : Nat) (hd : Dp l id d) (hd40 : d ≤ 40) (w : World) (B : Nat) (hB : B ≤ w.heap.size) (h : RB w B (.slice A n c) l) :
    Calls Tryz.prog 79 #[.slice A n c, .int .i64 id] w fun e w' => (∃ A' n', e = .returned (.slice A' n' n') ∧ RInX w' (fun b => w.heap.size ≤ b ∧ b < w'.heap.size) (.slice A' n' n') (pth l d id)) ∧ Below w.heap.size w w' := by
  obtain ⟨i0, hi, hq0, hq1, hq2⟩ := info_parts int_info
  have HIX := Lib.hid fun (x : Int) (W : World) (hx : I64 x) (hW : Below w.heap.size w W) => index_any l A n c x W B (Nat.le_trans hB hW.size) (h.below (hW.mono hB)) K.rise K.ids hx
  have H := Lib.hid h
  have KK := Lib.hid K
  have HP64 := Lib.hid (pth_i64 K hd)
  have HLEN := Lib.hid (pth_len (l := l) d id)
  obtain ⟨P, hP⟩ : ∃ P, P = pth l d id := ⟨_, rfl⟩
  rw [← hP] at HP64 HLEN ⊢
  have HDD := Lib.hid hd
  have HPP := Lib.hid hP
  clear h K hd hP
  go_enter Tryz.func79, Tryz.ntmps79
  go_wp2_with fail
  go_loopg [1, 5] d (fun gg s1 s5 wr => ∃ (x : Int) (d' t : Nat) (v : Value) (L : List Int), s1 = .int .i64 x ∧ v = s5 ∧ d' ≤ gg ∧ Hid (Dp l x d') ∧ Hid (pth l d' x ++ L.reverse = P) ∧ Hid (t = L.length) ∧ Hid (wr.ownsRow w.heap.size 3 1 v t (L.map (.int .i64))) ∧ Hid (Below w.heap.size w wr))
  case atStart => exact ⟨id, d, 0, _, [], rfl, rfl, Nat.le_refl _, HDD, (by show _ = _; rw [HPP.out]; simp), rfl, World.ownsRow_nil _ _ _ _, Below.refl _ _⟩
  case round =>
    obtain ⟨x, d', t, v, L, rfl, rfl, hdg, hdp, hpl, ht, hown, hbel⟩ := hrel
    obtain ⟨W1, rfl⟩ : ∃ W1, W1 = wr := ⟨_, rfl⟩
    have hzr : w.heap.size ≤ W1.heap.size := hbel.out.size
    have hts : t + d' = d := by
      have h1 := congrArg List.length hpl.out
      rw [List.length_append, List.length_reverse, pth_len, HLEN.out, ← ht.out] at h1
      omega
    rcases d' with _ | d'
    · have hx0 : x = 0 := (Dp.zero_iff KK.out hdp.out).2 rfl
      subst hx0
      have hL : Hid (L.reverse = P) := hpl.out
      have HRV := Lib.hid (revI_any hown.out (by omega) w hbel.out)
      go_wp2_with fail
      refine HRV.out.mono ?_
      rintro e w2 ⟨rfl, ho2, hb2⟩
      rw [hL.out] at ho2
      obtain ⟨A', c', rfl, h0, h1, h2⟩ := RInX.of_own ho2 (by rw [HLEN.out]; omega) (by omega) HP64.out
      have hcc : t ≤ c' := by
        obtain ⟨_, _, _, e, _, h3, _⟩ := h1
        injection e with _ e1 e2
        omega
      have HCL := Lib.hid (clipI_any A' t c' w2 hcc h0)
      have HB2 := Lib.hid hb2
      have HR2 := Lib.hid (h2.weak (S' := fun b => w.heap.size ≤ b ∧ b < w2.heap.size) fun b hb => hb.2)
      clear ho2 h0 h1 h2 hcc hb2
      go_wp2_with fail
      refine HCL.out.mono ?_
      rintro e w3 ⟨rfl, rfl⟩
      go_wp2_with fail
      go_ret
      exact ⟨⟨A', t, rfl, HR2.out⟩, HB2.out⟩
    · obtain ⟨hx0, hdu⟩ := Dp.up KK.out hdp.out
      obtain ⟨p, bx, hp, hlp, hbi⟩ := hdp.out.blk KK.out
      have hbx := List.mem_of_getElem? hlp
      have hx64 : I64 x := by have := KK.out.ids bx hbx; unfold I64; omega
      have hpar : parOf l x = bx.parent := by rw [← hbi]; exact parOf_eq KK.out hbx
      rw [hpar] at hdu
      have hpn : p < n := by have := (List.getElem?_eq_some_iff.1 hlp).1; have := H.out.len.1; omega
      obtain ⟨b, off, Ak, nk, ck, Ap, np, cp, rfl, hbb, g0, g1, g2, g3, g4, _, _⟩ := H.out.at_ hlp
      have HDU := Lib.hid hdu
      have HPL : Hid (pth l d' bx.parent ++ (L ++ [x]).reverse = P) := by
        show _ = _
        rw [List.reverse_append, ← hpl.out, pth, hpar]
        simp
      have HT2 : Hid (t + 1 = (L ++ [x]).length) := by show _ = _; rw [List.length_append, ← ht.out]; rfl
      have hx0' : (x != 0) = true := by simpa using hx0
      have hb1 : t + 1 ≤ maxLen := by unfold maxLen; omega
      have hb2 : (t + 1) * 8 ≤ 140737488355328 := by omega
      have HR1 : Hid (Reads (W1.alloc (.cells #[.int .i64 x] 3)) (W1.heap.size + 1) 1 (some ⟨W1.heap.size, 0, none⟩) 1 [.int .i64 x]) := Reads.blk (Blk.new _ _ _) rfl
      have hbase : w.heap.size ≤ (W1.alloc (.cells #[.int .i64 x] 3)).heap.size := by simp; omega
      have hone : ∀ u ∈ [Value.int .i64 x], u.oneCell' = true := ints_one [x]
      have HOW := Lib.hid (hown.out.alloc (.cells #[.int .i64 x] 3))
      have HBA := Lib.hid (hbel.out.alloc hzr (.cells #[.int .i64 x] 3))
      have HVB : Hid (∀ g, v.ownBlock = some g → w.heap.size ≤ g) := fun g hg => (own_block_lt hown.out g hg).1
      have HX := Lib.hid fun W hW => HIX.out x W hx64 hW
      rw [hp] at HX
      have HL3 : Hid (L.map (Value.int .i64) ++ [Value.int .i64 x] = (L ++ [x]).map (Value.int .i64)) := by show _ = _; simp
      have y0 : (0 : Int) ≤ (p : Int) := by omega
      have y1 : (p : Int) < (n : Int) := by omega
      clear hx0 hdu hp hlp hbi hbx hpar g0 g2 g3 g4
      go_wp2_with (at_builtin; refine wpList_append_any _ rfl _ _ 42 rfl w.heap.size 3 i0 (.int .i64 0) 1 8 Tryz.underlying42 hi hq0 hq1 hq2 rfl (by decide) v t _ rfl HOW.out _ _ 1 1 _ rfl HR1.out hone hb1 hb2 hbase ?_)
      intro v2 w2 hown2 hg2 hat2
      rw [HL3.out] at hown2
      have HO2 := Lib.hid hown2
      have HB2 : Hid (Below w.heap.size w w2) := HBA.out.grown hg2 (Nat.le_trans hzr (by simp)) (fun g hg => HVB.out g hg)
      have HX2 := Lib.hid (HX.out w2 HB2.out)
      clear hown2 hg2 hat2 hb1 hb2 hbase hone
      go_wp2_with fail
      refine HX2.out.mono ?_
      rintro e w3 ⟨rfl, hb3⟩
      have HO3 := Lib.hid (own_below HO2.out hb3)
      have HB3 : Hid (Below w.heap.size w w3) := HB2.out.trans (hb3.mono HB2.out.size)
      have g1 := (HB3.out.cell (p := ⟨b, off + p * 5 + 1, none⟩) (by show b < _; omega)).trans g1
      clear hb3
      go_wp2_with fail
      go_roundg d'
      case measure => omega
      case rel => exact ⟨bx.parent, d', t + 1, v2, L ++ [x], rfl, rfl, Nat.le_refl _, HDU, HPL, HT2, HO3, HB3⟩

set_option maxHeartbeats 4000000 in
theorem pathOf_walk (l : List Bl) (K : Kids l) (A : Option Addr) (n c : Nat) (id : Int) (d : Nat) (hd : Dp l id d) (hd40 : d ≤ 40) (w : World) (B : Nat) (hB : B ≤ w.heap.size) (h : RB w B (.slice A n c) l)
    (IH : ∀ (k : Int) (d' : Nat) (W : World), d = d' + 1 → Dp l k d' → Below w.heap.size w W → Calls Tryz.prog 22 #[.slice A n c, .int .i64 k] W fun e w' => ∃ v, e = .returned v ∧ w'.ownsRow W.heap.size 3 1 v d' ((pth l d' k).map (.int .i64)) ∧ Below W.heap.size W w') :
    Calls Tryz.prog 22 #[.slice A n c, .int .i64 id] w fun e w' => ∃ v, e = .returned v ∧ w'.ownsRow w.heap.size 3 1 v d ((pth l d id).map (.int .i64)) ∧ Below w.heap.size w w' := by
  obtain ⟨i0, hi, hq0, hq1, hq2⟩ := info_parts int_info
  rcases d with _ | d'
  · have hx0 : id = 0 := (Dp.zero_iff K hd).2 rfl
    subst hx0
    clear h IH hd
    go_enter Tryz.func22, Tryz.ntmps22
    go_wp2_with fail
    go_ret
    exact ⟨_, rfl, World.ownsRow_nil _ _ _ _, Below.refl _ _⟩
  · obtain ⟨hx0, hdu⟩ := Dp.up K hd
    obtain ⟨p, bx, hp, hlp, hbi⟩ := hd.blk K
    have hbx := List.mem_of_getElem? hlp
    have hpar : parOf l id = bx.parent := by rw [← hbi]; exact parOf_eq K hbx
    have HPT : Hid (pth l (d' + 1) id = pth l d' bx.parent ++ [id]) := by show _ = _; rw [pth, hpar]
    rw [hpar] at hdu
    have hpn : p < n := by have := (List.getElem?_eq_some_iff.1 hlp).1; have := h.len.1; omega
    have HX := at_any l A n c id w B hB h
    rw [hp] at HX
    have HX := Lib.hid HX
    obtain ⟨b, off, Ak, nk, ck, Ap, np, cp, rfl, hbb, g0, g1, g2, g3, g4, _, _⟩ := h.at_ hlp
    have HI := Lib.hid fun W hW => IH bx.parent d' W rfl hdu hW
    have hx0' : (id == 0) = false := by simpa using hx0
    have y0 : (0 : Int) ≤ (p : Int) := by omega
    have y1 : (p : Int) < (n : Int) := by omega
    clear h IH hd hdu hp hlp hbi hbx hpar g0 g2 g3 g4 hx0
    go_enter Tryz.func22, Tryz.ntmps22
    go_wp2_with fail
    refine HX.out.mono ?_
    rintro e w1 ⟨rfl, hb1⟩
    have HB1 := Lib.hid hb1
    have g1 := (hb1.cell (p := ⟨b, off + p * 5 + 1, none⟩) (by show b < _; omega)).trans g1
    have HI2 := Lib.hid (HI.out w1 hb1)
    clear hb1
    go_wp2_with fail
    refine HI2.out.mono ?_
    rintro e w2 ⟨v, rfl, ho, hb2⟩
    have HB2 : Hid (Below w.heap.size w w2) := HB1.out.trans (hb2.mono HB1.out.size)
    have hzr : w.heap.size ≤ w2.heap.size := HB2.out.size
    have hz1 : w.heap.size ≤ w1.heap.size := HB1.out.size
    have HO := Lib.hid (ho.mono hz1)
    clear ho hb2
    have hb1 : d' + 1 ≤ maxLen := by unfold maxLen; omega
    have hb2 : (d' + 1) * 8 ≤ 140737488355328 := by omega
    have HR1 : Hid (Reads (w2.alloc (.cells #[.int .i64 id] 3)) (w2.heap.size + 1) 1 (some ⟨w2.heap.size, 0, none⟩) 1 [.int .i64 id]) := Reads.blk (Blk.new _ _ _) rfl
    have hbase : w.heap.size ≤ (w2.alloc (.cells #[.int .i64 id] 3)).heap.size := by simp; omega
    have hone : ∀ u ∈ [Value.int .i64 id], u.oneCell' = true := ints_one [id]
    have HOW := Lib.hid (HO.out.alloc (.cells #[.int .i64 id] 3))
    have HBA := Lib.hid (HB2.out.alloc hzr (.cells #[.int .i64 id] 3))
    have HVB : Hid (∀ g, v.ownBlock = some g → w.heap.size ≤ g) := fun g hg => (own_block_lt HO.out g hg).1
    go_wp2_with (at_builtin; refine wpList_append_any _ rfl _ _ 42 rfl w.heap.size 3 i0 (.int .i64 0) 1 8 Tryz.underlying42 hi hq0 hq1 hq2 rfl (by decide) v d' _ rfl HOW.out _ _ 1 1 _ rfl HR1.out hone hb1 hb2 hbase ?_)
    intro v2 w3 hown2 hg2 hat2
    have HO3 : Hid (w3.ownsRow w.heap.size 3 1 v2 (d' + 1) ((pth l (d' + 1) id).map (.int .i64))) := by
      show w3.ownsRow _ _ _ _ _ _
      rw [HPT.out, List.map_append]; exact hown2
    have HB3 : Hid (Below w.heap.size w w3) := HBA.out.grown hg2 (Nat.le_trans hzr (by simp)) (fun g hg => HVB.out g hg)
    clear hown2 hg2 hat2
    go_wp2_with fail
    go_ret
    exact ⟨_, rfl, HO3.out, HB3.out⟩
/-- the reference's PathOf -/
theorem pathOf_own (l : List Bl) (K : Kids l) (A : Option Addr) (n c : Nat) (B : Nat) : ∀ (d : Nat) (id : Int) (w : World), Dp l id d → d ≤ 40 → B ≤ w.heap.size → RB w B (.slice A n c) l →
    Calls Tryz.prog 22 #[.slice A n c, .int .i64 id] w fun e w' => ∃ v, e = .returned v ∧ w'.ownsRow w.heap.size 3 1 v d ((pth l d id).map (.int .i64)) ∧ Below w.heap.size w w'
  | 0, id, w, hd, h40, hB, h => pathOf_walk l K A n c id 0 hd h40 w B hB h fun k d' W e => by omega
  | d + 1, id, w, hd, h40, hB, h => pathOf_walk l K A n c id (d + 1) hd h40 w B hB h fun k d' W e hk hW => by
    obtain rfl : d = d' := by omega
    exact pathOf_own l K A n c B d k W hk (by omega) (Nat.le_trans hB hW.size) (h.below (hW.mono hB))
theorem pathOf_any (l : List Bl) (K : Kids l) (A : Option Addr) (n c : Nat) (B d : Nat) (id : Int) (w : World) (hd : Dp l id d) (h40 : d ≤ 40) (hB : B ≤ w.heap.size) (h : RB w B (.slice A n c) l) :
    Calls Tryz.prog 22 #[.slice A n c, .int .i64 id] w (IntsR (pth l d id) w) :=
  (pathOf_own l K A n c B d id w hd h40 hB h).mono fun e w' ⟨v, he, ho, hb⟩ => by
    subst he
    exact IntsR.of_own ho (pth_len d id).symm (by omega) (pth_i64 K hd) hb
end Go.Proofs.YtackphgnkdpgnaaGreat
namespace Go.Proofs.YtackphgnkdpgnaaGreat
open Go.RowKit

theorem Good.blk_at {l : List Bl} {f : Int → Option Int} (G : Good l f) {id : Int} (h : 0 ≤ posOf l id) : ∃ (p : Nat) (b : Bl) (d : Nat), posOf l id = (p : Int) ∧ l[p]? = some b ∧ b.id = id ∧ blkAt l id = b ∧ Dp l id d ∧ d ≤ 40 ∧ dF f id = (d : Int) := by
  rcases posOf_spec l id with ⟨e, _⟩ | ⟨p, b, e, hb, hbi, _⟩
  · omega
  · obtain ⟨d, h1, h2, h3⟩ := G.dp (List.mem_of_getElem? hb)
    rw [hbi] at h1 h2
    exact ⟨p, b, d, e, hb, hbi, blkAt_of e hb, h2, h3, by unfold dF; rw [h1]; rfl⟩
/-- the cells of an operation that lies in a block of its own -/
abbrev opC (o : Opn) (v : Value) : Array Value := #[.int .i64 o.kind, .int .i64 o.id, .int .i64 o.parent, .int .i64 o.at_, .int .i64 o.from_, .int .i64 o.to_, .string o.text, .string o.name, .int .i64 o.val.kind, .int .i64 o.val.int_, .int .i64 o.val.to_, .string o.val.text, v]

set_option maxRecDepth 100000 in
set_option maxHeartbeats 4000000 in
/-- tree.checkInsert -/
theorem checkInsert_any (l : List Bl) (f : Int → Option Int) (G : Good l f) (Al : Option Addr) (n cl : Nat) (o : Opn) (Av : Option Addr) (nv cv : Nat) (w : World) (B : Nat) (hB : B ≤ w.heap.size) (h : RB w B (.slice Al n cl) l) (ho : OI o) :
    Calls Tryz.prog 52 #[.slice Al n cl, AO (o, .slice Av nv cv)] w fun e w' => e = .returned (.int .i64 (insErr l f o)) ∧ Below w.heap.size w w' := by
  have HIa := Lib.hid fun W (hW : Below w.heap.size w W) => index_any l Al n cl o.id W B (Nat.le_trans hB hW.size) (h.below (hW.mono hB)) G.kids.rise G.kids.ids ho.1
  have HIp := Lib.hid fun W (hW : Below w.heap.size w W) => index_any l Al n cl o.parent W B (Nat.le_trans hB hW.size) (h.below (hW.mono hB)) G.kids.rise G.kids.ids ho.2.1
  have HT := Lib.hid fun W => checkT_any o.text W
  have HN := Lib.hid h.len.1
  have hbg : n * 80 ≤ 140737488351232 := h.len.2.2
  have H := Lib.hid h
  obtain ⟨V, hV⟩ : ∃ V, V = insErr l f o := ⟨_, rfl⟩
  rw [← hV]
  unfold insErr at hV
  have HV := Lib.hid hV
  obtain ⟨wa, hwa⟩ : ∃ wa, wa = w.alloc (.cells (opC o (.slice Av nv cv)) 32) := ⟨_, rfl⟩
  have HBA : Hid (Below w.heap.size w wa) := by rw [hwa]; exact (Below.refl _ _).alloc (Nat.le_refl _) _
  have P0 : Hid (Blk wa w.heap.size 32 (opC o (.slice Av nv cv))) := by rw [hwa]; exact Blk.new _ _ _
  have HWA := Lib.hid hwa
  clear h hV hwa
  dsimp only [AO]
  go_enter Tryz.func52, Tryz.ntmps52
  go_upto_region 1 with fail
  rw [← HWA.out]
  have e0 := fun i => P0.out.cell i
  by_cases h1 : o.id < 1
  · have HL : Hid (V = 2) := HV.out.trans (if_pos (.inl h1))
    go_wp2_with fail
    go_ret
    exact ⟨by rw [HL.out]; rfl, HBA.out⟩
  by_cases h2 : 1000000 < o.id
  · have HL : Hid (V = 2) := HV.out.trans (if_pos (.inr h2))
    go_wp2_with fail
    go_ret
    exact ⟨by rw [HL.out]; rfl, HBA.out⟩
  have HV1 := Lib.hid (HV.out.trans (if_neg (by omega)))
  go_wp2_with fail
  refine (HIa.out wa HBA.out).mono ?_
  rintro e w1 ⟨rfl, hb⟩
  have HB1 : Hid (Below w.heap.size w w1) := HBA.out.trans (hb.mono HBA.out.size)
  have P1 := Lib.hid (P0.out.below hb P0.out.lt)
  clear hb e0
  have e0 := fun i => P1.out.cell i
  by_cases h3 : 0 ≤ posOf l o.id
  · have HL : Hid (V = 6) := HV1.out.trans (if_pos h3)
    go_wp2_with fail
    go_ret
    exact ⟨by rw [HL.out]; rfl, HB1.out⟩
  have HV2 := Lib.hid (HV1.out.trans (if_neg h3))
  go_wp2_with fail
  refine (HIp.out w1 HB1.out).mono ?_
  rintro e w2 ⟨rfl, hb⟩
  have HB2 : Hid (Below w.heap.size w w2) := HB1.out.trans (hb.mono HB1.out.size)
  have P2 := Lib.hid (P1.out.below hb P1.out.lt)
  clear hb e0
  have e0 := fun i => P2.out.cell i
  by_cases h4 : posOf l o.parent < 0
  · have HL : Hid (V = 7) := HV2.out.trans (if_pos h4)
    go_wp2_with fail
    go_ret
    exact ⟨by rw [HL.out]; rfl, HB2.out⟩
  have HV3 := Lib.hid (HV2.out.trans (if_neg h4))
  obtain ⟨p, b, d, hp, hlp, hbi, hba, hd, hd40, hdF⟩ := G.blk_at (id := o.parent) (by omega)
  rw [hba, hdF] at HV3
  rw [hp]
  have hpn : p < n := by have := (List.getElem?_eq_some_iff.1 hlp).1; have := HN.out; omega
  obtain ⟨bb, off, Ak, nk, ck, Ap, np, cp, rfl, hbb, _, _, g2, _, _, hK, _⟩ := H.out.at_ hlp
  have hkl : nk = b.kids.length := hK.len.1
  have hkb := hK.len.2.2
  rw [← hkl] at HV3
  have c2 := (HB2.out.cell (p := ⟨bb, off + p * 5 + 2, none⟩) (by show bb < _; omega)).trans g2
  have HPA := Lib.hid fun W (hW : Below w.heap.size w W) => path_any l G.kids (some ⟨bb, off, none⟩) n cl o.parent d hd hd40 W B (Nat.le_trans hB hW.size) (H.out.below (hW.mono hB))
  have i0 : (0 : Int) ≤ (p : Int) := by omega
  have i1 : (p : Int) < (n : Int) := by omega
  have i2 : ¬ ((p : Int) < 0) := by omega
  have HPL : Hid ((pth l d o.parent).length = d) := pth_len d o.parent
  clear hK hkl hp hlp hba hd hdF h3 h4 g2
  by_cases h5 : o.at_ < 0
  · have HL : Hid (V = 2) := HV3.out.trans (if_pos (.inl h5))
    go_wp2_with fail
    go_ret
    exact ⟨by rw [HL.out]; rfl, HB2.out⟩
  by_cases h6 : (nk : Int) < o.at_
  · have HL : Hid (V = 2) := HV3.out.trans (if_pos (.inr h6))
    go_wp2_with fail
    go_ret
    exact ⟨by rw [HL.out]; rfl, HB2.out⟩
  have HV4 := Lib.hid (HV3.out.trans (if_neg (by omega)))
  obtain ⟨tx, htx⟩ : ∃ t, t = txErr o.text := ⟨_, rfl⟩
  rw [← htx] at HT HV4
  go_wp2_with fail
  refine (HT.out w2).mono ?_
  rintro e w3 ⟨rfl, hw3⟩
  rw [hw3]
  clear hw3 htx
  by_cases h7 : tx = 0
  case neg =>
    have HL : Hid (V = tx) := HV4.out.trans (if_pos h7)
    have h7' : (tx != 0) = true := by simpa using h7
    clear h7
    go_wp2_with fail
    go_ret
    exact ⟨by rw [HL.out]; rfl, HB2.out⟩
  have HV5 := Lib.hid (HV4.out.trans (if_neg (fun e => e h7)))
  subst h7
  rw [← HN.out] at HV5
  by_cases h8 : 2000 ≤ n
  · have HL : Hid (V = 14) := HV5.out.trans (if_pos (.inl h8))
    have h8' : (2000 : Int) ≤ (n : Int) := by omega
    go_wp2_with fail
    go_ret
    exact ⟨by rw [HL.out]; rfl, HB2.out⟩
  have h8' : ¬ (2000 : Int) ≤ (n : Int) := by omega
  by_cases h9 : 500 ≤ nk
  · have HL : Hid (V = 14) := HV5.out.trans (if_pos (.inr h9))
    have h9' : (500 : Int) ≤ (nk : Int) := by omega
    go_wp2_with fail
    go_ret
    exact ⟨by rw [HL.out]; rfl, HB2.out⟩
  have h9' : ¬ (500 : Int) ≤ (nk : Int) := by omega
  have HV6 := Lib.hid (HV5.out.trans (if_neg (by omega)))
  go_wp2_with fail
  refine (HPA.out w2 HB2.out).mono ?_
  rintro e w4 ⟨⟨A', n', rfl, hr⟩, hb⟩
  have HB4 : Hid (Below w.heap.size w w4) := HB2.out.trans (hb.mono HB2.out.size)
  have hn' : n' = d := by
    have := (hr.reads (B := w4.heap.size) fun b hb => hb.2).len.1
    rw [HPL.out] at this
    exact this
  clear hb hr
  subst hn'
  by_cases h10 : 40 ≤ (n' : Int)
  · have HL : Hid (V = 13) := HV6.out.trans (if_pos h10)
    go_wp2_with fail
    go_ret
    exact ⟨by rw [HL.out]; rfl, HB4.out⟩
  · have HL : Hid (V = 0) := HV6.out.trans (if_neg h10)
    go_wp2_with fail
    go_ret
    exact ⟨by rw [HL.out]; rfl, HB4.out⟩
end Go.Proofs.YtackphgnkdpgnaaGreat
namespace Go.Proofs.YtackphgnkdpgnaaGreat
open Go.RowKit

/-- what the reference's Applied leaves -/
def ApplR (l : List Bl) (w : World) (e : Ending) (w' : World) : Prop := ∃ A n c, e = .returned (.slice A n c) ∧ RB w' w'.heap.size (.slice A n c) l ∧ Below w.heap.size w w'
end Go.Proofs.YtackphgnkdpgnaaGreat
namespace Go.Proofs.YtackphgnkdpgnaaGreat
open Go.RowKit

section
variable {w w' : World} {g cap : Nat} {M : List BK}
/-- the row without one block, by append(out[:i], out[i+1:]...) -/
theorem RowB.rem (h : RowB w g cap M) {i : Nat} (hi : i < M.length) : ∃ R : Array Value, RowB (w.setRow g R) g cap (M.take i ++ M.drop (i + 1)) ∧
    ∀ (ty : TypeId) (c0 : Nat) (ad : Addr), (0 < M.length - (i + 1) → ad = ⟨g, (i + 1) * 5, none⟩) → (Builtin.append_ #[22, 22] ty #[.slice (some ⟨g, 0, none⟩) i cap, .slice (some ad) (M.length - (i + 1)) c0]).run Tryz.prog w = .ok (.slice (some ⟨g, 0, none⟩) (M.length - 1) cap) (w.setRow g R) := by
  obtain ⟨i0, hi0, hq0, hq1, hq2⟩ := info_parts block_info
  obtain ⟨sp, h1, h2⟩ := h.row
  have hcl : (M.flatMap blV ++ sp).length = cap * 5 := by rw [List.length_append, fmB_len]; exact h2
  have htk : (M.flatMap blV ++ sp).take (i * 5) = (M.take i).flatMap blV := by
    rw [List.take_append_of_le_length (by rw [fmB_len]; omega), fmB_take]
  have hdl : ((M.drop (i + 1)).flatMap blV).length = (M.length - (i + 1)) * 5 := by rw [fmB_len, List.length_drop]
  obtain ⟨sp', hsp⟩ : ∃ sp', sp' = (M.flatMap blV ++ sp).drop (i * 5 + (M.length - (i + 1)) * 5) := ⟨_, rfl⟩
  have hlen : (M.take i ++ M.drop (i + 1)).length = M.length - 1 := by rw [List.length_append, List.length_take, List.length_drop]; omega
  refine ⟨((M.take i ++ M.drop (i + 1)).flatMap blV ++ sp').toArray, h.setRow ?_ ?_ fun x hx => ?_, fun ty c0 ad had => ?_⟩
  · rw [hlen, hsp, List.length_drop, hcl]
    have := h.len
    omega
  · rw [hlen]; have := h.few; omega
  · rcases List.mem_append.1 hx with hx | hx
    · exact h.nest x (List.mem_of_mem_take hx)
    · exact h.nest x (List.mem_of_mem_drop hx)
  · have := run_append_room (P := Tryz.prog) (ty := ty) w 22 45 i0 Tryz.underlying22 hi0 g i cap _ h1 ad (M.length - (i + 1)) c0 ((M.drop (i + 1)).flatMap blV) (by rw [hdl, hq1])
      (fun j v hj => by
        have hjl := (List.getElem?_eq_some_iff.1 hj).1
        rw [hdl] at hjl
        rw [had (by omega), Addr.add_lit]
        refine h.cells ?_
        rw [← fmB_drop, List.getElem?_drop] at hj
        exact hj) (fun v hv => h.one v (by rw [← fmB_drop] at hv; exact List.mem_of_mem_drop hv)) (by have := h.len; omega) (by rw [hdl, hq1, szB, h2]; have := h.len; omega)
    rw [hq1, hdl, List.toList_toArray, htk, ← hsp, ← List.flatMap_append, show i + (M.length - (i + 1)) = M.length - 1 by omega] at this
    exact this
/-- one block behind the row -/
theorem RowB.app1 (h : RowB w g cap M) (hl : M.length < 100000) {x : BK} {v' : Value} {base : Nat} (hx : NB w (fun b => b < w.heap.size ∧ b ≠ g) x) (hown : w'.ownsRow base 45 5 v' (M.length + 1) (M.flatMap blV ++ blV x)) (hg : w.grownBy w' (some g)) (hv : v'.ownBlock = some g ∨ v'.ownBlock = some w.heap.size) :
    ∃ g' cap', v' = .slice (some ⟨g', 0, none⟩) (M.length + 1) cap' ∧ base ≤ g' ∧ RowB w' g' cap' (M ++ [x]) := by
  have hlen : (M ++ [x]).length = M.length + 1 := by rw [List.length_append]; rfl
  have hfm : (M ++ [x]).flatMap blV = M.flatMap blV ++ blV x := by rw [List.flatMap_append, List.flatMap_singleton]
  rw [← hlen, ← hfm] at hown
  obtain ⟨g', cap', e, hb, hr⟩ := RowB.of_own hown (by omega) (by omega) fun y hy => by
    have hy' : NB w (fun b => b < w.heap.size ∧ b ≠ g) y := by
      rcases List.mem_append.1 hy with hy | hy
      · exact h.nest y hy
      · obtain rfl := List.mem_singleton.1 hy
        exact hx
    refine NB_ok _ _ _ _ y hy' (fun q hq => World.cell?_of_block (hg.block q.block hq.1 fun e => hq.2 (Option.some.inj e))) fun b hb' => ⟨Nat.lt_of_lt_of_le hb'.1 hg.size, ?_⟩
    rcases hv with e | e <;> rw [e]
    · exact fun e => hb'.2 (Option.some.inj e).symm
    · exact fun e => by have := Option.some.inj e; omega
  rw [hlen] at e
  exact ⟨g', cap', e, hb, hr⟩
/-- the blocks from a place on moved up by one, by copy(out[k+1:], out[k:]) -/
theorem RowB.shift {z : BK} (h : RowB w g cap (M ++ [z])) {k : Nat} (hk : k ≤ M.length) (o : Nat) (ho : 0 < M.length - k → o = (k + 1) * 5) (ho2 : o ≤ cap * 5) : ∃ (R : Array Value) (y : BK), RowB (w.setRow g R) g cap (M.take k ++ y :: M.drop k) ∧
    ∀ (ty : TypeId) (d0 c0 : Nat), (Builtin.copy_ #[22, 22] ty #[.slice (some ⟨g, o, none⟩) (M.length + 1 - (k + 1)) d0, .slice (some ⟨g, k * 5, none⟩) (M.length + 1 - k) c0]).run Tryz.prog w = .ok (goInt ((M.length + 1 - (k + 1) : Nat) : Int)) (w.setRow g R) := by
  obtain ⟨i0, hi0, hq0, hq1, hq2⟩ := info_parts block_info
  have hzz : (Tryz.prog.info? 45).map (·.size) = some 5 := by rw [hi0]; simp [hq1]
  obtain ⟨sp, h1, h2⟩ := h.row
  have hml : (M ++ [z]).length = M.length + 1 := by rw [List.length_append]; rfl
  rw [hml] at h2
  have hcl : ((M ++ [z]).flatMap blV ++ sp).length = cap * 5 := by rw [List.length_append, fmB_len, hml]; exact h2
  have hdl : ((M.drop k).flatMap blV).length = (M.length - k) * 5 := by rw [fmB_len, List.length_drop]
  have hmin : Nat.min (M.length + 1 - k) (M.length + 1 - (k + 1)) = M.length - k := by
    show min _ _ = _
    omega
  have hrun : ∀ (ty : TypeId) (d0 c0 : Nat), (Builtin.copy_ #[22, 22] ty #[.slice (some ⟨g, o, none⟩) (M.length + 1 - (k + 1)) d0, .slice (some ⟨g, k * 5, none⟩) (M.length + 1 - k) c0]).run Tryz.prog w = .ok (goInt ((M.length + 1 - (k + 1) : Nat) : Int)) (w.setRow g (((M ++ [z]).flatMap blV ++ sp).take o ++ (M.drop k).flatMap blV ++ ((M ++ [z]).flatMap blV ++ sp).drop (o + (M.length - k) * 5)).toArray) := fun ty d0 c0 => by
    have := run_copy_rowN (P := Tryz.prog) w 22 22 ty 45 g o (M.length + 1 - (k + 1)) d0 ⟨g, k * 5, none⟩ (M.length + 1 - k) c0 5 _ 45 ((M.drop k).flatMap blV) Tryz.underlying22 hzz h1 (by rw [hdl, hmin]) (fun j v hj => by
      have hjl := (List.getElem?_eq_some_iff.1 hj).1
      rw [Addr.add_lit]
      refine h.cells ?_
      rw [List.flatMap_append, List.getElem?_append_left (by rw [fmB_len]; rw [hdl] at hjl; omega)]
      rw [← fmB_drop, List.getElem?_drop] at hj
      exact hj) (by rw [hdl, List.size_toArray, hcl]; have hl := h.len; rw [hml] at hl; rcases Nat.eq_zero_or_pos (M.length - k) with e | e
                    · rw [e]; omega
                    · rw [ho e]; omega) (fun v hv => h.one v (by rw [← fmB_drop] at hv; rw [List.flatMap_append]; exact List.mem_append_left _ (List.mem_of_mem_drop hv)))
    rw [hmin, hdl, List.toList_toArray] at this
    rw [show M.length + 1 - (k + 1) = M.length - k by omega] at this ⊢
    exact this
  rcases Nat.eq_zero_or_pos (M.length - k) with e | e
  · obtain rfl : k = M.length := by omega
    refine ⟨_, z, ?_, hrun⟩
    have e2 : ((M ++ [z]).flatMap blV ++ sp).take o ++ (M.drop M.length).flatMap blV ++ ((M ++ [z]).flatMap blV ++ sp).drop (o + (M.length - M.length) * 5) = (M ++ [z]).flatMap blV ++ sp := by
      rw [List.drop_length, List.flatMap_nil, List.append_nil, Nat.sub_self, Nat.zero_mul, Nat.add_zero, List.take_append_drop]
    rw [e2, List.take_length, List.drop_length]
    refine h.setRow (M' := M ++ [z]) (by rw [hml]; exact h2) h.few fun x hx => h.nest x hx
  · have hkl : k < M.length := by omega
    obtain rfl : o = (k + 1) * 5 := ho e
    refine ⟨_, M[k], ?_, hrun⟩
    have e1 : ((M ++ [z]).flatMap blV ++ sp).take ((k + 1) * 5) = (M.take k ++ [M[k]]).flatMap blV := by
      rw [List.take_append_of_le_length (by rw [fmB_len, hml]; omega), fmB_take, List.take_append_of_le_length (by omega), List.take_succ_eq_append_getElem hkl]
    have e2 : ((M ++ [z]).flatMap blV ++ sp).drop ((k + 1) * 5 + (M.length - k) * 5) = sp := by
      rw [show (k + 1) * 5 + (M.length - k) * 5 = ((M ++ [z]).flatMap blV).length by rw [fmB_len, hml]; omega, List.drop_left]
    have e3 : (M.take k ++ [M[k]]).flatMap blV ++ (M.drop k).flatMap blV = (M.take k ++ M[k] :: M.drop k).flatMap blV := by
      rw [← List.flatMap_append, List.append_assoc]; rfl
    have hl2 : (M.take k ++ M[k] :: M.drop k).length = M.length + 1 := by rw [List.length_append, List.length_cons, List.length_take, List.length_drop]; omega
    rw [e1, e2, e3]
    refine h.setRow (by rw [hl2]; exact h2) (by rw [hl2]; have := h.few; rw [hml] at this; exact this) fun x hx => h.nest x (List.mem_append_left _ ?_)
    rcases List.mem_append.1 hx with hx | hx
    · exact List.mem_of_mem_take hx
    · rcases List.mem_cons.1 hx with rfl | hx
      · exact List.getElem_mem _
      · exact List.mem_of_mem_drop hx
/-- a new block stored whole at its place -/
theorem RowB.putNew {y : BK} {k : Nat} (h : RowB w g cap M) (hy : M[k]? = some y) (id p : Int) (s : ByteArray) :
    RowB (((((w.setCell ⟨g, k * 5, none⟩ (.int .i64 id)).setCell ⟨g, k * 5 + 1, none⟩ (.int .i64 p)).setCell ⟨g, k * 5 + 2, none⟩ (.slice none 0 0)).setCell ⟨g, k * 5 + 3, none⟩ (.string s)).setCell ⟨g, k * 5 + 4, none⟩ (.slice none 0 0)) g cap (M.set k (newB id p s)) := by
  obtain ⟨⟨yid, ypar, yks, ytx, yps⟩, ykv, ypv⟩ := y
  have hkl := (List.getElem?_eq_some_iff.1 hy).1
  have get : ∀ (M : List BK) (x : BK), k < M.length → (M.set k x)[k]? = some x := fun M x hl => by rw [List.getElem?_set, if_pos rfl, if_pos hl]
  have hn0 := h.nest _ (List.mem_of_getElem? hy)
  have s0 := h.store hy (j := 0) (y := (⟨id, ypar, yks, ytx, yps⟩, ykv, ypv)) (u := .int .i64 id) (by omega) rfl (by exact hn0)
  have q0 := get M (⟨id, ypar, yks, ytx, yps⟩, ykv, ypv) hkl
  have s1 := s0.store q0 (j := 1) (y := (⟨id, p, yks, ytx, yps⟩, ykv, ypv)) (u := .int .i64 p) (by omega) rfl (by have := s0.nest _ (List.mem_of_getElem? q0); exact this)
  have q1 := get (M.set k (⟨id, ypar, yks, ytx, yps⟩, ykv, ypv)) (⟨id, p, yks, ytx, yps⟩, ykv, ypv) (by rw [List.length_set]; exact hkl)
  have s2 := s1.store q1 (j := 2) (y := (⟨id, p, [], ytx, yps⟩, .slice none 0 0, ypv)) (u := .slice none 0 0) (by omega) rfl ⟨(newB_nest _ _ id p s).1, (s1.nest _ (List.mem_of_getElem? q1)).2⟩
  rw [List.set_set] at s1 s2 q1
  rw [List.set_set] at s2
  have q2 := get M (⟨id, p, [], ytx, yps⟩, .slice none 0 0, ypv) hkl
  have s3 := s2.store q2 (j := 3) (y := (⟨id, p, [], s, yps⟩, .slice none 0 0, ypv)) (u := .string s) (by omega) rfl (by have := s2.nest _ (List.mem_of_getElem? q2); exact this)
  have q3 := get (M.set k (⟨id, p, [], ytx, yps⟩, .slice none 0 0, ypv)) (⟨id, p, [], s, yps⟩, .slice none 0 0, ypv) (by rw [List.length_set]; exact hkl)
  have s4 := s3.store q3 (j := 4) (y := newB id p s) (u := .slice none 0 0) (by omega) rfl (newB_nest _ _ _ _ _)
  rw [List.set_set, List.set_set] at s4
  exact s4
end
/-- two turns of blocks in either order -/
theorem upd_comm (L : List Bl) (a b : Int) (h1 h2 : Bl → Bl) (e1 : ∀ x, (h1 x).id = x.id) (e2 : ∀ x, (h2 x).id = x.id) (hc : ∀ x, h1 (h2 x) = h2 (h1 x)) : upd (upd L a h1) b h2 = upd (upd L b h2) a h1 := by
  unfold upd
  rw [List.map_map, List.map_map]
  refine List.map_congr_left fun x _ => ?_
  show (if (if x.id = a then h1 x else x).id = b then h2 (if x.id = a then h1 x else x) else (if x.id = a then h1 x else x)) = (if (if x.id = b then h2 x else x).id = a then h1 (if x.id = b then h2 x else x) else (if x.id = b then h2 x else x))
  by_cases ha : x.id = a
  · by_cases hb : x.id = b
    · rw [if_pos ha, if_pos hb, if_pos (by rw [e1]; exact hb), if_pos (by rw [e2]; exact ha), hc]
    · rw [if_pos ha, if_neg hb, if_neg (by rw [e1]; exact hb), if_pos ha]
  · by_cases hb : x.id = b
    · rw [if_neg ha, if_pos hb, if_neg (by rw [e2]; exact ha)]
    · rw [if_neg ha, if_neg hb, if_neg ha]
end Go.Proofs.YtackphgnkdpgnaaGreat
