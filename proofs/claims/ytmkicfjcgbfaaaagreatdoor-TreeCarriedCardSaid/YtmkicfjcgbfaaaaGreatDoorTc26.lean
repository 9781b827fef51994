/-
  DERIVED. The walks of tree.height and the reference's height. Conditions: sizes; a base without error.
  slices.SortFunc at properties by their names, over a row of the call's own. Conditions: sizes.
  The walk of the reference's copied: a base of the call's own whose properties' items lie where they lay. Conditions: sizes.
  The walk of the reference's with: a list with a number at a place. Conditions: sizes.
  The walks of tree.Pages, Order, NextId, Empty and the reference's NextOf. Conditions: sizes.
  The empty base is right; the walk of awakeTree. Conditions: none.
  By an AI agent.
-/
import Derived.Test.YtmkicfjcgbfaaaaGreatDoorTc21
import Derived.Test.YtmkicfjcgbfaaaaGreatDoorTc09
import Derived.Test.YtmkicfjcgbfaaaaGreatDoorTc04
import Derived.Test.YtmkicfjcgbfaaaaGreatDoorTc14
import Derived.Test.YtmkicfjcgbfaaaaGreatDoorTc23
import Derived.Deep.RegionLaw
import Derived.Test.YtmkicfjcgbfaaaaGreatDoorTc24
import Derived.Test.YtmkicfjcgbfaaaaGreatDoorTc19
namespace Go.Proofs.YtmkicfjcgbfaaaaGreatDoor
open Go.RowKit

theorem foldr_snoc (L : List Nat) (x : Nat) : (L ++ [x]).foldr max 0 = max (L.foldr max 0) x := by
  induction L with
  | nil => simp
  | cons a L ih => rw [List.cons_append, List.foldr_cons, List.foldr_cons, ih, Nat.max_assoc]
theorem foldr_le {L : List Nat} {m : Nat} (h : ∀ x ∈ L, x ≤ m) : L.foldr max 0 ≤ m := by
  induction L with
  | nil => exact Nat.zero_le _
  | cons a L ih =>
    rw [List.foldr_cons]
    exact Nat.max_le.2 ⟨h a (by simp), ih fun x hx => h x (by simp [hx])⟩
theorem hgt_le (l : List Bl) : ∀ (m : Nat) (k : Int), hgt l m k ≤ m
  | 0, _ => Nat.le_refl _
  | m + 1, k => by
    rw [hgt]
    split
    · refine Nat.succ_le_succ (foldr_le fun x hx => ?_)
      obtain ⟨z, _, rfl⟩ := List.mem_map.1 hx
      exact hgt_le l m z
    · omega
theorem hgt_stab {l : List Bl} {f : Int → Option Int} (G : Good l f) : ∀ (m d : Nat) (id : Int), Dp l id d → 41 ≤ d + m → ∀ m', m ≤ m' → hgt l m' id = hgt l m id
  | 0, d, id, hd, hm, m', _ => absurd (G.low hd) (by omega)
  | m + 1, d, id, hd, hm, m', hmm => by
    obtain ⟨k, rfl⟩ : ∃ k, m' = k + 1 := ⟨m' - 1, by omega⟩
    obtain ⟨p, b, h1, h2, h3⟩ := hd.blk G.kids
    rw [hgt_at h1 h2, hgt_at h1 h2]
    have : b.kids.map (hgt l k) = b.kids.map (hgt l m) := List.map_congr_left fun x hx => hgt_stab G m (d + 1) x (.step b d x (h3 ▸ hd) (List.mem_of_getElem? h2) hx) (by omega) k (by omega)
    rw [this]

set_option maxHeartbeats 4000000 in
theorem height_walk (l : List Bl) (K : Kids l) (A : Option Addr) (n c : Nat) (id : Int) (d m : Nat) (hd : Dp l id d) (hm : m ≤ 41) (w : World) (B : Nat) (hB : B ≤ w.heap.size) (h : RB w B (.slice A n c) l)
    (IH : ∀ (k : Int) (W : World), Dp l k (d + 1) → Below w.heap.size w W → Calls Tryz.prog 85 #[.slice A n c, .int .i64 k] W fun e w' => e = .returned (.int .i64 (hgt l m k : Int)) ∧ Below W.heap.size W w') :
    Calls Tryz.prog 85 #[.slice A n c, .int .i64 id] w fun e w' => e = .returned (.int .i64 (hgt l (m + 1) id : Int)) ∧ Below w.heap.size w w' := by
  obtain ⟨p, bx, hp, hlp, hbi⟩ := hd.blk K
  have hbx := List.mem_of_getElem? hlp
  have HO : Hid (hgt l (m + 1) id = (bx.kids.map (hgt l m)).foldr max 0 + 1) := hgt_at hp hlp m
  have HIX := index_any l A n c id w B hB h K.rise K.ids (by rw [← hbi]; exact (by have := K.ids bx hbx; unfold I64; omega))
  rw [hp] at HIX
  have HIX := Lib.hid HIX
  have HN := Lib.hid h.len
  have hpn : p < n := by have := (List.getElem?_eq_some_iff.1 hlp).1; have := h.len.1; omega
  obtain ⟨b, off, Ak, nk, ck, Ap, np, cp, rfl, hbb, g0, g1, g2, g3, g4, hK, _⟩ := h.at_ hlp
  have HK := Lib.hid hK
  have HKL := Lib.hid hK.len
  have HKD : Hid (∀ k ∈ bx.kids, Dp l k (d + 1)) := fun k hk => .step bx d k (hbi ▸ hd) hbx hk
  have HI := Lib.hid IH
  have y0 : (0 : Int) ≤ (p : Int) := by omega
  have y1 : (p : Int) < (n : Int) := by omega
  clear h hd hp hlp hbi hbx hK IH g0 g1 g3 g4
  go_enter Tryz.func85, Tryz.ntmps85
  go_wp2_with fail
  refine HIX.out.mono ?_
  rintro e w1 ⟨rfl, hb1⟩
  have HB1 := Lib.hid hb1
  have g2 := (hb1.cell (p := ⟨b, off + p * 5 + 2, none⟩) (by show b < _; omega)).trans g2
  clear hb1
  go_wp2_with fail
  go_loopg [5, 16] nk (fun gg s5 s16 wr => ∃ (j t : Nat), j + gg = nk ∧ t ≤ 41 ∧ s5 = .int .i64 (t : Int) ∧ s16 = .int .i64 (j : Int) ∧ Hid (t = ((bx.kids.take j).map (hgt l m)).foldr max 0) ∧ Hid (Below w.heap.size w wr))
  case atStart => exact ⟨0, 0, by omega, by omega, rfl, rfl, rfl, HB1⟩
  case round =>
    obtain ⟨j, t, hjg, ht41, rfl, rfl, ht, hbel⟩ := hrel
    obtain ⟨W1, rfl⟩ : ∃ W1, W1 = wr := ⟨_, rfl⟩
    have hbk : nk ≤ ck ∧ nk * 8 ≤ 140737488351232 := HKL.out.2
    by_cases hj : j < nk
    case neg =>
      obtain rfl : nk = j := by omega
      have HF : Hid ((hgt l (m + 1) id : Int) = (t : Int) + 1) := by
        show _ = _
        have e : bx.kids.take nk = bx.kids := List.take_of_length_le (by rw [← HKL.out.1]; exact Nat.le_refl _)
        have h1 := ht.out
        rw [e] at h1
        rw [HO.out, h1]; omega
      go_wp2_with fail
      go_ret
      exact ⟨by rw [HF.out]; rfl, hbel.out⟩
    obtain ⟨k, hkk⟩ : ∃ k, bx.kids[j]? = some k := ⟨_, List.getElem?_eq_getElem (by have := HKL.out.1; omega)⟩
    obtain ⟨bk, ok, rfl, hbk2, q0⟩ := HK.out.at_ hkk
    have q0 := (hbel.out.cell (p := ⟨bk, ok + j, none⟩) (by show bk < _; omega)).trans q0
    have z0 : (0 : Int) ≤ (j : Int) := by omega
    have z1 : (j : Int) < (nk : Int) := by omega
    obtain ⟨hk, hhk⟩ : ∃ hk, hk = hgt l m k := ⟨_, rfl⟩
    have hkm : hk ≤ 41 := by have := hgt_le l m k; omega
    have HT : Hid (max t hk = ((bx.kids.take (j + 1)).map (hgt l m)).foldr max 0) := by
      show _ = _
      obtain ⟨hk', e⟩ := List.getElem?_eq_some_iff.1 hkk
      rw [List.take_succ_eq_append_getElem hk', e, List.map_append, List.map_cons, List.map_nil, foldr_snoc, ← ht.out, hhk]
    have HX := HI.out k W1 (HKD.out k (List.mem_of_getElem? hkk)) hbel.out
    rw [← hhk] at HX
    have HX := Lib.hid HX
    have hmx : max (t : Int) ((hk : Int)) = ((max t hk : Nat) : Int) := by omega
    have ht2 : max t hk ≤ 41 := by omega
    obtain ⟨mx, hmx2⟩ : ∃ mx, mx = max t hk := ⟨_, rfl⟩
    rw [← hmx2] at HT hmx ht2
    skip
    skip
    clear hkk hhk hmx2
    go_wp2_with fail
    refine HX.out.mono ?_
    rintro e w2 ⟨rfl, hb⟩
    have HB2 : Hid (Below w.heap.size w w2) := hbel.out.trans (hb.mono hbel.out.size)
    clear hb
    go_wp2_with fail
    go_roundg (nk - (j + 1))
    case measure => omega
    case rel => exact ⟨j + 1, mx, by omega, ht2, rfl, by go_num, HT, HB2⟩
theorem height_fuel (l : List Bl) (f : Int → Option Int) (G : Good l f) (A : Option Addr) (n c : Nat) (B : Nat) : ∀ (m d : Nat) (id : Int) (w : World), Dp l id d → d + m = 41 → B ≤ w.heap.size → RB w B (.slice A n c) l →
    Calls Tryz.prog 85 #[.slice A n c, .int .i64 id] w fun e w' => e = .returned (.int .i64 (hgt l m id : Int)) ∧ Below w.heap.size w w'
  | 0, d, id, w, hd, hm, _, _ => absurd (G.low hd) (by omega)
  | m + 1, d, id, w, hd, hm, hB, h => height_walk l G.kids A n c id d m hd (by omega) w B hB h fun k W hk hW => height_fuel l f G A n c B m (d + 1) k W hk (by omega) (Nat.le_trans hB hW.size) (h.below (hW.mono hB))
theorem height_any (l : List Bl) (f : Int → Option Int) (G : Good l f) (A : Option Addr) (n c : Nat) (B d : Nat) (id : Int) (w : World) (hd : Dp l id d) (hB : B ≤ w.heap.size) (h : RB w B (.slice A n c) l) :
    Calls Tryz.prog 85 #[.slice A n c, .int .i64 id] w fun e w' => e = .returned (.int .i64 (hgt l 41 id : Int)) ∧ Below w.heap.size w w' := by
  have h40 := G.low hd
  have := height_fuel l f G A n c B (41 - d) d id w hd (by omega) hB h
  rw [← hgt_stab G (41 - d) d id hd (by omega) 41 (by omega)] at this
  exact this

end Go.Proofs.YtmkicfjcgbfaaaaGreatDoor
namespace Go.Proofs
open Go.Shelf Go.RowKit Go.Lib Go.Sort
namespace YtmkicfjcgbfaaaaGreatDoor
theorem grown_sortS {w : World} {g n : Nat} {os : Array Obj} (d : Array SPr) : w.grownBy (sortWorldK spV 6 w g 0 n d os) (some g) := by
  unfold sortWorldK putRowK
  refine ⟨rfl, rfl, rfl, by simp, fun k hk hne => ?_⟩
  rw [heap_grow_old _ _ (by simpa using hk)]
  have : g ≠ k := fun e => hne (by rw [e])
  simp [putRow, mapBlock, Sort.ahead, Array.getElem?_modify, this]
theorem heap_sortS {w : World} {g n : Nat} {os : Array Obj} {cur : Array Value} {T : TypeId} (d : Array SPr) (hb : w.heap[g]? = some (.cells cur T (0, 0))) :
    (sortWorldK spV 6 w g 0 n d os).heap[g]? = some (.cells (putCells id 0 (flatK spV 6 d) cur) T (0, 0)) := by
  unfold sortWorldK putRowK
  have hg : g < w.heap.size := (Array.getElem?_eq_some_iff.1 hb).1
  rw [heap_grow_old _ _ (by simpa using hg)]
  simp [putRow, mapBlock, Sort.ahead, Array.getElem?_modify, hb, onCells]
theorem sp_get (d : Array SPr) {k j : Nat} {x : Pr × Value} {u : Value} (hx : (d.toList.map spP)[k]? = some x) (hu : (prV x)[j]? = some u) : k < d.size ∧ j < 6 ∧ (flatK spV 6 d)[k * 6 + j]! = u := by
  have hj := (List.getElem?_eq_some_iff.1 hu).1
  rw [prV_len] at hj
  have hk := (List.getElem?_eq_some_iff.1 hx).1
  rw [List.length_map, Array.length_toList] at hk
  refine ⟨hk, hj, ?_⟩
  rw [get_flatK _ _ _ _ (by omega), show (k * 6 + j) / 6 = k by omega, show (k * 6 + j) % 6 = j by omega, getElem!_pos d k hk]
  rw [List.getElem?_map, Array.getElem?_toList, Array.getElem?_eq_getElem hk] at hx
  obtain rfl := Option.some.inj hx
  show (prV (spP d[k]))[j]! = u
  rw [List.getElem!_eq_getElem?_getD, hu]; rfl
theorem sortP_any (g c : Nat) (M : List SPr) (w : World) (hR : CRp w g (M.map spP)) (hF : FRp w g c) (hl : M.length ≤ c) (hn : M.length ≤ 100000) :
    Calls Tryz.prog 112 #[.slice (some ⟨g, 0, none⟩) M.length c, .func (.func 113) #[] #[]] w fun e w' => e = .returned (.tuple #[]) ∧
      ∃ d' : Array SPr, PermIn 0 M.length M.toArray d' ∧ SortedIn (ltOf cfS) 0 M.length d' ∧ CRp w' g (d'.toList.map spP) ∧ FRp w' g c ∧ w.grownBy w' (some g) := by
  obtain ⟨cur, hb, hs⟩ := hF
  have hH : HoldsK spV 6 w g 0 M.toArray := by
    intro j hj
    have hj' : j < M.length * 6 := by simpa using hj
    refine ⟨?_, hb.frozen _⟩
    obtain ⟨x, hx⟩ : ∃ x, (M.map spP)[j / 6]? = some x := ⟨_, List.getElem?_eq_getElem (by rw [List.length_map]; omega)⟩
    obtain ⟨u, hu⟩ : ∃ u, (prV x)[j % 6]? = some u := ⟨_, List.getElem?_eq_getElem (by rw [prV_len]; omega)⟩
    have h1 := hR _ _ hx _ _ hu
    obtain ⟨_, _, h2⟩ := sp_get M.toArray (by simpa using hx) hu
    rw [show j / 6 * 6 + j % 6 = j by omega] at h1 h2
    rw [Nat.zero_add, h2]; exact h1
  have eg : ∀ args w, (callFunc 113 args).run Tryz.prog w = .ok (.enter 113 args) w := enters_of Tryz.func113 (by kernel_rfl) rfl
  have h := AnyQ.slices_SortFunc Tryz.sortPr 6 Tryz.isAgg129 Tryz.sizeOf129 spV (fun _ => rfl) sp_one cfS swoS 113 #[] g 0 c M.toArray w eg (cmpLaysS g 0 _ w) hH hb.lt (by simp; omega)
  change Calls Tryz.prog 112 _ _ _ at h
  rw [List.size_toArray] at h
  refine h.mono ?_
  rintro e w' ⟨he, d', n, os, hp, hsd, rfl⟩
  have hh := heap_sortS (n := n) (os := os) d' hb
  have hds : d'.size = M.length := by have := hp.1; simpa using this
  refine ⟨he, d', hp, hsd, fun k x hx j u hu => ?_, ⟨_, hh, by simpa [putCells] using hs⟩, grown_sortS d'⟩
  obtain ⟨hk, hj, h2⟩ := sp_get d' hx hu
  rw [Blk.cell (t := 129) hh, ← h2]
  simp [putCells, show k * 6 + j < cur.size by omega, show k * 6 + j < d'.size * 6 by omega]
end YtmkicfjcgbfaaaaGreatDoor
end Go.Proofs
namespace Go.Proofs.YtmkicfjcgbfaaaaGreatDoor
open Go.RowKit

/-- a row of the call's own; what its elements lead to lies in any other blocks -/
structure OutN {α : Type} (enc : α → List Value) (size : Nat) (e : TypeId) (N : Nest α) (w : World) (base : Nat) (v : Value) (M : List α) : Prop where
  own : w.ownsRow base e size v M.length (M.flatMap enc)
  nest : ∀ x ∈ M, N w (fun b => b < w.heap.size ∧ v.ownBlock ≠ some b) x
section
variable {α : Type} {enc : α → List Value} {size base : Nat} {e : TypeId} {N : Nest α} {w w' : World} {v v' : Value} {M : List α} {x : α}
theorem OutN.start (w : World) (base : Nat) : OutN enc size e N w base (.slice none 0 0) [] := ⟨World.ownsRow_nil w base e size, fun x hx => by cases hx⟩
theorem OutN.below (hN : NestOk N) (h : OutN enc size e N w base v M) (hb : Below w.heap.size w w') : OutN enc size e N w' base v M :=
  ⟨own_below h.own hb, fun x hx => hN _ _ _ _ x (h.nest x hx) (fun _ hp => hb.cell hp.1) fun _b hb' => ⟨Nat.lt_of_lt_of_le hb'.1 hb.size, hb'.2⟩⟩
theorem OutN.app (hN : NestOk N) (h : OutN enc size e N w base v M) {S : Nat → Prop} (hx : N w S x) (hS : ∀ b, S b → b < w.heap.size ∧ v.ownBlock ≠ some b)
    (hown : w'.ownsRow base e size v' (M.length + 1) (M.flatMap enc ++ enc x)) (hg : w.grownBy w' v.ownBlock) (hat : v'.ownBlock = v.ownBlock ∨ v'.ownBlock = some w.heap.size) : OutN enc size e N w' base v' (M ++ [x]) := by
  have key : ∀ b, b < w.heap.size ∧ v.ownBlock ≠ some b → b < w'.heap.size ∧ v'.ownBlock ≠ some b := fun b ⟨h2, h3⟩ => by
    refine ⟨Nat.lt_of_lt_of_le h2 hg.size, ?_⟩
    rcases hat with g | g
    · rw [g]; exact h3
    · rw [g]; intro e; injection e with e; omega
  refine ⟨by rw [List.length_append, List.flatMap_append]; simpa using hown, fun y hy => ?_⟩
  rcases List.mem_append.1 hy with hy | hy
  · exact hN _ _ _ _ y (h.nest y hy) (fun _ hp => World.cell?_of_block (hg.block _ hp.1 (fun e => hp.2 e.symm))) key
  · obtain rfl : y = x := by simpa using hy
    exact hN _ _ _ _ y hx (fun _ hp => World.cell?_of_block (hg.block _ (hS _ hp).1 (fun e => (hS _ hp).2 e.symm))) fun b hb => key b (hS b hb)
theorem OutN.blocks (h : OutN enc size e N w base v M) : ∀ g, v.ownBlock = some g → base ≤ g ∧ g < w.heap.size := own_block_lt h.own
end
section
variable {w w' : World} {base : Nat} {v v' : Value}
end
end Go.Proofs.YtmkicfjcgbfaaaaGreatDoor
namespace Go.Proofs.YtmkicfjcgbfaaaaGreatDoor
open Go.RowKit

end Go.Proofs.YtmkicfjcgbfaaaaGreatDoor
namespace Go.Proofs.YtmkicfjcgbfaaaaGreatDoor
open Go.RowKit

def lastId (l : List Bl) : Int := match l[l.length - 1]? with | some x => x.id | none => 0
def nextP (l : List Bl) : Int := if 1000000 < lastId l + 1 then -1 else lastId l + 1
def nextV (l : List Bl) (f : Int → Option Int) : Int := if baseE l f = 0 then nextP l else -1
set_option maxHeartbeats 1000000 in
theorem nextId_any (l : List Bl) (A : Option Addr) (n c : Nat) (w : World) (B : Nat) (h : RB w B (.slice A n c) l) (hl : 0 < l.length) (hi : IdsIn l) :
    Calls Tryz.prog 27 #[.slice A n c] w fun e w' => e = .returned (.int .i64 (nextP l)) ∧ w' = w := by
  have hn := h.len
  obtain ⟨x, hx⟩ : ∃ x, l[l.length - 1]? = some x := ⟨_, List.getElem?_eq_getElem (by omega)⟩
  obtain ⟨b, off, Ak, nk, ck, Ap, np, cp, rfl, hbb, g0, _⟩ := h.at_ hx
  have hxi := hi x (List.mem_of_getElem? hx)
  have hla : lastId l = x.id := by unfold lastId; rw [hx]
  obtain ⟨V, hV⟩ : ∃ V, V = nextP l := ⟨_, rfl⟩
  rw [← hV]
  unfold nextP at hV
  rw [hla] at hV
  obtain ⟨q, hq⟩ : ∃ q : Nat, n = q + 1 := ⟨n - 1, by omega⟩
  have e : l.length - 1 = q := by omega
  rw [e] at g0
  have hq0 : (0 : Int) ≤ (q : Int) := by omega
  have hq1 : (q : Int) < (n : Int) := by omega
  have HQ : Hid (((n : Int) - 1) = (q : Int)) := by show _ = _; omega
  have hn1 : (1 : Int) ≤ (n : Int) := by omega
  have hnb : n * 80 ≤ 140737488351232 := hn.2.2
  have i0 : 0 ≤ x.id := hxi.1
  have i1 : x.id ≤ 1000000 := hxi.2
  clear h hl hi hn hx hla hq e hxi
  have hq' := HQ.out
  by_cases hb : 1000000 < x.id + 1
  · rw [if_pos hb] at hV
    subst hV
    go_enter Tryz.func27, Tryz.ntmps27
    go_wp2_with fail
    go_ret
    exact ⟨rfl, rfl⟩
  · rw [if_neg hb] at hV
    have HV := Lib.hid hV
    clear hV
    go_enter Tryz.func27, Tryz.ntmps27
    go_wp2_with fail
    go_ret
    exact ⟨by rw [HV.out]; rfl, rfl⟩
set_option maxHeartbeats 1000000 in
theorem nextId2_any (l : List Bl) (f : Int → Option Int) (A : Option Addr) (n c : Nat) (w : World) (B : Nat) (hB : B ≤ w.heap.size) (h : RB w B (.slice A n c) l) (hf : DepOk l f) :
    Calls Tryz.prog 10 #[.slice A n c] w fun e w' => e = .returned (.int .i64 (nextV l f)) ∧ Below w.heap.size w w' := by
  have HC := treeCheck_any l f A n c w B hB h hf
  obtain ⟨V, hV⟩ : ∃ V, V = nextV l f := ⟨_, rfl⟩
  rw [← hV]
  unfold nextV at hV
  have HP : Hid (baseE l f = 0 → ∀ W, Below w.heap.size w W → Calls Tryz.prog 27 #[.slice A n c] W _) := fun h0 W hW => by
    have G := good_of h0 hf
    obtain ⟨r, hr, _⟩ := G.kids.root
    exact nextId_any l A n c W B (h.below (hW.mono hB)) (List.getElem?_eq_some_iff.1 hr).1 G.kids.ids
  obtain ⟨E, hE⟩ : ∃ E, E = baseE l f := ⟨_, rfl⟩
  rw [← hE] at HC hV HP
  have HC := Lib.hid HC
  clear h hf hE
  by_cases h0 : E = 0
  · rw [if_pos h0] at hV
    have HP' := Lib.hid (HP.out h0)
    subst h0
    have HV := Lib.hid hV
    clear hV
    go_enter Tryz.func10, Tryz.ntmps10
    go_wp2_with fail
    refine HC.out.mono ?_
    rintro e w1 ⟨rfl, hb1⟩
    have HB1 := Lib.hid hb1
    have HX := Lib.hid (HP'.out w1 hb1)
    clear hb1
    go_wp2_with fail
    refine HX.out.mono ?_
    rintro e w2 ⟨rfl, rfl⟩
    go_wp2_with fail
    go_ret
    exact ⟨by rw [HV.out]; rfl, HB1.out⟩
  · rw [if_neg h0] at hV
    have h0' : (E != 0) = true := by simpa using h0
    subst hV
    clear HP h0
    go_enter Tryz.func10, Tryz.ntmps10
    go_wp2_with fail
    refine HC.out.mono ?_
    rintro e w1 ⟨rfl, hb1⟩
    have HB1 := Lib.hid hb1
    clear hb1
    go_wp2_with fail
    go_ret
    exact ⟨rfl, HB1.out⟩
/-- the base of the root alone in a row -/
theorem empty_row (w : World) : RB (w.alloc (.cells #[.int .i64 0, .int .i64 0, .slice none 0 0, .string ⟨#[]⟩, .slice none 0 0] 52)) (w.heap.size + 1) (.slice (some ⟨w.heap.size, 0, none⟩) 1 1) [zB] :=
  ⟨some ⟨w.heap.size, 0, none⟩, 1, 1, [(zB, .slice none 0 0, .slice none 0 0)], rfl, rfl, rfl, ⟨Nat.le_refl _, by omega⟩, Reads.blk (Blk.new w 52 _) rfl, fun x hx => by
    obtain rfl : x = (zB, Value.slice none 0 0, Value.slice none 0 0) := by simpa using hx
    exact ⟨(RInX.nil w (fun _ => True)).imp fun _ h => by
      obtain ⟨n, c, h⟩ := h
      exact ⟨n, c, h.1, h.2.1, h.2.2.1, ⟨h.2.2.2.1.1, fun hn => absurd hn (by rw [h.2.1]; simp)⟩, h.2.2.2.2⟩, ⟨none, 0, 0, [], rfl, rfl, rfl, ⟨Nat.le_refl _, by omega⟩, ⟨rfl, fun h => absurd h (by omega)⟩, fun x hx => by cases hx⟩⟩⟩
set_option maxHeartbeats 400000 in
theorem empty_any (w : World) :
    Calls Tryz.prog 8 #[] w fun e w' => e = .returned (.slice (some ⟨w.heap.size, 0, none⟩) 1 1) ∧ w' = w.alloc (.cells #[.int .i64 0, .int .i64 0, .slice none 0 0, .string ⟨#[]⟩, .slice none 0 0] 52) := by
  go_enter Tryz.func8, Tryz.ntmps8
  go_wp2_with fail
  go_ret
  exact ⟨rfl, rfl⟩
end Go.Proofs.YtmkicfjcgbfaaaaGreatDoor
namespace Go.Proofs.YtmkicfjcgbfaaaaGreatDoor
open Go.RowKit

theorem empty_tree : Tree [zB] (fun _ => 0) where
  rise := List.pairwise_singleton _ _
  ids x hx := by obtain rfl := List.mem_singleton.1 hx; exact ⟨by decide, by decide⟩
  short := by decide
  root := ⟨zB, [], rfl, rfl, rfl, by show (⟨#[]⟩ : ByteArray).toList = []; rw [ByteArray.toList_eq], rfl⟩
  loc x hx := by
    obtain rfl := List.mem_singleton.1 hx
    refine ⟨?_, by decide, ?_⟩
    · show txErr ⟨#[]⟩ = 0
      unfold txErr
      rw [if_neg (by decide), if_neg (by decide)]
    · show cpErr [] = 0
      unfold cpErr
      rw [if_neg (by decide), prsErr]
  kid b hb k hk := by obtain rfl := List.mem_singleton.1 hb; cases hk
  nod b hb := by obtain rfl := List.mem_singleton.1 hb; exact List.nodup_nil
  par x hx h0 := by obtain rfl := List.mem_singleton.1 hx; exact absurd rfl h0
  zero := rfl
  deep _ _ := by decide
theorem empty_good : ∃ f, DepOk [zB] f ∧ Good [zB] f := by
  obtain ⟨f, hf⟩ := IsDep.exists empty_tree.kids
  exact ⟨f, fun _ => hf, empty_tree.good hf⟩
set_option maxHeartbeats 1000000 in
theorem awakeTree_any (w : World) : Calls Tryz.prog 4 #[] w fun e w' => e = .returned (.bool true) ∧ Below w.heap.size w w' := by
  have HE := Lib.hid fun W => empty_any W
  obtain ⟨f, hf, G⟩ := empty_good
  have hv : nextV [zB] f = 1 := by unfold nextV; rw [if_pos G.clean]; rfl
  have HN := Lib.hid fun W => nextId2_any [zB] f (some ⟨W.heap.size, 0, none⟩) 1 1 (W.alloc (.cells #[.int .i64 0, .int .i64 0, .slice none 0 0, .string ⟨#[]⟩, .slice none 0 0] 52)) (W.heap.size + 1) (by simp) (empty_row W) hf
  rw [hv] at HN
  clear hv G hf
  go_enter Tryz.func4, Tryz.ntmps4
  go_wp2_with fail
  refine (HE.out w).mono ?_
  rintro e w1 ⟨rfl, rfl⟩
  go_wp2_with fail
  refine (HN.out w).mono ?_
  rintro e w2 ⟨rfl, hb⟩
  have HB : Hid (Below w.heap.size w w2) := ((Below.refl w.heap.size w).alloc (Nat.le_refl _) _).trans (hb.mono (by simp))
  clear hb
  go_wp2_with fail
  go_ret
  exact ⟨rfl, HB.out⟩
end Go.Proofs.YtmkicfjcgbfaaaaGreatDoor
