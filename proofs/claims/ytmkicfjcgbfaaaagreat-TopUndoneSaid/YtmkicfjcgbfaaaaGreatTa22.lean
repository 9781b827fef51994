/-
  DERIVED. The walks of tree.height and the reference's height. Conditions: sizes; a base without error.
  The walk of tree.checkMove. Conditions: sizes; a base without error.
  The walk of tree.checkOp. Conditions: sizes; a base without error.
  The walk of tree.copyBlock. Conditions: sizes.
  By an AI agent.
-/
import Derived.Test.YtmkicfjcgbfaaaaGreatTa07
import Derived.Test.YtmkicfjcgbfaaaaGreatTa10
import Derived.Test.YtmkicfjcgbfaaaaGreatTa02
import Derived.Test.YtmkicfjcgbfaaaaGreatTa16
import Derived.Test.YtmkicfjcgbfaaaaGreatTa12
import Derived.Test.YtmkicfjcgbfaaaaGreatTa21
import Derived.Deep.RegionHeld3
namespace Go.Proofs.YtmkicfjcgbfaaaaGreat
open Go.RowKit

theorem foldr_snoc (L : List Nat) (x : Nat) : (L ++ [x]).foldr max 0 = max (L.foldr max 0) x := by
  induction L with
  | nil => simp
  | cons a L ih => rw [List.cons_append, List.foldr_cons, List.foldr_cons, ih, Nat.max_assoc]
theorem foldr_le {L : List Nat} {m : Nat} (h : ∀ x ∈ L, x ≤ m) : L.foldr max 0 ≤ m := by
  induction L with
  | nil => exact Nat.zero_le _
  | cons a L ih =>
    rw [List.foldr_cons]
    exact Nat.max_le.2 ⟨h a (by simp), ih fun x hx => h x (by simp [hx])⟩
theorem hgt_le (l : List Bl) : ∀ (m : Nat) (k : Int), hgt l m k ≤ m
  | 0, _ => Nat.le_refl _
  | m + 1, k => by
    rw [hgt]
    split
    · refine Nat.succ_le_succ (foldr_le fun x hx => ?_)
      obtain ⟨z, _, rfl⟩ := List.mem_map.1 hx
      exact hgt_le l m z
    · omega
theorem hgt_stab {l : List Bl} {f : Int → Option Int} (G : Good l f) : ∀ (m d : Nat) (id : Int), Dp l id d → 41 ≤ d + m → ∀ m', m ≤ m' → hgt l m' id = hgt l m id
  | 0, d, id, hd, hm, m', _ => absurd (G.low hd) (by omega)
  | m + 1, d, id, hd, hm, m', hmm => by
    obtain ⟨k, rfl⟩ : ∃ k, m' = k + 1 := ⟨m' - 1, by omega⟩
    obtain ⟨p, b, h1, h2, h3⟩ := hd.blk G.kids
    rw [hgt_at h1 h2, hgt_at h1 h2]
    have : b.kids.map (hgt l k) = b.kids.map (hgt l m) := List.map_congr_left fun x hx => hgt_stab G m (d + 1) x (.step b d x (h3 ▸ hd) (List.mem_of_getElem? h2) hx) (by omega) k (by omega)
    rw [this]

set_option maxHeartbeats 4000000 in
theorem height_walk (l : List Bl) (K : Kids l) (A : Option Addr) (n c : Nat) (id : Int) (d m : Nat) (hd : Dp l id d) (hm : m ≤ 41) (w : World) (B : Nat) (hB : B ≤ w.heap.size) (h : RB w B (.slice A n c) l)
    (IH : ∀ (k : Int) (W : World), Dp l k (d + 1) → Below w.heap.size w W → Calls Tryz.prog 155 #[.slice A n c, .int .i64 k] W fun e w' => e = .returned (.int .i64 (hgt l m k : Int)) ∧ Below W.heap.size W w') :
    Calls Tryz.prog 155 #[.slice A n c, .int .i64 id] w fun e w' => e = .returned (.int .i64 (hgt l (m + 1) id : Int)) ∧ Below w.heap.size w w' := by
  obtain ⟨p, bx, hp, hlp, hbi⟩ := hd.blk K
  have hbx := List.mem_of_getElem? hlp
  have HO : Hid (hgt l (m + 1) id = (bx.kids.map (hgt l m)).foldr max 0 + 1) := hgt_at hp hlp m
  have HIX := index_any l A n c id w B hB h K.rise K.ids (by rw [← hbi]; exact (by have := K.ids bx hbx; unfold I64; omega))
  rw [hp] at HIX
  have HIX := Lib.hid HIX
  have HN := Lib.hid h.len
  have hpn : p < n := by have := (List.getElem?_eq_some_iff.1 hlp).1; have := h.len.1; omega
  obtain ⟨b, off, Ak, nk, ck, Ap, np, cp, rfl, hbb, g0, g1, g2, g3, g4, hK, _⟩ := h.at_ hlp
  have HK := Lib.hid hK
  have HKL := Lib.hid hK.len
  have HKD : Hid (∀ k ∈ bx.kids, Dp l k (d + 1)) := fun k hk => .step bx d k (hbi ▸ hd) hbx hk
  have HI := Lib.hid IH
  have y0 : (0 : Int) ≤ (p : Int) := by omega
  have y1 : (p : Int) < (n : Int) := by omega
  clear h hd hp hlp hbi hbx hK IH g0 g1 g3 g4
  go_enter Tryz.func155, Tryz.ntmps155
  go_wp2_with fail
  refine HIX.out.mono ?_
  rintro e w1 ⟨rfl, hb1⟩
  have HB1 := Lib.hid hb1
  have g2 := (hb1.cell (p := ⟨b, off + p * 5 + 2, none⟩) (by show b < _; omega)).trans g2
  clear hb1
  go_wp2_with fail
  go_loopg [5, 16] nk (fun gg s5 s16 wr => ∃ (j t : Nat), j + gg = nk ∧ t ≤ 41 ∧ s5 = .int .i64 (t : Int) ∧ s16 = .int .i64 (j : Int) ∧ Hid (t = ((bx.kids.take j).map (hgt l m)).foldr max 0) ∧ Hid (Below w.heap.size w wr))
  case atStart => exact ⟨0, 0, by omega, by omega, rfl, rfl, rfl, HB1⟩
  case round =>
    obtain ⟨j, t, hjg, ht41, rfl, rfl, ht, hbel⟩ := hrel
    obtain ⟨W1, rfl⟩ : ∃ W1, W1 = wr := ⟨_, rfl⟩
    have hbk : nk ≤ ck ∧ nk * 8 ≤ 140737488351232 := HKL.out.2
    by_cases hj : j < nk
    case neg =>
      obtain rfl : nk = j := by omega
      have HF : Hid ((hgt l (m + 1) id : Int) = (t : Int) + 1) := by
        show _ = _
        have e : bx.kids.take nk = bx.kids := List.take_of_length_le (by rw [← HKL.out.1]; exact Nat.le_refl _)
        have h1 := ht.out
        rw [e] at h1
        rw [HO.out, h1]; omega
      go_wp2_with fail
      go_ret
      exact ⟨by rw [HF.out]; rfl, hbel.out⟩
    obtain ⟨k, hkk⟩ : ∃ k, bx.kids[j]? = some k := ⟨_, List.getElem?_eq_getElem (by have := HKL.out.1; omega)⟩
    obtain ⟨bk, ok, rfl, hbk2, q0⟩ := HK.out.at_ hkk
    have q0 := (hbel.out.cell (p := ⟨bk, ok + j, none⟩) (by show bk < _; omega)).trans q0
    have z0 : (0 : Int) ≤ (j : Int) := by omega
    have z1 : (j : Int) < (nk : Int) := by omega
    obtain ⟨hk, hhk⟩ : ∃ hk, hk = hgt l m k := ⟨_, rfl⟩
    have hkm : hk ≤ 41 := by have := hgt_le l m k; omega
    have HT : Hid (max t hk = ((bx.kids.take (j + 1)).map (hgt l m)).foldr max 0) := by
      show _ = _
      obtain ⟨hk', e⟩ := List.getElem?_eq_some_iff.1 hkk
      rw [List.take_succ_eq_append_getElem hk', e, List.map_append, List.map_cons, List.map_nil, foldr_snoc, ← ht.out, hhk]
    have HX := HI.out k W1 (HKD.out k (List.mem_of_getElem? hkk)) hbel.out
    rw [← hhk] at HX
    have HX := Lib.hid HX
    have hmx : max (t : Int) ((hk : Int)) = ((max t hk : Nat) : Int) := by omega
    have ht2 : max t hk ≤ 41 := by omega
    obtain ⟨mx, hmx2⟩ : ∃ mx, mx = max t hk := ⟨_, rfl⟩
    rw [← hmx2] at HT hmx ht2
    skip
    skip
    clear hkk hhk hmx2
    go_wp2_with fail
    refine HX.out.mono ?_
    rintro e w2 ⟨rfl, hb⟩
    have HB2 : Hid (Below w.heap.size w w2) := hbel.out.trans (hb.mono hbel.out.size)
    clear hb
    go_wp2_with fail
    go_roundg (nk - (j + 1))
    case measure => omega
    case rel => exact ⟨j + 1, mx, by omega, ht2, rfl, by go_num, HT, HB2⟩
theorem height_fuel (l : List Bl) (f : Int → Option Int) (G : Good l f) (A : Option Addr) (n c : Nat) (B : Nat) : ∀ (m d : Nat) (id : Int) (w : World), Dp l id d → d + m = 41 → B ≤ w.heap.size → RB w B (.slice A n c) l →
    Calls Tryz.prog 155 #[.slice A n c, .int .i64 id] w fun e w' => e = .returned (.int .i64 (hgt l m id : Int)) ∧ Below w.heap.size w w'
  | 0, d, id, w, hd, hm, _, _ => absurd (G.low hd) (by omega)
  | m + 1, d, id, w, hd, hm, hB, h => height_walk l G.kids A n c id d m hd (by omega) w B hB h fun k W hk hW => height_fuel l f G A n c B m (d + 1) k W hk (by omega) (Nat.le_trans hB hW.size) (h.below (hW.mono hB))
theorem height_any (l : List Bl) (f : Int → Option Int) (G : Good l f) (A : Option Addr) (n c : Nat) (B d : Nat) (id : Int) (w : World) (hd : Dp l id d) (hB : B ≤ w.heap.size) (h : RB w B (.slice A n c) l) :
    Calls Tryz.prog 155 #[.slice A n c, .int .i64 id] w fun e w' => e = .returned (.int .i64 (hgt l 41 id : Int)) ∧ Below w.heap.size w w' := by
  have h40 := G.low hd
  have := height_fuel l f G A n c B (41 - d) d id w hd (by omega) hB h
  rw [← hgt_stab G (41 - d) d id hd (by omega) 41 (by omega)] at this
  exact this

set_option maxHeartbeats 4000000 in
theorem heightR_walk (l : List Bl) (K : Kids l) (A : Option Addr) (n c : Nat) (id : Int) (d m : Nat) (hd : Dp l id d) (hm : m ≤ 41) (w : World) (B : Nat) (hB : B ≤ w.heap.size) (h : RB w B (.slice A n c) l)
    (IH : ∀ (k : Int) (W : World), Dp l k (d + 1) → Below w.heap.size w W → Calls Tryz.prog 78 #[.slice A n c, .int .i64 k] W fun e w' => e = .returned (.int .i64 ((hgt l m k : Int) - 1)) ∧ Below W.heap.size W w') :
    Calls Tryz.prog 78 #[.slice A n c, .int .i64 id] w fun e w' => e = .returned (.int .i64 ((hgt l (m + 1) id : Int) - 1)) ∧ Below w.heap.size w w' := by
  obtain ⟨p, bx, hp, hlp, hbi⟩ := hd.blk K
  have hbx := List.mem_of_getElem? hlp
  have HO : Hid (hgt l (m + 1) id = (bx.kids.map (hgt l m)).foldr max 0 + 1) := hgt_at hp hlp m
  have HIX := at_any l A n c id w B hB h
  rw [hp] at HIX
  have HIX := Lib.hid HIX
  have HN := Lib.hid h.len
  have hpn : p < n := by have := (List.getElem?_eq_some_iff.1 hlp).1; have := h.len.1; omega
  obtain ⟨b, off, Ak, nk, ck, Ap, np, cp, rfl, hbb, g0, g1, g2, g3, g4, hK, _⟩ := h.at_ hlp
  have HK := Lib.hid hK
  have HKL := Lib.hid hK.len
  have HKD : Hid (∀ k ∈ bx.kids, Dp l k (d + 1)) := fun k hk => .step bx d k (hbi ▸ hd) hbx hk
  have HI := Lib.hid IH
  have y0 : (0 : Int) ≤ (p : Int) := by omega
  have y1 : (p : Int) < (n : Int) := by omega
  clear h hd hp hlp hbi hbx hK IH g0 g1 g3 g4
  go_enter Tryz.func78, Tryz.ntmps78
  go_wp2_with fail
  refine HIX.out.mono ?_
  rintro e w1 ⟨rfl, hb1⟩
  have HB1 := Lib.hid hb1
  have g2 := (hb1.cell (p := ⟨b, off + p * 5 + 2, none⟩) (by show b < _; omega)).trans g2
  clear hb1
  go_wp2_with fail
  go_loopg [5, 16] nk (fun gg s5 s16 wr => ∃ (j t : Nat), j + gg = nk ∧ t ≤ 41 ∧ s5 = .int .i64 (t : Int) ∧ s16 = .int .i64 (j : Int) ∧ Hid (t = ((bx.kids.take j).map (hgt l m)).foldr max 0) ∧ Hid (Below w.heap.size w wr))
  case atStart => exact ⟨0, 0, by omega, by omega, rfl, rfl, rfl, HB1⟩
  case round =>
    obtain ⟨j, t, hjg, ht41, rfl, rfl, ht, hbel⟩ := hrel
    obtain ⟨W1, rfl⟩ : ∃ W1, W1 = wr := ⟨_, rfl⟩
    have hbk : nk ≤ ck ∧ nk * 8 ≤ 140737488351232 := HKL.out.2
    by_cases hj : j < nk
    case neg =>
      obtain rfl : nk = j := by omega
      have HF : Hid ((hgt l (m + 1) id : Int) = (t : Int) + 1) := by
        show _ = _
        have e : bx.kids.take nk = bx.kids := List.take_of_length_le (by rw [← HKL.out.1]; exact Nat.le_refl _)
        have h1 := ht.out
        rw [e] at h1
        rw [HO.out, h1]; omega
      go_wp2_with fail
      go_ret
      exact ⟨by rw [HF.out]; exact congrArg (fun x => Ending.returned (Value.int .i64 x)) (by omega), hbel.out⟩
    obtain ⟨k, hkk⟩ : ∃ k, bx.kids[j]? = some k := ⟨_, List.getElem?_eq_getElem (by have := HKL.out.1; omega)⟩
    obtain ⟨bk, ok, rfl, hbk2, q0⟩ := HK.out.at_ hkk
    have q0 := (hbel.out.cell (p := ⟨bk, ok + j, none⟩) (by show bk < _; omega)).trans q0
    have z0 : (0 : Int) ≤ (j : Int) := by omega
    have z1 : (j : Int) < (nk : Int) := by omega
    obtain ⟨hk, hhk⟩ : ∃ hk, hk = hgt l m k := ⟨_, rfl⟩
    have hkm : hk ≤ 41 := by have := hgt_le l m k; omega
    have HT : Hid (max t hk = ((bx.kids.take (j + 1)).map (hgt l m)).foldr max 0) := by
      show _ = _
      obtain ⟨hk', e⟩ := List.getElem?_eq_some_iff.1 hkk
      rw [List.take_succ_eq_append_getElem hk', e, List.map_append, List.map_cons, List.map_nil, foldr_snoc, ← ht.out, hhk]
    have HX := HI.out k W1 (HKD.out k (List.mem_of_getElem? hkk)) hbel.out
    rw [← hhk] at HX
    have HX := Lib.hid HX
    have hmx : max (t : Int) ((hk : Int) - 1 + 1) = ((max t hk : Nat) : Int) := by omega
    have ht2 : max t hk ≤ 41 := by omega
    obtain ⟨mx, hmx2⟩ : ∃ mx, mx = max t hk := ⟨_, rfl⟩
    rw [← hmx2] at HT hmx ht2
    have hsub : (hk : Int) - 1 + 1 = (hk : Int) := by omega
    rw [hsub] at hmx
    clear hkk hhk hmx2
    go_wp2_with fail
    refine HX.out.mono ?_
    rintro e w2 ⟨rfl, hb⟩
    have HB2 : Hid (Below w.heap.size w w2) := hbel.out.trans (hb.mono hbel.out.size)
    clear hb
    go_wp2_with fail
    go_roundg (nk - (j + 1))
    case measure => omega
    case rel => exact ⟨j + 1, mx, by omega, ht2, rfl, by go_num, HT, HB2⟩
theorem heightR_fuel (l : List Bl) (f : Int → Option Int) (G : Good l f) (A : Option Addr) (n c : Nat) (B : Nat) : ∀ (m d : Nat) (id : Int) (w : World), Dp l id d → d + m = 41 → B ≤ w.heap.size → RB w B (.slice A n c) l →
    Calls Tryz.prog 78 #[.slice A n c, .int .i64 id] w fun e w' => e = .returned (.int .i64 ((hgt l m id : Int) - 1)) ∧ Below w.heap.size w w'
  | 0, d, id, w, hd, hm, _, _ => absurd (G.low hd) (by omega)
  | m + 1, d, id, w, hd, hm, hB, h => heightR_walk l G.kids A n c id d m hd (by omega) w B hB h fun k W hk hW => heightR_fuel l f G A n c B m (d + 1) k W hk (by omega) (Nat.le_trans hB hW.size) (h.below (hW.mono hB))
theorem heightR_any (l : List Bl) (f : Int → Option Int) (G : Good l f) (A : Option Addr) (n c : Nat) (B d : Nat) (id : Int) (w : World) (hd : Dp l id d) (hB : B ≤ w.heap.size) (h : RB w B (.slice A n c) l) :
    Calls Tryz.prog 78 #[.slice A n c, .int .i64 id] w fun e w' => e = .returned (.int .i64 ((hgt l 41 id : Int) - 1)) ∧ Below w.heap.size w w' := by
  have h40 := G.low hd
  have := heightR_fuel l f G A n c B (41 - d) d id w hd (by omega) hB h
  rw [← hgt_stab G (41 - d) d id hd (by omega) 41 (by omega)] at this
  exact this
end Go.Proofs.YtmkicfjcgbfaaaaGreat
namespace Go.Proofs.YtmkicfjcgbfaaaaGreat
open Go.RowKit

theorem less_count : ∀ {l : List Int}, l.Nodup → ∀ x : Int, (lessK l x).length + (if x ∈ l then 1 else 0) = l.length
  | [], _, x => by simp [lessK]
  | a :: l, h, x => by
    obtain ⟨h1, h2⟩ := List.nodup_cons.1 h
    have ih := less_count h2 x
    unfold lessK at *
    rw [List.filter_cons]
    by_cases e : a = x
    · subst e
      rw [if_neg (by simp), if_pos (by simp), List.length_cons]
      rw [if_neg h1] at ih
      omega
    · rw [if_pos (by simpa using e), List.length_cons, List.length_cons]
      have : (x ∈ a :: l) = (x ∈ l) := by
        rw [List.mem_cons, eq_iff_iff]
        exact ⟨fun h => h.resolve_left (fun q => e q.symm), .inr⟩
      simp only [this]
      omega

set_option maxRecDepth 100000 in
set_option maxHeartbeats 4000000 in
/-- tree.checkMove -/
theorem checkMove_any (l : List Bl) (f : Int → Option Int) (G : Good l f) (Al : Option Addr) (n cl : Nat) (o : Opn) (Av : Option Addr) (nv cv : Nat) (w : World) (B : Nat) (hB : B ≤ w.heap.size) (h : RB w B (.slice Al n cl) l) (ho : OI o) :
    Calls Tryz.prog 122 #[.slice Al n cl, AO (o, .slice Av nv cv)] w fun e w' => e = .returned (.int .i64 (movErr l f o)) ∧ Below w.heap.size w w' := by
  have HIa := Lib.hid fun W (hW : Below w.heap.size w W) => index_any l Al n cl o.id W B (Nat.le_trans hB hW.size) (h.below (hW.mono hB)) G.kids.rise G.kids.ids ho.1
  have HIp := Lib.hid fun W (hW : Below w.heap.size w W) => index_any l Al n cl o.parent W B (Nat.le_trans hB hW.size) (h.below (hW.mono hB)) G.kids.rise G.kids.ids ho.2.1
  have HN := Lib.hid h.len.1
  have hbg : n * 80 ≤ 140737488351232 := h.len.2.2
  have H := Lib.hid h
  obtain ⟨V, hV⟩ : ∃ V, V = movErr l f o := ⟨_, rfl⟩
  rw [← hV]
  unfold movErr at hV
  have HV := Lib.hid hV
  obtain ⟨wa, hwa⟩ : ∃ wa, wa = w.alloc (.cells (opC o (.slice Av nv cv)) 31) := ⟨_, rfl⟩
  have HBA : Hid (Below w.heap.size w wa) := by rw [hwa]; exact (Below.refl _ _).alloc (Nat.le_refl _) _
  have P0 : Hid (Blk wa w.heap.size 31 (opC o (.slice Av nv cv))) := by rw [hwa]; exact Blk.new _ _ _
  have HWA := Lib.hid hwa
  clear h hV hwa
  dsimp only [AO]
  go_enter Tryz.func122, Tryz.ntmps122
  go_upto_region 1 with fail
  rw [← HWA.out]
  have e0 := fun i => P0.out.cell i
  go_wp2_with fail
  refine (HIp.out wa HBA.out).mono ?_
  rintro e w1 ⟨rfl, hb⟩
  have HB1 : Hid (Below w.heap.size w w1) := HBA.out.trans (hb.mono HBA.out.size)
  have P1 := Lib.hid (P0.out.below hb P0.out.lt)
  clear hb e0
  have e0 := fun i => P1.out.cell i
  by_cases h1 : o.id = 0
  · have HL : Hid (V = 7) := HV.out.trans (if_pos (.inl h1))
    have h1' : (o.id == 0) = true := by simpa using h1
    clear h1
    go_wp2_with fail
    go_ret
    exact ⟨by rw [HL.out]; rfl, HB1.out⟩
  have h1' : (o.id == 0) = false := by simpa using h1
  go_wp2_with fail
  refine (HIa.out w1 HB1.out).mono ?_
  rintro e w2 ⟨rfl, hb⟩
  have HB2 : Hid (Below w.heap.size w w2) := HB1.out.trans (hb.mono HB1.out.size)
  have P2 := Lib.hid (P1.out.below hb P1.out.lt)
  clear hb e0
  have e0 := fun i => P2.out.cell i
  by_cases h2 : posOf l o.id < 0
  · have HL : Hid (V = 7) := HV.out.trans (if_pos (.inr (.inl h2)))
    go_wp2_with fail
    go_ret
    exact ⟨by rw [HL.out]; rfl, HB2.out⟩
  by_cases h3 : posOf l o.parent < 0
  · have HL : Hid (V = 7) := HV.out.trans (if_pos (.inr (.inr h3)))
    go_wp2_with fail
    go_ret
    exact ⟨by rw [HL.out]; rfl, HB2.out⟩
  have HV1 := Lib.hid (HV.out.trans (if_neg (by omega)))
  obtain ⟨p, b, d, hp, hlp, hbi, hba, hd, hd40, hdF⟩ := G.blk_at (id := o.parent) (by omega)
  obtain ⟨p2, b2, d2, hp2, hlp2, hbi2, hba2, hd2, hd402, hdF2⟩ := G.blk_at (id := o.id) (by omega)
  rw [hba, hdF, Int.toNat_natCast] at HV1
  rw [hp]
  have hpn : p < n := by have := (List.getElem?_eq_some_iff.1 hlp).1; have := HN.out; omega
  obtain ⟨bb, off, Ak, nk, ck, Ap, np, cp, rfl, hbb, _, _, g2, _, _, hK, _⟩ := H.out.at_ hlp
  have hkl : nk = b.kids.length := hK.len.1
  have hkb := hK.len.2.2
  have hkc := hK.len.2.1
  have hcount := less_count (G.kids.nod b (List.mem_of_getElem? hlp)) o.id
  rw [← hkl] at hcount
  have c2 := (HB2.out.cell (p := ⟨bb, off + p * 5 + 2, none⟩) (by show bb < _; omega)).trans g2
  have HPA := Lib.hid fun W (hW : Below w.heap.size w W) => path_any l G.kids (some ⟨bb, off, none⟩) n cl o.parent d hd hd40 W B (Nat.le_trans hB hW.size) (H.out.below (hW.mono hB))
  have HHT := Lib.hid fun W (hW : Below w.heap.size w W) => height_any l f G (some ⟨bb, off, none⟩) n cl B d2 o.id W hd2 (Nat.le_trans hB hW.size) (H.out.below (hW.mono hB))
  have HCK := Lib.hid fun W (hW : Below w.heap.size w W) => containsI_any b.kids Ak nk ck o.id W B (hK.below (hW.mono hB))
  have i0 : (0 : Int) ≤ (p : Int) := by omega
  have i1 : (p : Int) < (n : Int) := by omega
  have i2 : ¬ ((p : Int) < 0) := by omega
  have HPL : Hid ((pth l d o.parent).length = d) := pth_len d o.parent
  obtain ⟨hg, hhg⟩ : ∃ hg, hg = hgt l 41 o.id := ⟨_, rfl⟩
  have hg41 : hg ≤ 41 := by have := hgt_le l 41 o.id; omega
  rw [← hhg] at HV1 HHT
  obtain ⟨kn, hkn⟩ : ∃ kn, kn = (lessK b.kids o.id).length := ⟨_, rfl⟩
  rw [← hkn] at HV1 hcount
  have HCT := Lib.hid hcount
  clear hK hkl hp hlp hba hd hdF h1 h3 hp2 hlp2 hba2 hd2 hdF2 hbi2 hhg hkn hcount
  go_wp2_with fail
  refine (HPA.out w2 HB2.out).mono ?_
  rintro e w3 ⟨⟨A', n', rfl, hr⟩, hb⟩
  have HB3 : Hid (Below w.heap.size w w3) := HB2.out.trans (hb.mono HB2.out.size)
  have P3 := Lib.hid (P2.out.below hb P2.out.lt)
  have hri := hr.reads (B := w3.heap.size) fun b hb => hb.2
  have hn' : n' = d := by
    have := hri.len.1
    rw [HPL.out] at this
    exact this
  have HCP := Lib.hid (containsI_any _ A' n' n' o.id w3 w3.heap.size hri)
  have c3 := (HB3.out.cell (p := ⟨bb, off + p * 5 + 2, none⟩) (by show bb < _; omega)).trans g2
  clear hb hr hri e0 c2 g2
  subst hn'
  have e0 := fun i => P3.out.cell i
  obtain ⟨q, hq⟩ : ∃ q, q = decide (o.id ∈ pth l n' o.parent) := ⟨_, rfl⟩
  rw [← hq] at HCP
  go_wp2_with fail
  refine HCP.out.mono ?_
  rintro e w4 ⟨rfl, hw4⟩
  rw [hw4]
  clear hw4
  cases q
  case true =>
    have HL : Hid (V = 12) := HV1.out.trans (if_pos (of_decide_eq_true hq.symm))
    clear hq
    go_wp2_with fail
    go_ret
    exact ⟨by rw [HL.out]; rfl, HB3.out⟩
  have HV2 := Lib.hid (HV1.out.trans (if_neg (of_decide_eq_false hq.symm)))
  clear hq
  obtain ⟨kq, hkq⟩ : ∃ kq, kq = decide (o.id ∈ b.kids) := ⟨_, rfl⟩
  have HKK := Lib.hid fun W (hW : Below w.heap.size w W) => HCK.out W hW
  rw [← hkq] at HKK
  have hkk : (kn : Int) = (nk : Int) - (if kq = true then 1 else 0) := by
    have := HCT.out
    rw [hkq]
    by_cases e : o.id ∈ b.kids
    · rw [if_pos e] at this
      rw [if_pos (decide_eq_true e)]; omega
    · rw [if_neg e] at this
      rw [if_neg (by rw [decide_eq_false e]; decide)]; omega
  have hk1 : kq = true → 1 ≤ nk := fun e => by
    have := HCT.out
    rw [e] at hkq
    rw [if_pos (of_decide_eq_true hkq.symm)] at this
    omega
  clear hkq
  go_upto_region 8 with fail
  have HKD := Lib.hid fun q => HKK.out (w3.drewN q) (bdrew HB3.out q)
  go_quiet ((go_at_call 14; exact (HKD.out _).mono (fun _ _ h => ⟨h.1, _, h.2⟩)))
  have HBD : Hid (Below w.heap.size w (w3.drewN nq)) := bdrew HB3.out nq
  have PD := Lib.hid (P3.out.drewN nq)
  clear e0 c3
  have e0 := fun i => PD.out.cell i
  cases kq
  case true =>
    have hk1' := hk1 rfl
    rw [if_pos rfl] at hkk
    have hz : (nk : Int) - 1 = (kn : Int) := hkk.symm
    clear hkk hk1
    by_cases h5 : o.at_ < 0
    · have HL : Hid (V = 2) := HV2.out.trans (if_pos (.inl h5))
      go_wp2_with fail
      go_ret
      exact ⟨by rw [HL.out]; rfl, HBD⟩
    by_cases h6 : (kn : Int) < o.at_
    · have HL : Hid (V = 2) := HV2.out.trans (if_pos (.inr h6))
      go_wp2_with fail
      go_ret
      exact ⟨by rw [HL.out]; rfl, HBD⟩
    have HV3 := Lib.hid (HV2.out.trans (if_neg (by omega)))
    by_cases h9 : 500 ≤ kn
    · have HL : Hid (V = 14) := HV3.out.trans (if_pos h9)
      have h9' : (500 : Int) ≤ (kn : Int) := by omega
      go_wp2_with fail
      go_ret
      exact ⟨by rw [HL.out]; rfl, HBD⟩
    have h9' : ¬ (500 : Int) ≤ (kn : Int) := by omega
    have HV4 := Lib.hid (HV3.out.trans (if_neg h9))
    have HHX := Lib.hid (HHT.out _ HBD)
    by_cases h10 : 40 < (n' : Int) + hg
    · have HL : Hid (V = 13) := HV4.out.trans (if_pos h10)
      go_wp2_with fail
      refine HHX.out.mono ?_
      rintro e w5 ⟨rfl, hb5⟩
      have HB5 : Hid (Below w.heap.size w w5) := HBD.trans (hb5.mono HBD.size)
      clear hb5
      go_wp2_with fail
      go_ret
      exact ⟨by rw [HL.out]; rfl, HB5.out⟩
    · have HL : Hid (V = 0) := HV4.out.trans (if_neg h10)
      go_wp2_with fail
      refine HHX.out.mono ?_
      rintro e w5 ⟨rfl, hb5⟩
      have HB5 : Hid (Below w.heap.size w w5) := HBD.trans (hb5.mono HBD.size)
      clear hb5
      go_wp2_with fail
      go_ret
      exact ⟨by rw [HL.out]; rfl, HB5.out⟩
  case false =>
    rw [if_neg (by decide)] at hkk
    obtain rfl : nk = kn := by omega
    clear hkk hk1
    by_cases h5 : o.at_ < 0
    · have HL : Hid (V = 2) := HV2.out.trans (if_pos (.inl h5))
      go_wp2_with fail
      go_ret
      exact ⟨by rw [HL.out]; rfl, HBD⟩
    by_cases h6 : (nk : Int) < o.at_
    · have HL : Hid (V = 2) := HV2.out.trans (if_pos (.inr h6))
      go_wp2_with fail
      go_ret
      exact ⟨by rw [HL.out]; rfl, HBD⟩
    have HV3 := Lib.hid (HV2.out.trans (if_neg (by omega)))
    by_cases h9 : 500 ≤ nk
    · have HL : Hid (V = 14) := HV3.out.trans (if_pos h9)
      have h9' : (500 : Int) ≤ (nk : Int) := by omega
      go_wp2_with fail
      go_ret
      exact ⟨by rw [HL.out]; rfl, HBD⟩
    have h9' : ¬ (500 : Int) ≤ (nk : Int) := by omega
    have HV4 := Lib.hid (HV3.out.trans (if_neg h9))
    have HHX := Lib.hid (HHT.out _ HBD)
    by_cases h10 : 40 < (n' : Int) + hg
    · have HL : Hid (V = 13) := HV4.out.trans (if_pos h10)
      go_wp2_with fail
      refine HHX.out.mono ?_
      rintro e w5 ⟨rfl, hb5⟩
      have HB5 : Hid (Below w.heap.size w w5) := HBD.trans (hb5.mono HBD.size)
      clear hb5
      go_wp2_with fail
      go_ret
      exact ⟨by rw [HL.out]; rfl, HB5.out⟩
    · have HL : Hid (V = 0) := HV4.out.trans (if_neg h10)
      go_wp2_with fail
      refine HHX.out.mono ?_
      rintro e w5 ⟨rfl, hb5⟩
      have HB5 : Hid (Below w.heap.size w w5) := HBD.trans (hb5.mono HBD.size)
      clear hb5
      go_wp2_with fail
      go_ret
      exact ⟨by rw [HL.out]; rfl, HB5.out⟩
end Go.Proofs.YtmkicfjcgbfaaaaGreat
namespace Go.Proofs.YtmkicfjcgbfaaaaGreat
open Go.RowKit

theorem Good.pos_zero {l : List Bl} {f : Int → Option Int} (G : Good l f) {id : Int} (h : 0 < posOf l id) : id ≠ 0 := by
  rintro rfl
  obtain ⟨r, h1, h2, _⟩ := G.kids.root
  have := posOf_of G.kids.rise h1
  rw [h2] at this
  omega

set_option maxRecDepth 100000 in
set_option maxHeartbeats 8000000 in
/-- tree.checkOp -/
theorem checkOp_any (l : List Bl) (f : Int → Option Int) (G : Good l f) (Al : Option Addr) (n cl : Nat) (o : Opn) (Av : Option Addr) (nv cv : Nat) (w : World) (B : Nat) (hB : B ≤ w.heap.size) (h : RB w B (.slice Al n cl) l) (ho : OI o) (hv : RV w B (.slice Av nv cv) o.val.items) :
    Calls Tryz.prog 60 #[.slice Al n cl, AO (o, .slice Av nv cv)] w fun e w' => e = .returned (.int .i64 (opErr l f o)) ∧ Below w.heap.size w w' := by
  have HF := Lib.hid fun W (hW : Below w.heap.size w W) => checkForm_any o Av nv cv W B (Nat.le_trans hB hW.size) (hv.below (hW.mono hB))
  have HIN := Lib.hid fun W (hW : Below w.heap.size w W) => checkInsert_any l f G Al n cl o Av nv cv W B (Nat.le_trans hB hW.size) (h.below (hW.mono hB)) ho
  have HMV := Lib.hid fun W (hW : Below w.heap.size w W) => checkMove_any l f G Al n cl o Av nv cv W B (Nat.le_trans hB hW.size) (h.below (hW.mono hB)) ho
  have HIa := Lib.hid fun W (hW : Below w.heap.size w W) => index_any l Al n cl o.id W B (Nat.le_trans hB hW.size) (h.below (hW.mono hB)) G.kids.rise G.kids.ids ho.1
  have HST := Lib.hid fun (hid : 0 ≤ posOf l o.id) W (hW : Below w.heap.size w W) => checkSetProp_any l f G Al n cl o Av nv cv W B (Nat.le_trans hB hW.size) (h.below (hW.mono hB)) ho (hv.below (hW.mono hB)) hid
  have HED := Lib.hid fun W => editOf_any o Av nv cv W
  have HN := Lib.hid h.len.1
  have hbg : n * 80 ≤ 140737488351232 := h.len.2.2
  have H := Lib.hid h
  have HTX : Hid (o.text.size ≤ 140737488351232) := ho.2.2.2.2.2
  obtain ⟨V, hV⟩ : ∃ V, V = opErr l f o := ⟨_, rfl⟩
  rw [← hV]
  unfold opErr at hV
  have HV := Lib.hid hV
  obtain ⟨wa, hwa⟩ : ∃ wa, wa = w.alloc (.cells (opC o (.slice Av nv cv)) 31) := ⟨_, rfl⟩
  have HBA : Hid (Below w.heap.size w wa) := by rw [hwa]; exact (Below.refl _ _).alloc (Nat.le_refl _) _
  have P0 : Hid (Blk wa w.heap.size 31 (opC o (.slice Av nv cv))) := by rw [hwa]; exact Blk.new _ _ _
  have HWA := Lib.hid hwa
  dsimp only [AO] at HF HIN HMV HST HED ⊢
  clear h hV hwa hv ho
  have HFE : Hid (formE o = if outI o.kind 1 5 = true then 10 else if usedB o = false then 1 else 0) := rfl
  obtain ⟨fe, hfe⟩ : ∃ fe, fe = formE o := ⟨_, rfl⟩
  rw [← hfe] at HF HFE
  clear hfe
  go_enter Tryz.func60, Tryz.ntmps60
  go_upto_region 1 with fail
  rw [← HWA.out]
  have e0 := fun i => P0.out.cell i
  go_wp2_with fail
  refine (HF.out wa HBA.out).mono ?_
  rintro e w1 ⟨rfl, hb⟩
  have HB1 : Hid (Below w.heap.size w w1) := HBA.out.trans (hb.mono HBA.out.size)
  have P1 := Lib.hid (P0.out.below hb P0.out.lt)
  clear hb e0
  have e0 := fun i => P1.out.cell i
  by_cases h1 : fe = 0
  case neg =>
    have HL : Hid (V = fe) := by
      show _ = _
      have h2 := HFE.out
      by_cases q1 : outI o.kind 1 5 = true
      · rw [if_pos q1] at h2; rw [HV.out, if_pos q1, h2]
      · rw [if_neg q1] at h2
        by_cases q2 : usedB o = false
        · rw [if_pos q2] at h2; rw [HV.out, if_neg q1, if_pos q2, h2]
        · rw [if_neg q2] at h2; exact absurd h2 h1
    have h1' : (fe != 0) = true := by simpa using h1
    clear h1
    go_wp2_with fail
    go_ret
    exact ⟨by rw [HL.out]; rfl, HB1.out⟩
  have HV1 : Hid (V = if o.kind = 1 then insErr l f o else if o.kind = 3 then movErr l f o else if posOf l o.id < 1 then 7 else
      if o.kind = 2 then (if 0 < (blkAt l o.id).kids.length then 11 else 0) else if o.kind = 4 then edErr (blkAt l o.id).text o.text o.from_ o.to_ else setErr (blkAt l o.id).props o) := by
    show _ = _
    have h2 := HFE.out
    by_cases q1 : outI o.kind 1 5 = true
    · rw [if_pos q1] at h2; omega
    · rw [if_neg q1] at h2
      by_cases q2 : usedB o = false
      · rw [if_pos q2] at h2; omega
      · rw [HV.out, if_neg q1, if_neg q2]
  have HK5 : Hid (1 ≤ o.kind ∧ o.kind ≤ 5) := by
    show _ ∧ _
    have h2 := HFE.out
    by_cases q1 : outI o.kind 1 5 = true
    · rw [if_pos q1] at h2; omega
    · unfold outI at q1; rw [decide_eq_true_eq] at q1; omega
  clear HFE
  subst h1
  by_cases k1 : o.kind = 1
  · have HL := Lib.hid (HV1.out.trans (if_pos k1))
    have k1' : (o.kind == 1) = true := by simpa using k1
    clear k1
    go_wp2_with fail
    refine (HIN.out w1 HB1.out).mono ?_
    rintro e w2 ⟨rfl, hb⟩
    have HB2 : Hid (Below w.heap.size w w2) := HB1.out.trans (hb.mono HB1.out.size)
    clear hb
    go_wp2_with fail
    go_ret
    exact ⟨by rw [HL.out]; rfl, HB2.out⟩
  have HV2 := Lib.hid (HV1.out.trans (if_neg k1))
  have k1' : (o.kind == 1) = false := by simpa using k1
  by_cases k3 : o.kind = 3
  · have HL := Lib.hid (HV2.out.trans (if_pos k3))
    have k3' : (o.kind == 3) = true := by simpa using k3
    clear k1 k3
    go_wp2_with fail
    refine (HMV.out w1 HB1.out).mono ?_
    rintro e w2 ⟨rfl, hb⟩
    have HB2 : Hid (Below w.heap.size w w2) := HB1.out.trans (hb.mono HB1.out.size)
    clear hb
    go_wp2_with fail
    go_ret
    exact ⟨by rw [HL.out]; rfl, HB2.out⟩
  have HV3 := Lib.hid (HV2.out.trans (if_neg k3))
  have k3' : (o.kind == 3) = false := by simpa using k3
  go_wp2_with fail
  refine (HIa.out w1 HB1.out).mono ?_
  rintro e w2 ⟨rfl, hb⟩
  have HB2 : Hid (Below w.heap.size w w2) := HB1.out.trans (hb.mono HB1.out.size)
  have P2 := Lib.hid (P1.out.below hb P1.out.lt)
  clear hb e0
  have e0 := fun i => P2.out.cell i
  by_cases h3 : posOf l o.id < 1
  · have HL : Hid (V = 7) := HV3.out.trans (if_pos h3)
    go_wp2_with fail
    go_ret
    exact ⟨by rw [HL.out]; rfl, HB2.out⟩
  have HV4 := Lib.hid (HV3.out.trans (if_neg h3))
  have HSX := Lib.hid (HST.out (by omega))
  obtain ⟨p, b, d, hp, hlp, hbi, hba, _⟩ := G.blk_at (id := o.id) (by omega)
  rw [hba] at HV4 HSX
  rw [hp] at h3 ⊢
  have hpn : p < n := by have := (List.getElem?_eq_some_iff.1 hlp).1; have := HN.out; omega
  obtain ⟨bb, off, Ak, nk, ck, Ap, np, cp, rfl, hbb, _, _, g2, g3, _, hK, _⟩ := H.out.at_ hlp
  have hkl : nk = b.kids.length := hK.len.1
  have htb : b.text.size ≤ 2000 := by
    have := (G.tree.loc b (List.mem_of_getElem? hlp)).1
    unfold txErr at this
    split at this
    · omega
    · omega
  rw [← hkl] at HV4
  have c2 := (HB2.out.cell (p := ⟨bb, off + p * 5 + 2, none⟩) (by show bb < _; omega)).trans g2
  have c3 := (HB2.out.cell (p := ⟨bb, off + p * 5 + 3, none⟩) (by show bb < _; omega)).trans g3
  have i0 : (0 : Int) ≤ (p : Int) := by omega
  have i1 : (p : Int) < (n : Int) := by omega
  have i2 : ¬ ((p : Int) < 1) := by omega
  have HCE := Lib.hid fun W => checkEdit_any b.text o.text o.from_ o.to_ W (by omega) HTX.out
  clear hK hkl hp hlp hba h3 g2 g3 hbi htb
  by_cases k2 : o.kind = 2
  · have HV5 := Lib.hid (HV4.out.trans (if_pos k2))
    have k2' : (o.kind == 2) = true := by simpa using k2
    clear k1 k2 k3
    by_cases h5 : 0 < nk
    · have HL := Lib.hid (HV5.out.trans (if_pos h5))
      have h5' : (0 : Int) < (nk : Int) := by omega
      go_wp2_with fail
      go_ret
      exact ⟨by rw [HL.out]; rfl, HB2.out⟩
    · have HL := Lib.hid (HV5.out.trans (if_neg h5))
      have h5' : ¬ (0 : Int) < (nk : Int) := by omega
      go_wp2_with fail
      go_ret
      exact ⟨by rw [HL.out]; rfl, HB2.out⟩
  have HV5 := Lib.hid (HV4.out.trans (if_neg k2))
  have k2' : (o.kind == 2) = false := by simpa using k2
  by_cases k4 : o.kind = 4
  · have HL := Lib.hid (HV5.out.trans (if_pos k4))
    have k4' : (o.kind == 4) = true := by simpa using k4
    clear k1 k2 k3 k4
    go_upto_region 18 with fail
    have KS : Hid (∀ W, Below w2.heap.size w2 W → W.cell? ⟨w.heap.size, 0, none⟩ = some (.int .i64 o.kind) ∧ W.cell? ⟨w.heap.size, 1, none⟩ = some (.int .i64 o.id) ∧ W.cell? ⟨w.heap.size, 2, none⟩ = some (.int .i64 o.parent) ∧ W.cell? ⟨w.heap.size, 3, none⟩ = some (.int .i64 o.at_) ∧ W.cell? ⟨w.heap.size, 4, none⟩ = some (.int .i64 o.from_) ∧ W.cell? ⟨w.heap.size, 5, none⟩ = some (.int .i64 o.to_) ∧ W.cell? ⟨w.heap.size, 6, none⟩ = some (.string o.text) ∧ W.cell? ⟨w.heap.size, 7, none⟩ = some (.string o.name) ∧ W.cell? ⟨w.heap.size, 8, none⟩ = some (.int .i64 o.val.kind) ∧ W.cell? ⟨w.heap.size, 9, none⟩ = some (.int .i64 o.val.int_) ∧ W.cell? ⟨w.heap.size, 10, none⟩ = some (.int .i64 o.val.to_) ∧ W.cell? ⟨w.heap.size, 11, none⟩ = some (.string o.val.text) ∧ W.cell? ⟨w.heap.size, 12, none⟩ = some (.slice Av nv cv) ∧ W.cell? ⟨bb, off + p * 5 + 3, none⟩ = some (.string b.text)) := fun W hW =>
      have hz := fun i => (hW.cell (p := ⟨w.heap.size, i, none⟩) P2.out.lt).trans (P2.out.cell i)
      ⟨hz 0, hz 1, hz 2, hz 3, hz 4, hz 5, hz 6, hz 7, hz 8, hz 9, hz 10, hz 11, hz 12, (hW.cell (p := ⟨bb, off + p * 5 + 3, none⟩) (by have := HB2.out.size; show bb < _; omega)).trans c3⟩
    clear e0 c2
    obtain ⟨s0, s1, s2, s3, s4, s5, s6, s7, s8, s9, s10, s11, s12, s13⟩ := KS.out w2 (Below.refl _ _)
    clear c3
    go_region_held3 (fun W => W.cell? ⟨w.heap.size, 0, none⟩ = some (.int .i64 o.kind) ∧ W.cell? ⟨w.heap.size, 1, none⟩ = some (.int .i64 o.id) ∧ W.cell? ⟨w.heap.size, 2, none⟩ = some (.int .i64 o.parent) ∧ W.cell? ⟨w.heap.size, 3, none⟩ = some (.int .i64 o.at_) ∧ W.cell? ⟨w.heap.size, 4, none⟩ = some (.int .i64 o.from_) ∧ W.cell? ⟨w.heap.size, 5, none⟩ = some (.int .i64 o.to_) ∧ W.cell? ⟨w.heap.size, 6, none⟩ = some (.string o.text) ∧ W.cell? ⟨w.heap.size, 7, none⟩ = some (.string o.name) ∧ W.cell? ⟨w.heap.size, 8, none⟩ = some (.int .i64 o.val.kind) ∧ W.cell? ⟨w.heap.size, 9, none⟩ = some (.int .i64 o.val.int_) ∧ W.cell? ⟨w.heap.size, 10, none⟩ = some (.int .i64 o.val.to_) ∧ W.cell? ⟨w.heap.size, 11, none⟩ = some (.string o.val.text) ∧ W.cell? ⟨w.heap.size, 12, none⟩ = some (.slice Av nv cv) ∧ W.cell? ⟨bb, off + p * 5 + 3, none⟩ = some (.string b.text))
      (first | exact KS.out _ (Below.refl _ _) | exact KS.out _ (Below.refl _ _).drew | exact KS.out _ HBE.out | exact KS.out _ HBG.out | go_keep)
      (first | (go_at_call 124; refine (HED.out _).mono ?_; rintro e w3 ⟨rfl, hb⟩; have HBE : Hid (Below w2.heap.size w2 w3) := (by first | exact (Below.refl w2.heap.size w2).drew.trans hb | exact hb); clear hb) | (go_at_call 123; refine (HCE.out _).mono ?_; rintro e w4 ⟨rfl, hb⟩; have HBG : Hid (Below w2.heap.size w2 w4) := HBE.out.trans (hb.mono HBE.out.size); clear hb))
    have HB4 : Hid (Below w.heap.size w w4) := HB2.out.trans (HBG.out.mono HB2.out.size)
    clear s0 s1 s2 s3 s4 s5 s6 s7 s8 s9 s10 s11 s12 s13
    go_wp2_with fail
    go_ret
    exact ⟨by rw [HL.out]; rfl, HB4.out⟩
  have HL := Lib.hid (HV5.out.trans (if_neg k4))
  have k4' : (o.kind == 4) = false := by simpa using k4
  clear k1 k2 k3 k4
  go_wp2_with fail
  refine (HSX.out w2 HB2.out).mono ?_
  rintro e w4 ⟨rfl, hb⟩
  have HB4 : Hid (Below w.heap.size w w4) := HB2.out.trans (hb.mono HB2.out.size)
  clear hb
  go_wp2_with fail
  go_ret
  exact ⟨by rw [HL.out]; rfl, HB4.out⟩
end Go.Proofs.YtmkicfjcgbfaaaaGreat
namespace Go.Proofs.YtmkicfjcgbfaaaaGreat
open Go.RowKit

/-- what copying a block leaves -/
def CopyBR (x : Bl) (w : World) (e : Ending) (w' : World) : Prop := (∃ Kx nx cx Px mx ex, e = .returned (AB (x, .slice Kx nx cx, .slice Px mx ex)) ∧ RInX w' (fun b => w.heap.size ≤ b ∧ b < w'.heap.size) (.slice Kx nx cx) x.kids ∧ RPrX w' (fun b => w.heap.size ≤ b ∧ b < w'.heap.size) (.slice Px mx ex) x.props) ∧ Below w.heap.size w w'
set_option maxRecDepth 100000 in
set_option maxHeartbeats 4000000 in
/-- tree.copyBlock -/
theorem copyBlock_any (x : Bl) (Kx Px : Option Addr) (nx cx mx ex : Nat) (w : World) (B : Nat) (hB : B ≤ w.heap.size) (h1 : RIn w B (.slice Kx nx cx) x.kids) (h2 : RPr w B (.slice Px mx ex) x.props) :
    Calls Tryz.prog 134 #[AB (x, .slice Kx nx cx, .slice Px mx ex)] w (CopyBR x w) := by
  obtain ⟨wb, hwb⟩ : ∃ wb, wb = (w.alloc (.cells #[.int .i64 x.id, .int .i64 x.parent, .slice Kx nx cx, .string x.text, .slice Px mx ex] 38)).alloc (.cells #[.int .i64 0, .int .i64 0, .slice none 0 0, .string ⟨#[]⟩, .slice none 0 0] 38) := ⟨_, rfl⟩
  have hbb : Below w.heap.size w wb := by rw [hwb]; exact ((Below.refl _ _).alloc (Nat.le_refl _) _).alloc (by simp) _
  have p0 : Blk wb w.heap.size 38 #[.int .i64 x.id, .int .i64 x.parent, .slice Kx nx cx, .string x.text, .slice Px mx ex] := by rw [hwb]; exact (Blk.new w _ _).alloc _
  have p1 : Blk wb (w.heap.size + 1) 38 #[.int .i64 0, .int .i64 0, .slice none 0 0, .string ⟨#[]⟩, .slice none 0 0] := by
    rw [hwb]
    have h := Blk.new (w.alloc (.cells #[.int .i64 x.id, .int .i64 x.parent, .slice Kx nx cx, .string x.text, .slice Px mx ex] 38)) 38 #[.int .i64 0, .int .i64 0, .slice none 0 0, .string ⟨#[]⟩, .slice none 0 0]
    simpa only [World.size_alloc] using h
  have hzb : wb.heap.size = w.heap.size + 2 := by rw [hwb]; simp
  have HCK := Lib.hid (cloneI_any Kx nx cx x.kids wb B (h1.below (hbb.mono hB)))
  have HCP := Lib.hid fun W (hW : Below w.heap.size w W) => copyProps_any Px mx ex x.props W B (Nat.le_trans hB hW.size) (h2.below (hW.mono hB))
  have HBB := Lib.hid hbb
  have HWB := Lib.hid hwb
  have HZB := Lib.hid hzb
  have P0 := Lib.hid p0
  have P1 := Lib.hid p1
  have e2 : wb.cell? ⟨w.heap.size, 2, none⟩ = some (.slice Kx nx cx) := p0.cell 2
  clear h1 h2 hbb hwb hzb p0 p1
  dsimp only [AB]
  go_enter Tryz.func134, Tryz.ntmps134
  go_upto_region 1 with fail
  rw [← HWB.out]
  go_wp2_with fail
  refine HCK.out.mono ?_
  rintro e w1 ⟨⟨A1, n1, c1, rfl, hn1, _, hr1, hc1⟩, hb1⟩
  have HCL := Lib.hid (clipI_any A1 n1 c1 w1 hc1 hn1)
  have HB1 : Hid (Below w.heap.size w w1) := HBB.out.trans (hb1.mono HBB.out.size)
  have hz1 : w.heap.size + 2 ≤ w1.heap.size := by have := hb1.size; have := HZB.out; omega
  have q0 := P0.out.below hb1 (by have := HZB.out; omega)
  have q1 := P1.out.below hb1 (by have := HZB.out; omega)
  have HR1 : Hid (RInX w1 (fun b => w.heap.size + 2 ≤ b ∧ b < w1.heap.size) (.slice A1 n1 n1) x.kids) := hr1.weak fun b hb => ⟨by have := HZB.out; omega, hb.2⟩
  have Q0 := Lib.hid q0
  have Q1 := Lib.hid q1
  have k2 := q0.cell 2
  have f2 := q0.frozen 2
  clear hn1 hr1 hc1 hb1 q0 q1 e2
  go_wp2_with fail
  refine HCL.out.mono ?_
  rintro e w2 ⟨rfl, rfl⟩
  obtain ⟨w3, hw3⟩ : ∃ w3, w3 = w2.setCell ⟨w.heap.size, 2, none⟩ (.slice A1 n1 n1) := ⟨_, rfl⟩
  have r0 : Blk w3 w.heap.size 38 #[.int .i64 x.id, .int .i64 x.parent, .slice A1 n1 n1, .string x.text, .slice Px mx ex] := by rw [hw3]; exact Q0.out.set_ 2 _
  have r1 : Blk w3 (w.heap.size + 1) 38 #[.int .i64 0, .int .i64 0, .slice none 0 0, .string ⟨#[]⟩, .slice none 0 0] := by rw [hw3]; exact Q1.out.far (p := ⟨w.heap.size, 2, none⟩) (by show w.heap.size + 1 ≠ w.heap.size; omega) _
  have HB3 : Hid (Below w.heap.size w w3) := by rw [hw3]; exact HB1.out.setCell (p := ⟨w.heap.size, 2, none⟩) (Nat.le_refl _) _
  have hz3 : w3.heap.size = w2.heap.size := by rw [hw3]; simp [World.setCell]
  have HR3 : Hid (RInX w3 (fun b => w.heap.size + 2 ≤ b ∧ b < w3.heap.size) (.slice A1 n1 n1) x.kids) := by
    show RInX _ _ _ _
    rw [hz3]
    exact HR1.out.keep fun p hp => by rw [hw3]; exact World.cell?_setCell_other _ _ _ _ (by intro e; subst e; have := hp.1; simp at this; omega)
  have HCX := Lib.hid (HCP.out w3 HB3.out)
  have R0 := Lib.hid r0
  have R1 := Lib.hid r1
  have k4 := r0.cell 4
  have HW3 := Lib.hid hw3
  clear r0 r1 hw3
  go_upto_region 2 with fail
  rw [← HW3.out]
  clear k2 f2
  go_wp2_with fail
  refine HCX.out.mono ?_
  rintro e w4 ⟨⟨A4, n4, c4, rfl, hr4⟩, hb4⟩
  have hz4 : w3.heap.size ≤ w4.heap.size := hb4.size
  have hp0 := R0.out.below hb4 (by omega)
  have hp1 := R1.out.below hb4 (by omega)
  have HB4 : Hid (Below w.heap.size w w4) := HB3.out.trans (hb4.mono HB3.out.size)
  have HR4 : Hid (RInX w4 (fun b => w.heap.size + 2 ≤ b ∧ b < w4.heap.size) (.slice A1 n1 n1) x.kids) := (HR3.out.keep fun p hp => hb4.cell hp.2).weak fun b hb => ⟨hb.1, by omega⟩
  have HRP : Hid (RPrX w4 (fun b => w.heap.size + 2 ≤ b ∧ b < w4.heap.size) (.slice A4 n4 c4) x.props) := hr4.weak fun b hb => ⟨by omega, hb.2⟩
  have e0 := fun i => hp0.cell i
  have f0 := fun i => hp0.frozen i
  have e1 := fun i => hp1.cell i
  have f1 := fun i => hp1.frozen i
  have HP1 := Lib.hid hp1
  clear hr4 hb4 k4 hp0 hp1
  go_wp2_with fail
  have PF := (((((HP1.out.far (p := ⟨w.heap.size, 4, none⟩) (by show w.heap.size + 1 ≠ w.heap.size; omega) (.slice A4 n4 c4)).set_ 0 (.int .i64 x.id)).set_ 1 (.int .i64 x.parent)).set_ 2 (.slice A1 n1 n1)).set_ 3 (.string x.text)).set_ 4 (.slice A4 n4 c4)
  have HBF : Below w.heap.size w _ := (((((HB4.out.setCell (p := ⟨w.heap.size, 4, none⟩) (Nat.le_refl _) (.slice A4 n4 c4)).setCell (p := ⟨w.heap.size + 1, 0, none⟩) (Nat.le_succ _) (.int .i64 x.id)).setCell (p := ⟨w.heap.size + 1, 1, none⟩) (Nat.le_succ _) (.int .i64 x.parent)).setCell (p := ⟨w.heap.size + 1, 2, none⟩) (Nat.le_succ _) (.slice A1 n1 n1)).setCell (p := ⟨w.heap.size + 1, 3, none⟩) (Nat.le_succ _) (.string x.text)).setCell (p := ⟨w.heap.size + 1, 4, none⟩) (Nat.le_succ _) (.slice A4 n4 c4)
  obtain ⟨F, hF⟩ : ∃ F, F = ((((((w4.setCell ⟨w.heap.size, 4, none⟩ (.slice A4 n4 c4)).setCell ⟨w.heap.size + 1, 0, none⟩ (.int .i64 x.id)).setCell ⟨w.heap.size + 1, 1, none⟩ (.int .i64 x.parent)).setCell ⟨w.heap.size + 1, 2, none⟩ (.slice A1 n1 n1)).setCell ⟨w.heap.size + 1, 3, none⟩ (.string x.text)).setCell ⟨w.heap.size + 1, 4, none⟩ (.slice A4 n4 c4)) := ⟨_, rfl⟩
  rw [← hF] at PF HBF ⊢
  have hFk : ∀ p : Addr, w.heap.size + 2 ≤ p.block → F.cell? p = w4.cell? p := fun p h1 => by
    rw [hF]
    repeat rw [World.cell?_setCell_other _ _ p _ (by intro e; subst e; dsimp only at h1; omega)]
  have hFs : F.heap.size = w4.heap.size := by rw [hF]; simp [World.setCell]
  have r0 := PF.cell 0
  have r1 := PF.cell 1
  have r2 := PF.cell 2
  have r3 := PF.cell 3
  have r4 := PF.cell 4
  refine bodyPost_ret (v := AB (x, .slice A1 n1 n1, .slice A4 n4 c4)) (by simp [results, Tryz.results134, go_sem, r0, r1, r2, r3, r4, AB]) rfl ⟨⟨A1, n1, n1, A4, n4, c4, rfl, ?_, ?_⟩, HBF⟩
  · exact (HR4.out.keep (fun p hp => hFk p hp.1)).weak fun b hb => ⟨by omega, by rw [hFs]; exact hb.2⟩
  · exact (HRP.out.keep (fun p hp => hFk p hp.1)).weak fun b hb => ⟨by omega, by rw [hFs]; exact hb.2⟩
end Go.Proofs.YtmkicfjcgbfaaaaGreat
