/-
  DERIVED. Operations on a base in plain words; a base without error stays one: a block moved. Plain law. Conditions: none.
  The walk of slices.DeleteFunc at properties with prop.without's closure, over a row of the call's own. Conditions: sizes.
  The walk of prop.CopyProps, its row as one of the call's own. Conditions: sizes.
  By an AI agent.
-/
import Derived.Test.YtmkicfjcgbfaaaaGreatDoorTc20
namespace Go.Proofs.YtmkicfjcgbfaaaaGreatDoor

/-- how many levels a block has, with itself -/
def hgt (l : List Bl) : Nat → Int → Nat
  | 0, _ => 0
  | n + 1, id => match l[(posOf l id).toNat]? with
    | some b => (b.kids.map (hgt l n)).foldr max 0 + 1
    | none => 0
theorem hgt_at {l : List Bl} {id : Int} {p : Nat} {b : Bl} (hp : posOf l id = (p : Int)) (hb : l[p]? = some b) (n : Nat) : hgt l (n + 1) id = (b.kids.map (hgt l n)).foldr max 0 + 1 := by
  rw [hgt, hp, Int.toNat_natCast, hb]
theorem foldr_max {L : List Nat} {x : Nat} (h : x ∈ L) : x ≤ L.foldr max 0 := by
  induction L with
  | nil => cases h
  | cons a L ih =>
    rw [List.foldr_cons]
    rcases List.mem_cons.1 h with rfl | h
    · exact Nat.le_max_left _ _
    · exact Nat.le_trans (ih h) (Nat.le_max_right _ _)
section
variable {l : List Bl} {g : Int → Nat}
theorem Dp.ups (K : Kids l) : ∀ (j : Nat) {x : Int} {d : Nat}, Dp l x d → j ≤ d → Dp l (upN l j x) (d - j)
  | 0, x, d, h, _ => h
  | j + 1, x, d, h, hj => by
    obtain ⟨d', rfl⟩ : ∃ d', d = d' + 1 := ⟨d - 1, by omega⟩
    have := Dp.ups K j (h.up K).2 (by omega)
    rw [show d' + 1 - (j + 1) = d' - j by omega]
    exact this
/-- a block is among the kids of its parent -/
theorem Dp.kid (K : Kids l) {x : Int} {d : Nat} (h : Dp l x (d + 1)) : ∃ b ∈ l, b.id = parOf l x ∧ x ∈ b.kids := by
  generalize hn : d + 1 = n at h
  cases h with
  | root => omega
  | step b d' _ h hb hk => exact ⟨b, hb, (parOf_kid K hb hk).symm, hk⟩
theorem hgt_ge (K : Kids l) : ∀ (j : Nat) {x : Int} {d m : Nat}, Dp l x d → j ≤ d → j + 1 ≤ hgt l (j + 1 + m) (upN l j x)
  | 0, x, d, m, h, _ => by
    obtain ⟨p, b, h1, h2, _⟩ := h.blk K
    show 1 ≤ hgt l (0 + 1 + m) x
    rw [show 0 + 1 + m = m + 1 by omega, hgt_at h1 h2]
    omega
  | j + 1, x, d, m, h, hj => by
    have hy := Dp.ups K j h (by omega)
    obtain ⟨e, he⟩ : ∃ e, d - j = e + 1 := ⟨d - j - 1, by omega⟩
    rw [he] at hy
    obtain ⟨b, hb, hbi, hk⟩ := hy.kid K
    have hpar := (hy.up K).2
    obtain ⟨p, c, h1, h2, h3⟩ := hpar.blk K
    obtain rfl := K.rise.inj hb (List.mem_of_getElem? h2) (hbi.trans h3.symm)
    have ih := hgt_ge K j (m := m) h (by omega)
    rw [upN_succ, show j + 1 + 1 + m = (j + 1 + m) + 1 by omega, hgt_at h1 h2]
    have := foldr_max (L := b.kids.map (hgt l (j + 1 + m))) (List.mem_map.2 ⟨_, hk, rfl⟩)
    omega
/-- the numbers on the way to a block -/
theorem pth_mem : ∀ (d : Nat) (x y : Int), y ∈ pth l d x ↔ ∃ j, j < d ∧ upN l j x = y
  | 0, x, y => by simp [pth]
  | d + 1, x, y => by
    rw [pth, List.mem_append, pth_mem d]
    constructor
    · rintro (⟨j, hj, h⟩ | h)
      · exact ⟨j + 1, by omega, h⟩
      · exact ⟨0, by omega, (by simpa using h : y = x).symm⟩
    · rintro ⟨j, hj, h⟩
      rcases j with _ | j
      · exact .inr (by have : x = y := h; simp [this])
      · exact .inl ⟨j, by omega, h⟩

/-- what moving a block makes -/
def movB (id p : Int) (i : Nat) (b : Bl) : Bl := ⟨b.id, if b.id = id then p else b.parent, if b.id = p then plusK (lessK b.kids id) i id else lessK b.kids id, b.text, b.props⟩
def movL (l : List Bl) (id p : Int) (i : Nat) : List Bl := l.map (movB id p i)
theorem Tree.move (T : Tree l g) {x b : Bl} (hx : x ∈ l) (h0 : x.id ≠ 0) (hb : b ∈ l) (i : Nat) (hway : x.id ∉ pth l (g b.id) b.id) (hk : (lessK b.kids x.id).length < 500) (hd : g b.id + hgt l 41 x.id ≤ 40) : ∃ g', Tree (movL l x.id b.id i) g' := by
  classical
  have K := T.kids
  obtain ⟨id, hid⟩ : ∃ id, id = x.id := ⟨_, rfl⟩
  rw [← hid] at h0 hway hk hd ⊢
  have hDx : ∀ y ∈ l, Dp l y.id (g y.id) := fun y hy => T.dp _ hy rfl
  let S : Int → Prop := fun y => ∃ j d, Dp l y d ∧ j ≤ d ∧ upN l j y = id
  have hSid : S id := ⟨0, _, hid ▸ hDx x hx, Nat.zero_le _, rfl⟩
  have hSb : ¬ S b.id := by
    rintro ⟨j, d, h1, h2, h3⟩
    have e := h1.fun_ K (hDx b hb)
    subst e
    rcases Nat.lt_or_ge j (g b.id) with h | h
    · exact hway ((pth_mem _ _ _).2 ⟨j, h, h3⟩)
    · obtain rfl : j = g b.id := by omega
      have := Dp.ups K (g b.id) h1 (Nat.le_refl _)
      rw [h3, Nat.sub_self] at this
      exact h0 ((Dp.zero_iff K this).2 rfl)
  have hSk : ∀ c ∈ l, ∀ k ∈ c.kids, k ≠ id → (S k ↔ S c.id) := fun c hc k hk hne => by
    have hp := parOf_kid K hc hk
    have hDk : Dp l k (g c.id + 1) := .step c _ k (hDx c hc) hc hk
    constructor
    · rintro ⟨j, d, h1, h2, h3⟩
      have e := h1.fun_ K hDk
      subst e
      rcases j with _ | j
      · exact absurd h3 hne
      · exact ⟨j, _, hDx c hc, by omega, by rw [← hp]; exact h3⟩
    · rintro ⟨j, d, h1, h2, h3⟩
      have e := h1.fun_ K (hDx c hc)
      subst e
      exact ⟨j + 1, _, hDk, by omega, by show upN l j (parOf l k) = id; rw [hp]; exact h3⟩
  have hSg : ∀ y ∈ l, S y.id → g id ≤ g y.id ∧ g y.id - g id + g b.id + 1 ≤ 40 := fun y hy => by
    rintro ⟨j, d, h1, h2, h3⟩
    have e := h1.fun_ K (hDx y hy)
    subst e
    have h4 := Dp.ups K j h1 h2
    rw [h3] at h4
    have h5 := h4.fun_ K (hid ▸ hDx x hx : Dp l id (g id))
    have h6 := T.deep y hy
    have h7 := hgt_ge K j (m := 40 - j) h1 h2
    rw [h3, show j + 1 + (40 - j) = 41 by omega] at h7
    omega
  have hS0 : ¬ S 0 := by
    rintro ⟨j, d, h1, h2, h3⟩
    have := h1.zero K
    subst this
    obtain rfl : j = 0 := by omega
    exact h0 h3.symm
  refine ⟨fun y => if S y then g y - g id + (g b.id + 1) else g y, ?_⟩
  have hmem : ∀ c, c ∈ movL l id b.id i ↔ ∃ y ∈ l, c = movB id b.id i y := fun c => by
    unfold movL
    rw [List.mem_map]
    exact ⟨fun ⟨y, h1, h2⟩ => ⟨y, h1, h2.symm⟩, fun ⟨y, h1, h2⟩ => ⟨y, h1, h2.symm⟩⟩
  have hkm : ∀ c k, k ∈ (movB id b.id i c).kids ↔ (c.id = b.id ∧ k = id) ∨ (k ∈ c.kids ∧ k ≠ id) := fun c k => by
    show k ∈ (if c.id = b.id then plusK (lessK c.kids id) i id else lessK c.kids id) ↔ _
    by_cases e : c.id = b.id
    · rw [if_pos e, plus_mem, less_mem]
      exact ⟨fun h => h.elim (fun h => .inl ⟨e, h⟩) .inr, fun h => h.elim (fun h => .inl h.2) .inr⟩
    · rw [if_neg e, less_mem]
      exact ⟨.inr, fun h => h.elim (fun h => absurd h.1 e) fun h => h⟩
  refine ⟨?_, fun c hc => ?_, by unfold movL; rw [List.length_map]; exact T.short, ?_, fun c hc => ?_, fun c hc k hkc => ?_, fun c hc => ?_, fun c hc hc0 => ?_, ?_, fun c hc => ?_⟩
  · exact List.pairwise_map.2 (T.rise.imp fun h => h)
  · obtain ⟨y, hy, rfl⟩ := (hmem c).1 hc
    exact T.ids y hy
  · obtain ⟨r, r', hl, a1, a2, a3, a4⟩ := T.root
    subst hl
    exact ⟨movB id b.id i r, r'.map (movB id b.id i), rfl, a1, by show (if r.id = id then b.id else r.parent) = 0; rw [if_neg (by omega), a2], a3, a4⟩
  · obtain ⟨y, hy, rfl⟩ := (hmem c).1 hc
    obtain ⟨a1, a2, a3⟩ := T.loc y hy
    refine ⟨a1, ?_, a3⟩
    show (if y.id = b.id then plusK (lessK y.kids id) i id else lessK y.kids id).length ≤ 500
    by_cases e : y.id = b.id
    · obtain rfl := T.inj hy hb e
      rw [if_pos rfl, plus_len]; omega
    · rw [if_neg e]
      exact Nat.le_trans (less_len _ _) a2
  · obtain ⟨y, hy, rfl⟩ := (hmem c).1 hc
    rcases (hkm y k).1 hkc with ⟨e, rfl⟩ | ⟨hk1, hne⟩
    · refine ⟨h0, _, (hmem _).2 ⟨x, hx, rfl⟩, hid.symm, ?_⟩
      show (if x.id = k then b.id else x.parent) = y.id
      rw [if_pos hid.symm, e]
    · obtain ⟨a1, z, hz, a2, a3⟩ := T.kid y hy k hk1
      refine ⟨a1, _, (hmem _).2 ⟨z, hz, rfl⟩, a2, ?_⟩
      show (if z.id = id then b.id else z.parent) = y.id
      rw [if_neg (by omega), a3]
  · obtain ⟨y, hy, rfl⟩ := (hmem c).1 hc
    show (if y.id = b.id then plusK (lessK y.kids id) i id else lessK y.kids id).Nodup
    split
    · exact plus_nodup (less_nodup (T.nod y hy) _) (fun h => ((less_mem _ _ _).1 h).2 rfl)
    · exact less_nodup (T.nod y hy) _
  · obtain ⟨y, hy, rfl⟩ := (hmem c).1 hc
    have hc0 : y.id ≠ 0 := hc0
    show ∃ c' ∈ movL l id b.id i, c'.id = (if y.id = id then b.id else y.parent) ∧ y.id ∈ c'.kids ∧ (if S y.id then g y.id - g id + (g b.id + 1) else g y.id) = (if S c'.id then g c'.id - g id + (g b.id + 1) else g c'.id) + 1
    by_cases e : y.id = id
    · rw [if_pos e, e, if_pos hSid]
      refine ⟨_, (hmem _).2 ⟨b, hb, rfl⟩, rfl, (hkm b id).2 (.inl ⟨rfl, rfl⟩), ?_⟩
      show _ = (if S b.id then _ else g b.id) + 1
      rw [if_neg hSb]; omega
    · rw [if_neg e]
      obtain ⟨d, hd', a1, a2, a3⟩ := T.par y hy hc0
      refine ⟨_, (hmem _).2 ⟨d, hd', rfl⟩, a1, (hkm d _).2 (.inr ⟨a2, e⟩), ?_⟩
      show _ = (if S d.id then g d.id - g id + (g b.id + 1) else g d.id) + 1
      have hs := hSk d hd' y.id a2 e
      by_cases h : S d.id
      · rw [if_pos h, if_pos (hs.2 h), a3]
        have := (hSg d hd' h).1
        omega
      · rw [if_neg h, if_neg (fun q => h (hs.1 q)), a3]
  · show (if S 0 then _ else g 0) = 0
    rw [if_neg hS0]; exact T.zero
  · obtain ⟨y, hy, rfl⟩ := (hmem c).1 hc
    show (if S y.id then g y.id - g id + (g b.id + 1) else g y.id) ≤ 40
    split
    · rename_i h
      have := (hSg y hy h).2
      omega
    · exact T.deep y hy
end
end Go.Proofs.YtmkicfjcgbfaaaaGreatDoor
namespace Go.Proofs.YtmkicfjcgbfaaaaGreatDoor
open Go.RowKit

/-- properties in a block of the call's own, which may be greater than the slice's room -/
def RowP (w : World) (base : Nat) (A : Option Addr) (c : Nat) (M : List (Pr × Value)) : Prop := M.length ≤ c ∧ ((A = none ∧ c = 0) ∨ ∃ g, A = some ⟨g, 0, none⟩ ∧ base ≤ g ∧ CRp w g M ∧ FRp w g c)
/-- what DeleteFunc leaves -/
def DelWR (M : List (Pr × Value)) (s : ByteArray) (A : Option Addr) (c base : Nat) (w : World) (e : Ending) (w' : World) : Prop := e = .returned (.slice A (keepP M s).length c) ∧ RowP w' base A c (keepP M s) ∧ w.grownBy w' (A.map Addr.block)

set_option maxRecDepth 100000 in
set_option maxHeartbeats 4000000 in
theorem delW_any (M : List (Pr × Value)) (A : Option Addr) (n c P base : Nat) (s : ByteArray) (w : World) (hown : RowP w base A c M) (hn : n = M.length) (hbig : n * 80 ≤ 140737488351232) (hB : base ≤ w.heap.size)
    (hP : P < base) (hPc : w.cell? ⟨P, 0, none⟩ = some (.string s)) (hrp : RPr w w.heap.size (.slice A n c) (M.map Prod.fst)) (hs1 : ∀ x ∈ M, ∃ A n c, x.2 = .slice A n c) :
    Calls Tryz.prog 123 #[.slice A n c, .func (.func 124) #[] #[.pointer (some ⟨P, 0, none⟩)]] w (DelWR M s A c base w) := by
  have hent : ∀ args w, (callFunc 124 args).run Tryz.prog w = .ok (.enter 124 args) w := enters_of Tryz.func124 (by kernel_rfl) rfl
  have hnc : n ≤ c := hrp.len.2.1
  have HI := Lib.hid (indexW_any (M.map Prod.fst) A n c P s w w.heap.size (Nat.le_refl _) (Nat.lt_of_lt_of_le hP hB) hPc hrp)
  have HFI := Lib.hid (nmFrom_first (M.map Prod.fst) s 0)
  obtain ⟨ii, hii⟩ : ∃ ii, ii = nmOf (M.map Prod.fst) s := ⟨_, rfl⟩
  have hii0 : ii = nmFrom (M.map Prod.fst) s 0 := hii
  rw [← hii] at HI
  rw [← hii0] at HFI
  have HO := Lib.hid hown
  have HN := Lib.hid hn
  have HPC := Lib.hid hPc
  have HS := Lib.hid hs1
  clear hown hn hPc hrp hs1 hii hii0
  go_enter Tryz.func123, Tryz.ntmps123
  go_wp2_with fail
  refine HI.out.mono ?_
  rintro e w1 ⟨rfl, hb1⟩
  have HB1 : Hid (∀ r, w.grownBy w1 r) := fun r => ⟨hb1.os, hb1.tape, hb1.output, hb1.size, fun k hk _ => hb1.block k hk⟩
  have HO1 : Hid (RowP w1 base A c M) := by
    refine ⟨HO.out.1, ?_⟩
    rcases HO.out.2 with h | ⟨g, h1, h2, h3, h4⟩
    · exact .inl h
    · exact .inr ⟨g, h1, h2, h3.below hb1 h4.lt, h4.below hb1 h4.lt⟩
  clear hb1 HI
  rcases HFI.out with ⟨hm1, hall⟩ | ⟨i0, x0, hm1, hx0, hx0s, hbef⟩
  · have HK : Hid (keepP M s = M) := keepP_all fun x hx => hall x.1 (List.mem_map_of_mem hx)
    clear hall HFI
    subst hm1
    go_wp2_with fail
    go_ret
    exact ⟨by rw [HK.out, ← HN.out]; rfl, by rw [HK.out]; exact HO1.out, HB1.out _⟩
  · obtain ⟨y0, hy0, rfl⟩ : ∃ y, M[i0]? = some y ∧ y.1 = x0 := by
      rw [List.getElem?_map] at hx0
      cases hm : M[i0]? with
      | none => rw [hm] at hx0; cases hx0
      | some y => rw [hm] at hx0; exact ⟨y, rfl, Option.some.inj hx0⟩
    have hi0 : i0 < n := by rw [HN.out]; exact (List.getElem?_eq_some_iff.1 hy0).1
    have HK0 : Hid (keepP (M.take (i0 + 1)) s = M.take i0) := by
      show _ = _
      rw [keepP_add hy0, if_pos hx0s]
      refine keepP_all fun x hx => hbef x.1 ?_
      rw [← List.map_take]; exact List.mem_map_of_mem hx
    rw [Nat.zero_add] at hm1
    subst hm1
    have hpos : 0 < n := Nat.lt_of_le_of_lt (Nat.zero_le _) hi0
    have hm1' : ((i0 : Int) == -1) = false := beq_eq_false_iff_ne.2 (by omega)
    obtain ⟨g, hA, hge, HCR, HFR⟩ : ∃ g, A = some ⟨g, 0, none⟩ ∧ base ≤ g ∧ Hid (CRp w1 g M) ∧ Hid (FRp w1 g c) := by
      rcases HO1.out.2 with h | ⟨g, h1, h2, h3, h4⟩
      · omega
      · exact ⟨g, h1, h2, h3, h4⟩
    subst hA
    clear hy0 hx0s hbef hx0 HFI HO HO1
    go_wp2_with fail
    go_loopg [5, 6] (n - (i0 + 1)) (fun gg s5 s6 wr => ∃ (i j : Nat) (Y : List (Pr × Value)), j + gg = n ∧ i < j ∧ s5 = .int .i64 (i : Int) ∧ s6 = .int .i64 (j : Int) ∧ Y.length = n ∧ Hid (Y.take i = keepP (M.take j) s) ∧ Hid (∀ k, j ≤ k → Y[k]? = M[k]?) ∧ Hid (CRp wr g Y) ∧ Hid (FRp wr g c) ∧ Hid (w.grownBy wr (some g)))
    case atStart => exact ⟨i0, i0 + 1, M, by omega, by omega, rfl, by go_num, HN.out.symm, HK0.out.symm, fun _ _ => rfl, HCR, HFR, HB1.out _⟩
    case round =>
      obtain ⟨i, j, Y, hjg, hij, rfl, rfl, hYn, hsub, htl, hCR, hFR, hgr⟩ := hrel
      have hbel : Hid (Below base w wr) := gb_base hgr.out hge hB
      have j0 : (0 : Int) ≤ (j : Int) := by omega
      have j3 : (0 : Int) ≤ (i : Int) := by omega
      have hgW := hFR.out.lt
      have hzB := hbel.out.size
      by_cases hj : j < n
      · obtain ⟨⟨x, xv⟩, hx⟩ : ∃ x, Y[j]? = some x := ⟨_, List.getElem?_eq_getElem (by omega)⟩
        have hxL : M[j]? = some (x, xv) := (htl.out j (Nat.le_refl _)).symm.trans hx
        obtain ⟨Ax, nx, cx, rfl⟩ : ∃ A n c, xv = .slice A n c := HS.out _ (List.mem_of_getElem? hxL)
        have hcc := hCR.out j _ hx
        have c0 : wr.cell? ⟨g, j * 6, none⟩ = some (.string x.name) := hcc 0 _ rfl
        have c1 : wr.cell? ⟨g, j * 6 + 1, none⟩ = some (.int .i64 x.val.kind) := hcc 1 _ rfl
        have c2 : wr.cell? ⟨g, j * 6 + 2, none⟩ = some (.int .i64 x.val.int_) := hcc 2 _ rfl
        have c3 : wr.cell? ⟨g, j * 6 + 3, none⟩ = some (.int .i64 x.val.to_) := hcc 3 _ rfl
        have c4 : wr.cell? ⟨g, j * 6 + 4, none⟩ = some (.string x.val.text) := hcc 4 _ rfl
        have c5 : wr.cell? ⟨g, j * 6 + 5, none⟩ = some (.slice Ax nx cx) := hcc 5 _ rfl
        have j1 : (j : Int) < (n : Int) := by omega
        have HX : Hid (∀ W, Below base w W → Calls _ _ _ W _) := fun W hW => wo1_any x (.slice Ax nx cx) P s W (Nat.lt_of_lt_of_le (Nat.lt_of_lt_of_le hP hB) hW.size) ((hW.cell (p := ⟨P, 0, none⟩) hP).trans HPC.out)
        dsimp only [AP] at HX
        have HKA := Lib.hid (keepP_add (s := s) hxL)
        dsimp only at HKA
        obtain ⟨q, hq⟩ : ∃ q, decide (x.name = s) = q := ⟨_, rfl⟩
        rw [hq] at HX
        have HQ := Lib.hid hq
        clear hx hxL hcc hq
        go_wp2_with fail
        refine (HX.out _ (hbel.out.alloc (by omega) _)).mono ?_
        rintro e w2 ⟨rfl, hb2⟩
        have hz2 := hb2.size
        simp only [World.size_alloc] at hz2
        have HB12 : Hid (Below wr.heap.size wr w2) := ((Below.refl _ _).alloc (Nat.le_refl _) _).trans (hb2.mono (by simp))
        have HG2 : Hid (w.grownBy w2 (some g)) := gb_below hgr.out HB12.out
        have HXB : Hid (Blk w2 wr.heap.size 129 #[.string x.name, .int .i64 x.val.kind, .int .i64 x.val.int_, .int .i64 x.val.to_, .string x.val.text, .slice Ax nx cx]) := (Blk.new wr _ _).below hb2 (by simp)
        have HCR2 := Lib.hid (hCR.out.below HB12.out hgW)
        have HFR2 := Lib.hid (hFR.out.below HB12.out hgW)
        clear hb2 c0 c1 c2 c3 c4 c5
        cases q
        · have x0 := HXB.out.cell 0
          have x1 := HXB.out.cell 1
          have x2 := HXB.out.cell 2
          have x3 := HXB.out.cell 3
          have x4 := HXB.out.cell 4
          have x5 := HXB.out.cell 5
          obtain ⟨⟨y, yv⟩, hy⟩ : ∃ y, Y[i]? = some y := ⟨_, List.getElem?_eq_getElem (by omega)⟩
          have hcc := HCR2.out i _ hy
          have c0 : w2.cell? ⟨g, i * 6, none⟩ = some (.string y.name) := hcc 0 _ rfl
          have c1 : w2.cell? ⟨g, i * 6 + 1, none⟩ = some (.int .i64 y.val.kind) := hcc 1 _ rfl
          have c2 : w2.cell? ⟨g, i * 6 + 2, none⟩ = some (.int .i64 y.val.int_) := hcc 2 _ rfl
          have c3 : w2.cell? ⟨g, i * 6 + 3, none⟩ = some (.int .i64 y.val.to_) := hcc 3 _ rfl
          have c4 : w2.cell? ⟨g, i * 6 + 4, none⟩ = some (.string y.val.text) := hcc 4 _ rfl
          have c5 : w2.cell? ⟨g, i * 6 + 5, none⟩ = some yv := hcc 5 _ rfl
          obtain ⟨cur, hcur, hcs⟩ := HFR2.out
          have f0 := hcur.frozen (i * 6)
          have f1 := hcur.frozen (i * 6 + 1)
          have f2 := hcur.frozen (i * 6 + 2)
          have f3 := hcur.frozen (i * 6 + 3)
          have f4 := hcur.frozen (i * 6 + 4)
          have f5 := hcur.frozen (i * 6 + 5)
          have j4 : (i : Int) < (n : Int) := by omega
          have hYi : i < Y.length := by omega
          have hic : i < c := by omega
          clear hy hcur hcs hcc
          go_wp2_with fail
          go_roundg (n - (j + 1))
          case measure => omega
          case rel =>
            refine ⟨i + 1, j + 1, Y.set i (x, .slice Ax nx cx), by omega, by omega, by go_num, by go_num, by simpa using hYn, ?_, fun k hk => ?_, HCR2.out.put HFR2.out hic (x, .slice Ax nx cx), HFR2.out.setCells (o := i * 6) (vs := prV (x, .slice Ax nx cx)), gb_setCells HG2.out (i * 6) (prV (x, .slice Ax nx cx))⟩
            · show _ = _
              have e1 : (Y.set i (x, Value.slice Ax nx cx)).take (i + 1) = Y.take i ++ [(x, .slice Ax nx cx)] := by
                rw [List.take_add_one, List.getElem?_set, if_pos rfl, if_pos hYi, List.take_set_of_le (Nat.le_refl _)]
                rfl
              rw [e1, HKA.out, if_neg (of_decide_eq_false HQ.out), hsub.out]
            · rw [List.getElem?_set, if_neg (by omega)]
              exact htl.out k (by omega)
        · go_wp2_with fail
          go_roundg (n - (j + 1))
          case measure => omega
          case rel => exact ⟨i, j + 1, Y, by omega, by omega, rfl, by go_num, hYn, (by show _ = _; rw [HKA.out, if_pos (of_decide_eq_true HQ.out)]; exact hsub.out), fun k hk => htl.out k (by omega), HCR2, HFR2, HG2⟩
      · obtain rfl : j = n := by omega
        have j4 : (i : Int) ≤ (j : Int) := by omega
        have j5 : (i : Int) ≤ (c : Int) := by omega
        have j5' : i ≤ c := by omega
        obtain ⟨cur, hcur, hcs⟩ := hFR.out
        have hclr := clearP_run wr g i j (c - i) cur hcur (by omega) hij
        obtain ⟨zs, hzs⟩ : ∃ zs, zs = (Builtin.zeroCells pZ.cells (j - i)).toList := ⟨_, rfl⟩
        rw [← hzs] at hclr
        have HCU := Lib.hid hcur
        have HCS := Lib.hid hcs
        clear hzs hcur hcs
        go_wp2_with fail
        go_ret
        have hF : Y.take i = keepP M s := by
          have := hsub.out
          rwa [HN.out, List.take_length] at this
        have hFl : (keepP M s).length = i := by rw [← hF, List.length_take]; omega
        have hcf : CRp wr g (keepP M s) := fun k x hx j u hu => by
          have hk := (List.getElem?_eq_some_iff.1 hx).1
          rw [← hF, List.getElem?_take, if_pos (by omega)] at hx
          exact hCR.out k x hx j u hu
        refine ⟨by rw [hFl]; rfl, ⟨by omega, .inr ⟨g, rfl, hge, fun k x hx j u hu => ?_, FRp.setCells ⟨cur, HCU.out, HCS.out⟩⟩⟩, gb_setCells hgr.out _ _⟩
        have hk := (List.getElem?_eq_some_iff.1 hx).1
        have hj := (List.getElem?_eq_some_iff.1 hu).1
        rw [prV_len] at hj
        exact (World.cell?_setCells_out g zs _ wr _ (fun _ _ => .inl (by show k * 6 + j < i * 6; omega))).trans (hcf k x hx j u hu)
end Go.Proofs.YtmkicfjcgbfaaaaGreatDoor
namespace Go.Proofs.YtmkicfjcgbfaaaaGreatDoor
open Go.RowKit

/-- what copying properties leaves -/
def CopyPO (l : List Pr) (w : World) (e : Ending) (w' : World) : Prop := (∃ (A : Option Addr) (L : List (Pr × Value)), e = .returned (.slice A L.length L.length) ∧ L.map Prod.fst = l ∧ RowP w' w.heap.size A L.length L ∧ ∀ x ∈ L, NP w' (fun b => w.heap.size ≤ b ∧ b < w'.heap.size ∧ A.map Addr.block ≠ some b) x) ∧ Below w.heap.size w w'
set_option maxRecDepth 100000 in
set_option maxHeartbeats 8000000 in
theorem copyPropsO_walk (M : List (Pr × Value)) (A : Option Addr) (n c : Nat) (w : World) (B : Nat) (hB : B ≤ w.heap.size) (h1 : Reads w B 6 A n (M.flatMap prV)) (hn : n = M.length) (hbig : n * 80 ≤ 140737488351232)
    (hs1 : ∀ x ∈ M, ∃ A n c, x.2 = .slice A n c)
    (hcl : ∀ x ∈ M, ∀ W, Below w.heap.size w W → Calls Tryz.prog 94 #[AV (x.1.val, x.2)] W (CopyR x.1.val W)) :
    Calls Tryz.prog 73 #[.slice A n c] w (CopyPO (M.map Prod.fst) w) := by
  obtain ⟨i0, hi, hq0, hq1, hq2⟩ := info_parts prop_info
  have H1 := Lib.hid h1
  have HN := Lib.hid hn
  have HC := Lib.hid hcl
  have S1 := Lib.hid hs1
  clear h1 hn hcl hs1
  have HS : Hid (OwnX prV 6 129 NP w w.heap.size (.slice none 0 0) []) := OwnX.start _ _
  go_enter Tryz.func73, Tryz.ntmps73
  go_wp2_with fail
  go_loopg [3, 8] n (fun gg s3 s8 wr => ∃ (k : Nat) (v : Value) (L : List (Pr × Value)), k + gg = n ∧ v = s3 ∧ s8 = .int .i64 (k : Int) ∧ Hid (L.map Prod.fst = (M.map Prod.fst).take k) ∧ Hid (OwnX prV 6 129 NP wr w.heap.size v L) ∧ Hid (Below w.heap.size w wr))
  case atStart => exact ⟨0, _, [], by omega, rfl, rfl, rfl, HS, Below.refl _ _⟩
  case round =>
    obtain ⟨k, v, L, hkg, rfl, rfl, hL, hown, hbel⟩ := hrel
    obtain ⟨W1, rfl⟩ : ∃ W1, W1 = wr := ⟨_, rfl⟩
    have hzr : w.heap.size ≤ W1.heap.size := hbel.out.size
    have HLL : Hid (L.length = k) := by
      show _ = _
      have := congrArg List.length hL.out
      rw [List.length_map, List.length_take, List.length_map, ← HN.out] at this
      omega
    by_cases hk : k < n
    · obtain ⟨y, hy⟩ : ∃ y, M[k]? = some y := ⟨_, List.getElem?_eq_getElem (by have := HN.out; omega)⟩
      obtain ⟨b, off, rfl, hbb, hc⟩ := H1.out.plain_at (by omega) prV_len HN.out hy
      have HLK : Hid ((M.map Prod.fst).take (k + 1) = (M.map Prod.fst).take k ++ [y.1]) := by
        show _ = _
        obtain ⟨hkk, e⟩ := List.getElem?_eq_some_iff.1 hy
        rw [List.take_succ_eq_append_getElem (by rw [List.length_map]; exact hkk), List.getElem_map, e]
      have HX := HC.out y (List.mem_of_getElem? hy)
      obtain ⟨⟨nm, ⟨kx, ix, tx, sx, lx⟩⟩, vx⟩ := y
      obtain ⟨Ax, nx, cx, rfl⟩ := S1.out _ (List.mem_of_getElem? hy)
      have g0 : W1.cell? ⟨b, off + k * 6, none⟩ = some (.string nm) := (hbel.out.cell (p := ⟨b, off + k * 6, none⟩) (by show b < _; omega)).trans (hc 0 _ rfl)
      have g1 : W1.cell? ⟨b, off + k * 6 + 1, none⟩ = some (.int .i64 kx) := (hbel.out.cell (p := ⟨b, off + k * 6 + 1, none⟩) (by show b < _; omega)).trans (hc 1 _ rfl)
      have g2 : W1.cell? ⟨b, off + k * 6 + 2, none⟩ = some (.int .i64 ix) := (hbel.out.cell (p := ⟨b, off + k * 6 + 2, none⟩) (by show b < _; omega)).trans (hc 2 _ rfl)
      have g3 : W1.cell? ⟨b, off + k * 6 + 3, none⟩ = some (.int .i64 tx) := (hbel.out.cell (p := ⟨b, off + k * 6 + 3, none⟩) (by show b < _; omega)).trans (hc 3 _ rfl)
      have g4 : W1.cell? ⟨b, off + k * 6 + 4, none⟩ = some (.string sx) := (hbel.out.cell (p := ⟨b, off + k * 6 + 4, none⟩) (by show b < _; omega)).trans (hc 4 _ rfl)
      have g5 : W1.cell? ⟨b, off + k * 6 + 5, none⟩ = some (.slice Ax nx cx) := (hbel.out.cell (p := ⟨b, off + k * 6 + 5, none⟩) (by show b < _; omega)).trans (hc 5 _ rfl)
      have j0 : (0 : Int) ≤ (k : Int) := by omega
      have j1 : (k : Int) < (n : Int) := by omega
      obtain ⟨wa, hwa⟩ : ∃ wa, wa = W1.alloc (.cells #[.string nm, .int .i64 kx, .int .i64 ix, .int .i64 tx, .string sx, .slice Ax nx cx] 129) := ⟨_, rfl⟩
      have hal : Below W1.heap.size W1 wa := by rw [hwa]; exact (Below.refl _ _).alloc (Nat.le_refl _) _
      have hza : W1.heap.size < wa.heap.size := by rw [hwa]; simp
      have q0 : Blk wa W1.heap.size 129 #[.string nm, .int .i64 kx, .int .i64 ix, .int .i64 tx, .string sx, .slice Ax nx cx] := by rw [hwa]; exact Blk.new _ _ _
      have d0 : wa.cell? ⟨W1.heap.size, 0, none⟩ = some (.string nm) := q0.cell 0
      have d1 : wa.cell? ⟨W1.heap.size, 1, none⟩ = some (.int .i64 kx) := q0.cell 1
      have d2 : wa.cell? ⟨W1.heap.size, 2, none⟩ = some (.int .i64 ix) := q0.cell 2
      have d3 : wa.cell? ⟨W1.heap.size, 3, none⟩ = some (.int .i64 tx) := q0.cell 3
      have d4 : wa.cell? ⟨W1.heap.size, 4, none⟩ = some (.string sx) := q0.cell 4
      have d5 : wa.cell? ⟨W1.heap.size, 5, none⟩ = some (.slice Ax nx cx) := q0.cell 5
      have HBA : Hid (Below w.heap.size w wa) := hbel.out.trans (hal.mono hbel.out.size)
      have HX' : Hid (∀ W, Below wa.heap.size wa W → Calls _ _ #[AV (Vl.mk kx ix tx sx lx, Value.slice Ax nx cx)] W _) := fun W hW => HX W (HBA.out.trans (hW.mono HBA.out.size))
      dsimp only [AV, Vl.kind, Vl.int_, Vl.to_, Vl.text] at HX'
      have HOA := Lib.hid (hown.out.below NP_ok hal)
      have HWA := Lib.hid hwa
      have hkb : (L.length + 1) * 80 ≤ 140737488355328 := by have := HLL.out; omega
      have hkm : L.length + 1 ≤ maxLen := by have := HLL.out; unfold maxLen; omega
      have hvw : ∀ g, v.ownBlock = some g → g < W1.heap.size := fun g hg => (hown.out.blocks g hg).2
      clear hy hc HX hwa hal q0
      go_upto_region 5 with fail
      rw [← HWA.out]
      clear g0 g1 g2 g3 g4 g5
      go_region_held3 (fun w' => w'.cell? ⟨W1.heap.size, 0, none⟩ = some (.string nm) ∧ w'.cell? ⟨W1.heap.size, 1, none⟩ = some (.int .i64 kx) ∧ w'.cell? ⟨W1.heap.size, 2, none⟩ = some (.int .i64 ix) ∧ w'.cell? ⟨W1.heap.size, 3, none⟩ = some (.int .i64 tx) ∧ w'.cell? ⟨W1.heap.size, 4, none⟩ = some (.string sx) ∧ w'.cell? ⟨W1.heap.size, 5, none⟩ = some (.slice Ax nx cx))
          (first | exact ⟨d0, d1, d2, d3, d4, d5⟩ | exact ⟨e0, e1, e2, e3, e4, e5⟩ | exact ⟨f0, f1, f2, f3, f4, f5⟩ | go_keep)
          (first | (go_at_call 94; refine (HX'.out wa.drew (Below.refl _ _).drew).mono ?_; rintro e w2 ⟨⟨A', n', c', rfl, hrv⟩, hb⟩; have hb : Below wa.heap.size wa w2 := (Below.refl wa.heap.size wa).drew.trans hb; have e0 := (hb.cell (p := ⟨W1.heap.size, 0, none⟩) hza).trans d0; have e1 := (hb.cell (p := ⟨W1.heap.size, 1, none⟩) hza).trans d1; have e2 := (hb.cell (p := ⟨W1.heap.size, 2, none⟩) hza).trans d2; have e3 := (hb.cell (p := ⟨W1.heap.size, 3, none⟩) hza).trans d3; have e4 := (hb.cell (p := ⟨W1.heap.size, 4, none⟩) hza).trans d4; have e5 := (hb.cell (p := ⟨W1.heap.size, 5, none⟩) hza).trans d5; have HBB := Lib.hid hb; have HRV := Lib.hid hrv; have HO2 := Lib.hid (HOA.out.below NP_ok hb); clear hb hrv; dsimp only [AV, Vl.kind, Vl.int_, Vl.to_, Vl.text]) | (refine step_append_any _ (by rfl) _ _ _ (by rfl) w.heap.size 129 i0 pZ 6 80 Tryz.underlying50 hi hq0 hq1 hq2 rfl (by decide) v L.length _ (by rfl) (HO2.out.own.alloc _) (w2.heap.size + 1) (some ⟨w2.heap.size, 0, none⟩) 1 1 (prV (⟨nm, Vl.mk kx ix tx sx lx⟩, Value.slice A' n' c')) (by rfl) (Reads.blk (Blk.new _ _ _) rfl) (prV_one _ ⟨_, _, _, rfl⟩) hkm hkb (by have := HBA.out.size; have := HBB.out.size; simp; omega) ?_; intro v' w3 hown3 hg3 hat3; have hkp : ∀ i, w3.cell? ⟨W1.heap.size, i, none⟩ = w2.cell? ⟨W1.heap.size, i, none⟩ := fun i => (World.cell?_of_block (hg3.block W1.heap.size (by have := HBB.out.size; simp; omega) (fun e => by have := hvw _ e.symm; omega))).trans (World.cell?_alloc_lt _ _ _ (by show W1.heap.size < w2.heap.size; have := HBB.out.size; omega)); have f0 := (hkp 0).trans e0; have f1 := (hkp 1).trans e1; have f2 := (hkp 2).trans e2; have f3 := (hkp 3).trans e3; have f4 := (hkp 4).trans e4; have f5 := (hkp 5).trans e5; clear hkp))
      have HO3 : Hid (OwnX prV 6 129 NP w3 w.heap.size v' (L ++ [(⟨nm, Vl.mk kx ix tx sx lx⟩, Value.slice A' n' c')])) := (HO2.out.below NP_ok ((Below.refl _ _).alloc (Nat.le_refl _) (.cells #[.string nm, .int .i64 kx, .int .i64 ix, .int .i64 tx, .string sx, .slice A' n' c'] 129))).app NP_ok (S := fun b => wa.heap.size ≤ b ∧ b < w2.heap.size) (HRV.out.keep fun p hp => World.cell?_alloc_lt _ _ _ hp.2) (fun b hb => ⟨by omega, by simp; omega, fun e => by have := hvw b e; omega⟩) hown3 hg3 hat3
      have HB3 : Hid (Below w.heap.size w w3) := ((HBA.out.trans (HBB.out.mono HBA.out.size)).alloc (by have := HBA.out.size; have := HBB.out.size; omega) _).grown hg3 (by have := HBA.out.size; have := HBB.out.size; simp; omega) (fun g hg => (hown.out.blocks g hg).1)
      have HL3 : Hid ((L ++ [((⟨nm, Vl.mk kx ix tx sx lx⟩ : Pr), Value.slice A' n' c')]).map Prod.fst = (M.map Prod.fst).take (k + 1)) := by
        show _ = _
        rw [List.map_append, hL.out, HLK.out]; rfl
      clear hown3 hg3 hat3 e0 e1 e2 e3 e4 e5
      go_wp2_with fail
      go_roundg (n - (k + 1))
      case measure => omega
      case rel => exact ⟨k + 1, v', _, by omega, rfl, by go_num, HL3, HO3, HB3⟩
    · obtain rfl : n = k := by omega
      obtain ⟨Ar, cr, rfl, hcr, hrd⟩ := RdX.of_own hown.out.own
      have HL' : Hid (L.map Prod.fst = M.map Prod.fst) := hL.out.trans (by rw [List.take_of_length_le (by rw [List.length_map, ← HN.out]; exact Nat.le_refl _)])
      obtain rfl : L.length = n := HLL.out
      have hnone : Ar = none → L.length = 0 ∧ cr = 0 := fun e => by
        rcases hown.out.own.2 with ⟨h, h0⟩ | ⟨g, cap, cur, h, _⟩
        · injection h with _ _ h2
          omega
        · injection h with h; rw [e] at h; cases h
      have HCL := Lib.hid fun W => clipP_any Ar L.length cr W hcr hnone
      have HRX : Hid (RowP W1 w.heap.size Ar L.length L) := by
        refine ⟨Nat.le_refl _, ?_⟩
        rcases hown.out.own.2 with ⟨h, h0⟩ | ⟨g, cap, cur, h, h2, h3, h4, h5, h6, h7⟩
        · injection h with ha h1 h2
          exact .inl ⟨ha, by omega⟩
        · injection h with h1 _ hc
          subst h1 hc
          refine .inr ⟨g, rfl, h2, fun k x hx j u hu => ?_, ⟨cur, h3, by omega⟩⟩
          have hk := (List.getElem?_eq_some_iff.1 hx).1
          have hj := (List.getElem?_eq_some_iff.1 hu).1
          rw [prV_len] at hj
          have h8 := fm_get prV 6 prV_len L k j x hx hj
          rw [Blk.cell (t := 129) (cs := cur) h3, ← hu, ← h8, ← h7, List.getElem?_take, if_pos (by omega)]; simp
      have HNX : Hid (∀ x ∈ L, NP W1 (fun b => w.heap.size ≤ b ∧ b < W1.heap.size ∧ Ar.map Addr.block ≠ some b) x) := fun x hx => by
        have := hown.out.nest x hx
        cases Ar <;> exact this
      clear hcr hrd hnone
      go_wp2_with fail
      refine (HCL.out _).mono ?_
      rintro e w4 ⟨rfl, rfl⟩
      go_wp2_with fail
      go_ret
      exact ⟨⟨Ar, L, rfl, HL'.out, HRX.out, HNX.out⟩, hbel.out⟩
/-- prop.CopyProps -/
theorem copyPropsO_any (A : Option Addr) (n c : Nat) (l : List Pr) (w : World) (B : Nat) (hB : B ≤ w.heap.size) (h : RPr w B (.slice A n c) l) :
    Calls Tryz.prog 73 #[.slice A n c] w (CopyPO l w) := by
  obtain ⟨A', n', c', M, rfl, e, h3, h4, h5, h6⟩ := h
  injection e with e1 e2 e3
  subst e1 e2 e3
  refine copyPropsO_walk M A n c w B hB h5 h3 h4.2 (fun z hz => (h6 z hz).slice) fun z hz W hW => ?_
  obtain ⟨d, hd⟩ := h6 z hz
  exact copyValue_any d (z.1.val, z.2) W B (Nat.le_trans hB hW.size) (hd.below (hW.mono hB))
end Go.Proofs.YtmkicfjcgbfaaaaGreatDoor
