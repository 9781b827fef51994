/-
  DERIVED. A base taken away block by block, and put in block by block, in plain Lean: the operations can be made, and what they lead to. Conditions: a base without error.
  A block put in at the end of a base's last way, in plain Lean: what the order becomes. Conditions: a base without error.
  An outline grafted into the empty base, in plain Lean. Conditions: lines whose depths step down by one at most.
  By an AI agent.
-/
import Derived.Test.YtmkicfjcgbfaaaaGreatDoorTc25
import Derived.Test.YtmkicfjcgbfaaaaGreatDoorTc29
import Derived.Test.YtmkicfjcgbfaaaaGreatDoorTc34
import Derived.Test.YtmkicfjcgbfaaaaGreatDoorTc27
import Derived.Test.YtmkicfjcgbfaaaaGreatDoorTc28
import Derived.Test.YtmkicfjcgbfaaaaGreatDoorTc16
import Derived.Test.YtmkicfjcgbfaaaaGreatDoorTc36
import Derived.Test.YtmkicfjcgbfaaaaGreatDoorTc26
namespace Go.Proofs.YtmkicfjcgbfaaaaGreatDoor
open Go.RowKit

section
variable {l : List Bl} {f : Int → Option Int} {S S' : Int → Bool} {h h' : Int → List Pr → List Pr}
theorem blkAt_mem (K : Kids l) {b : Bl} (hb : b ∈ l) : blkAt l b.id = b ∧ 0 ≤ posOf l b.id := by
  obtain ⟨p, hp⟩ := List.mem_iff_getElem?.1 hb
  have e := posOf_of K.rise hp
  exact ⟨blkAt_of e hp, by rw [e]; omega⟩
theorem noV_z : noV zV = true := by
  have e : (⟨#[]⟩ : ByteArray).toList = [] := ByteArray.toList_eq _
  simp [noV, zV, Vl.kind, Vl.int_, Vl.to_, Vl.text, Vl.items, e]
theorem emp_nil : (⟨#[]⟩ : ByteArray).toList.isEmpty = true := by rw [show (⟨#[]⟩ : ByteArray).toList = [] from ByteArray.toList_eq _]; rfl
/-! ### one operation -/
theorem sd_ins (L : List Bl) (id p : Int) (i : Nat) (s : ByteArray) : applied L ⟨1, id, p, (i : Int), 0, 0, s, ⟨#[]⟩, zV⟩ = insL L id p i s := rfl
theorem OkAll.cons {o : Opn} {os : List Opn} (G : Good l f) (he : opErr l f o = 0) (h : OkAll (applied l o) os) : OkAll l (o :: os) := (OkAll.one G he).app (ls := os) h
/-! ### taking away -/
/-! ### putting in -/
end
end Go.Proofs.YtmkicfjcgbfaaaaGreatDoor
namespace Go.Proofs.YtmkicfjcgbfaaaaGreatDoor
open Go.RowKit

section
variable {l : List Bl} {f : Int → Option Int} {g : Int → Nat}
theorem ins_err (G : Good l f) {y : Bl} (hy : y ∈ l) {id : Int} {i : Nat} {s : ByteArray} (hid : 1 ≤ id ∧ id ≤ 1000000) (hn : ∀ x ∈ l, x.id ≠ id) (hi : i ≤ y.kids.length) (hs : txErr s = 0) : opErr l f ⟨1, id, y.id, (i : Int), 0, 0, s, ⟨#[]⟩, zV⟩ = if 2000 ≤ l.length ∨ 500 ≤ y.kids.length then 14 else if 40 ≤ dF f y.id then 13 else 0 := by
  unfold opErr
  simp only [usedB, emp_nil, noV_z]
  rw [if_neg (by decide), if_neg (by simp), if_pos (by trivial)]
  unfold insErr
  simp only
  have hp := (blkAt_mem G.kids hy)
  have hnp : posOf l id = -1 := by
    rcases posOf_spec l id with ⟨e, _⟩ | ⟨p, b, _, hb, hbi, _⟩
    · exact e
    · exact absurd hbi (hn b (List.mem_of_getElem? hb))
  rw [if_neg (by omega), if_neg (by omega), if_neg (by omega), hp.1, if_neg (by omega), if_neg (by rw [hs]; decide)]
/-- each block is the last kid of the one ahead of it, the last one has none -/
def Way (l : List Bl) : List Int → Prop
  | [] => True
  | [x] => ∃ b ∈ l, b.id = x ∧ b.kids = []
  | x :: c :: r => (∃ b ∈ l, ∃ init, b.id = x ∧ b.kids = init ++ [c]) ∧ Way l (c :: r)
theorem Way.blk : ∀ {W : List Int} {j : Nat} {x : Int}, Way l W → W[j]? = some x → ∃ b ∈ l, b.id = x
  | [x], 0, y, ⟨b, hb, e, _⟩, h => ⟨b, hb, by rw [e]; simpa using h⟩
  | [x], j + 1, y, _, h => by simp at h
  | x :: c :: r, 0, y, ⟨⟨b, hb, _, e, _⟩, _⟩, h => ⟨b, hb, by rw [e]; simpa using h⟩
  | x :: c :: r, j + 1, y, ⟨_, h2⟩, h => Way.blk h2 (by simpa using h)
/-- a block on the way below another one -/
theorem Way.up (K : Kids l) : ∀ {W : List Int} {D : Nat} {x P : Int} {d : Nat}, Way l (x :: W) → (x :: W)[D]? = some P → Dp l x d → Dp l P (d + D) ∧ upN l D P = x
  | _, 0, x, P, d, _, h, hd => by
    obtain rfl : x = P := by simpa using h
    exact ⟨hd, rfl⟩
  | [], D + 1, x, P, d, _, h, _ => by simp at h
  | c :: r, D + 1, x, P, d, ⟨⟨b, hb, init, e, hk⟩, h2⟩, h, hd => by
    have hc : c ∈ b.kids := by rw [hk]; simp
    obtain ⟨h3, h4⟩ := Way.up K h2 (by simpa using h) (.step b d c (by rw [e]; exact hd) hb hc)
    refine ⟨by rw [show d + (D + 1) = d + 1 + D by omega]; exact h3, ?_⟩
    rw [upN_succ, h4, parOf_kid K hb hc, e]
theorem ins_blk {id P : Int} {i : Nat} {s : ByteArray} {b : Bl} (hb : b ∈ l) : (if b.id = P then b.withKids (plusK b.kids i id) else b) ∈ insL l id P i s := by
  unfold insL
  rw [insB_mem]
  exact .inr (upd_mem.2 ⟨b, hb, rfl⟩)
theorem ins_new {id P : Int} {i : Nat} {s : ByteArray} : (⟨id, P, [], s, []⟩ : Bl) ∈ insL l id P i s := by
  unfold insL
  rw [insB_mem]
  exact .inl rfl
theorem plusK_end (L : List Int) (n : Int) : plusK L L.length n = L ++ [n] := by
  unfold plusK
  rw [List.take_length, List.drop_length]
/-- a block that does not stand above the place -/
theorem ord_same (K : Kids l) {id P : Int} {i : Nat} {s : ByteArray} (K' : Kids (insL l id P i s)) : ∀ (n : Nat) {b : Bl} {d : Nat}, b ∈ l → Dp l b.id d → P ∉ b.id :: ord l n b.id → ord (insL l id P i s) n b.id = ord l n b.id
  | 0, _, _, _, _, _ => rfl
  | n + 1, b, d, hb, hd, hn => by
    have hne : b.id ≠ P := fun e => hn (by simp [e])
    have hb' : b ∈ insL l id P i s := by have := ins_blk (id := id) (P := P) (i := i) (s := s) hb; rwa [if_neg hne] at this
    rw [ord_blk K' n hb', ord_blk K n hb]
    rw [ord_blk K n hb] at hn
    refine flat_cong fun k hk => ?_
    have hdk : Dp l k (d + 1) := .step b d k hd hb hk
    obtain ⟨c, hc, rfl⟩ := hdk.mem K
    rw [ord_same K K' n hc hdk fun hm => hn (by
      refine List.mem_cons_of_mem _ (List.mem_flatMap.2 ⟨_, hk, hm⟩))]
where flat_cong : ∀ {L : List Int} {g g' : Int → List Int}, (∀ k ∈ L, k :: g k = k :: g' k) → (L.flatMap fun k => k :: g k) = L.flatMap fun k => k :: g' k
  | [], _, _, _ => rfl
  | a :: L, g, g', h => by rw [List.flatMap_cons, List.flatMap_cons, h a (by simp), flat_cong fun k hk => h k (by simp [hk])]
/-- the order of a base that grew at the end of its last way -/
theorem ord_way (K : Kids l) {id P : Int} {s : ByteArray} {p : Bl} (hp : p ∈ l) (hpP : p.id = P) (K' : Kids (insL l id P p.kids.length s)) (hid : ∀ b ∈ l, b.id ≠ id) : ∀ (D : Nat) (W : List Int) (n : Nat) {x : Int} {d : Nat}, Way l (x :: W) → (x :: W)[D]? = some P → Dp l x d → D < n → ord (insL l id P p.kids.length s) n x = ord l n x ++ [id]
  | 0, W, n, x, d, _, h, hd, hn => by
    obtain ⟨m, rfl⟩ : ∃ m, n = m + 1 := ⟨n - 1, by omega⟩
    obtain rfl : x = P := by simpa using h
    have h1 := ins_blk (id := id) (P := x) (i := p.kids.length) (s := s) hp
    rw [if_pos hpP, plusK_end] at h1
    have e1 := ord_blk K' m h1
    have e2 := ord_blk K m hp
    rw [show (p.withKids (p.kids ++ [id])).id = x from hpP, show (p.withKids (p.kids ++ [id])).kids = p.kids ++ [id] from rfl] at e1
    rw [hpP] at e2
    have e3 : ord (insL l id x p.kids.length s) m id = [] := by
      cases m with
      | zero => rfl
      | succ m => exact ord_blk K' m (ins_new (l := l) (id := id) (P := x) (i := p.kids.length) (s := s))
    rw [e1, e2, List.flatMap_append, List.flatMap_cons, List.flatMap_nil, List.append_nil, e3]
    congr 1
    refine ord_same.flat_cong fun k hk => ?_
    have hdk : Dp l k (d + 1) := .step p d k (by rw [hpP]; exact hd) hp hk
    obtain ⟨c, hc, rfl⟩ := hdk.mem K
    rw [ord_same K K' m hc hdk fun hm => ?_]
    rcases List.mem_cons.1 hm with e | hm
    · have := (e ▸ hd).fun_ K hdk
      omega
    · obtain ⟨j, hj, _⟩ := ord_mem K m hdk hm
      have := hj.fun_ K hd
      omega
  | D + 1, [], n, x, d, _, h, _, _ => by simp at h
  | D + 1, c :: W, n, x, d, ⟨⟨b, hb, init, e, hk⟩, h2⟩, h, hd, hn => by
    obtain ⟨m, rfl⟩ : ∃ m, n = m + 1 := ⟨n - 1, by omega⟩
    have hkc : c ∈ b.kids := by rw [hk]; simp
    have hdb : Dp l b.id d := by rw [e]; exact hd
    have hdc : Dp l c (d + 1) := .step b d c hdb hb hkc
    have hP : (c :: W)[D]? = some P := by simpa using h
    obtain ⟨u1, u2⟩ := Way.up K h2 hP hdc
    have hbP : b.id ≠ P := fun e' => by
      have := (e' ▸ hdb).fun_ K u1
      omega
    have hb' : b ∈ insL l id P p.kids.length s := by have := ins_blk (id := id) (P := P) (i := p.kids.length) (s := s) hb; rwa [if_neg hbP] at this
    have e1 := ord_blk K' m hb'
    have e2 := ord_blk K m hb
    rw [e] at e1 e2
    rw [e1, e2, hk, List.flatMap_append, List.flatMap_append, List.flatMap_cons, List.flatMap_nil, List.append_nil, List.flatMap_cons, List.flatMap_nil, List.append_nil, ord_way K hp hpP K' hid D W m h2 hP hdc (by omega), List.append_assoc]
    congr 1
    refine ord_same.flat_cong fun k hki => ?_
    have hkb : k ∈ b.kids := by rw [hk]; simp [hki]
    have hdk : Dp l k (d + 1) := .step b d k hdb hb hkb
    obtain ⟨a, ha, hak⟩ := hdk.mem K
    subst hak
    rw [ord_same K K' m ha hdk fun hm => ?_]
    have hj : ∃ j, Dp l P (d + 1 + j) ∧ upN l j P = a.id := by
      rcases List.mem_cons.1 hm with e' | hm
      · exact ⟨0, by rw [e']; exact hdk, e'⟩
      · obtain ⟨j, h1, h2⟩ := ord_mem K m hdk hm
        exact ⟨j + 1, h1, h2⟩
    obtain ⟨j, j1, j2⟩ := hj
    have hjd := j1.fun_ K u1
    obtain rfl : j = D := by omega
    have hac : a.id = c := j2.symm.trans u2
    have hnd := K.nod b hb
    rw [hk] at hnd
    exact (List.nodup_append.1 hnd).2.2 a.id hki c (by simp) hac
theorem Way.ins {id P : Int} {s : ByteArray} {p : Bl} (hp : p ∈ l) (hpP : p.id = P) : ∀ (D : Nat) (W : List Int), Way l W → W[D]? = some P → W.Nodup → Way (insL l id P p.kids.length s) (W.take (D + 1) ++ [id])
  | 0, [], _, h, _ => by simp at h
  | 0, x :: W, _, h, _ => by
    obtain rfl : x = P := by simpa using h
    refine ⟨⟨_, ins_blk hp, p.kids, ?_, ?_⟩, ⟨_, ins_new, rfl, rfl⟩⟩
    · rw [if_pos hpP]; exact hpP
    · rw [if_pos hpP, plusK_end]; rfl
  | D + 1, [], _, h, _ => by simp at h
  | D + 1, [x], _, h, _ => by simp at h
  | D + 1, x :: c :: r, ⟨⟨b, hb, init, e, hk⟩, h2⟩, h, hn => by
    have hP : (c :: r)[D]? = some P := by simpa using h
    have ih := Way.ins (id := id) (s := s) hp hpP D (c :: r) h2 hP (List.nodup_cons.1 hn).2
    have hbP : b.id ≠ P := fun e' => (List.nodup_cons.1 hn).1 (by rw [← e, e']; exact List.mem_of_getElem? hP)
    have hb' : b ∈ insL l id P p.kids.length s := by have := ins_blk (id := id) (P := P) (i := p.kids.length) (s := s) hb; rwa [if_neg hbP] at this
    exact ⟨⟨b, hb', init, e, hk⟩, ih⟩
end
end Go.Proofs.YtmkicfjcgbfaaaaGreatDoor
namespace Go.Proofs.YtmkicfjcgbfaaaaGreatDoor
open Go.RowKit

abbrev crW (ls : List (Int × ByteArray)) (k : Nat) : List Int := (grS ls 0 0 0 k).1
abbrev crC (ls : List (Int × ByteArray)) (k : Nat) : List Int := (grS ls 0 0 0 k).2.1
abbrev crO (ls : List (Int × ByteArray)) (k : Nat) : List Opn := (grS ls 0 0 0 k).2.2
/-- what stands behind some lines -/
structure CrI (ls : List (Int × ByteArray)) (k : Nat) (L : List Bl) (g : Int → Nat) : Prop where
  tree : Tree L g
  ids : ∀ b ∈ L, b.id ≤ (k : Int)
  way : ∃ r, crW ls k = 0 :: r ∧ Way L (0 :: r)
  dep : ∀ (j : Nat) (x : Int), (crW ls k)[j]? = some x → g x = j
  cnt : ∀ (j : Nat) (x : Int) (b : Bl), (crW ls k)[j]? = some x → b ∈ L → b.id = x → (crC ls k)[j]? = some (b.kids.length : Int)
  len : (crW ls k).length = (crC ls k).length
  ord : ord L 41 0 = (List.range k).map fun i : Nat => (i : Int) + 1
  txt : ∀ (i : Nat) (x : Int × ByteArray), i < k → ls[i]? = some x → (g ((i : Int) + 1) : Int) = x.1 + 1 ∧ ∃ b ∈ L, b.id = (i : Int) + 1 ∧ b.text = x.2
theorem crI_zero (ls : List (Int × ByteArray)) : CrI ls 0 [zB] (fun _ => 0) where
  tree := empty_tree
  ids b hb := by obtain rfl := List.mem_singleton.1 hb; exact Int.le_refl _
  way := ⟨[], rfl, zB, by simp, rfl, rfl⟩
  dep j x h := by
    cases j with
    | zero => rfl
    | succ j =>
      have h : ([0] : List Int)[j + 1]? = some x := h
      simp at h
  cnt j x b h hb _ := by
    obtain rfl := List.mem_singleton.1 hb
    cases j with
    | zero => rfl
    | succ j =>
      have h : ([0] : List Int)[j + 1]? = some x := h
      simp at h
  len := rfl
  ord := by
    have := ord_blk empty_tree.kids 40 (b := zB) (by simp)
    exact this
  txt i x h := absurd h (Nat.not_lt_zero _)
/-- one line more -/
theorem CrI.step {ls : List (Int × ByteArray)} {k : Nat} {L : List Bl} {g : Int → Nat} (I : CrI ls k L g) {f : Int → Option Int} (G : Good L f) {x : Int × ByteArray} (hx : ls[k]? = some x) (hD : 0 ≤ x.1 ∧ x.1 ≤ lastD ls k + 1) (hl1 : ((crW ls k).length : Int) = lastD ls k + 2) (hk : k < 2000) (htx : txErr x.2 = 0) :
    ∃ o, crO ls (k + 1) = crO ls k ++ [o] ∧ (opErr L f o = 0 ∨ opErr L f o = 13 ∨ opErr L f o = 14) ∧ (opErr L f o = 0 → ∃ g', CrI ls (k + 1) (applied L o) g') := by
  obtain ⟨D, hxD⟩ : ∃ D : Nat, x.1 = (D : Int) := ⟨x.1.toNat, by omega⟩
  have hlt : D < (crW ls k).length := by omega
  have hst := grS_step (i0 := 0) (pr := 0) (pl := 0) hx hxD
  have ew : crW ls (k + 1) = (crW ls k).take (D + 1) ++ [0 + 1 + (k : Int)] := congrArg Prod.fst hst
  have ec : crC ls (k + 1) = (((crC ls k).take (D + 1)).set D ((crC ls k).getD D 0 + 1)) ++ [0] := congrArg (fun s => s.2.1) hst
  have eo : crO ls (k + 1) = crO ls k ++ [inO (0 + 1 + (k : Int)) ((crW ls k).getD D 0) ((crC ls k).getD D 0) x.2] := congrArg (fun s => s.2.2) hst
  obtain ⟨P, hP⟩ : ∃ P, (crW ls k)[D]? = some P := ⟨_, List.getElem?_eq_getElem hlt⟩
  obtain ⟨r, hr, hway⟩ := I.way
  have hP' : (0 :: r)[D]? = some P := by rw [← hr]; exact hP
  obtain ⟨p, hpm, hpP⟩ := hway.blk hP'
  have hcnt := I.cnt D P p hP hpm hpP
  have e1 : (crW ls k).getD D 0 = P := by rw [List.getD_eq_getElem?_getD, hP]; rfl
  have e2 : (crC ls k).getD D 0 = (p.kids.length : Int) := by rw [List.getD_eq_getElem?_getD, hcnt]; rfl
  have e3 : (0 : Int) + 1 + (k : Int) = (k : Int) + 1 := by omega
  rw [e1, e2, e3] at eo
  rw [e3] at ew
  rw [e2] at ec
  have hnew : ∀ b ∈ L, b.id ≠ (k : Int) + 1 := fun b hb e => by have := I.ids b hb; omega
  have herr : opErr L f (inO ((k : Int) + 1) P (p.kids.length : Int) x.2) = if 2000 ≤ L.length ∨ 500 ≤ p.kids.length then 14 else if 40 ≤ dF f p.id then 13 else 0 := by
    rw [← hpP]
    exact ins_err G hpm (by omega) hnew (Nat.le_refl _) htx
  refine ⟨_, eo, ?_, fun he => ?_⟩
  · rw [herr]
    split
    · exact .inr (.inr rfl)
    · split
      · exact .inr (.inl rfl)
      · exact .inl rfl
  · rw [herr] at he
    have h1 : ¬ (2000 ≤ L.length ∨ 500 ≤ p.kids.length) := fun h => by rw [if_pos h] at he; omega
    rw [if_neg h1] at he
    have h2 : ¬ 40 ≤ dF f p.id := fun h => by rw [if_pos h] at he; omega
    have hdF : dF f p.id = (g p.id : Int) := by
      have := I.tree.depth G.dep hpm
      unfold dF
      rw [this]; rfl
    have hgp : g P = D := I.dep D P hP
    have ha : applied L (inO ((k : Int) + 1) P (p.kids.length : Int) x.2) = insL L ((k : Int) + 1) P p.kids.length x.2 := sd_ins L _ _ _ _
    have T' := I.tree.insert (id := (k : Int) + 1) (i := p.kids.length) (s := x.2) (by omega) hnew hpm hpP htx (by omega) (by omega) (by rw [hdF, hpP] at h2; omega)
    have hgP : P ≠ (k : Int) + 1 := fun e => hnew p hpm (hpP.trans e)
    have hgo : ∀ j y, (crW ls k)[j]? = some y → y ≠ (k : Int) + 1 := fun j y hy e => by
      obtain ⟨b, hb, hbe⟩ := hway.blk (j := j) (by rw [← hr]; exact hy)
      exact hnew b hb (hbe.trans e)
    have hnd : (crW ls k).Nodup := by
      refine List.pairwise_iff_getElem.2 fun i j hi hj hij e => ?_
      have a1 := I.dep i _ (List.getElem?_eq_getElem hi)
      have a2 := I.dep j _ (List.getElem?_eq_getElem hj)
      rw [e] at a1
      omega
    have hget : ∀ j y, (crW ls (k + 1))[j]? = some y → (j ≤ D ∧ (crW ls k)[j]? = some y) ∨ (j = D + 1 ∧ y = (k : Int) + 1) := fun j y hy => by
      rw [ew] at hy
      rcases Nat.lt_or_ge j (D + 1) with h | h
      · rw [List.getElem?_append_left (by rw [List.length_take]; omega), List.getElem?_take_of_lt h] at hy
        exact .inl ⟨by omega, hy⟩
      · rw [List.getElem?_append_right (by rw [List.length_take]; omega), List.length_take, Nat.min_eq_left (by omega)] at hy
        have hj : j - (D + 1) = 0 := by
          have := (List.getElem?_eq_some_iff.1 hy).1
          simpa using this
        rw [hj] at hy
        exact .inr ⟨by omega, by simpa using hy.symm⟩
    rw [ha]
    refine ⟨_, T', fun b hb => ?_, ?_, fun j y hy => ?_, fun j y b hy hb hbe => ?_, ?_, ?_, fun i z hi hz => ?_⟩
    · unfold insL at hb
      rcases (insB_mem _ _ _).1 hb with rfl | hb
      · show (k : Int) + 1 ≤ ((k + 1 : Nat) : Int)
        omega
      · obtain ⟨c, hc, rfl⟩ := upd_mem.1 hb
        have := I.ids c hc
        split
        · show c.id ≤ _
          omega
        · omega
    · have := Way.ins (id := (k : Int) + 1) (s := x.2) hpm hpP D (0 :: r) hway hP' (by rw [← hr]; exact hnd)
      rw [ew, hr]
      exact ⟨r.take D ++ [(k : Int) + 1], rfl, this⟩
    · rcases hget j y hy with ⟨_, h⟩ | ⟨rfl, rfl⟩
      · rw [if_neg (hgo j y h)]
        exact I.dep j y h
      · rw [if_pos rfl, hgp]
    · rw [ec]
      have hlc : (crC ls k).length = (crW ls k).length := I.len.symm
      rcases hget j y hy with ⟨hj, h⟩ | ⟨rfl, rfl⟩
      · rw [List.getElem?_append_left (by rw [List.length_set, List.length_take]; omega)]
        have hyn := hgo j y h
        unfold insL at hb
        rcases (insB_mem _ _ _).1 hb with rfl | hb
        · exact absurd hbe.symm hyn
        · obtain ⟨c, hc, rfl⟩ := upd_mem.1 hb
          have hci : c.id = y := by
            rw [← hbe]
            split <;> rfl
          have hc2 := I.cnt j y c h hc hci
          by_cases hjD : j = D
          · subst hjD
            rw [hP] at h
            obtain rfl := Option.some.inj h
            rw [List.getElem?_set_self (by rw [List.length_take]; omega), if_pos hci]
            obtain rfl := I.tree.inj hc hpm (hci.trans hpP.symm)
            show some _ = some (((plusK c.kids c.kids.length ((k : Int) + 1)).length : Nat) : Int)
            rw [plus_len]
            rfl
          · have hcP : c.id ≠ P := fun e => hjD (by
              have a1 := I.dep j y h
              rw [← hci, e, hgp] at a1
              omega)
            rw [List.getElem?_set_ne (by omega), List.getElem?_take_of_lt (by omega), if_neg hcP]
            exact hc2
      · unfold insL at hb
        rw [List.getElem?_append_right (by rw [List.length_set, List.length_take]; omega), List.length_set, List.length_take, Nat.min_eq_left (by omega), Nat.sub_self]
        rcases (insB_mem _ _ _).1 hb with rfl | hb
        · rfl
        · obtain ⟨c, hc, rfl⟩ := upd_mem.1 hb
          have hci : c.id = (k : Int) + 1 := by
            rw [← hbe]
            split <;> rfl
          exact absurd hci (hnew c hc)
    · rw [ew, ec, List.length_append, List.length_append, List.length_set, List.length_take, List.length_take, I.len]; rfl
    · rw [ord_way I.tree.kids hpm hpP T'.kids hnew D r 41 hway hP' .root (by have := hgp; rw [hdF, hpP] at h2; omega), I.ord, List.range_succ, List.map_append]; rfl
    · rcases Nat.lt_or_ge i k with h | h
      · obtain ⟨b1, b, hb, hbi, hbt⟩ := I.txt i z h hz
        have hne : (i : Int) + 1 ≠ (k : Int) + 1 := by omega
        refine ⟨by rw [if_neg hne]; exact b1, _, ins_blk hb, ?_, ?_⟩
        · split <;> exact hbi
        · split <;> exact hbt
      · obtain rfl : i = k := by omega
        rw [hx] at hz
        obtain rfl := Option.some.inj hz
        exact ⟨by rw [if_pos rfl, hgp, hxD]; rfl, _, ins_new, rfl, rfl⟩
end Go.Proofs.YtmkicfjcgbfaaaaGreatDoor
