/-
  DERIVED. The error of a base, in plain words; what a base without error is. Conditions: none.
  A base without error: what is below a block, and the way to a block. Plain law. Conditions: none.
  A base without error, another way to say it: each block but the root is among the kids of its parent. Plain law. Conditions: none.
  By an AI agent.
-/
import Derived.Test.YtmkicfjcgbfaaaaGreatTe15
import Derived.Test.YtmkicfjcgbfaaaaGreatTe08
import Derived.Test.YtmkicfjcgbfaaaaGreatTe09
namespace Go.Proofs.YtmkicfjcgbfaaaaGreat

/-- the error of blocks behind another -/
def blksErr : Option Bl → List Bl → Int
  | _, [] => 0
  | p, x :: l => if blkErr p x ≠ 0 then blkErr p x else blksErr (some x) l
theorem blksErr_at {l : List Bl} {k : Nat} {x : Bl} (h : l[k]? = some x) : blksErr (prevB l k) (l.drop k) = if blkErr (prevB l k) x ≠ 0 then blkErr (prevB l k) x else blksErr (prevB l (k + 1)) (l.drop (k + 1)) := by
  rw [prevB_succ h]
  obtain ⟨hk, e⟩ := List.getElem?_eq_some_iff.1 h
  rw [List.drop_eq_getElem_cons hk, blksErr, e]
/-- the error of a base; f says how deep its blocks are -/
def baseE (l : List Bl) (f : Int → Option Int) : Int :=
  if l.length = 0 then 1 else if 2000 < l.length then 4 else if blksErr none l ≠ 0 then blksErr none l else if allKids l l ≠ 0 then allKids l l else lvlE f l

theorem blks_zero {l : List Bl} (h : blksErr none l = 0) : ∀ (k : Nat) (x : Bl), l[k]? = some x → blkErr (prevB l k) x = 0 := by
  have key : ∀ k, k ≤ l.length → blksErr (prevB l k) (l.drop k) = 0 := by
    intro k
    induction k with
    | zero => intro _; exact h
    | succ k ih =>
      intro hk
      have := ih (by omega)
      rw [blksErr_at (List.getElem?_eq_getElem (by omega : k < l.length))] at this
      split at this
      · rename_i h1; exact absurd this h1
      · exact this
  intro k x hx
  have hk := (List.getElem?_eq_some_iff.1 hx).1
  have := key k (by omega)
  rw [blksErr_at hx] at this
  split at this
  · exact this
  · rename_i h1
    exact Decidable.byContradiction fun h2 => h1 h2
theorem blkErr_zero {p : Option Bl} {x : Bl} (h : blkErr p x = 0) : rngB p x = false ∧ ordB p x = false ∧ rootB p x = false ∧ txErr x.text = 0 ∧ x.kids.length ≤ 500 ∧ cpErr x.props = 0 := by
  unfold blkErr at h
  cases h1 : rngB p x
  · cases h2 : ordB p x
    · cases h3 : rootB p x
      · rw [h1, h2, h3, if_neg (by decide), if_neg (by decide), if_neg (by decide)] at h
        by_cases h4 : txErr x.text = 0
        · rw [if_neg (fun e => e h4)] at h
          by_cases h5 : 500 < x.kids.length
          · rw [if_pos h5] at h; omega
          · rw [if_neg h5] at h
            exact ⟨rfl, rfl, rfl, h4, by omega, h⟩
        · rw [if_pos h4] at h; exact absurd h h4
      · rw [h1, h2, h3, if_neg (by decide), if_neg (by decide), if_pos rfl] at h; omega
    · rw [h1, h2, if_neg (by decide), if_pos rfl] at h; omega
  · rw [h1, if_pos rfl] at h; omega
theorem rise_of {l : List Bl} (h : blksErr none l = 0) : Rise l := by
  have step : ∀ (k : Nat) (x y : Bl), l[k]? = some x → l[k + 1]? = some y → x.id < y.id := by
    intro k x y hx hy
    obtain ⟨_, h2, _⟩ := blkErr_zero (blks_zero h _ _ hy)
    rw [prevB_succ hx] at h2
    have := of_decide_eq_false h2
    omega
  intro i j
  induction j with
  | zero => intro x y hij; omega
  | succ j ih =>
    intro x y hij hx hy
    have hj : j < l.length := by have := (List.getElem?_eq_some_iff.1 hy).1; omega
    have hz := List.getElem?_eq_getElem hj
    have h1 := step j _ y hz hy
    rcases Nat.lt_succ_iff_lt_or_eq.1 hij with g | g
    · have := ih x _ g hx hz; omega
    · subst g
      rw [hx] at hz
      obtain rfl := Option.some.inj hz
      exact h1
theorem ids_of {l : List Bl} (h : blksErr none l = 0) : IdsIn l := by
  intro x hx
  obtain ⟨k, hk, rfl⟩ := List.mem_iff_getElem.1 hx
  obtain ⟨h1, _⟩ := blkErr_zero (blks_zero h _ _ (List.getElem?_eq_getElem hk))
  rcases k with _ | k
  · have h1 : (l[0].id != 0) = false := h1
    have : l[0].id = 0 := by simpa using h1
    omega
  · rw [prevB_succ (List.getElem?_eq_getElem (by omega : k < l.length))] at h1
    have h1 : (decide (l[k + 1].id < 1) || decide (1000000 < l[k + 1].id)) = false := h1
    rw [Bool.or_eq_false_iff, decide_eq_false_iff_not, decide_eq_false_iff_not] at h1
    omega
theorem kidE_zero {l : List Bl} {bid : Int} {seen : List Int} {k : Int} (h : kidE l bid seen k = 0) : k ≠ 0 ∧ (∃ y ∈ l, y.id = k ∧ y.parent = bid) ∧ k ∉ seen := by
  rcases kidE_ways l bid seen k with ⟨_, h2⟩ | ⟨p, y, h1, h2, h3, ⟨h4, h5⟩ | ⟨h4, h5⟩⟩
  · omega
  · omega
  · rw [Bool.or_eq_false_iff] at h4
    refine ⟨by simpa using h4.2, ⟨y, List.mem_of_getElem? h2, h3, by simpa using h4.1⟩, ?_⟩
    rw [h5] at h
    intro hk
    rw [if_pos (by simpa using hk)] at h
    omega
theorem kids_zero {l : List Bl} {bid : Int} {kids : List Int} (h : kidsE l bid [] kids = 0) : ∀ (j : Nat) (k : Int), kids[j]? = some k → kidE l bid (kids.take j) k = 0 := by
  have key : ∀ j, j ≤ kids.length → kidsE l bid (kids.take j) (kids.drop j) = 0 := by
    intro j
    induction j with
    | zero => intro _; exact h
    | succ j ih =>
      intro hj
      have := ih (by omega)
      rw [kidsE_at (List.getElem?_eq_getElem (by omega : j < kids.length))] at this
      split at this
      · rename_i h1; exact absurd this h1
      · exact this
  intro j k hk
  have hj := (List.getElem?_eq_some_iff.1 hk).1
  have := key j (by omega)
  rw [kidsE_at hk] at this
  split at this
  · exact this
  · rename_i h1
    exact Decidable.byContradiction fun h2 => h1 h2
theorem nodup_of_take : ∀ {kids : List Int}, (∀ (j : Nat) (k : Int), kids[j]? = some k → k ∉ kids.take j) → kids.Nodup := by
  intro kids h
  rw [List.nodup_iff_pairwise_ne, List.pairwise_iff_getElem]
  intro i j hi hj hij e
  refine h j kids[j] (List.getElem?_eq_getElem hj) ?_
  rw [← e, List.mem_take_iff_getElem]
  exact ⟨i, by omega, rfl⟩
theorem allKids_zero {l : List Bl} : ∀ {M : List Bl}, allKids l M = 0 → ∀ b ∈ M, kidsE l b.id [] b.kids = 0
  | [], _, b, hb => by cases hb
  | x :: M, h, b, hb => by
    rw [allKids] at h
    split at h
    · rename_i h1; exact absurd h h1
    · rename_i h1
      rcases List.mem_cons.1 hb with rfl | hb
      · exact Decidable.byContradiction fun h2 => h1 h2
      · exact allKids_zero h b hb
theorem root_id {l : List Bl} (h : blksErr none l = 0) {r : Bl} (hr : l[0]? = some r) : r.id = 0 := by
  obtain ⟨e1, _⟩ := blkErr_zero (blks_zero h _ _ hr)
  have e1 : (r.id != 0) = false := e1
  simpa using e1
theorem zero_iff {l : List Bl} (h : blksErr none l = 0) {p : Nat} {y : Bl} (hy : l[p]? = some y) : ((p : Int) == 0) = (y.id == 0) := by
  rw [Bool.eq_iff_iff, beq_iff_eq, beq_iff_eq]
  have hp := (List.getElem?_eq_some_iff.1 hy).1
  have hr := List.getElem?_eq_getElem (by omega : 0 < l.length)
  have h0 := root_id h hr
  constructor
  · intro e
    obtain rfl : p = 0 := by omega
    exact root_id h hy
  · intro e
    rcases Nat.eq_zero_or_pos p with g | g
    · omega
    · have := rise_of h 0 p _ _ g hr hy
      omega
/-- a base whose blocks and kids have no error -/
theorem kids_of {l : List Bl} (h0 : l.length ≠ 0) (h1 : ¬ 2000 < l.length) (h2 : blksErr none l = 0) (h3 : allKids l l = 0) : Kids l where
  rise := rise_of h2
  ids := ids_of h2
  root := by
    have hx := List.getElem?_eq_getElem (by omega : 0 < l.length)
    obtain ⟨e1, _, e3, _⟩ := blkErr_zero (blks_zero h2 _ _ hx)
    have e1 : (l[0].id != 0) = false := e1
    have e3 : (!l[0].text.toList.isEmpty || decide (0 < l[0].props.length) || (l[0].parent != 0)) = false := e3
    rw [Bool.or_eq_false_iff] at e3
    exact ⟨_, hx, by simpa using e1, by simpa using e3.2⟩
  kid b hb k hk := by
    obtain ⟨j, hj, rfl⟩ := List.mem_iff_getElem.1 hk
    obtain ⟨a1, a2, _⟩ := kidE_zero (kids_zero (allKids_zero h3 b hb) j _ (List.getElem?_eq_getElem hj))
    exact ⟨a1, a2⟩
  nod b hb := nodup_of_take fun j k hk => (kidE_zero (kids_zero (allKids_zero h3 b hb) j k hk)).2.2
  short := by omega
  few b hb := by
    obtain ⟨k, hk, rfl⟩ := List.mem_iff_getElem.1 hb
    exact (blkErr_zero (blks_zero h2 _ _ (List.getElem?_eq_getElem hk))).2.2.2.2.1
/-- f says how deep the blocks are, if the kids are right -/
def DepOk (l : List Bl) (f : Int → Option Int) : Prop := Kids l → IsDep l f
theorem DepOk.exists (l : List Bl) : ∃ f, DepOk l f := by
  by_cases K : Kids l
  · obtain ⟨f, hf⟩ := IsDep.exists K
    exact ⟨f, fun _ => hf⟩
  · exact ⟨fun _ => none, fun h => absurd h K⟩
end Go.Proofs.YtmkicfjcgbfaaaaGreat
namespace Go.Proofs.YtmkicfjcgbfaaaaGreat

/-- a base without error; f says how deep its blocks are -/
structure Good (l : List Bl) (f : Int → Option Int) : Prop where
  kids : Kids l
  dep : IsDep l f
  all : ∀ x ∈ l, ∃ d : Nat, f x.id = some (d : Int) ∧ d ≤ 40
  blk : ∀ (k : Nat) (x : Bl), l[k]? = some x → blkErr (prevB l k) x = 0
theorem lvlE_zero {l : List Bl} {f : Int → Option Int} (hf : IsDep l f) : ∀ {M : List Bl}, lvlE f M = 0 → ∀ x ∈ M, ∃ d : Nat, f x.id = some (d : Int) ∧ d ≤ 40
  | [], _, x, hx => by cases hx
  | a :: M, h, x, hx => by
    rw [lvlE] at h
    cases hfa : f a.id with
    | none => rw [hfa, if_pos rfl] at h; omega
    | some d =>
      rw [hfa, if_neg (by simp)] at h
      by_cases hd : 40 < d
      · rw [Option.getD_some, if_pos hd] at h; omega
      · rw [Option.getD_some, if_neg hd] at h
        rcases List.mem_cons.1 hx with rfl | hx
        · obtain ⟨n, rfl, _⟩ := (hf _ _).1 hfa
          exact ⟨n, hfa, by omega⟩
        · exact lvlE_zero hf h x hx
theorem good_of {l : List Bl} {f : Int → Option Int} (h : baseE l f = 0) (hf : DepOk l f) : Good l f := by
  unfold baseE at h
  by_cases h0 : l.length = 0
  · rw [if_pos h0] at h; omega
  rw [if_neg h0] at h
  by_cases h1 : 2000 < l.length
  · rw [if_pos h1] at h; omega
  rw [if_neg h1] at h
  by_cases h2 : blksErr none l = 0
  case neg => rw [if_pos h2] at h; exact absurd h h2
  rw [if_neg (fun e => e h2)] at h
  by_cases h3 : allKids l l = 0
  case neg => rw [if_pos h3] at h; exact absurd h h3
  rw [if_neg (fun e => e h3)] at h
  have K := kids_of h0 h1 h2 h3
  exact ⟨K, hf K, lvlE_zero (hf K) h, blks_zero h2⟩
section
variable {l : List Bl} {f : Int → Option Int}
theorem Good.dp (G : Good l f) {x : Bl} (hx : x ∈ l) : ∃ d : Nat, f x.id = some (d : Int) ∧ Dp l x.id d ∧ d ≤ 40 := by
  obtain ⟨d, h1, h2⟩ := G.all x hx
  obtain ⟨n, e, h3⟩ := (G.dep _ _).1 h1
  obtain rfl : d = n := by omega
  exact ⟨d, h1, h3, h2⟩
theorem Good.low (G : Good l f) {id : Int} {d : Nat} (h : Dp l id d) : d ≤ 40 := by
  obtain ⟨y, hy, e⟩ := h.mem G.kids
  obtain ⟨d', h1, h2, h3⟩ := G.dp hy
  rw [e] at h2
  rw [h.fun_ G.kids h2]; exact h3
/-- the parent of the block with an id -/
def parOf (l : List Bl) (id : Int) : Int := parAt l (posOf l id)
theorem parOf_eq (K : Kids l) {y : Bl} (hy : y ∈ l) : parOf l y.id = y.parent := by
  obtain ⟨p, hp, e⟩ := List.mem_iff_getElem.1 hy
  have h : l[p]? = some y := by rw [List.getElem?_eq_getElem hp, e]
  unfold parOf parAt
  rw [posOf_of K.rise h, Int.toNat_natCast, h]
theorem parOf_kid (K : Kids l) {b : Bl} (hb : b ∈ l) {k : Int} (hk : k ∈ b.kids) : parOf l k = b.id := by
  obtain ⟨_, y, hy, e1, e2⟩ := K.kid b hb k hk
  rw [← e1, parOf_eq K hy, e2]
/-- the block with an id -/
theorem Dp.blk (K : Kids l) {id : Int} {d : Nat} (h : Dp l id d) : ∃ (p : Nat) (b : Bl), posOf l id = (p : Int) ∧ l[p]? = some b ∧ b.id = id := by
  obtain ⟨b, hb, e⟩ := h.mem K
  obtain ⟨p, hp, e'⟩ := List.mem_iff_getElem.1 hb
  have h : l[p]? = some b := by rw [List.getElem?_eq_getElem hp, e']
  exact ⟨p, b, by rw [← e]; exact posOf_of K.rise h, h, e⟩
/-- the ids of all blocks below one, each ahead of its kids -/
def ord (l : List Bl) : Nat → Int → List Int
  | 0, _ => []
  | n + 1, id => match l[(posOf l id).toNat]? with
    | some b => b.kids.flatMap fun k => k :: ord l n k
    | none => []
theorem ord_at {id : Int} {p : Nat} {b : Bl} (hp : posOf l id = (p : Int)) (hb : l[p]? = some b) (n : Nat) : ord l (n + 1) id = b.kids.flatMap fun k => k :: ord l n k := by
  rw [ord, hp, Int.toNat_natCast, hb]
def upN (l : List Bl) : Nat → Int → Int
  | 0, x => x
  | j + 1, x => upN l j (parOf l x)
theorem upN_succ : ∀ (j : Nat) (x : Int), upN l (j + 1) x = parOf l (upN l j x)
  | 0, _ => rfl
  | j + 1, x => by
    show upN l (j + 1) (parOf l x) = _
    rw [upN_succ j]; rfl
theorem ord_mem (K : Kids l) : ∀ (n : Nat) {id : Int} {d : Nat} {x : Int}, Dp l id d → x ∈ ord l n id → ∃ j, Dp l x (d + (j + 1)) ∧ upN l (j + 1) x = id
  | 0, _, _, _, _, h => by cases h
  | n + 1, id, d, x, hd, h => by
    obtain ⟨p, b, h1, h2, h3⟩ := hd.blk K
    have hb := List.mem_of_getElem? h2
    rw [ord_at h1 h2, List.mem_flatMap] at h
    obtain ⟨k, hk, hx⟩ := h
    have hdk : Dp l k (d + 1) := .step b d k (h3 ▸ hd) hb hk
    rcases List.mem_cons.1 hx with rfl | hx
    · exact ⟨0, hdk, (parOf_kid K hb hk).trans h3⟩
    · obtain ⟨j, h4, h5⟩ := ord_mem K n hdk hx
      refine ⟨j + 1, by rw [show d + (j + 1 + 1) = d + 1 + (j + 1) by omega]; exact h4, ?_⟩
      rw [upN_succ, h5, parOf_kid K hb hk, h3]
theorem ord_nodup (K : Kids l) : ∀ (n : Nat) {id : Int} {d : Nat}, Dp l id d → (ord l n id).Nodup
  | 0, _, _, _ => List.nodup_nil
  | n + 1, id, d, hd => by
    obtain ⟨p, b, h1, h2, h3⟩ := hd.blk K
    have hb := List.mem_of_getElem? h2
    rw [ord_at h1 h2]
    have part : ∀ k ∈ b.kids, ∀ x ∈ k :: ord l n k, ∃ j, Dp l x (d + 1 + j) ∧ upN l j x = k := fun k hk x hx => by
      have hdk : Dp l k (d + 1) := .step b d k (h3 ▸ hd) hb hk
      rcases List.mem_cons.1 hx with rfl | hx
      · exact ⟨0, hdk, rfl⟩
      · obtain ⟨j, h4, h5⟩ := ord_mem K n hdk hx
        exact ⟨j + 1, h4, h5⟩
    unfold List.Nodup
    rw [List.pairwise_flatMap]
    refine ⟨fun k hk => ?_, ?_⟩
    · have hdk : Dp l k (d + 1) := .step b d k (h3 ▸ hd) hb hk
      refine List.nodup_cons.2 ⟨fun hm => ?_, ord_nodup K n hdk⟩
      obtain ⟨j, h4, _⟩ := ord_mem K n hdk hm
      have := h4.fun_ K hdk
      omega
    · refine List.Pairwise.imp_of_mem ?_ (K.nod b hb)
      intro k1 k2 hk1 hk2 hne x hx y hy e
      subst e
      obtain ⟨j1, a1, a2⟩ := part k1 hk1 x hx
      obtain ⟨j2, b1, b2⟩ := part k2 hk2 x hy
      have := a1.fun_ K b1
      obtain rfl : j1 = j2 := by omega
      exact hne (a2.symm.trans b2)
theorem nodup_short : ∀ {L M : List Int}, L.Nodup → (∀ x ∈ L, x ∈ M) → L.length ≤ M.length
  | [], _, _, _ => Nat.zero_le _
  | a :: L, M, h, hm => by
    have ha := hm a (by simp)
    have hn := List.nodup_cons.1 h
    have := nodup_short (M := M.erase a) hn.2 fun x hx => by
      rw [List.mem_erase_of_ne (fun e => hn.1 (by rw [← e]; exact hx))]
      exact hm x (by simp [hx])
    rw [List.length_erase_of_mem ha] at this
    have := List.length_pos_of_mem ha
    rw [List.length_cons]
    omega
theorem ord_short (K : Kids l) (n : Nat) {id : Int} {d : Nat} (hd : Dp l id d) : (ord l n id).length ≤ l.length := by
  have := nodup_short (M := l.map (·.id)) (ord_nodup K n hd) fun x hx => by
    obtain ⟨j, h, _⟩ := ord_mem K n hd hx
    obtain ⟨y, hy, e⟩ := h.mem K
    exact List.mem_map.2 ⟨y, hy, e⟩
  rwa [List.length_map] at this
theorem ord_i64 (K : Kids l) (n : Nat) {id : Int} {d : Nat} (hd : Dp l id d) : ∀ x ∈ ord l n id, I64 x := fun x hx => by
  obtain ⟨j, h, _⟩ := ord_mem K n hd hx
  obtain ⟨y, hy, rfl⟩ := h.mem K
  have := K.ids y hy
  unfold I64; omega
theorem flat_take_le (g : Int → List Int) (ks : List Int) (j : Nat) : ((ks.take j).flatMap g).length ≤ (ks.flatMap g).length := by
  rw [← List.take_append_drop j ks, List.flatMap_append, List.length_append, List.take_append_drop]
  omega
/-- the blocks from the page of a block to it -/
def pth (l : List Bl) : Nat → Int → List Int
  | 0, _ => []
  | d + 1, id => pth l d (parOf l id) ++ [id]
theorem pth_len : ∀ (d : Nat) (id : Int), (pth l d id).length = d
  | 0, _ => rfl
  | d + 1, id => by rw [pth, List.length_append, pth_len d]; rfl
theorem Dp.up (K : Kids l) {id : Int} {d : Nat} (h : Dp l id (d + 1)) : id ≠ 0 ∧ Dp l (parOf l id) d := by
  generalize hn : d + 1 = n at h
  cases h with
  | root => omega
  | step b d' k h hb hk =>
    obtain rfl : d = d' := by omega
    rw [parOf_kid K hb hk]
    exact ⟨(K.kid b hb _ hk).1, h⟩
theorem Dp.zero_iff (K : Kids l) {id : Int} {d : Nat} (h : Dp l id d) : id = 0 ↔ d = 0 := by
  constructor
  · rintro rfl; exact h.zero K
  · rintro rfl
    generalize hn : (0 : Nat) = n at h
    cases h with
    | root => rfl
    | step b d' k h hb hk => omega
theorem pth_i64 (K : Kids l) : ∀ {d : Nat} {id : Int}, Dp l id d → ∀ x ∈ pth l d id, I64 x
  | 0, _, _, x, hx => by cases hx
  | d + 1, id, h, x, hx => by
    rw [pth, List.mem_append] at hx
    rcases hx with hx | hx
    · exact pth_i64 K (h.up K).2 x hx
    · obtain rfl : x = id := by simpa using hx
      obtain ⟨y, hy, rfl⟩ := h.mem K
      have := K.ids y hy
      unfold I64; omega
end
end Go.Proofs.YtmkicfjcgbfaaaaGreat
namespace Go.Proofs.YtmkicfjcgbfaaaaGreat

theorem rise_iff {l : List Bl} : Rise l ↔ l.Pairwise (fun x y => x.id < y.id) := by
  rw [List.pairwise_iff_getElem]
  constructor
  · intro h i j hi hj hij
    exact h i j _ _ hij (List.getElem?_eq_getElem hi) (List.getElem?_eq_getElem hj)
  · intro h i j x y hij hx hy
    obtain ⟨hi, rfl⟩ := List.getElem?_eq_some_iff.1 hx
    obtain ⟨hj, rfl⟩ := List.getElem?_eq_some_iff.1 hy
    exact h i j hi hj hij

/-- a base without error; g says how deep its blocks are -/
structure Tree (l : List Bl) (g : Int → Nat) : Prop where
  rise : l.Pairwise (fun x y => x.id < y.id)
  ids : IdsIn l
  short : l.length ≤ 2000
  root : ∃ r r', l = r :: r' ∧ r.id = 0 ∧ r.parent = 0 ∧ r.text.toList = [] ∧ r.props = []
  loc : ∀ x ∈ l, txErr x.text = 0 ∧ x.kids.length ≤ 500 ∧ cpErr x.props = 0
  kid : ∀ b ∈ l, ∀ k ∈ b.kids, k ≠ 0 ∧ ∃ y ∈ l, y.id = k ∧ y.parent = b.id
  nod : ∀ b ∈ l, b.kids.Nodup
  par : ∀ x ∈ l, x.id ≠ 0 → ∃ b ∈ l, b.id = x.parent ∧ x.id ∈ b.kids ∧ g x.id = g b.id + 1
  zero : g 0 = 0
  deep : ∀ x ∈ l, g x.id ≤ 40
section
variable {l : List Bl} {g : Int → Nat} {f : Int → Option Int}
theorem Tree.kids (T : Tree l g) : Kids l where
  rise := rise_iff.2 T.rise
  ids := T.ids
  root := by
    obtain ⟨r, r', rfl, h1, h2, _⟩ := T.root
    exact ⟨r, rfl, h1, h2⟩
  kid := T.kid
  nod := T.nod
  short := T.short
  few b hb := (T.loc b hb).2.1
theorem Tree.dp (T : Tree l g) : ∀ (n : Nat) {x : Bl}, x ∈ l → g x.id = n → Dp l x.id n
  | 0, x, hx, h => by
    by_cases e : x.id = 0
    · rw [e]; exact .root
    · obtain ⟨b, _, _, _, h4⟩ := T.par x hx e
      omega
  | n + 1, x, hx, h => by
    by_cases e : x.id = 0
    · rw [e, T.zero] at h; omega
    · obtain ⟨b, hb, _, h3, h4⟩ := T.par x hx e
      exact .step b n _ (T.dp n hb (by omega)) hb h3
theorem Tree.good (T : Tree l g) (hf : IsDep l f) : Good l f where
  kids := T.kids
  dep := hf
  all x hx := ⟨g x.id, (hf _ _).2 ⟨_, rfl, T.dp _ hx rfl⟩, T.deep x hx⟩
  blk k x hk := by
    have hx := List.mem_of_getElem? hk
    obtain ⟨h1, h2, h3⟩ := T.loc x hx
    obtain ⟨r, r', hr, e1, e2, e3, e4⟩ := T.root
    unfold blkErr
    rcases k with _ | k
    · obtain rfl : r = x := by rw [hr] at hk; simpa using hk
      have q1 : rngB (prevB l 0) r = false := by show (r.id != 0) = false; rw [e1]; rfl
      have q2 : ordB (prevB l 0) r = false := rfl
      have q3 : rootB (prevB l 0) r = false := by
        show (!r.text.toList.isEmpty || decide (0 < r.props.length) || (r.parent != 0)) = false
        rw [e2, e3, e4]; rfl
      rw [q1, q2, q3, if_neg (by decide), if_neg (by decide), if_neg (by decide), if_neg (fun e => e h1), if_neg (by omega), h3]
    · have hkl := (List.getElem?_eq_some_iff.1 hk).1
      have hy := List.getElem?_eq_getElem (by omega : k < l.length)
      have hlt := rise_iff.2 T.rise k (k + 1) _ _ (Nat.lt_succ_self k) hy hk
      have hid := T.ids x hx
      have hid2 := T.ids _ (List.getElem_mem (by omega : k < l.length))
      rw [prevB_succ hy]
      have q1 : rngB (some l[k]) x = false := by
        show (decide (x.id < 1) || decide (1000000 < x.id)) = false
        rw [Bool.or_eq_false_iff, decide_eq_false_iff_not, decide_eq_false_iff_not]; omega
      have q2 : ordB (some l[k]) x = false := decide_eq_false (by omega)
      rw [q1, q2, if_neg (by decide), if_neg (by decide), if_neg (by simp [rootB]), if_neg (fun e => e h1), if_neg (by omega), h3]
theorem Good.tree (G : Good l f) : Tree l (fun id => ((f id).getD 0).toNat) where
  rise := rise_iff.1 G.kids.rise
  ids := G.kids.ids
  short := G.kids.short
  root := by
    obtain ⟨r, h1, h2, h3⟩ := G.kids.root
    obtain ⟨r', hr⟩ : ∃ r', l = r :: r' := by
      cases l with
      | nil => simp at h1
      | cons a l => obtain rfl : a = r := by simpa using h1
                    exact ⟨l, rfl⟩
    have := (blkErr_zero (G.blk 0 r h1)).2.2.1
    have e3 : (!r.text.toList.isEmpty || decide (0 < r.props.length) || (r.parent != 0)) = false := this
    rw [Bool.or_eq_false_iff, Bool.or_eq_false_iff] at e3
    refine ⟨r, r', hr, h2, h3, by simpa using e3.1.1, ?_⟩
    have := of_decide_eq_false e3.1.2
    exact List.eq_nil_of_length_eq_zero (by omega)
  loc x hx := by
    obtain ⟨k, hk, rfl⟩ := List.mem_iff_getElem.1 hx
    have := blkErr_zero (G.blk k _ (List.getElem?_eq_getElem hk))
    exact ⟨this.2.2.2.1, this.2.2.2.2.1, this.2.2.2.2.2⟩
  kid := G.kids.kid
  nod := G.kids.nod
  par x hx h0 := by
    obtain ⟨d, h1, h2, _⟩ := G.dp hx
    generalize hz : x.id = z at h1 h2 h0
    cases h2 with
    | root => exact absurd rfl h0
    | step b d' _ h hb hk =>
      obtain ⟨_, y, hy, e1, e2⟩ := G.kids.kid b hb z hk
      have e := G.kids.rise.inj hy hx (e1.trans hz.symm)
      subst e
      refine ⟨b, hb, e2.symm, hk, ?_⟩
      have := (G.dep _ _).2 ⟨d', rfl, h⟩
      simp only [h1, this, Option.getD_some]
      omega
  zero := by
    obtain ⟨r, h1, h2, _⟩ := G.kids.root
    have := (G.dep 0 0).2 ⟨0, rfl, .root⟩
    simp only [this, Option.getD_some]; rfl
  deep x hx := by
    obtain ⟨d, h1, h2⟩ := G.all x hx
    simp only [h1, Option.getD_some]; omega
theorem Tree.depth (T : Tree l g) (hf : IsDep l f) {x : Bl} (hx : x ∈ l) : f x.id = some (g x.id : Int) := (hf _ _).2 ⟨_, rfl, T.dp _ hx rfl⟩
theorem blks_of : ∀ (M : List Bl) (p : Option Bl), (∀ (k : Nat) (x : Bl), M[k]? = some x → blkErr (if k = 0 then p else M[k - 1]?) x = 0) → blksErr p M = 0
  | [], _, _ => by rw [blksErr]
  | x :: M, p, h => by
    have h0 := h 0 x rfl
    rw [if_pos rfl] at h0
    rw [blksErr, if_neg (fun e => e h0)]
    refine blks_of M (some x) fun k y hk => ?_
    have := h (k + 1) y (by simpa using hk)
    rw [if_neg (by omega), Nat.add_sub_cancel] at this
    rcases k with _ | k
    · exact this
    · rw [if_neg (by omega), Nat.add_sub_cancel]; simpa using this
theorem kids_none (l : List Bl) (bid : Int) : ∀ (kids seen : List Int), (∀ k ∈ kids, k ≠ 0 ∧ ∃ (p : Nat) (y : Bl), posOf l k = (p : Int) ∧ l[p]? = some y ∧ y.parent = bid) → kids.Nodup → (∀ k ∈ kids, k ∉ seen) → kidsE l bid seen kids = 0
  | [], _, _, _, _ => by rw [kidsE]
  | k :: r, seen, h, hn, hs => by
    obtain ⟨h0, p, y, h1, h2, h3⟩ := h k (by simp)
    have e : kidE l bid seen k = 0 := by
      unfold kidE
      rw [if_neg (by omega)]
      have e : parAt l (posOf l k) = y.parent := by unfold parAt; rw [h1, Int.toNat_natCast, h2]
      rw [e, h3, if_neg (by simpa using h0), if_neg (by simpa using hs k (by simp))]
    obtain ⟨n1, n2⟩ := List.nodup_cons.1 hn
    rw [kidsE, if_neg (fun q => q e)]
    refine kids_none l bid r _ (fun z hz => h z (by simp [hz])) n2 fun z hz hm => ?_
    rcases List.mem_append.1 hm with g | g
    · exact hs z (by simp [hz]) g
    · obtain rfl : z = k := by simpa using g
      exact n1 hz
theorem all_none (l : List Bl) : ∀ M : List Bl, (∀ b ∈ M, kidsE l b.id [] b.kids = 0) → allKids l M = 0
  | [], _ => by rw [allKids]
  | b :: M, h => by rw [allKids, if_neg (fun e => e (h b (by simp)))]; exact all_none l M fun x hx => h x (by simp [hx])
theorem lvl_none (f : Int → Option Int) : ∀ M : List Bl, (∀ x ∈ M, ∃ d : Nat, f x.id = some (d : Int) ∧ d ≤ 40) → lvlE f M = 0
  | [], _ => by rw [lvlE]
  | b :: M, h => by
    obtain ⟨d, h1, h2⟩ := h b (by simp)
    rw [lvlE, h1, if_neg (by simp), Option.getD_some, if_neg (by omega)]
    exact lvl_none f M fun x hx => h x (by simp [hx])
/-- a base without error has no error -/
theorem Good.clean (G : Good l f) : baseE l f = 0 := by
  unfold baseE
  obtain ⟨r, hr, _⟩ := G.kids.root
  have hl := (List.getElem?_eq_some_iff.1 hr).1
  have hb : blksErr none l = 0 := blks_of l none fun k x hx => by
    have := G.blk k x hx
    unfold prevB at this
    exact this
  rw [if_neg (by omega), if_neg (by have := G.kids.short; omega), if_neg (fun e => e hb)]
  have hk : allKids l l = 0 := all_none l l fun b hb => kids_none l b.id b.kids [] (fun k hk => by
    obtain ⟨h0, y, hy, e1, e2⟩ := G.kids.kid b hb k hk
    obtain ⟨p, hp, e⟩ := List.mem_iff_getElem.1 hy
    have h : l[p]? = some y := by rw [List.getElem?_eq_getElem hp, e]
    exact ⟨h0, p, y, by rw [← e1]; exact posOf_of G.kids.rise h, h, e2⟩) (G.kids.nod b hb) fun _ _ h => by cases h
  rw [if_neg (fun e => e hk)]
  exact lvl_none f l G.all
end
end Go.Proofs.YtmkicfjcgbfaaaaGreat
