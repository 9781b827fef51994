/-
  DERIVED. The error of a base, in plain words; what a base without error is. Conditions: none.
  A base without error: what is below a block, and the way to a block. Plain law. Conditions: none.
  The walk of slices.Delete of one element at blocks, over a row of the call's own. Conditions: sizes.
  By an AI agent.
-/
import Derived.Test.YtmkicfjcgbfaaaaGreatTg15
import Derived.Test.YtmkicfjcgbfaaaaGreatTg06
import Derived.Test.YtmkicfjcgbfaaaaGreatTg07
import Derived.Test.YtmkicfjcgbfaaaaGreatTg14
namespace Go.Proofs.YtmkicfjcgbfaaaaGreat

/-- the error of blocks behind another -/
def blksErr : Option Bl → List Bl → Int
  | _, [] => 0
  | p, x :: l => if blkErr p x ≠ 0 then blkErr p x else blksErr (some x) l
theorem blksErr_at {l : List Bl} {k : Nat} {x : Bl} (h : l[k]? = some x) : blksErr (prevB l k) (l.drop k) = if blkErr (prevB l k) x ≠ 0 then blkErr (prevB l k) x else blksErr (prevB l (k + 1)) (l.drop (k + 1)) := by
  rw [prevB_succ h]
  obtain ⟨hk, e⟩ := List.getElem?_eq_some_iff.1 h
  rw [List.drop_eq_getElem_cons hk, blksErr, e]
/-- the error of a base; f says how deep its blocks are -/
def baseE (l : List Bl) (f : Int → Option Int) : Int :=
  if l.length = 0 then 1 else if 2000 < l.length then 4 else if blksErr none l ≠ 0 then blksErr none l else if allKids l l ≠ 0 then allKids l l else lvlE f l

theorem blks_zero {l : List Bl} (h : blksErr none l = 0) : ∀ (k : Nat) (x : Bl), l[k]? = some x → blkErr (prevB l k) x = 0 := by
  have key : ∀ k, k ≤ l.length → blksErr (prevB l k) (l.drop k) = 0 := by
    intro k
    induction k with
    | zero => intro _; exact h
    | succ k ih =>
      intro hk
      have := ih (by omega)
      rw [blksErr_at (List.getElem?_eq_getElem (by omega : k < l.length))] at this
      split at this
      · rename_i h1; exact absurd this h1
      · exact this
  intro k x hx
  have hk := (List.getElem?_eq_some_iff.1 hx).1
  have := key k (by omega)
  rw [blksErr_at hx] at this
  split at this
  · exact this
  · rename_i h1
    exact Decidable.byContradiction fun h2 => h1 h2
theorem blkErr_zero {p : Option Bl} {x : Bl} (h : blkErr p x = 0) : rngB p x = false ∧ ordB p x = false ∧ rootB p x = false ∧ txErr x.text = 0 ∧ x.kids.length ≤ 500 ∧ cpErr x.props = 0 := by
  unfold blkErr at h
  cases h1 : rngB p x
  · cases h2 : ordB p x
    · cases h3 : rootB p x
      · rw [h1, h2, h3, if_neg (by decide), if_neg (by decide), if_neg (by decide)] at h
        by_cases h4 : txErr x.text = 0
        · rw [if_neg (fun e => e h4)] at h
          by_cases h5 : 500 < x.kids.length
          · rw [if_pos h5] at h; omega
          · rw [if_neg h5] at h
            exact ⟨rfl, rfl, rfl, h4, by omega, h⟩
        · rw [if_pos h4] at h; exact absurd h h4
      · rw [h1, h2, h3, if_neg (by decide), if_neg (by decide), if_pos rfl] at h; omega
    · rw [h1, h2, if_neg (by decide), if_pos rfl] at h; omega
  · rw [h1, if_pos rfl] at h; omega
theorem rise_of {l : List Bl} (h : blksErr none l = 0) : Rise l := by
  have step : ∀ (k : Nat) (x y : Bl), l[k]? = some x → l[k + 1]? = some y → x.id < y.id := by
    intro k x y hx hy
    obtain ⟨_, h2, _⟩ := blkErr_zero (blks_zero h _ _ hy)
    rw [prevB_succ hx] at h2
    have := of_decide_eq_false h2
    omega
  intro i j
  induction j with
  | zero => intro x y hij; omega
  | succ j ih =>
    intro x y hij hx hy
    have hj : j < l.length := by have := (List.getElem?_eq_some_iff.1 hy).1; omega
    have hz := List.getElem?_eq_getElem hj
    have h1 := step j _ y hz hy
    rcases Nat.lt_succ_iff_lt_or_eq.1 hij with g | g
    · have := ih x _ g hx hz; omega
    · subst g
      rw [hx] at hz
      obtain rfl := Option.some.inj hz
      exact h1
theorem ids_of {l : List Bl} (h : blksErr none l = 0) : IdsIn l := by
  intro x hx
  obtain ⟨k, hk, rfl⟩ := List.mem_iff_getElem.1 hx
  obtain ⟨h1, _⟩ := blkErr_zero (blks_zero h _ _ (List.getElem?_eq_getElem hk))
  rcases k with _ | k
  · have h1 : (l[0].id != 0) = false := h1
    have : l[0].id = 0 := by simpa using h1
    omega
  · rw [prevB_succ (List.getElem?_eq_getElem (by omega : k < l.length))] at h1
    have h1 : (decide (l[k + 1].id < 1) || decide (1000000 < l[k + 1].id)) = false := h1
    rw [Bool.or_eq_false_iff, decide_eq_false_iff_not, decide_eq_false_iff_not] at h1
    omega
theorem kidE_zero {l : List Bl} {bid : Int} {seen : List Int} {k : Int} (h : kidE l bid seen k = 0) : k ≠ 0 ∧ (∃ y ∈ l, y.id = k ∧ y.parent = bid) ∧ k ∉ seen := by
  rcases kidE_ways l bid seen k with ⟨_, h2⟩ | ⟨p, y, h1, h2, h3, ⟨h4, h5⟩ | ⟨h4, h5⟩⟩
  · omega
  · omega
  · rw [Bool.or_eq_false_iff] at h4
    refine ⟨by simpa using h4.2, ⟨y, List.mem_of_getElem? h2, h3, by simpa using h4.1⟩, ?_⟩
    rw [h5] at h
    intro hk
    rw [if_pos (by simpa using hk)] at h
    omega
theorem kids_zero {l : List Bl} {bid : Int} {kids : List Int} (h : kidsE l bid [] kids = 0) : ∀ (j : Nat) (k : Int), kids[j]? = some k → kidE l bid (kids.take j) k = 0 := by
  have key : ∀ j, j ≤ kids.length → kidsE l bid (kids.take j) (kids.drop j) = 0 := by
    intro j
    induction j with
    | zero => intro _; exact h
    | succ j ih =>
      intro hj
      have := ih (by omega)
      rw [kidsE_at (List.getElem?_eq_getElem (by omega : j < kids.length))] at this
      split at this
      · rename_i h1; exact absurd this h1
      · exact this
  intro j k hk
  have hj := (List.getElem?_eq_some_iff.1 hk).1
  have := key j (by omega)
  rw [kidsE_at hk] at this
  split at this
  · exact this
  · rename_i h1
    exact Decidable.byContradiction fun h2 => h1 h2
theorem nodup_of_take : ∀ {kids : List Int}, (∀ (j : Nat) (k : Int), kids[j]? = some k → k ∉ kids.take j) → kids.Nodup := by
  intro kids h
  rw [List.nodup_iff_pairwise_ne, List.pairwise_iff_getElem]
  intro i j hi hj hij e
  refine h j kids[j] (List.getElem?_eq_getElem hj) ?_
  rw [← e, List.mem_take_iff_getElem]
  exact ⟨i, by omega, rfl⟩
theorem allKids_zero {l : List Bl} : ∀ {M : List Bl}, allKids l M = 0 → ∀ b ∈ M, kidsE l b.id [] b.kids = 0
  | [], _, b, hb => by cases hb
  | x :: M, h, b, hb => by
    rw [allKids] at h
    split at h
    · rename_i h1; exact absurd h h1
    · rename_i h1
      rcases List.mem_cons.1 hb with rfl | hb
      · exact Decidable.byContradiction fun h2 => h1 h2
      · exact allKids_zero h b hb
theorem root_id {l : List Bl} (h : blksErr none l = 0) {r : Bl} (hr : l[0]? = some r) : r.id = 0 := by
  obtain ⟨e1, _⟩ := blkErr_zero (blks_zero h _ _ hr)
  have e1 : (r.id != 0) = false := e1
  simpa using e1
theorem zero_iff {l : List Bl} (h : blksErr none l = 0) {p : Nat} {y : Bl} (hy : l[p]? = some y) : ((p : Int) == 0) = (y.id == 0) := by
  rw [Bool.eq_iff_iff, beq_iff_eq, beq_iff_eq]
  have hp := (List.getElem?_eq_some_iff.1 hy).1
  have hr := List.getElem?_eq_getElem (by omega : 0 < l.length)
  have h0 := root_id h hr
  constructor
  · intro e
    obtain rfl : p = 0 := by omega
    exact root_id h hy
  · intro e
    rcases Nat.eq_zero_or_pos p with g | g
    · omega
    · have := rise_of h 0 p _ _ g hr hy
      omega
/-- a base whose blocks and kids have no error -/
theorem kids_of {l : List Bl} (h0 : l.length ≠ 0) (h1 : ¬ 2000 < l.length) (h2 : blksErr none l = 0) (h3 : allKids l l = 0) : Kids l where
  rise := rise_of h2
  ids := ids_of h2
  root := by
    have hx := List.getElem?_eq_getElem (by omega : 0 < l.length)
    obtain ⟨e1, _, e3, _⟩ := blkErr_zero (blks_zero h2 _ _ hx)
    have e1 : (l[0].id != 0) = false := e1
    have e3 : (!l[0].text.toList.isEmpty || decide (0 < l[0].props.length) || (l[0].parent != 0)) = false := e3
    rw [Bool.or_eq_false_iff] at e3
    exact ⟨_, hx, by simpa using e1, by simpa using e3.2⟩
  kid b hb k hk := by
    obtain ⟨j, hj, rfl⟩ := List.mem_iff_getElem.1 hk
    obtain ⟨a1, a2, _⟩ := kidE_zero (kids_zero (allKids_zero h3 b hb) j _ (List.getElem?_eq_getElem hj))
    exact ⟨a1, a2⟩
  nod b hb := nodup_of_take fun j k hk => (kidE_zero (kids_zero (allKids_zero h3 b hb) j k hk)).2.2
  short := by omega
  few b hb := by
    obtain ⟨k, hk, rfl⟩ := List.mem_iff_getElem.1 hb
    exact (blkErr_zero (blks_zero h2 _ _ (List.getElem?_eq_getElem hk))).2.2.2.2.1
/-- f says how deep the blocks are, if the kids are right -/
def DepOk (l : List Bl) (f : Int → Option Int) : Prop := Kids l → IsDep l f
theorem DepOk.exists (l : List Bl) : ∃ f, DepOk l f := by
  by_cases K : Kids l
  · obtain ⟨f, hf⟩ := IsDep.exists K
    exact ⟨f, fun _ => hf⟩
  · exact ⟨fun _ => none, fun h => absurd h K⟩
end Go.Proofs.YtmkicfjcgbfaaaaGreat
namespace Go.Proofs.YtmkicfjcgbfaaaaGreat

/-- a base without error; f says how deep its blocks are -/
structure Good (l : List Bl) (f : Int → Option Int) : Prop where
  kids : Kids l
  dep : IsDep l f
  all : ∀ x ∈ l, ∃ d : Nat, f x.id = some (d : Int) ∧ d ≤ 40
  blk : ∀ (k : Nat) (x : Bl), l[k]? = some x → blkErr (prevB l k) x = 0
theorem lvlE_zero {l : List Bl} {f : Int → Option Int} (hf : IsDep l f) : ∀ {M : List Bl}, lvlE f M = 0 → ∀ x ∈ M, ∃ d : Nat, f x.id = some (d : Int) ∧ d ≤ 40
  | [], _, x, hx => by cases hx
  | a :: M, h, x, hx => by
    rw [lvlE] at h
    cases hfa : f a.id with
    | none => rw [hfa, if_pos rfl] at h; omega
    | some d =>
      rw [hfa, if_neg (by simp)] at h
      by_cases hd : 40 < d
      · rw [Option.getD_some, if_pos hd] at h; omega
      · rw [Option.getD_some, if_neg hd] at h
        rcases List.mem_cons.1 hx with rfl | hx
        · obtain ⟨n, rfl, _⟩ := (hf _ _).1 hfa
          exact ⟨n, hfa, by omega⟩
        · exact lvlE_zero hf h x hx
theorem good_of {l : List Bl} {f : Int → Option Int} (h : baseE l f = 0) (hf : DepOk l f) : Good l f := by
  unfold baseE at h
  by_cases h0 : l.length = 0
  · rw [if_pos h0] at h; omega
  rw [if_neg h0] at h
  by_cases h1 : 2000 < l.length
  · rw [if_pos h1] at h; omega
  rw [if_neg h1] at h
  by_cases h2 : blksErr none l = 0
  case neg => rw [if_pos h2] at h; exact absurd h h2
  rw [if_neg (fun e => e h2)] at h
  by_cases h3 : allKids l l = 0
  case neg => rw [if_pos h3] at h; exact absurd h h3
  rw [if_neg (fun e => e h3)] at h
  have K := kids_of h0 h1 h2 h3
  exact ⟨K, hf K, lvlE_zero (hf K) h, blks_zero h2⟩
section
variable {l : List Bl} {f : Int → Option Int}
theorem Good.dp (G : Good l f) {x : Bl} (hx : x ∈ l) : ∃ d : Nat, f x.id = some (d : Int) ∧ Dp l x.id d ∧ d ≤ 40 := by
  obtain ⟨d, h1, h2⟩ := G.all x hx
  obtain ⟨n, e, h3⟩ := (G.dep _ _).1 h1
  obtain rfl : d = n := by omega
  exact ⟨d, h1, h3, h2⟩
theorem Good.low (G : Good l f) {id : Int} {d : Nat} (h : Dp l id d) : d ≤ 40 := by
  obtain ⟨y, hy, e⟩ := h.mem G.kids
  obtain ⟨d', h1, h2, h3⟩ := G.dp hy
  rw [e] at h2
  rw [h.fun_ G.kids h2]; exact h3
/-- the parent of the block with an id -/
def parOf (l : List Bl) (id : Int) : Int := parAt l (posOf l id)
theorem parOf_eq (K : Kids l) {y : Bl} (hy : y ∈ l) : parOf l y.id = y.parent := by
  obtain ⟨p, hp, e⟩ := List.mem_iff_getElem.1 hy
  have h : l[p]? = some y := by rw [List.getElem?_eq_getElem hp, e]
  unfold parOf parAt
  rw [posOf_of K.rise h, Int.toNat_natCast, h]
theorem parOf_kid (K : Kids l) {b : Bl} (hb : b ∈ l) {k : Int} (hk : k ∈ b.kids) : parOf l k = b.id := by
  obtain ⟨_, y, hy, e1, e2⟩ := K.kid b hb k hk
  rw [← e1, parOf_eq K hy, e2]
/-- the block with an id -/
theorem Dp.blk (K : Kids l) {id : Int} {d : Nat} (h : Dp l id d) : ∃ (p : Nat) (b : Bl), posOf l id = (p : Int) ∧ l[p]? = some b ∧ b.id = id := by
  obtain ⟨b, hb, e⟩ := h.mem K
  obtain ⟨p, hp, e'⟩ := List.mem_iff_getElem.1 hb
  have h : l[p]? = some b := by rw [List.getElem?_eq_getElem hp, e']
  exact ⟨p, b, by rw [← e]; exact posOf_of K.rise h, h, e⟩
/-- the ids of all blocks below one, each ahead of its kids -/
def ord (l : List Bl) : Nat → Int → List Int
  | 0, _ => []
  | n + 1, id => match l[(posOf l id).toNat]? with
    | some b => b.kids.flatMap fun k => k :: ord l n k
    | none => []
theorem ord_at {id : Int} {p : Nat} {b : Bl} (hp : posOf l id = (p : Int)) (hb : l[p]? = some b) (n : Nat) : ord l (n + 1) id = b.kids.flatMap fun k => k :: ord l n k := by
  rw [ord, hp, Int.toNat_natCast, hb]
def upN (l : List Bl) : Nat → Int → Int
  | 0, x => x
  | j + 1, x => upN l j (parOf l x)
theorem upN_succ : ∀ (j : Nat) (x : Int), upN l (j + 1) x = parOf l (upN l j x)
  | 0, _ => rfl
  | j + 1, x => by
    show upN l (j + 1) (parOf l x) = _
    rw [upN_succ j]; rfl
theorem ord_mem (K : Kids l) : ∀ (n : Nat) {id : Int} {d : Nat} {x : Int}, Dp l id d → x ∈ ord l n id → ∃ j, Dp l x (d + (j + 1)) ∧ upN l (j + 1) x = id
  | 0, _, _, _, _, h => by cases h
  | n + 1, id, d, x, hd, h => by
    obtain ⟨p, b, h1, h2, h3⟩ := hd.blk K
    have hb := List.mem_of_getElem? h2
    rw [ord_at h1 h2, List.mem_flatMap] at h
    obtain ⟨k, hk, hx⟩ := h
    have hdk : Dp l k (d + 1) := .step b d k (h3 ▸ hd) hb hk
    rcases List.mem_cons.1 hx with rfl | hx
    · exact ⟨0, hdk, (parOf_kid K hb hk).trans h3⟩
    · obtain ⟨j, h4, h5⟩ := ord_mem K n hdk hx
      refine ⟨j + 1, by rw [show d + (j + 1 + 1) = d + 1 + (j + 1) by omega]; exact h4, ?_⟩
      rw [upN_succ, h5, parOf_kid K hb hk, h3]
theorem ord_nodup (K : Kids l) : ∀ (n : Nat) {id : Int} {d : Nat}, Dp l id d → (ord l n id).Nodup
  | 0, _, _, _ => List.nodup_nil
  | n + 1, id, d, hd => by
    obtain ⟨p, b, h1, h2, h3⟩ := hd.blk K
    have hb := List.mem_of_getElem? h2
    rw [ord_at h1 h2]
    have part : ∀ k ∈ b.kids, ∀ x ∈ k :: ord l n k, ∃ j, Dp l x (d + 1 + j) ∧ upN l j x = k := fun k hk x hx => by
      have hdk : Dp l k (d + 1) := .step b d k (h3 ▸ hd) hb hk
      rcases List.mem_cons.1 hx with rfl | hx
      · exact ⟨0, hdk, rfl⟩
      · obtain ⟨j, h4, h5⟩ := ord_mem K n hdk hx
        exact ⟨j + 1, h4, h5⟩
    unfold List.Nodup
    rw [List.pairwise_flatMap]
    refine ⟨fun k hk => ?_, ?_⟩
    · have hdk : Dp l k (d + 1) := .step b d k (h3 ▸ hd) hb hk
      refine List.nodup_cons.2 ⟨fun hm => ?_, ord_nodup K n hdk⟩
      obtain ⟨j, h4, _⟩ := ord_mem K n hdk hm
      have := h4.fun_ K hdk
      omega
    · refine List.Pairwise.imp_of_mem ?_ (K.nod b hb)
      intro k1 k2 hk1 hk2 hne x hx y hy e
      subst e
      obtain ⟨j1, a1, a2⟩ := part k1 hk1 x hx
      obtain ⟨j2, b1, b2⟩ := part k2 hk2 x hy
      have := a1.fun_ K b1
      obtain rfl : j1 = j2 := by omega
      exact hne (a2.symm.trans b2)
theorem nodup_short : ∀ {L M : List Int}, L.Nodup → (∀ x ∈ L, x ∈ M) → L.length ≤ M.length
  | [], _, _, _ => Nat.zero_le _
  | a :: L, M, h, hm => by
    have ha := hm a (by simp)
    have hn := List.nodup_cons.1 h
    have := nodup_short (M := M.erase a) hn.2 fun x hx => by
      rw [List.mem_erase_of_ne (fun e => hn.1 (by rw [← e]; exact hx))]
      exact hm x (by simp [hx])
    rw [List.length_erase_of_mem ha] at this
    have := List.length_pos_of_mem ha
    rw [List.length_cons]
    omega
theorem ord_short (K : Kids l) (n : Nat) {id : Int} {d : Nat} (hd : Dp l id d) : (ord l n id).length ≤ l.length := by
  have := nodup_short (M := l.map (·.id)) (ord_nodup K n hd) fun x hx => by
    obtain ⟨j, h, _⟩ := ord_mem K n hd hx
    obtain ⟨y, hy, e⟩ := h.mem K
    exact List.mem_map.2 ⟨y, hy, e⟩
  rwa [List.length_map] at this
theorem ord_i64 (K : Kids l) (n : Nat) {id : Int} {d : Nat} (hd : Dp l id d) : ∀ x ∈ ord l n id, I64 x := fun x hx => by
  obtain ⟨j, h, _⟩ := ord_mem K n hd hx
  obtain ⟨y, hy, rfl⟩ := h.mem K
  have := K.ids y hy
  unfold I64; omega
theorem flat_take_le (g : Int → List Int) (ks : List Int) (j : Nat) : ((ks.take j).flatMap g).length ≤ (ks.flatMap g).length := by
  rw [← List.take_append_drop j ks, List.flatMap_append, List.length_append, List.take_append_drop]
  omega
/-- the blocks from the page of a block to it -/
def pth (l : List Bl) : Nat → Int → List Int
  | 0, _ => []
  | d + 1, id => pth l d (parOf l id) ++ [id]
theorem pth_len : ∀ (d : Nat) (id : Int), (pth l d id).length = d
  | 0, _ => rfl
  | d + 1, id => by rw [pth, List.length_append, pth_len d]; rfl
theorem Dp.up (K : Kids l) {id : Int} {d : Nat} (h : Dp l id (d + 1)) : id ≠ 0 ∧ Dp l (parOf l id) d := by
  generalize hn : d + 1 = n at h
  cases h with
  | root => omega
  | step b d' k h hb hk =>
    obtain rfl : d = d' := by omega
    rw [parOf_kid K hb hk]
    exact ⟨(K.kid b hb _ hk).1, h⟩
theorem Dp.zero_iff (K : Kids l) {id : Int} {d : Nat} (h : Dp l id d) : id = 0 ↔ d = 0 := by
  constructor
  · rintro rfl; exact h.zero K
  · rintro rfl
    generalize hn : (0 : Nat) = n at h
    cases h with
    | root => rfl
    | step b d' k h hb hk => omega
theorem pth_i64 (K : Kids l) : ∀ {d : Nat} {id : Int}, Dp l id d → ∀ x ∈ pth l d id, I64 x
  | 0, _, _, x, hx => by cases hx
  | d + 1, id, h, x, hx => by
    rw [pth, List.mem_append] at hx
    rcases hx with hx | hx
    · exact pth_i64 K (h.up K).2 x hx
    · obtain rfl : x = id := by simpa using hx
      obtain ⟨y, hy, rfl⟩ := h.mem K
      have := K.ids y hy
      unfold I64; omega
end
end Go.Proofs.YtmkicfjcgbfaaaaGreat
namespace Go.Proofs.YtmkicfjcgbfaaaaGreat
open Go.RowKit

theorem Blk.setCells {t : TypeId} {g : Nat} : ∀ (vs : List Value) (o : Nat) (w : World) (cs : Array Value), Blk w g t cs → ∃ cs' : Array Value, Blk (w.setCells g o vs) g t cs' ∧ cs'.size = cs.size ∧ cs'.toList.take o = cs.toList.take o
  | [], o, w, cs, h => ⟨cs, h, rfl, rfl⟩
  | v :: r, o, w, cs, h => by
    obtain ⟨cs', h1, h2, h3⟩ := Blk.setCells r (o + 1) (w.setCell ⟨g, o, none⟩ v) _ (h.set_ o v)
    refine ⟨cs', h1, by rw [h2, Array.size_setIfInBounds], ?_⟩
    have h4 : (cs'.toList.take (o + 1)).take o = ((cs.setIfInBounds o v).toList.take (o + 1)).take o := by rw [h3]
    rw [List.take_take, List.take_take, Nat.min_eq_left (Nat.le_succ o), Array.toList_setIfInBounds, List.take_set_of_le (Nat.le_refl o)] at h4
    exact h4
theorem setCells_other : ∀ (vs : List Value) (o g k : Nat) (w : World), k ≠ g → (w.setCells g o vs).heap[k]? = w.heap[k]?
  | [], _, _, _, _, _ => rfl
  | v :: r, o, g, k, w, h => by
    show ((w.setCell ⟨g, o, none⟩ v).setCells g (o + 1) r).heap[k]? = _
    rw [setCells_other r (o + 1) g k _ h]
    exact Below.heap_setCell w _ v k h
theorem setCells_size : ∀ (vs : List Value) (o g : Nat) (w : World), (w.setCells g o vs).heap.size = w.heap.size
  | [], _, _, _ => rfl
  | v :: r, o, g, w => by
    show ((w.setCell ⟨g, o, none⟩ v).setCells g (o + 1) r).heap.size = _
    rw [setCells_size r (o + 1) g _]; simp [World.setCell]
theorem setCells_rest : ∀ (vs : List Value) (o g : Nat) (w : World), (w.setCells g o vs).os = w.os ∧ (w.setCells g o vs).output = w.output ∧ (w.setCells g o vs).tape = w.tape
  | [], _, _, _ => ⟨rfl, rfl, rfl⟩
  | v :: r, o, g, w => setCells_rest r (o + 1) g (w.setCell ⟨g, o, none⟩ v)
theorem clearB_run (W : World) (g o cap : Nat) (cur : Array Value) (h : Blk W g 38 cur) (ho : o * 5 + 5 ≤ cur.size) (ty : TypeId) :
    (Builtin.clear_ #[22] ty #[.slice (some ⟨g, o * 5, none⟩) 1 cap]).run Tryz.prog W = .ok (.tuple #[]) (W.setCells g (o * 5) (Builtin.zeroCells bZ.cells 1).toList) := by
  have hv : ∀ w, (zeroValue 38).run Tryz.prog w = .ok bZ w := fun w => by
    obtain ⟨i0, hi0, hz0, hz1, hz2⟩ := info_parts block_info
    simp [zeroValue, typeInfo, hi0, hz0]
  have hl : (Builtin.zeroCells bZ.cells 1).toList.length = 5 := by
    simp [Builtin.zeroCells, bZ, Value.cells]
  have hst := run_storeCells_cells (P := Tryz.prog) g (o * 5) (Builtin.zeroCells bZ.cells 1).toList 0 W
    (fun j hj => by
      rw [hl] at hj
      rw [h.cell, Array.getElem?_eq_getElem (by omega)]; rfl)
    (fun j _ => h.frozen _)
    (fun v hv => by
      simp only [Builtin.zeroCells, Array.toList_map, List.mem_map] at hv
      obtain ⟨q, _, rfl⟩ := hv
      have hq : q % bZ.cells.size = 0 ∨ q % bZ.cells.size = 1 ∨ q % bZ.cells.size = 2 ∨ q % bZ.cells.size = 3 ∨ q % bZ.cells.size = 4 := by
        show q % 5 = 0 ∨ q % 5 = 1 ∨ q % 5 = 2 ∨ q % 5 = 3 ∨ q % 5 = 4
        omega
      rcases hq with e | e | e | e | e <;> rw [e] <;> rfl)
  simp only [Nat.add_zero] at hst
  simp [Builtin.clear_, run_underlying Tryz.underlying22, hv, hst]

/-- an append whose run is known, as one step of a region that draws -/
theorem step_append_runI {P : Program} {ops : Array Oper} {o : Oper} {a : Act} {w : World} {K : Act → World → Prop} {Q : Exit → Act → World → Prop} {E : Prop}
    (hg : o.guard = none) (s x : Operand) (t tn : TypeId) (hop : o.op = Op.call { callee := Callee.builtin Builtin.append, args := #[s, x], argTypes := #[t, tn] })
    (v u : Value) (hs : a.eval s = v) (hx : a.eval x = u) {v' : Value} {w' : World} (hr : (Builtin.append_ #[t, tn] o.type #[v, u]).run P w = .ok v' w') (hK : K (a.put o.dst v') w') :
    if Region.wanted o (yielded ops a.tmps) = true then Oper.wp P o a w K Q else E := by
  have hw : Region.wanted o (yielded ops a.tmps) = true := by simp [Region.wanted, hg]
  rw [if_pos hw]
  exact Lib.wp_append_run w s x t tn hop v u hs hx _ _ hr hK
/-- what a delete leaves -/
def DelR (base : Nat) (n : Nat) (xs : List Value) (i : Nat) (w : World) (v : Value) (e : Ending) (w' : World) : Prop :=
  ∃ v', e = .returned v' ∧ w'.ownsRow base 38 5 v' (n - 1) (xs.take (i * 5) ++ xs.drop ((i + 1) * 5)) ∧ w.grownBy w' v.ownBlock ∧ v'.ownBlock = v.ownBlock

set_option maxRecDepth 100000 in
set_option maxHeartbeats 4000000 in
/-- slices.Delete of one element at blocks -/
theorem deleteB_own (v : Value) (n : Nat) (xs : List Value) (base i : Nat) (w : World) (h : w.ownsRow base 38 5 v n xs) (hi : i < n) (hn : n ≤ 100000) (h1x : ∀ u ∈ xs, u.oneCell' = true) :
    Calls Tryz.prog 131 #[v, .int .i64 i, .int .i64 ((i : Int) + 1)] w (DelR base n xs i w v) := by
  obtain ⟨i0, hi0, hq0, hq1, hq2⟩ := info_parts block_info
  have hxl : xs.length = n * 5 := h.1
  rcases h.2 with ⟨_, h0⟩ | ⟨g, cap, cur, rfl, hg, hh, hnc, hcm, hcs, hct⟩
  · omega
  have hcell : ∀ j u, xs[j]? = some u → w.cell? ⟨g, j, none⟩ = some u := fun j u hu => by
    have hj := (List.getElem?_eq_some_iff.1 hu).1
    rw [Blk.cell (t := 38) (cs := cur) hh, ← hu, ← hct, List.getElem?_take, if_pos (by omega)]; simp
  have hcl : cur.toList.length = cap * 5 := by rw [Array.length_toList]; exact hcs
  have hdl : (xs.drop ((i + 1) * 5)).length = (n - (i + 1)) * 5 := by rw [List.length_drop, hxl]; omega
  have htl : (xs.take (i * 5)).length = i * 5 := by rw [List.length_take, hxl]; omega
  have hct2 : cur.toList.take (i * 5) = xs.take (i * 5) := by rw [← hct, List.take_take]; congr 1; omega
  have hgw : g < w.heap.size := Blk.lt (t := 38) (cs := cur) hh
  obtain ⟨R1, hR1⟩ : ∃ R1, R1 = cur.toList.take (i * 5) ++ xs.drop ((i + 1) * 5) ++ cur.toList.drop (i * 5 + (n - (i + 1)) * 5) := ⟨_, rfl⟩
  have hR1l : R1.length = cap * 5 := by
    rw [hR1, List.length_append, List.length_append, List.length_take, hdl, List.length_drop, hcl]; omega
  have hh1 : Blk (w.drew.setRow g R1.toArray) g 38 R1.toArray := setRow_heap w.drew g _ _ _ _ hh
  obtain ⟨Z, hZ⟩ : ∃ Z, Z = (Builtin.zeroCells bZ.cells 1).toList := ⟨_, rfl⟩
  have hcr : ∀ ty cc, (Builtin.clear_ #[22] ty #[.slice (some ⟨g, (n - 1) * 5, none⟩) 1 cc]).run Tryz.prog (w.drew.setRow g R1.toArray) = .ok (.tuple #[]) ((w.drew.setRow g R1.toArray).setCells g ((n - 1) * 5) Z) := fun ty cc => by
    rw [hZ]; exact clearB_run _ g (n - 1) cc _ hh1 (by rw [List.size_toArray, hR1l]; omega) ty
  have hap : ∀ ty c0 (ad : Addr), (0 < n - (i + 1) → ad = ⟨g, (i + 1) * 5, none⟩) → (Builtin.append_ #[22, 22] ty #[.slice (some ⟨g, 0, none⟩) i cap, .slice (some ad) (n - (i + 1)) c0]).run Tryz.prog w.drew = .ok (.slice (some ⟨g, 0, none⟩) (n - 1) cap) (w.drew.setRow g R1.toArray) := fun ty c0 ad had => by
    have := run_append_room (P := Tryz.prog) (ty := ty) w.drew 22 38 i0 Tryz.underlying22 hi0 g i cap cur hh ad (n - (i + 1)) c0 (xs.drop ((i + 1) * 5)) (by rw [hdl, hq1])
      (fun j v hj => by
        have hjl := (List.getElem?_eq_some_iff.1 hj).1
        rw [hdl] at hjl
        rw [had (by omega), Addr.add_lit]; exact hcell _ _ (by rwa [List.getElem?_drop] at hj)) (fun v hv => h1x v (List.mem_of_mem_drop hv)) (by omega) (by rw [hdl, hq1, hcs]; omega)
    rw [hq1, hdl, ← hR1, show i + (n - (i + 1)) = n - 1 by omega] at this
    exact this
  have hfin : DelR base n xs i w (.slice (some ⟨g, 0, none⟩) n cap) (.returned (.slice (some ⟨g, 0, none⟩) (n - 1) cap)) ((w.drew.setRow g R1.toArray).setCells g ((n - 1) * 5) Z) := by
    obtain ⟨cs', k1, k2, k3⟩ := Blk.setCells Z ((n - 1) * 5) _ _ hh1
    have hlen : (xs.take (i * 5) ++ xs.drop ((i + 1) * 5)).length = (n - 1) * 5 := by
      rw [List.length_append, htl, hdl]; omega
    obtain ⟨r1, r2, r3⟩ := setCells_rest Z ((n - 1) * 5) g (w.drew.setRow g R1.toArray)
    refine ⟨_, rfl, ⟨hlen, .inr ⟨g, cap, cs', rfl, hg, k1, by omega, hcm, by rw [k2, List.size_toArray, hR1l], ?_⟩⟩, ⟨r1, r3, r2, ?_, fun k hk hne => ?_⟩, rfl⟩
    · rw [k3, List.toList_toArray, hR1, hct2, ← hlen, List.take_append_of_le_length (Nat.le_refl _), List.take_length]
    · rw [setCells_size, setRow_size]; exact Nat.le_refl _
    · have hkg : k ≠ g := fun e => hne (by rw [e]; rfl)
      rw [setCells_other _ _ _ _ _ hkg, setRow_other _ _ _ _ hkg]; rfl
  have HF := Lib.hid hfin
  have hc63 : cap ≤ 9223372036854775807 := by unfold maxLen at hcm; omega
  have z1 : ¬ ((i : Int) = (i : Int) + 1) := by omega
  have z2 : (i : Int) ≤ (n : Int) := by omega
  have z3 : (i : Int) + 1 ≤ (n : Int) := by omega
  have w1 : IntKind.i64.wrap ((i : Int) + 1) = (i : Int) + 1 := IntWalk.i64_in _ (by omega)
  have w2 : (0 : Int) ≤ (i : Int) + 1 := by omega
  have w3 : ((i : Int) + 1).toNat = i + 1 := by omega
  have w4 : (i : Int) ≤ (cap : Int) := by omega
  have w5 : n - (n - 1) = 1 := by omega
  have mixed : Tryz.prog.follows Departure.mixedOrders = true := by kernel_rfl
  have z9 : ¬ (cap = n - 1) := by omega
  clear hfin hZ hR1 hR1l hct hct2 hcl hdl htl hxl hcell hh1 h1x h hh hcs
  have hcb : ∀ c : Nat, Builtin.clear_ #[22] c = Builtin.clear_ #[22] c := fun _ => rfl
  clear hcb
  by_cases hc : cap = i + 1
  · have HAP : ∀ ty c0, (Builtin.append_ #[22, 22] ty #[.slice (some ⟨g, 0, none⟩) i cap, .slice (some ⟨g, 0, none⟩) (n - (i + 1)) c0]).run Tryz.prog w.drew = .ok (.slice (some ⟨g, 0, none⟩) (n - 1) cap) (w.drew.setRow g R1.toArray) := fun ty c0 => hap ty c0 _ (by omega)
    clear hap
    subst hc
    have e0 : n - (i + 1) = 0 := by omega
    simp only [e0] at HAP
    clear e0
    have z11 : (i : Int) ≤ (i : Int) + 1 := by omega
    go_enter Tryz.func131, Tryz.ntmps131
    go_upto_region 5 with fail
    go_region_law_o (refine step_append_runI rfl _ _ 22 22 rfl (.slice (some ⟨g, 0, none⟩) i (i + 1)) (.slice (some ⟨g, 0, none⟩) 0 0) (by simp [Act.eval, Act.put]) (by simp [Act.eval, Act.put]) (HAP _ _) ?_)
    go_wp2_with fail
    go_ret
    exact HF.out
  · have HAP : ∀ ty c0, (Builtin.append_ #[22, 22] ty #[.slice (some ⟨g, 0, none⟩) i cap, .slice (some ⟨g, (i + 1) * 5, none⟩) (n - (i + 1)) c0]).run Tryz.prog w.drew = .ok (.slice (some ⟨g, 0, none⟩) (n - 1) cap) (w.drew.setRow g R1.toArray) := fun ty c0 => hap ty c0 _ (fun _ => rfl)
    clear hap
    have z11 : (i : Int) + 1 ≤ (n : Int) := by omega
    go_enter Tryz.func131, Tryz.ntmps131
    go_upto_region 5 with fail
    go_region_law_o (refine step_append_runI rfl _ _ 22 22 rfl (.slice (some ⟨g, 0, none⟩) i cap) (.slice (some ⟨g, (i + 1) * 5, none⟩) (n - (i + 1)) (cap - (i + 1))) (by simp [Act.eval, Act.put]) (by simp [Act.eval, Act.put]) (HAP _ _) ?_)
    go_wp2_with fail
    go_ret
    exact HF.out
end Go.Proofs.YtmkicfjcgbfaaaaGreat
