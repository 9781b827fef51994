/-
  DERIVED. A base without error: what is below a block, and the way to a block. Plain law. Conditions: none. By an AI agent.
-/
import Derived.Test.YtbkhnfdfdgdfkaaBsBase
namespace Go.Proofs.Ytbkhnfdfdgdfkaa

/-- a base without error; f says how deep its blocks are -/
structure Good (l : List Bl) (f : Int → Option Int) : Prop where
  kids : Kids l
  dep : IsDep l f
  all : ∀ x ∈ l, ∃ d : Nat, f x.id = some (d : Int) ∧ d ≤ 40
  blk : ∀ (k : Nat) (x : Bl), l[k]? = some x → blkErr (prevB l k) x = 0
theorem lvlE_zero {l : List Bl} {f : Int → Option Int} (hf : IsDep l f) : ∀ {M : List Bl}, lvlE f M = 0 → ∀ x ∈ M, ∃ d : Nat, f x.id = some (d : Int) ∧ d ≤ 40
  | [], _, x, hx => by cases hx
  | a :: M, h, x, hx => by
    rw [lvlE] at h
    cases hfa : f a.id with
    | none => rw [hfa, if_pos rfl] at h; omega
    | some d =>
      rw [hfa, if_neg (by simp)] at h
      by_cases hd : 40 < d
      · rw [Option.getD_some, if_pos hd] at h; omega
      · rw [Option.getD_some, if_neg hd] at h
        rcases List.mem_cons.1 hx with rfl | hx
        · obtain ⟨n, rfl, _⟩ := (hf _ _).1 hfa
          exact ⟨n, hfa, by omega⟩
        · exact lvlE_zero hf h x hx
theorem good_of {l : List Bl} {f : Int → Option Int} (h : baseE l f = 0) (hf : DepOk l f) : Good l f := by
  unfold baseE at h
  by_cases h0 : l.length = 0
  · rw [if_pos h0] at h; omega
  rw [if_neg h0] at h
  by_cases h1 : 2000 < l.length
  · rw [if_pos h1] at h; omega
  rw [if_neg h1] at h
  by_cases h2 : blksErr none l = 0
  case neg => rw [if_pos h2] at h; exact absurd h h2
  rw [if_neg (fun e => e h2)] at h
  by_cases h3 : allKids l l = 0
  case neg => rw [if_pos h3] at h; exact absurd h h3
  rw [if_neg (fun e => e h3)] at h
  have K := kids_of h0 h1 h2 h3
  exact ⟨K, hf K, lvlE_zero (hf K) h, blks_zero h2⟩
section
variable {l : List Bl} {f : Int → Option Int}
theorem Good.dp (G : Good l f) {x : Bl} (hx : x ∈ l) : ∃ d : Nat, f x.id = some (d : Int) ∧ Dp l x.id d ∧ d ≤ 40 := by
  obtain ⟨d, h1, h2⟩ := G.all x hx
  obtain ⟨n, e, h3⟩ := (G.dep _ _).1 h1
  obtain rfl : d = n := by omega
  exact ⟨d, h1, h3, h2⟩
theorem Good.low (G : Good l f) {id : Int} {d : Nat} (h : Dp l id d) : d ≤ 40 := by
  obtain ⟨y, hy, e⟩ := h.mem G.kids
  obtain ⟨d', h1, h2, h3⟩ := G.dp hy
  rw [e] at h2
  rw [h.fun_ G.kids h2]; exact h3
/-- the parent of the block with an id -/
def parOf (l : List Bl) (id : Int) : Int := parAt l (posOf l id)
theorem parOf_eq (K : Kids l) {y : Bl} (hy : y ∈ l) : parOf l y.id = y.parent := by
  obtain ⟨p, hp, e⟩ := List.mem_iff_getElem.1 hy
  have h : l[p]? = some y := by rw [List.getElem?_eq_getElem hp, e]
  unfold parOf parAt
  rw [posOf_of K.rise h, Int.toNat_natCast, h]
theorem parOf_kid (K : Kids l) {b : Bl} (hb : b ∈ l) {k : Int} (hk : k ∈ b.kids) : parOf l k = b.id := by
  obtain ⟨_, y, hy, e1, e2⟩ := K.kid b hb k hk
  rw [← e1, parOf_eq K hy, e2]
/-- the block with an id -/
theorem Dp.blk (K : Kids l) {id : Int} {d : Nat} (h : Dp l id d) : ∃ (p : Nat) (b : Bl), posOf l id = (p : Int) ∧ l[p]? = some b ∧ b.id = id := by
  obtain ⟨b, hb, e⟩ := h.mem K
  obtain ⟨p, hp, e'⟩ := List.mem_iff_getElem.1 hb
  have h : l[p]? = some b := by rw [List.getElem?_eq_getElem hp, e']
  exact ⟨p, b, by rw [← e]; exact posOf_of K.rise h, h, e⟩
/-- the ids of all blocks below one, each ahead of its kids -/
def ord (l : List Bl) : Nat → Int → List Int
  | 0, _ => []
  | n + 1, id => match l[(posOf l id).toNat]? with
    | some b => b.kids.flatMap fun k => k :: ord l n k
    | none => []
theorem ord_at {id : Int} {p : Nat} {b : Bl} (hp : posOf l id = (p : Int)) (hb : l[p]? = some b) (n : Nat) : ord l (n + 1) id = b.kids.flatMap fun k => k :: ord l n k := by
  rw [ord, hp, Int.toNat_natCast, hb]
def upN (l : List Bl) : Nat → Int → Int
  | 0, x => x
  | j + 1, x => upN l j (parOf l x)
theorem upN_succ : ∀ (j : Nat) (x : Int), upN l (j + 1) x = parOf l (upN l j x)
  | 0, _ => rfl
  | j + 1, x => by
    show upN l (j + 1) (parOf l x) = _
    rw [upN_succ j]; rfl
theorem ord_mem (K : Kids l) : ∀ (n : Nat) {id : Int} {d : Nat} {x : Int}, Dp l id d → x ∈ ord l n id → ∃ j, Dp l x (d + (j + 1)) ∧ upN l (j + 1) x = id
  | 0, _, _, _, _, h => by cases h
  | n + 1, id, d, x, hd, h => by
    obtain ⟨p, b, h1, h2, h3⟩ := hd.blk K
    have hb := List.mem_of_getElem? h2
    rw [ord_at h1 h2, List.mem_flatMap] at h
    obtain ⟨k, hk, hx⟩ := h
    have hdk : Dp l k (d + 1) := .step b d k (h3 ▸ hd) hb hk
    rcases List.mem_cons.1 hx with rfl | hx
    · exact ⟨0, hdk, (parOf_kid K hb hk).trans h3⟩
    · obtain ⟨j, h4, h5⟩ := ord_mem K n hdk hx
      refine ⟨j + 1, by rw [show d + (j + 1 + 1) = d + 1 + (j + 1) by omega]; exact h4, ?_⟩
      rw [upN_succ, h5, parOf_kid K hb hk, h3]
theorem ord_nodup (K : Kids l) : ∀ (n : Nat) {id : Int} {d : Nat}, Dp l id d → (ord l n id).Nodup
  | 0, _, _, _ => List.nodup_nil
  | n + 1, id, d, hd => by
    obtain ⟨p, b, h1, h2, h3⟩ := hd.blk K
    have hb := List.mem_of_getElem? h2
    rw [ord_at h1 h2]
    have part : ∀ k ∈ b.kids, ∀ x ∈ k :: ord l n k, ∃ j, Dp l x (d + 1 + j) ∧ upN l j x = k := fun k hk x hx => by
      have hdk : Dp l k (d + 1) := .step b d k (h3 ▸ hd) hb hk
      rcases List.mem_cons.1 hx with rfl | hx
      · exact ⟨0, hdk, rfl⟩
      · obtain ⟨j, h4, h5⟩ := ord_mem K n hdk hx
        exact ⟨j + 1, h4, h5⟩
    unfold List.Nodup
    rw [List.pairwise_flatMap]
    refine ⟨fun k hk => ?_, ?_⟩
    · have hdk : Dp l k (d + 1) := .step b d k (h3 ▸ hd) hb hk
      refine List.nodup_cons.2 ⟨fun hm => ?_, ord_nodup K n hdk⟩
      obtain ⟨j, h4, _⟩ := ord_mem K n hdk hm
      have := h4.fun_ K hdk
      omega
    · refine List.Pairwise.imp_of_mem ?_ (K.nod b hb)
      intro k1 k2 hk1 hk2 hne x hx y hy e
      subst e
      obtain ⟨j1, a1, a2⟩ := part k1 hk1 x hx
      obtain ⟨j2, b1, b2⟩ := part k2 hk2 x hy
      have := a1.fun_ K b1
      obtain rfl : j1 = j2 := by omega
      exact hne (a2.symm.trans b2)
theorem nodup_short : ∀ {L M : List Int}, L.Nodup → (∀ x ∈ L, x ∈ M) → L.length ≤ M.length
  | [], _, _, _ => Nat.zero_le _
  | a :: L, M, h, hm => by
    have ha := hm a (by simp)
    have hn := List.nodup_cons.1 h
    have := nodup_short (M := M.erase a) hn.2 fun x hx => by
      rw [List.mem_erase_of_ne (fun e => hn.1 (by rw [← e]; exact hx))]
      exact hm x (by simp [hx])
    rw [List.length_erase_of_mem ha] at this
    have := List.length_pos_of_mem ha
    rw [List.length_cons]
    omega
theorem ord_short (K : Kids l) (n : Nat) {id : Int} {d : Nat} (hd : Dp l id d) : (ord l n id).length ≤ l.length := by
  have := nodup_short (M := l.map (·.id)) (ord_nodup K n hd) fun x hx => by
    obtain ⟨j, h, _⟩ := ord_mem K n hd hx
    obtain ⟨y, hy, e⟩ := h.mem K
    exact List.mem_map.2 ⟨y, hy, e⟩
  rwa [List.length_map] at this
theorem ord_i64 (K : Kids l) (n : Nat) {id : Int} {d : Nat} (hd : Dp l id d) : ∀ x ∈ ord l n id, I64 x := fun x hx => by
  obtain ⟨j, h, _⟩ := ord_mem K n hd hx
  obtain ⟨y, hy, rfl⟩ := h.mem K
  have := K.ids y hy
  unfold I64; omega
theorem flat_take_le (g : Int → List Int) (ks : List Int) (j : Nat) : ((ks.take j).flatMap g).length ≤ (ks.flatMap g).length := by
  rw [← List.take_append_drop j ks, List.flatMap_append, List.length_append, List.take_append_drop]
  omega
/-- the blocks from the page of a block to it -/
def pth (l : List Bl) : Nat → Int → List Int
  | 0, _ => []
  | d + 1, id => pth l d (parOf l id) ++ [id]
theorem pth_len : ∀ (d : Nat) (id : Int), (pth l d id).length = d
  | 0, _ => rfl
  | d + 1, id => by rw [pth, List.length_append, pth_len d]; rfl
theorem Dp.up (K : Kids l) {id : Int} {d : Nat} (h : Dp l id (d + 1)) : id ≠ 0 ∧ Dp l (parOf l id) d := by
  generalize hn : d + 1 = n at h
  cases h with
  | root => omega
  | step b d' k h hb hk =>
    obtain rfl : d = d' := by omega
    rw [parOf_kid K hb hk]
    exact ⟨(K.kid b hb _ hk).1, h⟩
theorem Dp.zero_iff (K : Kids l) {id : Int} {d : Nat} (h : Dp l id d) : id = 0 ↔ d = 0 := by
  constructor
  · rintro rfl; exact h.zero K
  · rintro rfl
    generalize hn : (0 : Nat) = n at h
    cases h with
    | root => rfl
    | step b d' k h hb hk => omega
theorem pth_i64 (K : Kids l) : ∀ {d : Nat} {id : Int}, Dp l id d → ∀ x ∈ pth l d id, I64 x
  | 0, _, _, x, hx => by cases hx
  | d + 1, id, h, x, hx => by
    rw [pth, List.mem_append] at hx
    rcases hx with hx | hx
    · exact pth_i64 K (h.up K).2 x hx
    · obtain rfl : x = id := by simpa using hx
      obtain ⟨y, hy, rfl⟩ := h.mem K
      have := K.ids y hy
      unfold I64; omega
end
end Go.Proofs.Ytbkhnfdfdgdfkaa
