/-
  DERIVED. The error of a base, in plain words; what a base without error is. Conditions: none. By an AI agent.
-/
import Derived.Test.YtbkhnfdfdgdfkaaBsBlk
import Derived.Test.YtbkhnfdfdgdfkaaBsKids
import Derived.Test.YtbkhnfdfdgdfkaaBsDep
namespace Go.Proofs.Ytbkhnfdfdgdfkaa

/-- the error of blocks behind another -/
def blksErr : Option Bl → List Bl → Int
  | _, [] => 0
  | p, x :: l => if blkErr p x ≠ 0 then blkErr p x else blksErr (some x) l
theorem blksErr_at {l : List Bl} {k : Nat} {x : Bl} (h : l[k]? = some x) : blksErr (prevB l k) (l.drop k) = if blkErr (prevB l k) x ≠ 0 then blkErr (prevB l k) x else blksErr (prevB l (k + 1)) (l.drop (k + 1)) := by
  rw [prevB_succ h]
  obtain ⟨hk, e⟩ := List.getElem?_eq_some_iff.1 h
  rw [List.drop_eq_getElem_cons hk, blksErr, e]
/-- the error of a base; f says how deep its blocks are -/
def baseE (l : List Bl) (f : Int → Option Int) : Int :=
  if l.length = 0 then 1 else if 2000 < l.length then 4 else if blksErr none l ≠ 0 then blksErr none l else if allKids l l ≠ 0 then allKids l l else lvlE f l

theorem blks_zero {l : List Bl} (h : blksErr none l = 0) : ∀ (k : Nat) (x : Bl), l[k]? = some x → blkErr (prevB l k) x = 0 := by
  have key : ∀ k, k ≤ l.length → blksErr (prevB l k) (l.drop k) = 0 := by
    intro k
    induction k with
    | zero => intro _; exact h
    | succ k ih =>
      intro hk
      have := ih (by omega)
      rw [blksErr_at (List.getElem?_eq_getElem (by omega : k < l.length))] at this
      split at this
      · rename_i h1; exact absurd this h1
      · exact this
  intro k x hx
  have hk := (List.getElem?_eq_some_iff.1 hx).1
  have := key k (by omega)
  rw [blksErr_at hx] at this
  split at this
  · exact this
  · rename_i h1
    exact Decidable.byContradiction fun h2 => h1 h2
theorem txErr_nn (s : ByteArray) : txErr s = 0 ∨ txErr s ≠ 0 := by omega
theorem blkErr_zero {p : Option Bl} {x : Bl} (h : blkErr p x = 0) : rngB p x = false ∧ ordB p x = false ∧ rootB p x = false ∧ txErr x.text = 0 ∧ x.kids.length ≤ 500 ∧ cpErr x.props = 0 := by
  unfold blkErr at h
  cases h1 : rngB p x
  · cases h2 : ordB p x
    · cases h3 : rootB p x
      · rw [h1, h2, h3, if_neg (by decide), if_neg (by decide), if_neg (by decide)] at h
        by_cases h4 : txErr x.text = 0
        · rw [if_neg (fun e => e h4)] at h
          by_cases h5 : 500 < x.kids.length
          · rw [if_pos h5] at h; omega
          · rw [if_neg h5] at h
            exact ⟨rfl, rfl, rfl, h4, by omega, h⟩
        · rw [if_pos h4] at h; exact absurd h h4
      · rw [h1, h2, h3, if_neg (by decide), if_neg (by decide), if_pos rfl] at h; omega
    · rw [h1, h2, if_neg (by decide), if_pos rfl] at h; omega
  · rw [h1, if_pos rfl] at h; omega
theorem rise_of {l : List Bl} (h : blksErr none l = 0) : Rise l := by
  have step : ∀ (k : Nat) (x y : Bl), l[k]? = some x → l[k + 1]? = some y → x.id < y.id := by
    intro k x y hx hy
    obtain ⟨_, h2, _⟩ := blkErr_zero (blks_zero h _ _ hy)
    rw [prevB_succ hx] at h2
    have := of_decide_eq_false h2
    omega
  intro i j
  induction j with
  | zero => intro x y hij; omega
  | succ j ih =>
    intro x y hij hx hy
    have hj : j < l.length := by have := (List.getElem?_eq_some_iff.1 hy).1; omega
    have hz := List.getElem?_eq_getElem hj
    have h1 := step j _ y hz hy
    rcases Nat.lt_succ_iff_lt_or_eq.1 hij with g | g
    · have := ih x _ g hx hz; omega
    · subst g
      rw [hx] at hz
      obtain rfl := Option.some.inj hz
      exact h1
theorem ids_of {l : List Bl} (h : blksErr none l = 0) : IdsIn l := by
  intro x hx
  obtain ⟨k, hk, rfl⟩ := List.mem_iff_getElem.1 hx
  obtain ⟨h1, _⟩ := blkErr_zero (blks_zero h _ _ (List.getElem?_eq_getElem hk))
  rcases k with _ | k
  · have h1 : (l[0].id != 0) = false := h1
    have : l[0].id = 0 := by simpa using h1
    omega
  · rw [prevB_succ (List.getElem?_eq_getElem (by omega : k < l.length))] at h1
    have h1 : (decide (l[k + 1].id < 1) || decide (1000000 < l[k + 1].id)) = false := h1
    rw [Bool.or_eq_false_iff, decide_eq_false_iff_not, decide_eq_false_iff_not] at h1
    omega
theorem kidE_zero {l : List Bl} {bid : Int} {seen : List Int} {k : Int} (h : kidE l bid seen k = 0) : k ≠ 0 ∧ (∃ y ∈ l, y.id = k ∧ y.parent = bid) ∧ k ∉ seen := by
  rcases kidE_ways l bid seen k with ⟨_, h2⟩ | ⟨p, y, h1, h2, h3, ⟨h4, h5⟩ | ⟨h4, h5⟩⟩
  · omega
  · omega
  · rw [Bool.or_eq_false_iff] at h4
    refine ⟨by simpa using h4.2, ⟨y, List.mem_of_getElem? h2, h3, by simpa using h4.1⟩, ?_⟩
    rw [h5] at h
    intro hk
    rw [if_pos (by simpa using hk)] at h
    omega
theorem kids_zero {l : List Bl} {bid : Int} {kids : List Int} (h : kidsE l bid [] kids = 0) : ∀ (j : Nat) (k : Int), kids[j]? = some k → kidE l bid (kids.take j) k = 0 := by
  have key : ∀ j, j ≤ kids.length → kidsE l bid (kids.take j) (kids.drop j) = 0 := by
    intro j
    induction j with
    | zero => intro _; exact h
    | succ j ih =>
      intro hj
      have := ih (by omega)
      rw [kidsE_at (List.getElem?_eq_getElem (by omega : j < kids.length))] at this
      split at this
      · rename_i h1; exact absurd this h1
      · exact this
  intro j k hk
  have hj := (List.getElem?_eq_some_iff.1 hk).1
  have := key j (by omega)
  rw [kidsE_at hk] at this
  split at this
  · exact this
  · rename_i h1
    exact Decidable.byContradiction fun h2 => h1 h2
theorem nodup_of_take : ∀ {kids : List Int}, (∀ (j : Nat) (k : Int), kids[j]? = some k → k ∉ kids.take j) → kids.Nodup := by
  intro kids h
  rw [List.nodup_iff_pairwise_ne, List.pairwise_iff_getElem]
  intro i j hi hj hij e
  refine h j kids[j] (List.getElem?_eq_getElem hj) ?_
  rw [← e, List.mem_take_iff_getElem]
  exact ⟨i, by omega, rfl⟩
theorem allKids_zero {l : List Bl} : ∀ {M : List Bl}, allKids l M = 0 → ∀ b ∈ M, kidsE l b.id [] b.kids = 0
  | [], _, b, hb => by cases hb
  | x :: M, h, b, hb => by
    rw [allKids] at h
    split at h
    · rename_i h1; exact absurd h h1
    · rename_i h1
      rcases List.mem_cons.1 hb with rfl | hb
      · exact Decidable.byContradiction fun h2 => h1 h2
      · exact allKids_zero h b hb
theorem root_id {l : List Bl} (h : blksErr none l = 0) {r : Bl} (hr : l[0]? = some r) : r.id = 0 := by
  obtain ⟨e1, _⟩ := blkErr_zero (blks_zero h _ _ hr)
  have e1 : (r.id != 0) = false := e1
  simpa using e1
theorem zero_iff {l : List Bl} (h : blksErr none l = 0) {p : Nat} {y : Bl} (hy : l[p]? = some y) : ((p : Int) == 0) = (y.id == 0) := by
  rw [Bool.eq_iff_iff, beq_iff_eq, beq_iff_eq]
  have hp := (List.getElem?_eq_some_iff.1 hy).1
  have hr := List.getElem?_eq_getElem (by omega : 0 < l.length)
  have h0 := root_id h hr
  constructor
  · intro e
    obtain rfl : p = 0 := by omega
    exact root_id h hy
  · intro e
    rcases Nat.eq_zero_or_pos p with g | g
    · omega
    · have := rise_of h 0 p _ _ g hr hy
      omega
/-- a base whose blocks and kids have no error -/
theorem kids_of {l : List Bl} (h0 : l.length ≠ 0) (h1 : ¬ 2000 < l.length) (h2 : blksErr none l = 0) (h3 : allKids l l = 0) : Kids l where
  rise := rise_of h2
  ids := ids_of h2
  root := by
    have hx := List.getElem?_eq_getElem (by omega : 0 < l.length)
    obtain ⟨e1, _, e3, _⟩ := blkErr_zero (blks_zero h2 _ _ hx)
    have e1 : (l[0].id != 0) = false := e1
    have e3 : (!l[0].text.toList.isEmpty || decide (0 < l[0].props.length) || (l[0].parent != 0)) = false := e3
    rw [Bool.or_eq_false_iff] at e3
    exact ⟨_, hx, by simpa using e1, by simpa using e3.2⟩
  kid b hb k hk := by
    obtain ⟨j, hj, rfl⟩ := List.mem_iff_getElem.1 hk
    obtain ⟨a1, a2, _⟩ := kidE_zero (kids_zero (allKids_zero h3 b hb) j _ (List.getElem?_eq_getElem hj))
    exact ⟨a1, a2⟩
  nod b hb := nodup_of_take fun j k hk => (kidE_zero (kids_zero (allKids_zero h3 b hb) j k hk)).2.2
  short := by omega
  few b hb := by
    obtain ⟨k, hk, rfl⟩ := List.mem_iff_getElem.1 hb
    exact (blkErr_zero (blks_zero h2 _ _ (List.getElem?_eq_getElem hk))).2.2.2.2.1
/-- f says how deep the blocks are, if the kids are right -/
def DepOk (l : List Bl) (f : Int → Option Int) : Prop := Kids l → IsDep l f
theorem DepOk.exists (l : List Bl) : ∃ f, DepOk l f := by
  by_cases K : Kids l
  · obtain ⟨f, hf⟩ := IsDep.exists K
    exact ⟨f, fun _ => hf⟩
  · exact ⟨fun _ => none, fun h => absurd h K⟩
end Go.Proofs.Ytbkhnfdfdgdfkaa
