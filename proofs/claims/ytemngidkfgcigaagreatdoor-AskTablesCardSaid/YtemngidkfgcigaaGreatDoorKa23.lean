/-
  DERIVED. The error of a base, in plain words; what a base without error is. Conditions: none.
  Plain law: the tokens of a text in which a link has been given another target. Conditions: none.
  Plain law: the tokens ahead of a link whose target turns are as they were. Conditions: none.
  Plain law: the spans of a text in which a link has been given another target. Conditions: none.
  Plain law: what a span of a text is, kind by kind. Conditions: none.
  By an AI agent.
-/
import Derived.Test.YtemngidkfgcigaaGreatDoorKa20
import Derived.Test.YtemngidkfgcigaaGreatDoorKa08
import Derived.Test.YtemngidkfgcigaaGreatDoorKa13
import Derived.Test.YtemngidkfgcigaaGreatDoorKa22
namespace Go.Proofs.YtemngidkfgcigaaGreatDoor

/-- the error of blocks behind another -/
def blksErr : Option Bl → List Bl → Int
  | _, [] => 0
  | p, x :: l => if blkErr p x ≠ 0 then blkErr p x else blksErr (some x) l
theorem blksErr_at {l : List Bl} {k : Nat} {x : Bl} (h : l[k]? = some x) : blksErr (prevB l k) (l.drop k) = if blkErr (prevB l k) x ≠ 0 then blkErr (prevB l k) x else blksErr (prevB l (k + 1)) (l.drop (k + 1)) := by
  rw [prevB_succ h]
  obtain ⟨hk, e⟩ := List.getElem?_eq_some_iff.1 h
  rw [List.drop_eq_getElem_cons hk, blksErr, e]
/-- the error of a base; f says how deep its blocks are -/
def baseE (l : List Bl) (f : Int → Option Int) : Int :=
  if l.length = 0 then 1 else if 2000 < l.length then 4 else if blksErr none l ≠ 0 then blksErr none l else if allKids l l ≠ 0 then allKids l l else lvlE f l

theorem blks_zero {l : List Bl} (h : blksErr none l = 0) : ∀ (k : Nat) (x : Bl), l[k]? = some x → blkErr (prevB l k) x = 0 := by
  have key : ∀ k, k ≤ l.length → blksErr (prevB l k) (l.drop k) = 0 := by
    intro k
    induction k with
    | zero => intro _; exact h
    | succ k ih =>
      intro hk
      have := ih (by omega)
      rw [blksErr_at (List.getElem?_eq_getElem (by omega : k < l.length))] at this
      split at this
      · rename_i h1; exact absurd this h1
      · exact this
  intro k x hx
  have hk := (List.getElem?_eq_some_iff.1 hx).1
  have := key k (by omega)
  rw [blksErr_at hx] at this
  split at this
  · exact this
  · rename_i h1
    exact Decidable.byContradiction fun h2 => h1 h2
theorem blkErr_zero {p : Option Bl} {x : Bl} (h : blkErr p x = 0) : rngB p x = false ∧ ordB p x = false ∧ rootB p x = false ∧ txErr x.text = 0 ∧ x.kids.length ≤ 500 ∧ cpErr x.props = 0 := by
  unfold blkErr at h
  cases h1 : rngB p x
  · cases h2 : ordB p x
    · cases h3 : rootB p x
      · rw [h1, h2, h3, if_neg (by decide), if_neg (by decide), if_neg (by decide)] at h
        by_cases h4 : txErr x.text = 0
        · rw [if_neg (fun e => e h4)] at h
          by_cases h5 : 500 < x.kids.length
          · rw [if_pos h5] at h; omega
          · rw [if_neg h5] at h
            exact ⟨rfl, rfl, rfl, h4, by omega, h⟩
        · rw [if_pos h4] at h; exact absurd h h4
      · rw [h1, h2, h3, if_neg (by decide), if_neg (by decide), if_pos rfl] at h; omega
    · rw [h1, h2, if_neg (by decide), if_pos rfl] at h; omega
  · rw [h1, if_pos rfl] at h; omega
theorem rise_of {l : List Bl} (h : blksErr none l = 0) : Rise l := by
  have step : ∀ (k : Nat) (x y : Bl), l[k]? = some x → l[k + 1]? = some y → x.id < y.id := by
    intro k x y hx hy
    obtain ⟨_, h2, _⟩ := blkErr_zero (blks_zero h _ _ hy)
    rw [prevB_succ hx] at h2
    have := of_decide_eq_false h2
    omega
  intro i j
  induction j with
  | zero => intro x y hij; omega
  | succ j ih =>
    intro x y hij hx hy
    have hj : j < l.length := by have := (List.getElem?_eq_some_iff.1 hy).1; omega
    have hz := List.getElem?_eq_getElem hj
    have h1 := step j _ y hz hy
    rcases Nat.lt_succ_iff_lt_or_eq.1 hij with g | g
    · have := ih x _ g hx hz; omega
    · subst g
      rw [hx] at hz
      obtain rfl := Option.some.inj hz
      exact h1
theorem ids_of {l : List Bl} (h : blksErr none l = 0) : IdsIn l := by
  intro x hx
  obtain ⟨k, hk, rfl⟩ := List.mem_iff_getElem.1 hx
  obtain ⟨h1, _⟩ := blkErr_zero (blks_zero h _ _ (List.getElem?_eq_getElem hk))
  rcases k with _ | k
  · have h1 : (l[0].id != 0) = false := h1
    have : l[0].id = 0 := by simpa using h1
    omega
  · rw [prevB_succ (List.getElem?_eq_getElem (by omega : k < l.length))] at h1
    have h1 : (decide (l[k + 1].id < 1) || decide (1000000 < l[k + 1].id)) = false := h1
    rw [Bool.or_eq_false_iff, decide_eq_false_iff_not, decide_eq_false_iff_not] at h1
    omega
theorem kidE_zero {l : List Bl} {bid : Int} {seen : List Int} {k : Int} (h : kidE l bid seen k = 0) : k ≠ 0 ∧ (∃ y ∈ l, y.id = k ∧ y.parent = bid) ∧ k ∉ seen := by
  rcases kidE_ways l bid seen k with ⟨_, h2⟩ | ⟨p, y, h1, h2, h3, ⟨h4, h5⟩ | ⟨h4, h5⟩⟩
  · omega
  · omega
  · rw [Bool.or_eq_false_iff] at h4
    refine ⟨by simpa using h4.2, ⟨y, List.mem_of_getElem? h2, h3, by simpa using h4.1⟩, ?_⟩
    rw [h5] at h
    intro hk
    rw [if_pos (by simpa using hk)] at h
    omega
theorem kids_zero {l : List Bl} {bid : Int} {kids : List Int} (h : kidsE l bid [] kids = 0) : ∀ (j : Nat) (k : Int), kids[j]? = some k → kidE l bid (kids.take j) k = 0 := by
  have key : ∀ j, j ≤ kids.length → kidsE l bid (kids.take j) (kids.drop j) = 0 := by
    intro j
    induction j with
    | zero => intro _; exact h
    | succ j ih =>
      intro hj
      have := ih (by omega)
      rw [kidsE_at (List.getElem?_eq_getElem (by omega : j < kids.length))] at this
      split at this
      · rename_i h1; exact absurd this h1
      · exact this
  intro j k hk
  have hj := (List.getElem?_eq_some_iff.1 hk).1
  have := key j (by omega)
  rw [kidsE_at hk] at this
  split at this
  · exact this
  · rename_i h1
    exact Decidable.byContradiction fun h2 => h1 h2
theorem nodup_of_take : ∀ {kids : List Int}, (∀ (j : Nat) (k : Int), kids[j]? = some k → k ∉ kids.take j) → kids.Nodup := by
  intro kids h
  rw [List.nodup_iff_pairwise_ne, List.pairwise_iff_getElem]
  intro i j hi hj hij e
  refine h j kids[j] (List.getElem?_eq_getElem hj) ?_
  rw [← e, List.mem_take_iff_getElem]
  exact ⟨i, by omega, rfl⟩
theorem allKids_zero {l : List Bl} : ∀ {M : List Bl}, allKids l M = 0 → ∀ b ∈ M, kidsE l b.id [] b.kids = 0
  | [], _, b, hb => by cases hb
  | x :: M, h, b, hb => by
    rw [allKids] at h
    split at h
    · rename_i h1; exact absurd h h1
    · rename_i h1
      rcases List.mem_cons.1 hb with rfl | hb
      · exact Decidable.byContradiction fun h2 => h1 h2
      · exact allKids_zero h b hb
theorem root_id {l : List Bl} (h : blksErr none l = 0) {r : Bl} (hr : l[0]? = some r) : r.id = 0 := by
  obtain ⟨e1, _⟩ := blkErr_zero (blks_zero h _ _ hr)
  have e1 : (r.id != 0) = false := e1
  simpa using e1
theorem zero_iff {l : List Bl} (h : blksErr none l = 0) {p : Nat} {y : Bl} (hy : l[p]? = some y) : ((p : Int) == 0) = (y.id == 0) := by
  rw [Bool.eq_iff_iff, beq_iff_eq, beq_iff_eq]
  have hp := (List.getElem?_eq_some_iff.1 hy).1
  have hr := List.getElem?_eq_getElem (by omega : 0 < l.length)
  have h0 := root_id h hr
  constructor
  · intro e
    obtain rfl : p = 0 := by omega
    exact root_id h hy
  · intro e
    rcases Nat.eq_zero_or_pos p with g | g
    · omega
    · have := rise_of h 0 p _ _ g hr hy
      omega
/-- a base whose blocks and kids have no error -/
theorem kids_of {l : List Bl} (h0 : l.length ≠ 0) (h1 : ¬ 2000 < l.length) (h2 : blksErr none l = 0) (h3 : allKids l l = 0) : Kids l where
  rise := rise_of h2
  ids := ids_of h2
  root := by
    have hx := List.getElem?_eq_getElem (by omega : 0 < l.length)
    obtain ⟨e1, _, e3, _⟩ := blkErr_zero (blks_zero h2 _ _ hx)
    have e1 : (l[0].id != 0) = false := e1
    have e3 : (!l[0].text.toList.isEmpty || decide (0 < l[0].props.length) || (l[0].parent != 0)) = false := e3
    rw [Bool.or_eq_false_iff] at e3
    exact ⟨_, hx, by simpa using e1, by simpa using e3.2⟩
  kid b hb k hk := by
    obtain ⟨j, hj, rfl⟩ := List.mem_iff_getElem.1 hk
    obtain ⟨a1, a2, _⟩ := kidE_zero (kids_zero (allKids_zero h3 b hb) j _ (List.getElem?_eq_getElem hj))
    exact ⟨a1, a2⟩
  nod b hb := nodup_of_take fun j k hk => (kidE_zero (kids_zero (allKids_zero h3 b hb) j k hk)).2.2
  short := by omega
  few b hb := by
    obtain ⟨k, hk, rfl⟩ := List.mem_iff_getElem.1 hb
    exact (blkErr_zero (blks_zero h2 _ _ (List.getElem?_eq_getElem hk))).2.2.2.2.1
/-- f says how deep the blocks are, if the kids are right -/
def DepOk (l : List Bl) (f : Int → Option Int) : Prop := Kids l → IsDep l f
theorem DepOk.exists (l : List Bl) : ∃ f, DepOk l f := by
  by_cases K : Kids l
  · obtain ⟨f, hf⟩ := IsDep.exists K
    exact ⟨f, fun _ => hf⟩
  · exact ⟨fun _ => none, fun h => absurd h K⟩
end Go.Proofs.YtemngidkfgcigaaGreatDoor
namespace Go.Proofs.YtemngidkfgcigaaGreatDoor
open Go.RowKit

theorem bt_list (s : ByteArray) (i : Nat) : bt s i = (match s.data.toList[i]? with | some c => (c.toNat : Int) | none => -1) := by
  by_cases h : i < s.size
  · rw [bt_at h, List.getElem?_eq_getElem (by simpa using h)]; rfl
  · rw [bt_out (by omega), List.getElem?_eq_none (by simp; exact Nat.le_of_not_lt h)]
theorem bt_eq_list {s o : ByteArray} {i j : Nat} (h : s.data.toList[i]? = o.data.toList[j]?) : bt s i = bt o j := by rw [bt_list, bt_list, h]
theorem ba_ext {s o : ByteArray} (h : s.data.toList = o.data.toList) : s = o := by
  cases s with | mk a => cases o with | mk b => cases a; cases b; simp at h; rw [h]
theorem ext_list2 (s : ByteArray) (a b : Nat) : (s.extract a b).data.toList = (s.data.toList.drop a).take (b - a) := by
  rw [ByteArray.data_extract, Array.toList_extract]

/-- two texts are alike from these places on -/
structure Same (s o : ByteArray) (a b : Nat) : Prop where
  la : a ≤ s.size
  lb : b ≤ o.size
  dr : s.data.toList.drop a = o.data.toList.drop b
theorem Same.sz {s o : ByteArray} {a b : Nat} (h : Same s o a b) : s.size + b = o.size + a := by
  have := congrArg List.length h.dr
  simp only [List.length_drop, Array.length_toList] at this
  have h1 := h.la
  have h2 := h.lb
  have e1 : s.data.size = s.size := rfl
  have e2 : o.data.size = o.size := rfl
  omega
theorem Same.at_ {s o : ByteArray} {a b : Nat} (h : Same s o a b) (i : Nat) : bt s (a + i) = bt o (b + i) := by
  apply bt_eq_list
  have := congrArg (fun l => l[i]?) h.dr
  simpa [List.getElem?_drop] using this
theorem Same.at' {s o : ByteArray} {a b i j : Nat} (h : Same s o a b) (hi : a ≤ i) (hj : i + b = j + a) : bt s i = bt o j := by
  have := h.at_ (i - a)
  rwa [show a + (i - a) = i by omega, show b + (i - a) = j by omega] at this
theorem Same.more {s o : ByteArray} {a b i j : Nat} (h : Same s o a b) (hi : a ≤ i) (hs : i ≤ s.size) (hj : i + b = j + a) : Same s o i j := by
  refine ⟨hs, by have := h.sz; omega, ?_⟩
  have := congrArg (fun l => l.drop (i - a)) h.dr
  simp only [List.drop_drop] at this
  rwa [show a + (i - a) = i by omega, show b + (i - a) = j by omega] at this
theorem Same.ext {s o : ByteArray} {a b i j i' j' : Nat} (h : Same s o a b) (hi : a ≤ i) (hij : i ≤ j) (h1 : i + b = i' + a) (h2 : j + b = j' + a) : o.extract i' j' = s.extract i j := by
  apply ba_ext
  rw [ext_list2, ext_list2]
  have := congrArg (fun l => (l.drop (i - a)).take (j - i)) h.dr
  simp only [List.drop_drop] at this
  rw [show a + (i - a) = i by omega, show b + (i - a) = i' by omega] at this
  rw [show j' - i' = j - i by omega]
  exact this.symm
theorem Same.upto {s o : ByteArray} {a b i j : Nat} (h : Same s o a b) (stop : Int → Bool) (hi : a ≤ i) (hj : i + b = j + a) : upto stop s i + b = upto stop o j + a := by
  have key : ∀ n i j, a ≤ i → i + b = j + a → uptoN stop s n i + b = uptoN stop o n j + a := by
    intro n
    induction n with
    | zero => intro i j _ h2; exact h2
    | succ n ih =>
      intro i j h1 h2
      simp only [uptoN]
      rw [h.at' h1 h2]
      split
      · exact h2
      · exact ih (i + 1) (j + 1) (by omega) (by omega)
  have hsz := h.sz
  unfold Go.Proofs.YtemngidkfgcigaaGreatDoor.upto
  rw [show o.size - j = s.size - i by omega]
  exact key _ i j hi hj

/-- a token at another place -/
def mv (f : Nat → Nat) (x : Sp) : Sp := { x with frm := f x.frm, to_ := f x.to_ }
def shF (a b : Nat) (n : Nat) : Nat := n + b - a

theorem tokC_same {s o : ByteArray} {a b : Nat} (h : Same s o a b) : tokC o b = (tokC s a).map (mv (shF a b)) := by
  unfold tokC
  dsimp only
  have hj := h.upto (isC 96) (i := a + 1) (j := b + 1) (by omega) (by omega)
  have hg := upto_ge (isC 96) s (a + 1)
  obtain ⟨j, e⟩ : ∃ j, j = upto (isC 96) s (a + 1) := ⟨_, rfl⟩
  obtain ⟨j', e'⟩ : ∃ j', j' = upto (isC 96) o (b + 1) := ⟨_, rfl⟩
  rw [← e] at hj hg
  rw [← e'] at hj
  rw [← e, ← e', h.at' (i := a) (j := b) (by omega) (by omega)]
  have hs := h.sz
  by_cases c : bt o b = 96 ∧ j < s.size ∧ a + 1 < j
  · rw [if_pos c, if_pos ⟨c.1, by omega, by omega⟩, h.ext (i := a + 1) (j := j) (by omega) (by omega) (by omega) (by omega)]
    simp [mv, shF]; omega
  · rw [if_neg c, if_neg (fun c' => c ⟨c'.1, by omega, by omega⟩)]; rfl
theorem tokL_same {s o : ByteArray} {a b : Nat} (h : Same s o a b) : tokL o b = (tokL s a).map (mv (shF a b)) := by
  unfold tokL
  dsimp only
  have he := h.upto (notB tgtB) (i := a + 2) (j := b + 2) (by omega) (by omega)
  have hg := upto_ge (notB tgtB) s (a + 2)
  obtain ⟨e, ee⟩ : ∃ e, e = upto (notB tgtB) s (a + 2) := ⟨_, rfl⟩
  obtain ⟨e', ee'⟩ : ∃ e', e' = upto (notB tgtB) o (b + 2) := ⟨_, rfl⟩
  rw [← ee] at he hg
  rw [← ee'] at he
  rw [← ee, ← ee']
  have hj := h.upto (isAny [91, 93]) (i := e + 1) (j := e' + 1) (by omega) (by omega)
  have hg2 := upto_ge (isAny [91, 93]) s (e + 1)
  obtain ⟨j, ej⟩ : ∃ j, j = upto (isAny [91, 93]) s (e + 1) := ⟨_, rfl⟩
  obtain ⟨j', ej'⟩ : ∃ j', j' = upto (isAny [91, 93]) o (e' + 1) := ⟨_, rfl⟩
  rw [← ej] at hj hg2
  rw [← ej'] at hj
  rw [← ej, ← ej']
  rw [h.at' (i := a) (j := b) (by omega) (by omega), h.at' (i := a + 1) (j := b + 1) (by omega) (by omega), h.ext (i := a + 2) (j := e) (i' := b + 2) (j' := e') (by omega) (by omega) (by omega) (by omega),
    h.at' (i := e) (j := e') (by omega) (by omega), h.at' (i := e + 1) (j := e' + 1) (by omega) (by omega), h.at' (i := j) (j := j') (by omega) (by omega), h.at' (i := j + 1) (j := j' + 1) (by omega) (by omega),
    h.ext (i := e + 1) (j := j) (i' := e' + 1) (j' := j') (by omega) (by omega) (by omega) (by omega)]
  have hs := h.sz
  split
  · split
    · simp [mv, shF]; omega
    · by_cases c : bt o e' = 124 ∧ j < s.size ∧ e + 1 < j ∧ bt o j' = 93 ∧ bt o (j' + 1) = 93
      · rw [if_pos c, if_pos ⟨c.1, by omega, by omega, c.2.2.2⟩]
        simp [mv, shF]; omega
      · rw [if_neg c, if_neg (fun c' => c ⟨c'.1, by omega, by omega, c'.2.2.2⟩)]; rfl
  · rfl
theorem tokR_same {s o : ByteArray} {a b : Nat} (h : Same s o a b) : tokR o b = (tokR s a).map (mv (shF a b)) := by
  unfold tokR
  dsimp only
  have he := h.upto (notB digB) (i := a + 2) (j := b + 2) (by omega) (by omega)
  have hg := upto_ge (notB digB) s (a + 2)
  obtain ⟨e, ee⟩ : ∃ e, e = upto (notB digB) s (a + 2) := ⟨_, rfl⟩
  obtain ⟨e', ee'⟩ : ∃ e', e' = upto (notB digB) o (b + 2) := ⟨_, rfl⟩
  rw [← ee] at he hg
  rw [← ee'] at he
  rw [← ee, ← ee']
  rw [h.at' (i := a) (j := b) (by omega) (by omega), h.at' (i := a + 1) (j := b + 1) (by omega) (by omega), h.at' (i := a + 2) (j := b + 2) (by omega) (by omega), h.ext (i := a + 2) (j := e) (i' := b + 2) (j' := e') (by omega) (by omega) (by omega) (by omega),
    h.at' (i := e) (j := e') (by omega) (by omega), h.at' (i := e + 1) (j := e' + 1) (by omega) (by omega)]
  by_cases c : bt o b = 40 ∧ bt o (b + 1) = 40 ∧ a + 2 < e ∧ e ≤ a + 9 ∧ bt o (b + 2) ≠ 48 ∧ bt o e' = 41 ∧ bt o (e' + 1) = 41 ∧ digVal (s.extract (a + 2) e).data.toList ≤ 1000000
  · rw [if_pos c, if_pos ⟨c.1, c.2.1, by omega, by omega, c.2.2.2.2⟩]
    simp [mv, shF]; omega
  · rw [if_neg c, if_neg (fun c' => c ⟨c'.1, c'.2.1, by omega, by omega, c'.2.2.2.2⟩)]; rfl
end Go.Proofs.YtemngidkfgcigaaGreatDoor
namespace Go.Proofs.YtemngidkfgcigaaGreatDoor
open Go.RowKit

/-- two texts are alike up to place N; at p two brackets -/
structure Pre (s o : ByteArray) (p : Nat) : Prop where
  ps : p + 2 ≤ s.size
  po : p + 2 ≤ o.size
  tk : s.data.toList.take (p + 2) = o.data.toList.take (p + 2)
  b0 : bt s p = 91
  b1 : bt s (p + 1) = 91
  nc : ∀ i, p + 2 ≤ i → bt o i = 96 → ∃ i', p + 2 ≤ i' ∧ bt s i' = 96
theorem Pre.at_ {s o : ByteArray} {p : Nat} (h : Pre s o p) {i : Nat} (hi : i < p + 2) : bt o i = bt s i := by
  apply bt_eq_list
  have := congrArg (fun l => l[i]?) h.tk
  simp only [List.getElem?_take, if_pos hi] at this
  exact this.symm
theorem Pre.ext {s o : ByteArray} {p : Nat} (h : Pre s o p) {i j : Nat} (hj : j ≤ p + 2) : o.extract i j = s.extract i j := by
  apply ba_ext
  rw [ext_list2, ext_list2]
  have := congrArg (fun l => (l.drop i).take (j - i)) h.tk
  simp only [List.drop_take, List.take_take] at this
  rw [show min (j - i) (p + 2 - i) = j - i by omega] at this
  exact this.symm
theorem Pre.upto {s o : ByteArray} {p : Nat} (h : Pre s o p) {stop : Int → Bool} {k : Nat} (hk : k ≤ p) (hs : stop 91 = true) : Go.Proofs.YtemngidkfgcigaaGreatDoor.upto stop o k = Go.Proofs.YtemngidkfgcigaaGreatDoor.upto stop s k ∧ Go.Proofs.YtemngidkfgcigaaGreatDoor.upto stop s k ≤ p := by
  have hps := h.ps
  have hpo := h.po
  have hle : Go.Proofs.YtemngidkfgcigaaGreatDoor.upto stop s k ≤ p := by
    rcases Nat.lt_or_ge p (Go.Proofs.YtemngidkfgcigaaGreatDoor.upto stop s k) with g | g
    · have := upto_mid hk g
      rw [h.b0, hs] at this; cases this
    · exact g
  refine ⟨upto_eq (upto_ge _ _ _) (by omega) (fun j hj hj' => ?_) (.inr ?_), hle⟩
  · rw [h.at_ (by omega)]; exact upto_mid hj hj'
  · rw [h.at_ (by omega)]; exact upto_at (by omega)
theorem tokC_byte {s : ByteArray} {a : Nat} {x : Sp} (h : tokC s a = some x) : bt s a = 96 := by
  unfold tokC at h; dsimp only at h; split at h
  · rename_i c; exact c.1
  · cases h
theorem tokE_byte {s : ByteArray} {a : Nat} {x : Sp} (h : tokE s a = some x) : bt s a = 92 := by
  unfold tokE at h; split at h
  · rename_i c; exact c.1
  · cases h
end Go.Proofs.YtemngidkfgcigaaGreatDoor
namespace Go.Proofs.YtemngidkfgcigaaGreatDoor
open Go.RowKit

theorem tokE_kind {s : ByteArray} {a : Nat} {x : Sp} (h : tokE s a = some x) : x.kind = 2 := by
  unfold tokE at h; split at h
  · injection h with h; subst h; rfl
  · cases h
theorem tokC_kind {s : ByteArray} {a : Nat} {x : Sp} (h : tokC s a = some x) : x.kind = 3 := by
  unfold tokC at h; dsimp only at h; split at h
  · injection h with h; subst h; rfl
  · cases h
theorem tokR_kind {s : ByteArray} {a : Nat} {x : Sp} (h : tokR s a = some x) : x.kind = 5 := by
  unfold tokR at h; dsimp only at h; split at h
  · injection h with h; subst h; rfl
  · cases h
theorem tokT_kind {s : ByteArray} {a : Nat} {x : Sp} (h : tokT s a = some x) : x.kind = 6 := by
  unfold tokT at h; dsimp only at h; split at h
  · injection h with h; subst h; rfl
  · cases h
/-- what a link is -/
structure LinkIs (s : ByteArray) (a e : Nat) (x : Sp) : Prop where
  ee : upto (notB tgtB) s (a + 2) = e
  b0 : bt s a = 91
  b1 : bt s (a + 1) = 91
  tg : isTgt (s.extract (a + 2) e) = true
  kd : x.kind = 4
  fr : x.frm = a
  tx : x.text = s.extract (a + 2) e
  id0 : x.id = 0
  st : x.strong = false
  en : (bt s e = 93 ∧ bt s (e + 1) = 93 ∧ x.to_ = e + 2 ∧ x.show_ = noB) ∨
    (bt s e = 124 ∧ upto (isAny [91, 93]) s (e + 1) < s.size ∧ e + 1 < upto (isAny [91, 93]) s (e + 1) ∧ bt s (upto (isAny [91, 93]) s (e + 1)) = 93 ∧ bt s (upto (isAny [91, 93]) s (e + 1) + 1) = 93 ∧
      x.to_ = upto (isAny [91, 93]) s (e + 1) + 2 ∧ x.show_ = s.extract (e + 1) (upto (isAny [91, 93]) s (e + 1)))
theorem tokL_inv {s : ByteArray} {a : Nat} {x : Sp} (h : tokL s a = some x) : LinkIs s a (upto (notB tgtB) s (a + 2)) x := by
  unfold tokL at h
  dsimp only at h
  split at h
  · rename_i c
    split at h
    · rename_i d
      injection h with h; subst h
      exact ⟨rfl, c.1, c.2.1, c.2.2, rfl, rfl, rfl, rfl, rfl, .inl ⟨d.1, d.2, rfl, rfl⟩⟩
    · split at h
      · rename_i d
        injection h with h; subst h
        exact ⟨rfl, c.1, c.2.1, c.2.2, rfl, rfl, rfl, rfl, rfl, .inr ⟨d.1, d.2.1, d.2.2.1, d.2.2.2.1, d.2.2.2.2, rfl, rfl⟩⟩
      · cases h
  · cases h
theorem LinkIs.es {s : ByteArray} {a e : Nat} {x : Sp} (h : LinkIs s a e x) : e < s.size ∧ a + 2 ≤ e ∧ e + 2 ≤ x.to_ ∧ x.text.size = e - (a + 2) := by
  have h0 := upto_ge (notB tgtB) s (a + 2)
  rw [h.ee] at h0
  have h1 : e < s.size := by
    rcases h.en with c | c
    · exact bt_in (by omega)
    · exact bt_in (by omega)
  refine ⟨h1, h0, ?_, ?_⟩
  · rcases h.en with c | c <;> omega
  · rw [h.tx, ByteArray.size_extract]; omega

theorem isTgt_facts {U : ByteArray} (h : isTgt U = true) : 0 < U.size ∧ U.size ≤ 100 ∧ ∀ i, i < U.size → tgtB (bt U i) = true := by
  unfold isTgt at h
  simp only [Bool.and_eq_true, decide_eq_true_eq] at h
  refine ⟨h.1.1.1.1, h.1.1.1.2, fun i hi => ?_⟩
  have := upto_mid (stop := notB tgtB) (s := U) (i := 0) (j := i) (Nat.zero_le _) (by rw [h.2]; exact hi)
  unfold notB at this
  simpa using this

end Go.Proofs.YtemngidkfgcigaaGreatDoor
namespace Go.Proofs.YtemngidkfgcigaaGreatDoor
open Go.RowKit

/-- what holds of each token, and does not hang on Strong, holds of each span -/
theorem spans_all {P : Sp → Prop} (s : ByteArray) (h1 : ∀ a, a < s.size → P (tokA s a)) (h2 : ∀ x b, P x → P { x with strong := b }) (h3 : ∀ x, x.kind = 1 → P x) : ∀ x ∈ spans s, P x := by
  have k1 : ∀ n a, ∀ x ∈ toksN s n a, P x := by
    intro n
    induction n with
    | zero => intro a x hx; cases hx
    | succ n ih =>
      intro a x hx
      simp only [toksN] at hx
      split at hx
      · rename_i ha
        rcases List.mem_cons.1 hx with rfl | hx
        · exact h1 a ha
        · exact ih _ _ hx
      · cases hx
  have k2 : ∀ x ∈ strong (toks s 0), P x := by
    intro x hx
    obtain ⟨j, hj, rfl⟩ := List.mem_mapIdx.1 hx
    have g := k1 _ 0 _ (List.getElem_mem (l := toks s 0) hj)
    unfold strK
    split
    · exact h3 _ rfl
    · exact h2 _ _ g
  have k3 : ∀ (l acc : List Sp), (∀ x ∈ l, P x) → (∀ x ∈ acc, P x) → ∀ x ∈ merge acc l, P x := by
    intro l
    induction l with
    | nil => intro acc _ h; exact h
    | cons z l ih =>
      intro acc g1 g2
      refine ih (mstep acc z) (fun y hy => g1 y (List.mem_cons_of_mem _ hy)) (fun y hy => ?_)
      unfold mstep at hy
      cases e : acc.getLast? with
      | none => rw [e] at hy; simp at hy; subst hy; exact g1 _ (List.mem_cons_self ..)
      | some q =>
        rw [e] at hy
        dsimp only at hy
        split at hy
        · rename_i c
          simp only [Bool.and_eq_true, beq_iff_eq] at c
          rcases List.mem_append.1 hy with hy | hy
          · exact g2 y ((List.dropLast_sublist acc).subset hy)
          · simp at hy; subst hy; exact h3 _ c.1.2
        · rcases List.mem_append.1 hy with hy | hy
          · exact g2 y hy
          · simp at hy; subst hy; exact g1 _ (List.mem_cons_self ..)
  intro x hx
  obtain ⟨y, hy, rfl⟩ := List.mem_map.1 hx
  have h := k3 _ [] k2 (fun _ h => by cases h) y hy
  unfold fillT
  split
  · rename_i k; exact h3 _ k
  · exact h

/-- which token stands at a place -/
theorem tokA_cases (s : ByteArray) (a : Nat) : tokE s a = some (tokA s a) ∨ tokC s a = some (tokA s a) ∨ tokL s a = some (tokA s a) ∨ tokR s a = some (tokA s a) ∨ tokT s a = some (tokA s a) ∨ tokB s a = some (tokA s a) ∨ tokA s a = plainAt a := by
  unfold tokA
  cases e1 : tokE s a with
  | some x => exact .inl rfl
  | none =>
    cases e2 : tokC s a with
    | some x => exact .inr (.inl rfl)
    | none =>
      cases e3 : tokL s a with
      | some x => exact .inr (.inr (.inl rfl))
      | none =>
        cases e4 : tokR s a with
        | some x => exact .inr (.inr (.inr (.inl rfl)))
        | none =>
          cases e5 : tokT s a with
          | some x => exact .inr (.inr (.inr (.inr (.inl rfl))))
          | none =>
            cases e6 : tokB s a with
            | some x => exact .inr (.inr (.inr (.inr (.inr (.inl rfl)))))
            | none => exact .inr (.inr (.inr (.inr (.inr (.inr rfl)))))

/-- what a span is -/
structure SpIs (s : ByteArray) (x : Sp) : Prop where
  e2 : x.kind = 2 → x.to_ = x.frm + 2 ∧ x.text = s.extract (x.frm + 1) (x.frm + 2) ∧ x.show_ = noB ∧ x.id = 0
  e3 : x.kind = 3 → x.frm + 2 < x.to_ ∧ x.text = s.extract (x.frm + 1) (x.to_ - 1) ∧ x.show_ = noB ∧ x.id = 0
  e4 : x.kind = 4 → ∃ e, x.frm + 2 < e ∧ e ≤ x.frm + 102 ∧ x.text = s.extract (x.frm + 2) e ∧ bt s x.frm = 91 ∧ bt s (x.frm + 1) = 91 ∧ x.to_ ≤ s.size ∧ x.id = 0 ∧ ((x.to_ = e + 2 ∧ x.show_ = noB) ∨ (e + 1 < x.to_ - 2 ∧ 2 ≤ x.to_ ∧ x.show_ = s.extract (e + 1) (x.to_ - 2)))
  e5 : x.kind = 5 → x.frm + 4 < x.to_ ∧ x.text = s.extract (x.frm + 2) (x.to_ - 2) ∧ x.show_ = noB ∧ bt s x.frm = 40 ∧ bt s (x.frm + 1) = 40 ∧ bt s (x.to_ - 2) = 41 ∧ bt s (x.to_ - 1) = 41
  e6 : x.kind = 6 → x.frm + 1 < x.to_ ∧ x.text = s.extract (x.frm + 1) x.to_ ∧ x.show_ = noB ∧ x.id = 0 ∧ bt s x.frm = 35
  e7 : x.kind = 7 → x.to_ = x.frm + 2 ∧ x.show_ = noB ∧ x.id = 0
  k : 1 ≤ x.kind ∧ x.kind ≤ 7
theorem tokA_is (s : ByteArray) (a : Nat) : SpIs s (tokA s a) := by
  rcases tokA_cases s a with h | h | h | h | h | h | h
  · generalize tokA s a = x at h
    unfold tokE at h; split at h
    · injection h with h; subst h
      refine ⟨fun _ => ⟨rfl, rfl, rfl, rfl⟩, fun h => ?_, fun h => ?_, fun h => ?_, fun h => ?_, fun h => ?_, by show (1 : Int) ≤ 2; decide, by show (2 : Int) ≤ 7; decide⟩
      all_goals (replace h : (2 : Int) = _ := h; omega)
    · cases h
  · generalize tokA s a = x at h
    unfold tokC at h; dsimp only at h; split at h
    · rename_i c
      injection h with h; subst h
      refine ⟨fun h => ?_, fun _ => ⟨by show a + 2 < _ + 1; omega, rfl, rfl, rfl⟩, fun h => ?_, fun h => ?_, fun h => ?_, fun h => ?_, by show (1 : Int) ≤ 3; decide, by show (3 : Int) ≤ 7; decide⟩
      all_goals (replace h : (3 : Int) = _ := h; omega)
    · cases h
  · have LI := tokL_inv h
    have hto := tokL_to h
    generalize tokA s a = x at h LI hto
    obtain ⟨g1, g2, g3, g4⟩ := LI.es
    have hk := LI.kd
    have hsz := isTgt_facts LI.tg
    rw [← LI.tx, g4] at hsz
    refine ⟨fun h => by omega, fun h => by omega, fun _ => ⟨upto (notB tgtB) s (a + 2), by rw [LI.fr]; omega, by rw [LI.fr]; omega, by rw [LI.fr]; exact LI.tx, by rw [LI.fr]; exact LI.b0, by rw [LI.fr]; exact LI.b1, hto.2.2, LI.id0, ?_⟩, fun h => by omega, fun h => by omega, fun h => by omega, by omega, by omega⟩
    rcases LI.en with ⟨c1, c2, c3, c4⟩ | ⟨c1, c2, c3, c4, c5, c6, c7⟩
    · exact .inl ⟨c3, c4⟩
    · refine .inr ⟨by omega, by omega, ?_⟩
      rw [c7, c6]; rfl
  · generalize tokA s a = x at h
    unfold tokR at h; dsimp only at h; split at h
    · rename_i c
      injection h with h; subst h
      refine ⟨fun h => ?_, fun h => ?_, fun h => ?_, fun _ => ⟨by show a + 4 < _ + 2; omega, rfl, rfl, c.1, c.2.1, c.2.2.2.2.2.1, c.2.2.2.2.2.2.1⟩, fun h => ?_, fun h => ?_, by show (1 : Int) ≤ 5; decide, by show (5 : Int) ≤ 7; decide⟩
      all_goals (replace h : (5 : Int) = _ := h; omega)
    · cases h
  · generalize tokA s a = x at h
    unfold tokT at h; dsimp only at h; split at h
    · rename_i c
      injection h with h; subst h
      have := upto_ge letB s (a + 1)
      refine ⟨fun h => ?_, fun h => ?_, fun h => ?_, fun h => ?_, fun _ => ⟨by show a + 1 < upto _ _ _; omega, rfl, rfl, rfl, c.1⟩, fun h => ?_, by show (1 : Int) ≤ 6; decide, by show (6 : Int) ≤ 7; decide⟩
      all_goals (replace h : (6 : Int) = _ := h; omega)
    · cases h
  · generalize tokA s a = x at h
    unfold tokB at h; split at h
    · injection h with h; subst h
      refine ⟨fun h => ?_, fun h => ?_, fun h => ?_, fun h => ?_, fun h => ?_, fun _ => ⟨rfl, rfl, rfl⟩, by show (1 : Int) ≤ 7; decide, by show (7 : Int) ≤ 7; decide⟩
      all_goals (replace h : (7 : Int) = _ := h; omega)
    · cases h
  · rw [h]
    refine ⟨fun h => ?_, fun h => ?_, fun h => ?_, fun h => ?_, fun h => ?_, fun h => ?_, by show (1 : Int) ≤ 1; decide, by show (1 : Int) ≤ 7; decide⟩
    all_goals (replace h : (1 : Int) = _ := h; omega)
theorem spans_is (s : ByteArray) : ∀ x ∈ spans s, SpIs s x :=
  spans_all s (fun a _ => tokA_is s a) (fun _ _ h => ⟨h.e2, h.e3, h.e4, h.e5, h.e6, h.e7, h.k⟩) (fun x h => ⟨fun g => by omega, fun g => by omega, fun g => by omega, fun g => by omega, fun g => by omega, fun g => by omega, by omega⟩)
end Go.Proofs.YtemngidkfgcigaaGreatDoor
