/-
  DERIVED. Where a block with an id is in a base: the walks of florref1.at, tree.index and slices.BinarySearchFunc. Conditions: sizes; ids that rise.
  The walks of tree.index and slices.BinarySearchFunc at blocks. Conditions: sizes; ids that rise within their bounds.
  A map from ints that a call makes: what stands at each key, as a function. Conditions: none.
  DERIVED: THE SHELF's CONTRACTS AT THIS DUMP, IN PLAIN WORDS (tools/lay-plain.mjs out of 'TryShelf.lean', which tools/lay-shelf.mjs wrote): THE SAME DECLARATIONS UNDER THE SAME NAMES: 'import', 'namespace', 'open', 'def', 'theorem' AND NOTHING ELSE: no command of the shelf's: FOR A HAND-IN. Each laying: the table of numbers ('.._ren') and one theorem, a field a fact of the dump's own or the kernel's comparison; each contract: ONE APPLICATION.
  DERIVED: THE SHELF's CONTRACTS AT THIS DUMP, IN PLAIN WORDS (tools/lay-plain.mjs out of 'TryShelf.lean', which tools/lay-shelf.mjs wrote): THE SAME DECLARATIONS UNDER THE SAME NAMES: 'import', 'namespace', 'open', 'def', 'theorem' AND NOTHING ELSE: no command of the shelf's: FOR A HAND-IN. Each laying: the table of numbers ('.._ren') and one theorem, a field a fact of the dump's own or the kernel's comparison; each contract: ONE APPLICATION.
  By an AI agent.
-/
import Derived.Test.YtmkicfjcgbfaaaaGreatDoorTc01
import Derived.Test.YtmkicfjcgbfaaaaGreatDoorChecked
import Derived.Deep.LoopGhost
import Derived.Deep.DeepCutAuto
import Derived.Deep.QuietTactic
import Derived.BigQuiet
import Derived.IntWalk
import Derived.Maps.Views
import Derived.Maps.OwnSet
import Derived.Shelf.Slices.Reverse
import Derived.Shelf.Slices.Cells
import Derived.Test.YtmkicfjcgbfaaaaGreatDoorProg
import Derived.Shelf.Strings.Builder1
import Derived.Shelf.Strings.Builder2
import Derived.Shelf.Strings.OnBuilder
import Derived.Shelf.Small.Strs
import Derived.Shelf.Strings.BuilderF
namespace Go.Proofs.YtmkicfjcgbfaaaaGreatDoor
open Go.RowKit

/-- the place of the first block with an id, from a place on -/
def posFrom : List Bl → Int → Nat → Int
  | [], _, _ => -1
  | b :: l, id, k => if b.id = id then (k : Int) else posFrom l id (k + 1)
/-- the place of the first block with an id; -1: there is none -/
def posOf (l : List Bl) (id : Int) : Int := posFrom l id 0
theorem posFrom_spec : ∀ (l : List Bl) (id : Int) (k : Nat), (posFrom l id k = -1 ∧ ∀ b ∈ l, b.id ≠ id) ∨ ∃ (i : Nat) (b : Bl), posFrom l id k = ((k + i : Nat) : Int) ∧ l[i]? = some b ∧ b.id = id ∧ ∀ (j : Nat) (c : Bl), j < i → l[j]? = some c → c.id ≠ id
  | [], id, k => .inl ⟨rfl, fun b hb => by cases hb⟩
  | b :: l, id, k => by
    rw [posFrom]
    by_cases h : b.id = id
    · rw [if_pos h]
      exact .inr ⟨0, b, rfl, rfl, h, fun j c hj => absurd hj (by omega)⟩
    · rw [if_neg h]
      rcases posFrom_spec l id (k + 1) with ⟨h1, h2⟩ | ⟨i, c, h1, h2, h3, h4⟩
      · exact .inl ⟨h1, fun x hx => by
          rcases List.mem_cons.1 hx with rfl | hx
          · exact h
          · exact h2 x hx⟩
      · refine .inr ⟨i + 1, c, by rw [h1]; congr 1; omega, h2, h3, fun j d hj hd => ?_⟩
        rcases j with _ | j
        · obtain rfl : b = d := by simpa using hd
          exact h
        · exact h4 j d (by omega) (by simpa using hd)
theorem posOf_spec (l : List Bl) (id : Int) : (posOf l id = -1 ∧ ∀ b ∈ l, b.id ≠ id) ∨ ∃ (i : Nat) (b : Bl), posOf l id = (i : Int) ∧ l[i]? = some b ∧ b.id = id ∧ ∀ (j : Nat) (c : Bl), j < i → l[j]? = some c → c.id ≠ id := by
  rcases posFrom_spec l id 0 with h | ⟨i, b, h1, h2⟩
  · exact .inl h
  · exact .inr ⟨i, b, by rw [posOf, h1]; congr 1; omega, h2⟩
/-- ids that rise, the first at 0 -/
def Rise (l : List Bl) : Prop := ∀ (i j : Nat) (x y : Bl), i < j → l[i]? = some x → l[j]? = some y → x.id < y.id
/-- ids within their bounds -/
def IdsIn (l : List Bl) : Prop := ∀ x ∈ l, 0 ≤ x.id ∧ x.id ≤ 1000000
theorem posOf_of {l : List Bl} (h : Rise l) {i : Nat} {b : Bl} (hb : l[i]? = some b) : posOf l b.id = (i : Int) := by
  rcases posOf_spec l b.id with ⟨_, h2⟩ | ⟨j, c, h1, h2, h3, h4⟩
  · exact absurd rfl (h2 b (List.mem_of_getElem? hb))
  · rcases Nat.lt_trichotomy i j with g | g | g
    · exact absurd rfl (h4 i b g hb)
    · rw [h1, g]
    · have := h j i c b g h2 hb
      omega

end Go.Proofs.YtmkicfjcgbfaaaaGreatDoor
namespace Go.Proofs.YtmkicfjcgbfaaaaGreatDoor
open Go.RowKit

/-- what the closure says: is the block's id ahead -/
def cmpI (a b : Int) : Int := wrap64 (a - b)
theorem cmpI_near {a b : Int} (ha : 0 ≤ a ∧ a ≤ 1000000) (hb : 0 ≤ b ∧ b ≤ 1000000) : cmpI a b = a - b := IntWalk.wrap64_in _ (by omega)
set_option maxHeartbeats 400000 in
theorem idx1_any (i p t : Int) (s : ByteArray) (Ak Ap : Option Addr) (nk ck np cp : Nat) (w : World) :
    Calls Tryz.prog 35 #[.agg #[.int .i64 i, .int .i64 p, .slice Ak nk ck, .string s, .slice Ap np cp], .int .i64 t] w fun e w' => e = .returned (.int .i64 (cmpI i t)) ∧ Below w.heap.size w w' := by
  unfold cmpI
  go_enter Tryz.func35, Tryz.ntmps35
  go_wp2_with fail
  go_ret
  exact ⟨rfl, (Below.refl _ _).alloc (Nat.le_refl _) _⟩

theorem cmpI_zero {a b : Int} (ha : 0 ≤ a ∧ a ≤ 1000000) (hb : I64 b) (h : cmpI a b = 0) : a = b := by
  unfold cmpI wrap64 at h
  unfold I64 at hb
  omega
theorem posOf_lt {l : List Bl} {id : Int} (h : 0 ≤ posOf l id) : posOf l id < (l.length : Int) ∧ ∃ b : Bl, l[(posOf l id).toNat]? = some b ∧ b.id = id := by
  rcases posOf_spec l id with ⟨h1, _⟩ | ⟨i, b, h1, h2, h3, _⟩
  · omega
  · have := (List.getElem?_eq_some_iff.1 h2).1
    exact ⟨by omega, b, by rw [h1]; exact h2, h3⟩
theorem posOf_has {l : List Bl} {k : Nat} {x : Bl} (hx : l[k]? = some x) : 0 ≤ posOf l x.id := by
  rcases posOf_spec l x.id with ⟨_, h2⟩ | ⟨i, b, h1, _⟩
  · exact absurd rfl (h2 x (List.mem_of_getElem? hx))
  · omega
/-- which half the search takes -/
theorem idx_half {l : List Bl} (hr : Rise l) (hi : IdsIn l) {id : Int} {k : Nat} {x : Bl} (hx : l[k]? = some x) (hp : 0 ≤ posOf l id) : (cmpI x.id id < 0 → ((k + 1 : Nat) : Int) ≤ posOf l id) ∧ (¬ cmpI x.id id < 0 → posOf l id ≤ (k : Int)) := by
  obtain ⟨h1, b, h2, h3⟩ := posOf_lt hp
  have hb := hi b (List.mem_of_getElem? h2)
  have ha := hi x (List.mem_of_getElem? hx)
  rw [h3] at hb
  rw [cmpI_near ha hb]
  rcases Nat.lt_trichotomy k (posOf l id).toNat with g | g | g
  · have := hr _ _ _ _ g hx h2
    exact ⟨fun _ => by omega, fun h => by omega⟩
  · rw [← g, hx] at h2
    obtain rfl := Option.some.inj h2
    exact ⟨fun h => by omega, fun _ => by omega⟩
  · have := hr _ _ _ _ g h2 hx
    exact ⟨fun h => by omega, fun h => by omega⟩

/-- what the search returns -/
def BinR (l : List Bl) (id : Int) (e : Ending) : Prop := ∃ i : Nat, e = .returned (.tuple #[.int .i64 i, .bool (decide (0 ≤ posOf l id))]) ∧ (0 ≤ posOf l id → (i : Int) = posOf l id)
set_option maxHeartbeats 1000000 in
theorem binS_any (l : List Bl) (A : Option Addr) (n c : Nat) (id : Int) (w : World) (B : Nat) (hB : B ≤ w.heap.size) (h : RB w B (.slice A n c) l) (hr : Rise l) (hi : IdsIn l) (hid : I64 id) :
    Calls Tryz.prog 34 #[.slice A n c, .int .i64 id, .func (.func 35) #[] #[]] w fun e w' => BinR l id e ∧ Below w.heap.size w w' := by
  have HN := Lib.hid h.len
  have H := Lib.hid h
  clear h
  go_enter Tryz.func34, Tryz.ntmps34
  go_wp2_with fail
  go_loopg [9, 10] n (fun gg s9 s10 wr => ∃ i j : Nat, i ≤ j ∧ j ≤ n ∧ j - i ≤ gg ∧ s9 = .int .i64 (i : Int) ∧ s10 = .int .i64 (j : Int) ∧ Hid (0 ≤ posOf l id → (i : Int) ≤ posOf l id ∧ posOf l id ≤ (j : Int)) ∧ Hid (Below w.heap.size w wr))
  case atStart => exact ⟨0, n, by omega, by omega, by omega, rfl, rfl, (fun h => ⟨h, by have := (posOf_lt h).1; have := HN.out.1; omega⟩), Below.refl _ _⟩
  case round =>
    obtain ⟨i, j, hij, hjn, hg, rfl, rfl, hno, hbel⟩ := hrel
    have hbg : n * 80 ≤ 140737488351232 := HN.out.2.2
    have HL : Hid (n = l.length) := HN.out.1
    by_cases hk : i < j
    · have j1 : (i : Int) < (j : Int) := by omega
      have j2 : (0 : Int) ≤ (i : Int) := by omega
      obtain ⟨q, hh, h1, h2⟩ : ∃ q : Nat, ((i : Int) + (j : Int)) / 2 = (q : Int) ∧ i ≤ q ∧ q < j := ⟨(i + j) / 2, by omega, by omega, by omega⟩
      obtain ⟨x, hx⟩ : ∃ x, l[q]? = some x := ⟨_, List.getElem?_eq_getElem (by have := HL.out; omega)⟩
      obtain ⟨b, off, Ak, nk, ck, Ap, np, cp, rfl, hbb, g0, g1, g2, g3, g4, _, _⟩ := (H.out.below (hbel.out.mono hB)).at_ hx
      have HF := Lib.hid fun hp => idx_half hr hi (id := id) hx hp
      have HI := Lib.hid fun W => idx1_any x.id x.parent id x.text Ak Ap nk ck np cp W
      have q0 : (0 : Int) ≤ (q : Int) := by omega
      have q1 : (q : Int) < (n : Int) := by omega
      clear hx
      obtain ⟨d, hd⟩ : ∃ d, d = cmpI x.id id := ⟨_, rfl⟩
      simp only [← hd] at HF HI
      clear hd
      by_cases hz : d < 0
      all_goals
        go_wp2_with fail
        refine (HI.out _).mono ?_
        rintro e w2 ⟨rfl, hb⟩
        have HB2 : Hid (Below w.heap.size w w2) := hbel.out.trans (hb.mono hbel.out.size)
        clear hb
        go_wp2_with fail
      · go_roundg (j - (q + 1))
        case measure => omega
        case rel => exact ⟨q + 1, j, by omega, by omega, by omega, by go_num, rfl, (fun hp => ⟨(HF.out hp).1 hz, (hno.out hp).2⟩), HB2⟩
      · go_roundg (q - i)
        case measure => omega
        case rel => exact ⟨i, q, by omega, by omega, by omega, rfl, rfl, (fun hp => ⟨(hno.out hp).1, (HF.out hp).2 hz⟩), HB2⟩
    · obtain rfl : i = j := by omega
      have HE : Hid (0 ≤ posOf l id → (i : Int) = posOf l id) := fun hp => by have := hno.out hp; omega
      clear hno
      by_cases hin : i < n
      · have q0 : (0 : Int) ≤ (i : Int) := by omega
        have q1 : (i : Int) < (n : Int) := by omega
        obtain ⟨x, hx⟩ : ∃ x, l[i]? = some x := ⟨_, List.getElem?_eq_getElem (by have := HL.out; omega)⟩
        obtain ⟨b, off, Ak, nk, ck, Ap, np, cp, rfl, hbb, g0, g1, g2, g3, g4, _, _⟩ := (H.out.below (hbel.out.mono hB)).at_ hx
        have HI := Lib.hid fun W => idx1_any x.id x.parent id x.text Ak Ap nk ck np cp W
        obtain ⟨z, hz⟩ : ∃ z, z = (cmpI x.id id == 0) := ⟨_, rfl⟩
        have HZ : Hid (z = decide (0 ≤ posOf l id)) := by
          show _ = _
          rw [hz, Bool.eq_iff_iff, decide_eq_true_iff, beq_iff_eq]
          constructor
          · intro h
            have e := cmpI_zero (hi x (List.mem_of_getElem? hx)) hid h
            rw [← e]
            exact posOf_has hx
          · intro h
            obtain ⟨_, y, hy, hyi⟩ := posOf_lt h
            have e := HE.out h
            rw [← e] at hy
            have : y = x := by
              have e2 : ((i : Int)).toNat = i := by omega
              rw [e2, hx] at hy
              exact (Option.some.inj hy).symm
            subst this
            rw [← hyi, cmpI_near (hi _ (List.mem_of_getElem? hx)) (hi _ (List.mem_of_getElem? hx))]
            omega
        obtain ⟨d, hd⟩ : ∃ d, d = cmpI x.id id := ⟨_, rfl⟩
        simp only [← hd] at hz HI
        have hz' := hz.symm
        clear hd hx hz
        go_wp2_with fail
        refine (HI.out _).mono ?_
        rintro e w2 ⟨rfl, hb⟩
        have HB2 : Hid (Below w.heap.size w w2) := hbel.out.trans (hb.mono hbel.out.size)
        clear hb
        go_wp2_with fail
        go_ret2
        exact ⟨⟨i, by rw [← HZ.out]; rfl, HE.out⟩, HB2.out⟩
      · have q1 : ¬ (i : Int) < (n : Int) := by omega
        have HZ : Hid (decide (0 ≤ posOf l id) = false) := by
          refine decide_eq_false fun hp => ?_
          have := (posOf_lt hp).1
          have := HE.out hp
          have := HL.out
          omega
        go_wp2_with fail
        go_ret2
        exact ⟨⟨i, by rw [HZ.out]; rfl, HE.out⟩, hbel.out⟩

set_option maxHeartbeats 1000000 in
/-- tree.index -/
theorem index_any (l : List Bl) (A : Option Addr) (n c : Nat) (id : Int) (w : World) (B : Nat) (hB : B ≤ w.heap.size) (h : RB w B (.slice A n c) l) (hr : Rise l) (hi : IdsIn l) (hid : I64 id) :
    Calls Tryz.prog 16 #[.slice A n c, .int .i64 id] w fun e w' => e = .returned (.int .i64 (posOf l id)) ∧ Below w.heap.size w w' := by
  have HB := Lib.hid (binS_any l A n c id w B hB h hr hi hid)
  obtain ⟨V, hV⟩ : ∃ V, V = posOf l id := ⟨_, rfl⟩
  have hways : V = -1 ∨ 0 ≤ V := by
    rw [hV]
    rcases posOf_spec l id with ⟨h1, _⟩ | ⟨i, b, h1, _⟩
    · exact .inl h1
    · exact .inr (by omega)
  unfold BinR at HB
  rw [← hV] at HB ⊢
  clear h hr hi hV
  go_enter Tryz.func16, Tryz.ntmps16
  go_wp2_with fail
  refine HB.out.mono ?_
  rintro e w1 ⟨⟨i, rfl, he⟩, hb⟩
  have HB1 := Lib.hid hb
  clear hb
  rcases hways with rfl | hp
  · clear he
    go_wp2_with fail
    go_ret
    exact ⟨rfl, HB1.out⟩
  · obtain rfl : (i : Int) = V := he hp
    clear he
    rw [decide_eq_true hp]
    go_wp2_with fail
    go_ret
    exact ⟨rfl, HB1.out⟩
end Go.Proofs.YtmkicfjcgbfaaaaGreatDoor
namespace Go.Proofs.YtmkicfjcgbfaaaaGreatDoor
open Go.RowKit Go.Maps

abbrev DU := DataW Unit
def ik (x : Int) : Lit := .int .i64 x
theorem ik_ne {x y : Int} (h : x ≠ y) : ik x ≠ ik y := fun e => h (by injection e)
theorem wf_i64 {x : Int} (h : I64 x) : (Lit.int .i64 x).wf = true := by
  have := wrap64_wf x
  rwa [IntWalk.wrap64_in x h] at this
/-- how an element reads -/
structure ElemLaw {α : Type} (P : Program) (e : TypeId) (en : α → Value) (lt : α → DU) (ok : α → Prop) (z0 : α) : Prop where
  enc : ∀ a, ok a → plainElem P e (en a) = some (lt a, [])
  inv : ∀ v y, plainElem (H := Unit) P e v = some y → ∃ a, v = en a ∧ y = (lt a, [])
  inj : ∀ a b, lt a = lt b → a = b
  zero : ∀ w, (zeroValue e).run P w = .ok (en z0) w
  zok : ok z0
/-- what stands at each key behind a store -/
def putF {α : Type} (f : Int → Option α) (x : Int) (a : α) (y : Int) : Option α := if y = x then some a else f y
theorem putF_same {α : Type} (f : Int → Option α) (x : Int) (a : α) : putF f x a x = some a := if_pos rfl
theorem putF_other {α : Type} (f : Int → Option α) {x y : Int} (a : α) (h : y ≠ x) : putF f x a y = f y := if_neg h
section
variable {P : Program} {k e t : TypeId} {α : Type} {en : α → Value} {lt : α → DU} {ok : α → Prop} {z0 : α} {w w' : World} {b n : Nat} {f : Int → Option α}
/-- block b is a map of at most n entries; f says what stands at each key -/
def MapIn (P : Program) (k e : TypeId) (lt : α → DU) (w : World) (b n : Nat) (f : Int → Option α) : Prop :=
  ∃ D : DU, w.ownsMap P k (plainElem P e) b n D ∧ ∀ x, I64 x → Maps.has D (ik x) = (f x).isSome ∧ ∀ a, f x = some a → ∀ z, D.atKey (ik x) z = lt a
theorem MapIn.made (w : World) : MapIn P k e lt (w.alloc (.map #[] 0)) w.heap.size 0 (fun _ => none) :=
  ⟨.map [], World.ownsMap_made w P k _, fun x _ => ⟨rfl, fun a h => by cases h⟩⟩
theorem MapIn.lt_ (h : MapIn P k e lt w b n f) : b < w.heap.size := by
  obtain ⟨D, h, _⟩ := h; exact h.lt
theorem MapIn.below (h : MapIn P k e lt w b n f) {B : Nat} (hb : Below B w w') (hB : b < B) : MapIn P k e lt w' b n f := by
  obtain ⟨D, ⟨es, clock, h1, h2⟩, h3⟩ := h
  exact ⟨D, ⟨es, clock, (hb.block b hB).trans h1, h2⟩, h3⟩
theorem MapIn.grown (h : MapIn P k e lt w b n f) {row : Option Nat} (hg : w.grownBy w' row) (hne : some b ≠ row) : MapIn P k e lt w' b n f := by
  obtain ⟨D, h1, h3⟩ := h
  exact ⟨D, h1.kept hg hne, h3⟩
theorem MapIn.alloc (h : MapIn P k e lt w b n f) (o : Obj) : MapIn P k e lt (w.alloc o) b n f := by
  obtain ⟨D, h1, h3⟩ := h
  exact ⟨D, h1.alloc o, h3⟩
theorem MapIn.setCell (h : MapIn P k e lt w b n f) {p : Addr} (hp : b ≠ p.block) (u : Value) : MapIn P k e lt (w.setCell p u) b n f := by
  obtain ⟨D, h1, h3⟩ := h
  exact ⟨D, h1.setCell hp u, h3⟩
theorem MapIn.drewN (h : MapIn P k e lt w b n f) (q : Nat) : MapIn P k e lt (w.drewN q) b n f := h
theorem MapIn.look_ok (h : MapIn P k e lt w b n f) (E : ElemLaw P e en lt ok z0) (hk : P.underlying k = some (.int .i64)) (ht : P.underlying t = some (.map k e)) {x : Int} (hx : I64 x) :
    (Instr.lookup t (.map (some b)) (.int .i64 x) true).run P w = .ok (.tuple #[en ((f x).getD z0), .bool (f x).isSome]) w := by
  obtain ⟨D, h1, h3⟩ := h
  obtain ⟨v, ps, hr, hv⟩ := h1.look_ok (int_keyed hk) ht (E.zero w) (E.enc _ E.zok) (keyOf_int_mk hk (wf_i64 hx))
  obtain ⟨h4, h5⟩ := h3 x hx
  obtain ⟨a, rfl, ha⟩ := E.inv _ _ hv
  have ha := congrArg Prod.fst ha
  dsimp only at ha
  rw [hr]
  have h4' : Maps.has D (.int .i64 x) = (f x).isSome := h4
  rw [h4']
  cases hf : f x with
  | none =>
    rw [hf] at h4
    rw [atKey_of_not_has (show Maps.has D (.int .i64 x) = false from h4)] at ha
    rw [E.inj _ _ ha]; rfl
  | some c =>
    have h6 := h5 c hf (lt z0)
    rw [show D.atKey (.int .i64 x) (lt z0) = lt c from h6] at ha
    rw [E.inj _ _ ha]; rfl
theorem MapIn.look (h : MapIn P k e lt w b n f) (E : ElemLaw P e en lt ok z0) (hk : P.underlying k = some (.int .i64)) (ht : P.underlying t = some (.map k e)) {x : Int} (hx : I64 x) :
    (Instr.lookup t (.map (some b)) (.int .i64 x) false).run P w = .ok (en ((f x).getD z0)) w := by
  obtain ⟨D, h1, h3⟩ := h
  obtain ⟨v, ps, hr, hv⟩ := h1.lookup (int_keyed hk) ht (E.zero w) (E.enc _ E.zok) (keyOf_int_mk hk (wf_i64 hx))
  obtain ⟨h4, h5⟩ := h3 x hx
  obtain ⟨a, rfl, ha⟩ := E.inv _ _ hv
  have ha := congrArg Prod.fst ha
  dsimp only at ha
  rw [hr]
  cases hf : f x with
  | none =>
    rw [hf] at h4
    rw [atKey_of_not_has (show Maps.has D (.int .i64 x) = false from h4)] at ha
    rw [E.inj _ _ ha]; rfl
  | some c =>
    have h6 := h5 c hf (lt z0)
    rw [show D.atKey (.int .i64 x) (lt z0) = lt c from h6] at ha
    rw [E.inj _ _ ha]; rfl
theorem MapIn.put (h : MapIn P k e lt w b n f) (E : ElemLaw P e en lt ok z0) (hk : P.underlying k = some (.int .i64)) (ht : P.underlying t = some (.map k e)) (hn : n < maxLen) {x : Int} (hx : I64 x) {a : α} (ha : ok a) :
    ∃ w', (Instr.mapUpdate t (.map (some b)) (.int .i64 x) (en a)).run P w = .ok () w' ∧ MapIn P k e lt w' b (n + 1) (putF f x a) ∧ w.grownBy w' (some b) := by
  obtain ⟨D, h1, h3⟩ := h
  have hM := h1.isMap
  obtain ⟨w', hr, ho, hg⟩ := h1.update (int_keyed hk) ht hn (keyOf_int_mk hk (wf_i64 hx)) (E.enc a ha)
  have hkl : WideAt.IsKeyLit (.int .i64 x) := (int_keyed hk).key (keyOf_int_mk hk (wf_i64 hx))
  refine ⟨w', hr, ⟨_, ho, fun y hy => ?_⟩, hg⟩
  by_cases e1 : y = x
  · subst e1
    rw [putF_same]
    exact ⟨has_put_same hM hkl _, fun c hc z => by
      injection hc with hc
      rw [← hc]
      exact atKey_put_same hM hkl _ z⟩
  · rw [putF_other f a e1]
    obtain ⟨h4, h5⟩ := h3 y hy
    exact ⟨(has_put_other (ik_ne e1) _).trans h4, fun c hc z => (atKey_put_other (ik_ne e1) _ z).trans (h5 c hc z)⟩
end
theorem boolElem {P : Program} {e : TypeId} (he : P.underlying e = some .bool) (hz : ∀ w, (zeroValue e).run P w = .ok (.bool false) w) : ElemLaw P e Value.bool (fun x => .lit (.bool x)) (fun _ => True) false where
  enc a _ := plainElem_bool he a
  inv v y h := by
    unfold plainElem at h
    rw [he] at h
    cases v <;> simp at h
    exact ⟨_, rfl, h.symm⟩
  inj a b h := by injection h with h; injection h
  zero := hz
  zok := trivial
theorem intElem {P : Program} {e : TypeId} (he : P.underlying e = some (.int .i64)) (hz : ∀ w, (zeroValue e).run P w = .ok (.int .i64 0) w) : ElemLaw P e (Value.int .i64) (fun x => .lit (.int .i64 x)) I64 0 where
  enc a h := plainElem_int he (wf_i64 h)
  inv v y h := by
    obtain ⟨a, h1, h2, _⟩ := plainElem_int_inv he h
    exact ⟨a, h1, h2⟩
  inj a b h := by injection h with h; injection h
  zero := hz
  zok := by unfold I64; omega
end Go.Proofs.YtmkicfjcgbfaaaaGreatDoor
namespace Go.Proofs
open Go.Shelf
def Tryz.lays112_ren : Go.Shelf.Ren := ⟨fun | 112 => 28 | n => n, fun | 28 => 43 | 3 => 3 | 4 => 4 | 0 => 0 | n => n, fun | n => n⟩
theorem Tryz.lays112 : Go.Proofs.Lays.n112 Tryz.prog Tryz.lays112_ren := {
  mixed := by kernel_rfl
  f112 := Tryz.func28.trans (congrArg some (by kernel_rfl))
  t0 := Tryz.underlying0
  a0 := Tryz.isAgg0
  z0 := Tryz.sizeOf0
  v0 := Tryz.zeroValue0
  t3 := Tryz.underlying3
  a3 := Tryz.isAgg3
  z3 := Tryz.sizeOf3
  v3 := Tryz.zeroValue3
  t4 := Tryz.underlying4
  a4 := Tryz.isAgg4
  z4 := Tryz.sizeOf4
  v4 := Tryz.zeroValue4
  t28 := Tryz.underlying43
  a28 := Tryz.isAgg43
  z28 := Tryz.sizeOf43
  v28 := Tryz.zeroValue43 }
open Go.RowKit Go.Lib Go.Sort in
theorem Tryz.slices_Reverse_int (blk off cap : Nat) (zs : List Int) (w : World) (hH : Holds (Value.int .i64) w blk off zs.toArray) (hsz : zs.length ≤ 9223372036854775807) :
    Calls Tryz.prog 28 #[.slice (some ⟨blk, off, none⟩) zs.length cap] w fun e w' => e = .returned (.tuple #[]) ∧ ∃ n, w' = putRow (Value.int .i64) (Sort.ahead w n) blk off zs.reverse.toArray := Any.slices_Reverse_int Tryz.lays112 blk off cap zs w hH hsz
open Go.RowKit Go.Lib Go.Sort in
theorem Tryz.slices_Reverse_int_empty (a : Option Addr) (cap : Nat) (w : World) :
    Calls Tryz.prog 28 #[.slice a 0 cap] w fun e w' => e = .returned (.tuple #[]) ∧ w' = w := Any.slices_Reverse_int_empty Tryz.lays112 a cap w
end Go.Proofs
namespace Go.Proofs
open Go.Shelf

end Go.Proofs
