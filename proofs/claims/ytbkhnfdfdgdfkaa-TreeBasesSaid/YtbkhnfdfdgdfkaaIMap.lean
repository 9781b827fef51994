/-
  DERIVED. A map from ints that a call makes: what stands at each key, as a function. Conditions: none. By an AI agent.
-/
import Derived.Test.YtbkhnfdfdgdfkaaBsMem
import Derived.Maps.Views
import Derived.Maps.OwnSet
namespace Go.Proofs.Ytbkhnfdfdgdfkaa
open Go.RowKit Go.Maps

abbrev DU := DataW Unit
def ik (x : Int) : Lit := .int .i64 x
theorem ik_ne {x y : Int} (h : x ≠ y) : ik x ≠ ik y := fun e => h (by injection e)
theorem wf_i64 {x : Int} (h : I64 x) : (Lit.int .i64 x).wf = true := by
  have := wrap64_wf x
  rwa [IntWalk.wrap64_in x h] at this
/-- how an element reads -/
structure ElemLaw {α : Type} (P : Program) (e : TypeId) (en : α → Value) (lt : α → DU) (ok : α → Prop) (z0 : α) : Prop where
  enc : ∀ a, ok a → plainElem P e (en a) = some (lt a, [])
  inv : ∀ v y, plainElem (H := Unit) P e v = some y → ∃ a, v = en a ∧ y = (lt a, [])
  inj : ∀ a b, lt a = lt b → a = b
  zero : ∀ w, (zeroValue e).run P w = .ok (en z0) w
  zok : ok z0
/-- what stands at each key behind a store -/
def putF {α : Type} (f : Int → Option α) (x : Int) (a : α) (y : Int) : Option α := if y = x then some a else f y
theorem putF_same {α : Type} (f : Int → Option α) (x : Int) (a : α) : putF f x a x = some a := if_pos rfl
theorem putF_other {α : Type} (f : Int → Option α) {x y : Int} (a : α) (h : y ≠ x) : putF f x a y = f y := if_neg h
section
variable {P : Program} {k e t : TypeId} {α : Type} {en : α → Value} {lt : α → DU} {ok : α → Prop} {z0 : α} {w w' : World} {b n : Nat} {f : Int → Option α}
/-- block b is a map of at most n entries; f says what stands at each key -/
def MapIn (P : Program) (k e : TypeId) (lt : α → DU) (w : World) (b n : Nat) (f : Int → Option α) : Prop :=
  ∃ D : DU, w.ownsMap P k (plainElem P e) b n D ∧ ∀ x, I64 x → Maps.has D (ik x) = (f x).isSome ∧ ∀ a, f x = some a → ∀ z, D.atKey (ik x) z = lt a
theorem MapIn.made (w : World) : MapIn P k e lt (w.alloc (.map #[] 0)) w.heap.size 0 (fun _ => none) :=
  ⟨.map [], World.ownsMap_made w P k _, fun x _ => ⟨rfl, fun a h => by cases h⟩⟩
theorem MapIn.lt_ (h : MapIn P k e lt w b n f) : b < w.heap.size := by
  obtain ⟨D, h, _⟩ := h; exact h.lt
theorem MapIn.below (h : MapIn P k e lt w b n f) {B : Nat} (hb : Below B w w') (hB : b < B) : MapIn P k e lt w' b n f := by
  obtain ⟨D, ⟨es, clock, h1, h2⟩, h3⟩ := h
  exact ⟨D, ⟨es, clock, (hb.block b hB).trans h1, h2⟩, h3⟩
theorem MapIn.grown (h : MapIn P k e lt w b n f) {row : Option Nat} (hg : w.grownBy w' row) (hne : some b ≠ row) : MapIn P k e lt w' b n f := by
  obtain ⟨D, h1, h3⟩ := h
  exact ⟨D, h1.kept hg hne, h3⟩
theorem MapIn.alloc (h : MapIn P k e lt w b n f) (o : Obj) : MapIn P k e lt (w.alloc o) b n f := by
  obtain ⟨D, h1, h3⟩ := h
  exact ⟨D, h1.alloc o, h3⟩
theorem MapIn.setCell (h : MapIn P k e lt w b n f) {p : Addr} (hp : b ≠ p.block) (u : Value) : MapIn P k e lt (w.setCell p u) b n f := by
  obtain ⟨D, h1, h3⟩ := h
  exact ⟨D, h1.setCell hp u, h3⟩
theorem MapIn.drewN (h : MapIn P k e lt w b n f) (q : Nat) : MapIn P k e lt (w.drewN q) b n f := h
theorem MapIn.look_ok (h : MapIn P k e lt w b n f) (E : ElemLaw P e en lt ok z0) (hk : P.underlying k = some (.int .i64)) (ht : P.underlying t = some (.map k e)) {x : Int} (hx : I64 x) :
    (Instr.lookup t (.map (some b)) (.int .i64 x) true).run P w = .ok (.tuple #[en ((f x).getD z0), .bool (f x).isSome]) w := by
  obtain ⟨D, h1, h3⟩ := h
  obtain ⟨v, ps, hr, hv⟩ := h1.look_ok (int_keyed hk) ht (E.zero w) (E.enc _ E.zok) (keyOf_int_mk hk (wf_i64 hx))
  obtain ⟨h4, h5⟩ := h3 x hx
  obtain ⟨a, rfl, ha⟩ := E.inv _ _ hv
  have ha := congrArg Prod.fst ha
  dsimp only at ha
  rw [hr]
  have h4' : Maps.has D (.int .i64 x) = (f x).isSome := h4
  rw [h4']
  cases hf : f x with
  | none =>
    rw [hf] at h4
    rw [atKey_of_not_has (show Maps.has D (.int .i64 x) = false from h4)] at ha
    rw [E.inj _ _ ha]; rfl
  | some c =>
    have h6 := h5 c hf (lt z0)
    rw [show D.atKey (.int .i64 x) (lt z0) = lt c from h6] at ha
    rw [E.inj _ _ ha]; rfl
theorem MapIn.look (h : MapIn P k e lt w b n f) (E : ElemLaw P e en lt ok z0) (hk : P.underlying k = some (.int .i64)) (ht : P.underlying t = some (.map k e)) {x : Int} (hx : I64 x) :
    (Instr.lookup t (.map (some b)) (.int .i64 x) false).run P w = .ok (en ((f x).getD z0)) w := by
  obtain ⟨D, h1, h3⟩ := h
  obtain ⟨v, ps, hr, hv⟩ := h1.lookup (int_keyed hk) ht (E.zero w) (E.enc _ E.zok) (keyOf_int_mk hk (wf_i64 hx))
  obtain ⟨h4, h5⟩ := h3 x hx
  obtain ⟨a, rfl, ha⟩ := E.inv _ _ hv
  have ha := congrArg Prod.fst ha
  dsimp only at ha
  rw [hr]
  cases hf : f x with
  | none =>
    rw [hf] at h4
    rw [atKey_of_not_has (show Maps.has D (.int .i64 x) = false from h4)] at ha
    rw [E.inj _ _ ha]; rfl
  | some c =>
    have h6 := h5 c hf (lt z0)
    rw [show D.atKey (.int .i64 x) (lt z0) = lt c from h6] at ha
    rw [E.inj _ _ ha]; rfl
theorem MapIn.put (h : MapIn P k e lt w b n f) (E : ElemLaw P e en lt ok z0) (hk : P.underlying k = some (.int .i64)) (ht : P.underlying t = some (.map k e)) (hn : n < maxLen) {x : Int} (hx : I64 x) {a : α} (ha : ok a) :
    ∃ w', (Instr.mapUpdate t (.map (some b)) (.int .i64 x) (en a)).run P w = .ok () w' ∧ MapIn P k e lt w' b (n + 1) (putF f x a) ∧ w.grownBy w' (some b) := by
  obtain ⟨D, h1, h3⟩ := h
  have hM := h1.isMap
  obtain ⟨w', hr, ho, hg⟩ := h1.update (int_keyed hk) ht hn (keyOf_int_mk hk (wf_i64 hx)) (E.enc a ha)
  have hkl : WideAt.IsKeyLit (.int .i64 x) := (int_keyed hk).key (keyOf_int_mk hk (wf_i64 hx))
  refine ⟨w', hr, ⟨_, ho, fun y hy => ?_⟩, hg⟩
  by_cases e1 : y = x
  · subst e1
    rw [putF_same]
    exact ⟨has_put_same hM hkl _, fun c hc z => by
      injection hc with hc
      rw [← hc]
      exact atKey_put_same hM hkl _ z⟩
  · rw [putF_other f a e1]
    obtain ⟨h4, h5⟩ := h3 y hy
    exact ⟨(has_put_other (ik_ne e1) _).trans h4, fun c hc z => (atKey_put_other (ik_ne e1) _ z).trans (h5 c hc z)⟩
end
theorem boolElem {P : Program} {e : TypeId} (he : P.underlying e = some .bool) (hz : ∀ w, (zeroValue e).run P w = .ok (.bool false) w) : ElemLaw P e Value.bool (fun x => .lit (.bool x)) (fun _ => True) false where
  enc a _ := plainElem_bool he a
  inv v y h := by
    unfold plainElem at h
    rw [he] at h
    cases v <;> simp at h
    exact ⟨_, rfl, h.symm⟩
  inj a b h := by injection h with h; injection h
  zero := hz
  zok := trivial
theorem intElem {P : Program} {e : TypeId} (he : P.underlying e = some (.int .i64)) (hz : ∀ w, (zeroValue e).run P w = .ok (.int .i64 0) w) : ElemLaw P e (Value.int .i64) (fun x => .lit (.int .i64 x)) I64 0 where
  enc a h := plainElem_int he (wf_i64 h)
  inv v y h := by
    obtain ⟨a, h1, h2, _⟩ := plainElem_int_inv he h
    exact ⟨a, h1, h2⟩
  inj a b h := by injection h with h; injection h
  zero := hz
  zok := by unfold I64; omega
end Go.Proofs.Ytbkhnfdfdgdfkaa
