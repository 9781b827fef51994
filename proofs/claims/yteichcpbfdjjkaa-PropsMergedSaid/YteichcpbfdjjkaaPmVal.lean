/-
  DERIVED. A value of a property as prop.Compare sees it. Conditions: none. By an AI agent.
-/
import Derived.Test.YteichcpbfdjjkaaCompare
import Derived.Test.YteichcpbfdjjkaaBsMem
import Derived.Test.YteichcpbfdjjkaaBsSamePl
namespace Go.Proofs.Yteichcpbfdjjkaa
open Go.RowKit

mutual
/-- the value as Compare's law has it -/
def toV : Vl → V
  | .mk k i t s l => .mk k i t s (toVs l)
def toVs : List Vl → List V
  | [] => []
  | x :: l => toV x :: toVs l
end
theorem toVs_map : ∀ l : List Vl, toVs l = l.map toV
  | [] => by rw [toVs]; rfl
  | x :: l => by rw [toVs, List.map_cons, toVs_map l]
theorem isVal_of {W : World} {B : Nat} : ∀ {d : Nat} {x : Vl × Value}, RVd W B d x.2 x.1.items → IsVal W B (d + 1) (toV x.1) (vlV x)
  | 0, (.mk k i t s l, u), ⟨h1, A, c, h2⟩ => by
    have h1 : l = [] := h1
    have h2 : u = .slice A 0 c := h2
    subst h1 h2
    exact ⟨A, 0, c, rfl, by rw [toVs]; rfl, by omega, fun h => absurd h (by omega)⟩
  | d + 1, (.mk k i t s l, u), ⟨A, n, c, M, h1, h2, h3, h4, h5, h6⟩ => by
    have h1 : M.map Prod.fst = l := h1
    have h2 : u = .slice A n c := h2
    subst h1 h2
    refine ⟨A, n, c, rfl, by rw [toVs_map, List.length_map, List.length_map, h3], by omega, fun hn => ?_⟩
    obtain ⟨y, hy⟩ : ∃ y, M[0]? = some y := ⟨_, List.getElem?_eq_getElem (by omega)⟩
    obtain ⟨b, off, rfl, hb, _⟩ := h5.plain_at (by omega) vlV_len h3 hy
    refine ⟨b, off, rfl, hb, fun j it hit => ?_⟩
    rw [toVs_map, List.getElem?_map, List.getElem?_map] at hit
    obtain ⟨z, hz⟩ : ∃ z, M[j]? = some z := by
      cases h : M[j]? with
      | none => rw [h] at hit; cases hit
      | some z => exact ⟨z, rfl⟩
    rw [hz] at hit
    obtain rfl : toV z.1 = it := by simpa using hit
    obtain ⟨b', off', e, _, hc⟩ := h5.plain_at (by omega) vlV_len h3 hz
    injection e with e
    injection e with e1 e2
    subst e1 e2
    exact ⟨vlV z, vlV_len z, fun q w hq => hc q w hq, isVal_of (h6 z (List.mem_of_getElem? hz))⟩
mutual
/-- how deep a value is -/
def depV : Vl → Nat
  | .mk _ _ _ _ l => depL l + 1
def depL : List Vl → Nat
  | [] => 0
  | x :: l => max (depV x) (depL l)
end
theorem depL_mem : ∀ {l : List Vl} {x : Vl}, x ∈ l → depV x ≤ depL l
  | y :: l, x, h => by
    rw [depL]
    rcases List.mem_cons.1 h with rfl | h
    · omega
    · have := depL_mem h; omega
theorem cmpL_congr {f g : V → V → Int} : ∀ {l m : List V}, (∀ a ∈ l, ∀ b ∈ m, f a b = g a b) → cmpL f l m = cmpL g l m
  | [], [], _ => by unfold cmpL; rfl
  | [], _ :: _, _ => by unfold cmpL; rfl
  | _ :: _, [], _ => by unfold cmpL; rfl
  | a :: l, b :: m, h => by
    rw [cmpL, cmpL, h a (by simp) b (by simp), cmpL_congr (l := l) (m := m) fun x hx y hy => h x (by simp [hx]) y (by simp [hy])]
theorem cmpV_stab : ∀ (d : Nat) (a b : Vl), depV a ≤ d → depV b ≤ d → cmpV (d + 1) (toV a) (toV b) = cmpV d (toV a) (toV b)
  | 0, .mk _ _ _ _ _, _, h, _ => by rw [depV] at h; omega
  | d + 1, .mk k i t s l, .mk k' i' t' s' l', h1, h2 => by
    rw [depV] at h1 h2
    have e : cmpL (cmpV (d + 1)) (toVs l) (toVs l') = cmpL (cmpV d) (toVs l) (toVs l') := cmpL_congr fun a ha b hb => by
      rw [toVs_map] at ha hb
      obtain ⟨a, ja, rfl⟩ := List.mem_map.1 ha
      obtain ⟨b, jb, rfl⟩ := List.mem_map.1 hb
      exact cmpV_stab d a b (by have := depL_mem ja; omega) (by have := depL_mem jb; omega)
    rw [toV, toV, cmpV, cmpV, e]
theorem cmpV_far {d d' : Nat} {a b : Vl} (h1 : depV a ≤ d) (h2 : depV b ≤ d) (h : d ≤ d') : cmpV d' (toV a) (toV b) = cmpV d (toV a) (toV b) := by
  induction h with
  | refl => rfl
  | @step m hm ih =>
    have hm : d ≤ m := hm
    exact (cmpV_stab m a b (by omega) (by omega)).trans ih
theorem dep_of {W : World} {B : Nat} : ∀ {d : Nat} {v : Value} {l : List Vl}, RVd W B d v l → depL l ≤ d
  | 0, _, _, ⟨h, _⟩ => by subst h; rw [depL]; omega
  | d + 1, _, l, ⟨A, n, c, M, h1, h2, h3, h4, h5, h6⟩ => by
    subst h1
    clear h2 h3 h4 h5
    induction M with
    | nil => rw [List.map_nil, depL]; omega
    | cons x M ih =>
      rw [List.map_cons, depL]
      have h7 := dep_of (h6 x (by simp))
      have h8 := ih fun y hy => h6 y (by simp [hy])
      obtain ⟨⟨k, i, t, s, l⟩, u⟩ := x
      have : depV (Vl.mk k i t s l) = depL l + 1 := by rw [depV]
      have h7 : depL l ≤ d := h7
      show max (depV (Vl.mk k i t s l)) _ ≤ _
      omega
/-- prop.Compare over values -/
def cmpP (a b : Vl) : Int := cmpV (max (depV a) (depV b)) (toV a) (toV b)
theorem cmpP_at {d : Nat} {a b : Vl} (h1 : depV a ≤ d) (h2 : depV b ≤ d) : cmpV d (toV a) (toV b) = cmpP a b := cmpV_far (by omega) (by omega) (by omega)
theorem cmpP_refl (a : Vl) : cmpP a a = 0 := Tot.refl (tot_cmpV _) _
theorem cmpP_zero {a b : Vl} (h : cmpP a b = 0) : cmpP b a = 0 := by
  have h1 : cmpV (max (depV b) (depV a)) (toV a) (toV b) = 0 := by rw [Nat.max_comm]; exact h
  have := (tot_cmpV (max (depV b) (depV a))).anti (toV a) (toV b)
  show cmpV _ _ _ = 0
  omega
theorem compare_any (x y : Vl × Value) (w : World) (B : Nat) (hB : B ≤ w.heap.size) (hx : RV w B x.2 x.1.items) (hy : RV w B y.2 y.1.items) :
    Calls Try.prog 20 #[AV x, AV y] w fun e w' => e = .returned (.int .i64 (cmpP x.1 y.1)) ∧ Below w.heap.size w w' := by
  obtain ⟨d1, hx⟩ := hx
  obtain ⟨d2, hy⟩ := hy
  have e : cmpV (max d1 d2 + 1) (toV x.1) (toV y.1) = cmpP x.1 y.1 := cmpP_at (by
    have := dep_of hx
    obtain ⟨⟨k, i, t, s, l⟩, u⟩ := x
    rw [depV]; have : depL l ≤ d1 := this; omega) (by
    have := dep_of hy
    obtain ⟨⟨k, i, t, s, l⟩, u⟩ := y
    rw [depV]; have : depL l ≤ d2 := this; omega)
  rw [← e]
  exact compareAt (max d1 d2 + 1) (toV x.1) (toV y.1) (vlV x) (vlV y) w B hB (isVal_of (hx.up (by omega))) (isVal_of (hy.up (by omega)))
end Go.Proofs.Yteichcpbfdjjkaa
