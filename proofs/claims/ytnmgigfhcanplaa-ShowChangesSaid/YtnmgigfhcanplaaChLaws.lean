/-
  DERIVED. A map from strings to strings at the operations of a walk: a look-up that misses, one that hits, the range's step. Conditions: none. By an AI agent.
-/
import Derived.Test.YtnmgigfhcanplaaChMap
import Derived.Test.YtnmgigfhcanplaaChBad
import Derived.Test.YtnmgigfhcanplaaChTools
import Derived.Maps.RangeWalk
import Derived.Maps.OwnSet
import Derived.StringKeys
namespace Go.Proofs.Ytnmgigfhcanplaa
open Go.RowKit Go.Maps

section
variable {P : Program} (w : World) {ops : Array Oper} {rest : List Oper} {o : Oper} {a : Act} {Q : Exit → Act → World → Prop}
theorem look_miss (hg : o.guard = none) (m x : Operand) (t : TypeId) (hop : o.op = Op.lookup t m x true) (k e : TypeId) (K : Keyed P k) (ht : P.underlying t = some (.map k e)) (he : P.underlying e = some .string)
    (hz : (zeroValue e).run P w = .ok (.string ⟨#[]⟩) w) (b n : Nat) (D : DU) (hm : a.eval m = .map (some b)) (hown : w.ownsMap P k (plainElem P e) b n D) (kv : Value) (kl : Lit) (hx : a.eval x = kv) (hkey : keyOf P k kv = some kl)
    (hh : Maps.has D kl = false) (hK : wpList P ops Q rest (a.put o.dst (.tuple #[.string ⟨#[]⟩, .bool false])) w) : wpList P ops Q (o :: rest) a w := by
  have h0 : plainElem (H := Unit) P e (.string ⟨#[]⟩) = some (.lit (.string []), []) := plainElem_string he (s := ⟨#[]⟩) (Nat.zero_le _)
  refine wpList_lookup_own_ok w hg m x t hop k e K ht (plainElem P e) hz (.lit (.string [])) [] h0 b n D hm hown kv kl hx hkey (fun v ps hv => ?_)
  rw [hh]
  obtain ⟨c, rfl, hc, _⟩ := plainElem_string_inv he hv
  rw [atKey_of_not_has hh] at hc
  have e1 : c = ⟨#[]⟩ := bod_inj (congrArg Prod.fst hc).symm
  rw [e1]; exact hK
theorem look_hit (hg : o.guard = none) (m x : Operand) (t : TypeId) (hop : o.op = Op.lookup t m x true) (k e : TypeId) (K : Keyed P k) (ht : P.underlying t = some (.map k e)) (he : P.underlying e = some .string)
    (hz : (zeroValue e).run P w = .ok (.string ⟨#[]⟩) w) (b n : Nat) (D : DU) (hm : a.eval m = .map (some b)) (hown : w.ownsMap P k (plainElem P e) b n D) (kv : Value) (kl : Lit) (hx : a.eval x = kv) (hkey : keyOf P k kv = some kl)
    (hh : Maps.has D kl = true) (s : ByteArray) (hs : ∀ z, D.atKey kl z = bod s) (hK : wpList P ops Q rest (a.put o.dst (.tuple #[.string s, .bool true])) w) : wpList P ops Q (o :: rest) a w := by
  have h0 : plainElem (H := Unit) P e (.string ⟨#[]⟩) = some (.lit (.string []), []) := plainElem_string he (s := ⟨#[]⟩) (Nat.zero_le _)
  refine wpList_lookup_own_ok w hg m x t hop k e K ht (plainElem P e) hz (.lit (.string [])) [] h0 b n D hm hown kv kl hx hkey (fun v ps hv => ?_)
  rw [hh]
  obtain ⟨c, rfl, hc, _⟩ := plainElem_string_inv he hv
  rw [hs] at hc
  have e1 : s = c := bod_inj (congrArg Prod.fst hc)
  rw [← e1]; exact hK
theorem next_ss (hg : o.guard = none) (it : Operand) (hop : o.op = Op.next it false) (k e : TypeId) (K : Keyed P k) (hk : P.underlying k = some .string) (he : P.underlying e = some .string)
    (b r n : Nat) (D : DU) (left : Lit → Bool) (cnt : Nat) (hit : a.eval it = .pointer (some ⟨r, 0, none⟩)) (h : w.ranges P k (plainElem P e) b r n D left cnt)
    (hDone : cnt = 0 → (∀ kl, left kl = false) → wpList P ops Q rest (a.put o.dst (.tuple #[.bool false])) w)
    (hMore : ∀ (x c : ByteArray) (w' : World) (cnt' : Nat), x.size ≤ maxLen → Maps.has D (key x) = true → left (key x) = true → w'.ranges P k (plainElem P e) b r n D (fun z => left z && !z.sameKey (key x)) cnt' → cnt' < cnt →
      w.grownBy w' (some r) → w'.heap.size = w.heap.size → (Instr.entry (.pointer (some ⟨r, 0, none⟩))).run P w' = .ok (.tuple #[.string x, .string c]) w' → wpList P ops Q rest (a.put o.dst (.tuple #[.bool true, .string x, .string c])) w') :
    wpList P ops Q (o :: rest) a w :=
  wpList_next_ranges w hg it hop k K (plainElem P e) Value.string Value.string (fun kv kl hkv => by cases kv <;> simp [keyOf, hk, mapKey] at hkv; exact ⟨_, rfl⟩) (fun v y hv => by obtain ⟨c, rfl, _⟩ := plainElem_string_inv he hv; exact ⟨c, rfl⟩)
    b r n D left cnt hit h hDone (fun x c kl y w' cnt' hkey hlk hv hat hrg hlt hgr hsz hen => by
      have hx : x.size ≤ maxLen ∧ kl = key x := by
        simp [keyOf, hk, mapKey] at hkey
        exact ⟨hkey.1, hkey.2.symm⟩
      obtain ⟨hx1, rfl⟩ := hx
      exact hMore x c w' cnt' hx1 (has_true_of_atKey hat) hlk hrg hlt hgr hsz hen)
end

/-- what is asked of the sort of changes -/
def SortLaw : Prop := ∀ (v : Value) (out M : List C) (w : World) (B : Nat), w.ownsRow B 30 2 v out.length (rowsC out) → B ≤ w.heap.size → (∀ x, x ∈ M ↔ x ∈ out) → (out.map (·.1)).Nodup → (M.Pairwise fun x y => bl x.1 y.1 = true) → out.length ≤ 1000 →
  Calls Try.prog 9 #[v, .func (.func 10) #[] #[]] w fun e w' => e = .returned (.tuple #[]) ∧ w'.ownsRow B 30 2 v out.length (rowsC M) ∧ M.length = out.length ∧ Below B w w'
end Go.Proofs.Ytnmgigfhcanplaa
