/-
  DERIVED. A map from ints that a call makes: what stands at each key, as a function. Conditions: none.
  Plain law: what a view of a base notes of its blocks: places, pages, depths. Conditions: none.
  The walk of tree.checkKids. Conditions: sizes; ids that rise within their bounds.
  By an AI agent.
-/
import Derived.Test.YtemngidkfgcigaaGreatDoorKa05
import Derived.Maps.Views
import Derived.Maps.OwnSet
import Derived.Test.YtemngidkfgcigaaGreatDoorKa07
import Derived.Carry
namespace Go.Proofs.YtemngidkfgcigaaGreatDoor
open Go.RowKit Go.Maps

abbrev DU := DataW Unit
def ik (x : Int) : Lit := .int .i64 x
theorem ik_ne {x y : Int} (h : x ≠ y) : ik x ≠ ik y := fun e => h (by injection e)
theorem wf_i64 {x : Int} (h : I64 x) : (Lit.int .i64 x).wf = true := by
  have := wrap64_wf x
  rwa [IntWalk.wrap64_in x h] at this
/-- how an element reads -/
structure ElemLaw {α : Type} (P : Program) (e : TypeId) (en : α → Value) (lt : α → DU) (ok : α → Prop) (z0 : α) : Prop where
  enc : ∀ a, ok a → plainElem P e (en a) = some (lt a, [])
  inv : ∀ v y, plainElem (H := Unit) P e v = some y → ∃ a, v = en a ∧ y = (lt a, [])
  inj : ∀ a b, lt a = lt b → a = b
  zero : ∀ w, (zeroValue e).run P w = .ok (en z0) w
  zok : ok z0
/-- what stands at each key behind a store -/
def putF {α : Type} (f : Int → Option α) (x : Int) (a : α) (y : Int) : Option α := if y = x then some a else f y
theorem putF_same {α : Type} (f : Int → Option α) (x : Int) (a : α) : putF f x a x = some a := if_pos rfl
theorem putF_other {α : Type} (f : Int → Option α) {x y : Int} (a : α) (h : y ≠ x) : putF f x a y = f y := if_neg h
section
variable {P : Program} {k e t : TypeId} {α : Type} {en : α → Value} {lt : α → DU} {ok : α → Prop} {z0 : α} {w w' : World} {b n : Nat} {f : Int → Option α}
/-- block b is a map of at most n entries; f says what stands at each key -/
def MapIn (P : Program) (k e : TypeId) (lt : α → DU) (w : World) (b n : Nat) (f : Int → Option α) : Prop :=
  ∃ D : DU, w.ownsMap P k (plainElem P e) b n D ∧ ∀ x, I64 x → Maps.has D (ik x) = (f x).isSome ∧ ∀ a, f x = some a → ∀ z, D.atKey (ik x) z = lt a
theorem MapIn.made (w : World) : MapIn P k e lt (w.alloc (.map #[] 0)) w.heap.size 0 (fun _ => none) :=
  ⟨.map [], World.ownsMap_made w P k _, fun x _ => ⟨rfl, fun a h => by cases h⟩⟩
theorem MapIn.lt_ (h : MapIn P k e lt w b n f) : b < w.heap.size := by
  obtain ⟨D, h, _⟩ := h; exact h.lt
theorem MapIn.below (h : MapIn P k e lt w b n f) {B : Nat} (hb : Below B w w') (hB : b < B) : MapIn P k e lt w' b n f := by
  obtain ⟨D, ⟨es, clock, h1, h2⟩, h3⟩ := h
  exact ⟨D, ⟨es, clock, (hb.block b hB).trans h1, h2⟩, h3⟩
theorem MapIn.grown (h : MapIn P k e lt w b n f) {row : Option Nat} (hg : w.grownBy w' row) (hne : some b ≠ row) : MapIn P k e lt w' b n f := by
  obtain ⟨D, h1, h3⟩ := h
  exact ⟨D, h1.kept hg hne, h3⟩
theorem MapIn.alloc (h : MapIn P k e lt w b n f) (o : Obj) : MapIn P k e lt (w.alloc o) b n f := by
  obtain ⟨D, h1, h3⟩ := h
  exact ⟨D, h1.alloc o, h3⟩
theorem MapIn.setCell (h : MapIn P k e lt w b n f) {p : Addr} (hp : b ≠ p.block) (u : Value) : MapIn P k e lt (w.setCell p u) b n f := by
  obtain ⟨D, h1, h3⟩ := h
  exact ⟨D, h1.setCell hp u, h3⟩
theorem MapIn.drewN (h : MapIn P k e lt w b n f) (q : Nat) : MapIn P k e lt (w.drewN q) b n f := h
theorem MapIn.look_ok (h : MapIn P k e lt w b n f) (E : ElemLaw P e en lt ok z0) (hk : P.underlying k = some (.int .i64)) (ht : P.underlying t = some (.map k e)) {x : Int} (hx : I64 x) :
    (Instr.lookup t (.map (some b)) (.int .i64 x) true).run P w = .ok (.tuple #[en ((f x).getD z0), .bool (f x).isSome]) w := by
  obtain ⟨D, h1, h3⟩ := h
  obtain ⟨v, ps, hr, hv⟩ := h1.look_ok (int_keyed hk) ht (E.zero w) (E.enc _ E.zok) (keyOf_int_mk hk (wf_i64 hx))
  obtain ⟨h4, h5⟩ := h3 x hx
  obtain ⟨a, rfl, ha⟩ := E.inv _ _ hv
  have ha := congrArg Prod.fst ha
  dsimp only at ha
  rw [hr]
  have h4' : Maps.has D (.int .i64 x) = (f x).isSome := h4
  rw [h4']
  cases hf : f x with
  | none =>
    rw [hf] at h4
    rw [atKey_of_not_has (show Maps.has D (.int .i64 x) = false from h4)] at ha
    rw [E.inj _ _ ha]; rfl
  | some c =>
    have h6 := h5 c hf (lt z0)
    rw [show D.atKey (.int .i64 x) (lt z0) = lt c from h6] at ha
    rw [E.inj _ _ ha]; rfl
theorem MapIn.look (h : MapIn P k e lt w b n f) (E : ElemLaw P e en lt ok z0) (hk : P.underlying k = some (.int .i64)) (ht : P.underlying t = some (.map k e)) {x : Int} (hx : I64 x) :
    (Instr.lookup t (.map (some b)) (.int .i64 x) false).run P w = .ok (en ((f x).getD z0)) w := by
  obtain ⟨D, h1, h3⟩ := h
  obtain ⟨v, ps, hr, hv⟩ := h1.lookup (int_keyed hk) ht (E.zero w) (E.enc _ E.zok) (keyOf_int_mk hk (wf_i64 hx))
  obtain ⟨h4, h5⟩ := h3 x hx
  obtain ⟨a, rfl, ha⟩ := E.inv _ _ hv
  have ha := congrArg Prod.fst ha
  dsimp only at ha
  rw [hr]
  cases hf : f x with
  | none =>
    rw [hf] at h4
    rw [atKey_of_not_has (show Maps.has D (.int .i64 x) = false from h4)] at ha
    rw [E.inj _ _ ha]; rfl
  | some c =>
    have h6 := h5 c hf (lt z0)
    rw [show D.atKey (.int .i64 x) (lt z0) = lt c from h6] at ha
    rw [E.inj _ _ ha]; rfl
theorem MapIn.put (h : MapIn P k e lt w b n f) (E : ElemLaw P e en lt ok z0) (hk : P.underlying k = some (.int .i64)) (ht : P.underlying t = some (.map k e)) (hn : n < maxLen) {x : Int} (hx : I64 x) {a : α} (ha : ok a) :
    ∃ w', (Instr.mapUpdate t (.map (some b)) (.int .i64 x) (en a)).run P w = .ok () w' ∧ MapIn P k e lt w' b (n + 1) (putF f x a) ∧ w.grownBy w' (some b) := by
  obtain ⟨D, h1, h3⟩ := h
  have hM := h1.isMap
  obtain ⟨w', hr, ho, hg⟩ := h1.update (int_keyed hk) ht hn (keyOf_int_mk hk (wf_i64 hx)) (E.enc a ha)
  have hkl : WideAt.IsKeyLit (.int .i64 x) := (int_keyed hk).key (keyOf_int_mk hk (wf_i64 hx))
  refine ⟨w', hr, ⟨_, ho, fun y hy => ?_⟩, hg⟩
  by_cases e1 : y = x
  · subst e1
    rw [putF_same]
    exact ⟨has_put_same hM hkl _, fun c hc z => by
      injection hc with hc
      rw [← hc]
      exact atKey_put_same hM hkl _ z⟩
  · rw [putF_other f a e1]
    obtain ⟨h4, h5⟩ := h3 y hy
    exact ⟨(has_put_other (ik_ne e1) _).trans h4, fun c hc z => (atKey_put_other (ik_ne e1) _ z).trans (h5 c hc z)⟩
end
theorem boolElem {P : Program} {e : TypeId} (he : P.underlying e = some .bool) (hz : ∀ w, (zeroValue e).run P w = .ok (.bool false) w) : ElemLaw P e Value.bool (fun x => .lit (.bool x)) (fun _ => True) false where
  enc a _ := plainElem_bool he a
  inv v y h := by
    unfold plainElem at h
    rw [he] at h
    cases v <;> simp at h
    exact ⟨_, rfl, h.symm⟩
  inj a b h := by injection h with h; injection h
  zero := hz
  zok := trivial
theorem intElem {P : Program} {e : TypeId} (he : P.underlying e = some (.int .i64)) (hz : ∀ w, (zeroValue e).run P w = .ok (.int .i64 0) w) : ElemLaw P e (Value.int .i64) (fun x => .lit (.int .i64 x)) I64 0 where
  enc a h := plainElem_int he (wf_i64 h)
  inv v y h := by
    obtain ⟨a, h1, h2, _⟩ := plainElem_int_inv he h
    exact ⟨a, h1, h2⟩
  inj a b h := by injection h with h; injection h
  zero := hz
  zok := by unfold I64; omega
end Go.Proofs.YtemngidkfgcigaaGreatDoor
namespace Go.Proofs.YtemngidkfgcigaaGreatDoor

/-- places, from s on -/
def plF : List Int → Nat → (Int → Option Int) → Int → Option Int
  | [], _, f => f
  | x :: L, s, f => plF L (s + 1) (putF f x (s : Int))
/-- one thing for all -/
def cnF (a : Int) : List Int → (Int → Option Int) → Int → Option Int
  | [], f => f
  | x :: L, f => cnF a L (putF f x a)
/-- each its own -/
def gnF (g : Int → Int) : List Int → (Int → Option Int) → Int → Option Int
  | [], f => f
  | x :: L, f => gnF g L (putF f x (g x))
theorem plF_app : ∀ (A B : List Int) (s : Nat) (f : Int → Option Int), plF (A ++ B) s f = plF B (s + A.length) (plF A s f)
  | [], B, s, f => rfl
  | x :: A, B, s, f => by
    rw [List.cons_append, plF, plF_app A B, plF, List.length_cons, show s + 1 + A.length = s + (A.length + 1) by omega]
theorem cnF_app (a : Int) : ∀ (A B : List Int) (f : Int → Option Int), cnF a (A ++ B) f = cnF a B (cnF a A f)
  | [], _, _ => rfl
  | x :: A, B, f => by rw [List.cons_append, cnF, cnF_app a A B, cnF]
theorem gnF_app (g : Int → Int) : ∀ (A B : List Int) (f : Int → Option Int), gnF g (A ++ B) f = gnF g B (gnF g A f)
  | [], _, _ => rfl
  | x :: A, B, f => by rw [List.cons_append, gnF, gnF_app g A B, gnF]
theorem plF_not : ∀ {L : List Int} {s : Nat} {f : Int → Option Int} {x : Int}, x ∉ L → plF L s f x = f x
  | [], _, _, _, _ => rfl
  | y :: L, s, f, x, h => by
    rw [plF, plF_not (fun e => h (by simp [e])), putF_other f _ (fun e => h (by simp [e]))]
theorem gnF_not {g : Int → Int} : ∀ {L : List Int} {f : Int → Option Int} {x : Int}, x ∉ L → gnF g L f x = f x
  | [], _, _, _ => rfl
  | y :: L, f, x, h => by
    rw [gnF, gnF_not (fun e => h (by simp [e])), putF_other f _ (fun e => h (by simp [e]))]
theorem gnF_mem {g : Int → Int} : ∀ {L : List Int} {f : Int → Option Int} {x : Int}, x ∈ L → gnF g L f x = some (g x)
  | y :: L, f, x, h => by
    by_cases hx : x ∈ L
    · rw [gnF, gnF_mem hx]
    · rw [gnF, gnF_not hx]
      rcases List.mem_cons.1 h with rfl | h
      · exact putF_same _ _ _
      · exact absurd h hx
/-- a place: where the id lies in the list -/
theorem plF_mem : ∀ {L : List Int} {s : Nat} {f : Int → Option Int} {k : Nat} {x : Int}, L.Nodup → L[k]? = some x → plF L s f x = some ((s + k : Nat) : Int)
  | y :: L, s, f, 0, x, hn, h => by
    obtain rfl : y = x := by simpa using h
    rw [plF, plF_not (List.nodup_cons.1 hn).1, putF_same]
    rfl
  | y :: L, s, f, k + 1, x, hn, h => by
    rw [plF, plF_mem (k := k) (List.nodup_cons.1 hn).2 (by simpa using h), show s + 1 + k = s + (k + 1) by omega]
theorem plF_some {L : List Int} {s : Nat} {f : Int → Option Int} {x : Int} (hn : L.Nodup) (h : x ∈ L) : ∃ k : Nat, k < L.length ∧ L[k]? = some x ∧ plF L s f x = some ((s + k : Nat) : Int) := by
  obtain ⟨k, hk, e⟩ := List.mem_iff_getElem.1 h
  have : L[k]? = some x := by rw [List.getElem?_eq_getElem hk, e]
  exact ⟨k, hk, this, plF_mem hn this⟩
end Go.Proofs.YtemngidkfgcigaaGreatDoor
namespace Go.Proofs.YtemngidkfgcigaaGreatDoor
open Go.RowKit

/-- the parent of the block at a place -/
def parAt (l : List Bl) (p : Int) : Int := match l[p.toNat]? with | some y => y.parent | none => 0
/-- the error of a kid behind others -/
def kidE (l : List Bl) (bid : Int) (seen : List Int) (k : Int) : Int := if posOf l k < 0 then 7 else if (parAt l (posOf l k) != bid || k == 0) = true then 1 else if seen.contains k = true then 6 else 0
/-- the error of kids behind others -/
def kidsE (l : List Bl) (bid : Int) : List Int → List Int → Int
  | _, [] => 0
  | seen, k :: r => if kidE l bid seen k ≠ 0 then kidE l bid seen k else kidsE l bid (seen ++ [k]) r
/-- the error of the kids of blocks -/
def allKids (l : List Bl) : List Bl → Int
  | [] => 0
  | b :: r => if kidsE l b.id [] b.kids ≠ 0 then kidsE l b.id [] b.kids else allKids l r
theorem kidsE_at {l : List Bl} {bid : Int} {kids : List Int} {j : Nat} {k : Int} (h : kids[j]? = some k) : kidsE l bid (kids.take j) (kids.drop j) = if kidE l bid (kids.take j) k ≠ 0 then kidE l bid (kids.take j) k else kidsE l bid (kids.take (j + 1)) (kids.drop (j + 1)) := by
  obtain ⟨hk, e⟩ := List.getElem?_eq_some_iff.1 h
  rw [List.drop_eq_getElem_cons hk, kidsE, List.take_succ_eq_append_getElem hk, e]
theorem allKids_at {l M : List Bl} {i : Nat} {b : Bl} (h : M[i]? = some b) : allKids l (M.drop i) = if kidsE l b.id [] b.kids ≠ 0 then kidsE l b.id [] b.kids else allKids l (M.drop (i + 1)) := by
  obtain ⟨hk, e⟩ := List.getElem?_eq_some_iff.1 h
  rw [List.drop_eq_getElem_cons hk, allKids, e]
def seenF (L : List Int) (x : Int) : Option Bool := if L.contains x = true then some true else none
theorem seenF_get (L : List Int) (x : Int) : (seenF L x).getD false = L.contains x := by
  unfold seenF; split
  · rename_i h; rw [h]; rfl
  · rename_i h; simpa using h
theorem seenF_put (L : List Int) (x : Int) : putF (seenF L) x true = seenF (L ++ [x]) := by
  funext y
  unfold putF seenF
  by_cases h : y = x
  · rw [if_pos h, if_pos (by subst h; simp)]
  · rw [if_neg h]
    have : (L ++ [x]).contains y = L.contains y := by
      rw [Bool.eq_iff_iff]
      simp [h]
    rw [this]
theorem kidE_ways (l : List Bl) (bid : Int) (seen : List Int) (k : Int) : (posOf l k = -1 ∧ kidE l bid seen k = 7) ∨ ∃ (p : Nat) (y : Bl), posOf l k = (p : Int) ∧ l[p]? = some y ∧ y.id = k ∧ ((((y.parent != bid) || (k == 0)) = true ∧ kidE l bid seen k = 1) ∨ (((y.parent != bid) || (k == 0)) = false ∧ kidE l bid seen k = if seen.contains k = true then 6 else 0)) := by
  unfold kidE
  rcases posOf_spec l k with ⟨h1, _⟩ | ⟨p, y, h1, h2, h3, _⟩
  · exact .inl ⟨h1, if_pos (by omega)⟩
  · refine .inr ⟨p, y, h1, h2, h3, ?_⟩
    rw [if_neg (by omega)]
    have e : parAt l (posOf l k) = y.parent := by unfold parAt; rw [h1, Int.toNat_natCast, h2]
    rw [e]
    cases hq : ((y.parent != bid) || (k == 0))
    · exact .inr ⟨rfl, if_neg (by decide)⟩
    · exact .inl ⟨rfl, if_pos rfl⟩
theorem bool_zero : ∀ w, (zeroValue 4).run Tryz.prog w = .ok (.bool false) w := fun w => Tryz.zeroValue4 w

set_option maxHeartbeats 4000000 in
theorem checkKids_any (l : List Bl) (A : Option Addr) (n c : Nat) (w : World) (B : Nat) (hB : B ≤ w.heap.size) (h : RB w B (.slice A n c) l) (hr : Rise l) (hi : IdsIn l) :
    Calls Tryz.prog 36 #[.slice A n c] w fun e w' => e = .returned (.int .i64 (allKids l l)) ∧ Below w.heap.size w w' := by
  obtain ⟨V, hV⟩ : ∃ V, V = allKids l l := ⟨_, rfl⟩
  rw [← hV]
  have HV : Hid (V = allKids l (l.drop 0)) := hV
  have HN := Lib.hid h.len
  have HI := Lib.hid fun (id : Int) W (hid : I64 id) (hW : Below w.heap.size w W) => index_any l A n c id W B (Nat.le_trans hB hW.size) (h.below (hW.mono hB)) hr hi hid
  have H := Lib.hid h
  have hmm := fun W => run_makeMap (P := Tryz.prog) 84 W
  have HE := Lib.hid (boolElem (P := Tryz.prog) (e := 4) Tryz.underlying4 bool_zero)
  clear h hV
  go_enter Tryz.func36, Tryz.ntmps36
  go_wp2_with fail
  go_loopg [11] n (fun gg s11 wr => ∃ i : Nat, i + gg = n ∧ s11 = .int .i64 (i : Int) ∧ Hid (V = allKids l (l.drop i)) ∧ Hid (Below w.heap.size w wr))
  case atStart => exact ⟨0, by omega, rfl, HV, Below.refl _ _⟩
  case round =>
    obtain ⟨i, hig, rfl, hno, hbel⟩ := hrel
    obtain ⟨W1, rfl⟩ : ∃ W1, W1 = wr := ⟨_, rfl⟩
    have hbg : n * 80 ≤ 140737488351232 := HN.out.2.2
    by_cases hk : i < n
    case neg =>
      obtain rfl : i = n := by omega
      have HZ : Hid (V = 0) := hno.out.trans (by rw [List.drop_of_length_le (by rw [← HN.out.1]; exact Nat.le_refl _)]; rfl)
      go_wp2_with fail
      go_ret
      exact ⟨by rw [HZ.out]; rfl, hbel.out⟩
    obtain ⟨x, hx⟩ : ∃ x, l[i]? = some x := ⟨_, List.getElem?_eq_getElem (by have := HN.out.1; omega)⟩
    obtain ⟨b, off, Ak, nk, ck, Ap, np, cp, rfl, hbb, g0, g1, g2, g3, g4, hK, _⟩ := H.out.at_ hx
    have g0 := (hbel.out.cell (p := ⟨b, off + i * 5, none⟩) (by show b < _; omega)).trans g0
    have g1 := (hbel.out.cell (p := ⟨b, off + i * 5 + 1, none⟩) (by show b < _; omega)).trans g1
    have g2 := (hbel.out.cell (p := ⟨b, off + i * 5 + 2, none⟩) (by show b < _; omega)).trans g2
    have g3 := (hbel.out.cell (p := ⟨b, off + i * 5 + 3, none⟩) (by show b < _; omega)).trans g3
    have g4 := (hbel.out.cell (p := ⟨b, off + i * 5 + 4, none⟩) (by show b < _; omega)).trans g4
    have hst := hno.out.trans (allKids_at (l := l) hx)
    have HK := Lib.hid hK
    have HKL := Lib.hid hK.len
    have j0 : (0 : Int) ≤ (i : Int) := by omega
    have j1 : (i : Int) < (n : Int) := by omega
    have HST := Lib.hid hst
    clear hx hK hst
    have HBA := Lib.hid (hbel.out.alloc hbel.out.size (.cells #[.int .i64 x.id, .int .i64 x.parent, .slice Ak nk ck, .string x.text, .slice Ap np cp] 35))
    obtain ⟨wa, hwa⟩ : ∃ wa, wa = W1.alloc (.cells #[.int .i64 x.id, .int .i64 x.parent, .slice Ak nk ck, .string x.text, .slice Ap np cp] 35) := ⟨_, rfl⟩
    have p0 : Blk wa W1.heap.size 35 #[.int .i64 x.id, .int .i64 x.parent, .slice Ak nk ck, .string x.text, .slice Ap np cp] := by rw [hwa]; exact Blk.new W1 _ _
    have hza : wa.heap.size = W1.heap.size + 1 := by rw [hwa]; simp
    rw [← hwa] at HBA
    have m2 : wa.cell? ⟨W1.heap.size, 2, none⟩ = some (.slice Ak nk ck) := p0.cell 2
    have m2' : (wa.alloc (.map #[] 0)).cell? ⟨W1.heap.size, 2, none⟩ = some (.slice Ak nk ck) := (p0.alloc _).cell 2
    have HP0 := Lib.hid (p0.alloc (.map #[] 0))
    have HM0 := Lib.hid (MapIn.made (P := Tryz.prog) (k := 3) (e := 4) (lt := fun x => .lit (.bool x)) wa)
    have HBM := Lib.hid (HBA.out.alloc HBA.out.size (.map #[] 0))
    have hgm : W1.heap.size < wa.heap.size := p0.lt
    have hw1 : w.heap.size ≤ W1.heap.size := hbel.out.size
    have HWA := Lib.hid hwa
    have HZA := Lib.hid hza
    clear p0 hwa hza
    go_upto_region 4 with fail
    rw [← HWA.out]
    go_upto_region 5 with fail
    obtain ⟨bm, hbm⟩ : ∃ bm, bm = wa.heap.size := ⟨_, rfl⟩
    rw [← hbm] at HM0 hgm ⊢
    have HBMZ : Hid (bm = wa.heap.size) := hbm
    clear hbm
    obtain ⟨U, hU⟩ : ∃ U, U = kidsE l x.id [] x.kids := ⟨_, rfl⟩
    rw [← hU] at HST
    have HU : Hid (U = kidsE l x.id (x.kids.take 0) (x.kids.drop 0)) := hU
    clear hU
    go_wp2_with fail
    go_loopg [19] nk (fun gg s19 wr => ∃ j : Nat, j + gg = nk ∧ s19 = .int .i64 (j : Int) ∧ Hid (U = kidsE l x.id (x.kids.take j) (x.kids.drop j)) ∧ Hid (Below w.heap.size w wr) ∧ Hid (Blk wr W1.heap.size 35 #[.int .i64 x.id, .int .i64 x.parent, .slice Ak nk ck, .string x.text, .slice Ap np cp]) ∧ Hid (MapIn Tryz.prog 3 4 (fun x => .lit (.bool x)) wr bm j (seenF (x.kids.take j))))
    case atStart => exact ⟨0, by omega, rfl, HU, HBM.out, HP0.out, HM0.out⟩
    case round =>
      obtain ⟨j, hjg, rfl, hno2, hbel2, hp2, hm2⟩ := hrel
      have hbk : nk ≤ ck ∧ nk * 8 ≤ 140737488351232 := HKL.out.2
      by_cases hj : j < nk
      case neg =>
        obtain rfl : j = nk := by omega
        have hz : U = 0 := hno2.out.trans (by rw [List.drop_of_length_le (by rw [← HKL.out.1]; exact Nat.le_refl _)]; rfl)
        have HV' := Lib.hid (HST.out.trans (if_neg (fun e => e hz)))
        clear hz
        go_wp2_with fail
        go_roundg (n - (i + 1))
        case measure => omega
        case rel => exact ⟨i + 1, by omega, by go_num, HV', hbel2⟩
      obtain ⟨k, hkk⟩ : ∃ k, x.kids[j]? = some k := ⟨_, List.getElem?_eq_getElem (by have := HKL.out.1; omega)⟩
      have hki : I64 k := HK.out.i64 (List.mem_of_getElem? hkk)
      obtain ⟨bk, ok, rfl, hbk2, q0⟩ := HK.out.at_ hkk
      have q0 := (hbel2.out.cell (p := ⟨bk, ok + j, none⟩) (by show bk < _; omega)).trans q0
      have z0 : (0 : Int) ≤ (j : Int) := by omega
      have z1 : (j : Int) < (nk : Int) := by omega
      have hst2 := hno2.out.trans (kidsE_at (l := l) (bid := x.id) hkk)
      have HTK : Hid (x.kids.take (j + 1) = x.kids.take j ++ [k]) := by
        show _ = _
        obtain ⟨hk, e⟩ := List.getElem?_eq_some_iff.1 hkk
        rw [List.take_succ_eq_append_getElem hk, e]
      have HIX := Lib.hid (HI.out k wr hki hbel2.out)
      clear hkk
      have hg1 : W1.heap.size < wr.heap.size := hp2.out.lt
      have hg2 : bm < wr.heap.size := hm2.out.lt_
      have hgw : w.heap.size ≤ wr.heap.size := hbel2.out.size
      rcases kidE_ways l x.id (x.kids.take j) k with ⟨h1, h2⟩ | ⟨p, y, h1, h2, h3, h4⟩
      · rw [h2] at hst2
        rw [h1] at HIX
        have hz := hst2.trans (if_pos (by decide))
        have HZ := Lib.hid (HST.out.trans ((if_pos (by rw [hz]; decide)).trans hz))
        clear hst2 hz h1 h2
        go_wp2_with fail
        refine HIX.out.mono ?_
        rintro e w2 ⟨rfl, hb⟩
        have HB2 : Hid (Below w.heap.size w w2) := hbel2.out.trans (hb.mono hgw)
        clear hb
        go_wp2_with fail
        go_ret
        exact ⟨by rw [HZ.out]; rfl, HB2.out⟩
      rw [h1] at HIX
      obtain ⟨b', off', Ay, ny, cy, Azp, nzp, czp, e2, hbb', k0, k1, _⟩ := H.out.at_ h2
      obtain ⟨rfl, rfl⟩ : b = b' ∧ off = off' := by injection e2 with e; injection e with e1 e2; exact ⟨e1, e2⟩
      have hpn : p < n := by have := (List.getElem?_eq_some_iff.1 h2).1; have := HN.out.1; omega
      have y0 : (0 : Int) ≤ (p : Int) := by omega
      have y1 : (p : Int) < (n : Int) := by omega
      clear h1 h2 h3 e2 k0
      obtain ⟨r, hrr⟩ : ∃ r, r = ((y.parent != x.id) || (k == 0)) := ⟨_, rfl⟩
      rw [← hrr] at h4
      obtain ⟨r1, hr1⟩ : ∃ r, (y.parent != x.id) = r := ⟨_, rfl⟩
      obtain ⟨r2, hr2⟩ : ∃ r, (k == 0) = r := ⟨_, rfl⟩
      rw [hr1, hr2] at hrr
      go_wp2_with fail
      refine HIX.out.mono ?_
      rintro e w2 ⟨rfl, hb⟩
      have HB2 : Hid (Below w.heap.size w w2) := hbel2.out.trans (hb.mono hgw)
      have HP2 : Hid (Blk w2 W1.heap.size 35 #[.int .i64 x.id, .int .i64 x.parent, .slice (some ⟨bk, ok, none⟩) nk ck, .string x.text, .slice Ap np cp]) := hp2.out.below hb hg1
      have HM2 := Lib.hid (hm2.out.below hb hg2)
      have k1 := (HB2.out.cell (p := ⟨b, off + p * 5 + 1, none⟩) (by show b < _; omega)).trans k1
      have m0 : w2.cell? ⟨W1.heap.size, 0, none⟩ = some (.int .i64 x.id) := HP2.out.cell 0
      have hw2 : wr.heap.size ≤ w2.heap.size := hb.size
      clear hb
      go_upto_region 11 with fail
      go_cut [29] (fun s29 wc => s29 = .bool r ∧ ∃ q, wc = w2.drewN q)
      case first =>
        subst hrr
        clear h4 hst2
        cases r1
        · cases r2
          · go_quiet (fail)
            go_wp2_with fail
            go_meet
            exact ⟨rfl, _, rfl⟩
          · go_quiet (fail)
            go_wp2_with fail
            go_meet
            exact ⟨rfl, _, rfl⟩
        · go_quiet (fail)
          go_wp2_with fail
          go_meet
          exact ⟨rfl, _, rfl⟩
      case rest =>
      obtain ⟨rfl, q, rfl⟩ := hcut
      have HBQ : Hid (Below w.heap.size w (w2.drewN q)) := bdrew HB2.out _
      clear hrr hr1 hr2 k1
      cases r
      case true =>
        have h5 : kidE l x.id (x.kids.take j) k = 1 := by
          rcases h4 with ⟨_, h⟩ | ⟨h, _⟩
          · exact h
          · cases h
        rw [h5] at hst2
        have hz := hst2.trans (if_pos (by decide))
        have HZ := Lib.hid (HST.out.trans ((if_pos (by rw [hz]; decide)).trans hz))
        clear hst2 hz h4 h5
        go_wp2_with fail
        go_ret
        exact ⟨by rw [HZ.out]; rfl, HBQ.out⟩
      have h5 : kidE l x.id (x.kids.take j) k = if (x.kids.take j).contains k = true then 6 else 0 := by
        rcases h4 with ⟨h, _⟩ | ⟨_, h⟩
        · cases h
        · exact h
      rw [h5] at hst2
      clear h4 h5
      have hlk := (HM2.out.drewN q).look HE.out Tryz.underlying3 Tryz.underlying84 hki
      rw [seenF_get] at hlk
      obtain ⟨w3, hup, hm3, hg3⟩ := (HM2.out.drewN q).put HE.out Tryz.underlying3 Tryz.underlying84 (by unfold maxLen; omega) hki (a := true) trivial
      rw [seenF_put, ← HTK.out] at hm3
      have HM3 := Lib.hid hm3
      have hw2g : W1.heap.size < w2.heap.size := by omega
      have HB3 : Hid (Below w.heap.size w w3) := HBQ.out.grown hg3 HBQ.out.size (fun k hk => by injection hk with hk; omega)
      have HP3 : Hid (Blk w3 W1.heap.size 35 #[.int .i64 x.id, .int .i64 x.parent, .slice (some ⟨bk, ok, none⟩) nk ck, .string x.text, .slice Ap np cp]) := (HP2.out.drewN q).grown hg3 (fun e => by injection e with e; omega)
      clear hm3 hg3
      obtain ⟨sn, hsn⟩ : ∃ sn, (x.kids.take j).contains k = sn := ⟨_, rfl⟩
      rw [hsn] at hlk hst2
      clear hsn
      cases sn
      · have HU3 := Lib.hid (hst2.trans (if_neg (by decide)))
        clear hst2
        go_wp2_with fail
        go_roundg (nk - (j + 1))
        case measure => omega
        case rel => exact ⟨j + 1, by omega, by go_num, HU3, HB3, HP3, HM3⟩
      · have hz := hst2.trans (if_pos (by decide))
        have hz : U = 6 := hz
        have HZ := Lib.hid (HST.out.trans ((if_pos (by rw [hz]; decide)).trans hz))
        clear hst2 hz
        go_wp2_with fail
        go_ret
        exact ⟨by rw [HZ.out]; rfl, HBQ.out⟩
end Go.Proofs.YtemngidkfgcigaaGreatDoor
