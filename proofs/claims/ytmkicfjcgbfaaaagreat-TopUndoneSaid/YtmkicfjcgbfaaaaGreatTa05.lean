/-
  DERIVED. The walk of tree.checkBlock. Conditions: sizes.
  A map from ints that a call makes: what stands at each key, as a function. Conditions: none.
  The walk of tree.checkKids. Conditions: sizes; ids that rise within their bounds.
  How deep the blocks of a base are: the relation, and what a search in the breadth or in the depth keeps. Plain law. Conditions: none.
  By an AI agent.
-/
import Derived.Test.YtmkicfjcgbfaaaaGreatTa02
import Derived.Test.YtmkicfjcgbfaaaaGreatTa04
import Derived.Test.YtmkicfjcgbfaaaaGreatTa01
import Derived.Maps.Views
import Derived.Maps.OwnSet
import Derived.Carry
namespace Go.Proofs.YtmkicfjcgbfaaaaGreat
open Go.RowKit

def rngB : Option Bl → Bl → Bool
  | none, x => x.id != 0
  | some _, x => decide (x.id < 1) || decide (1000000 < x.id)
def ordB : Option Bl → Bl → Bool
  | none, _ => false
  | some y, x => decide (x.id ≤ y.id)
def rootB : Option Bl → Bl → Bool
  | none, x => !x.text.toList.isEmpty || decide (0 < x.props.length) || (x.parent != 0)
  | some _, _ => false
/-- the error of a block behind another (none: the first) -/
def blkErr (p : Option Bl) (x : Bl) : Int :=
  if rngB p x = true then 2 else if ordB p x = true then 5 else if rootB p x = true then 1 else if txErr x.text ≠ 0 then txErr x.text else if 500 < x.kids.length then 4 else cpErr x.props
def prevB (l : List Bl) (k : Nat) : Option Bl := if k = 0 then none else l[k - 1]?
theorem prevB_succ {l : List Bl} {k : Nat} {x : Bl} (h : l[k]? = some x) : prevB l (k + 1) = some x := by
  unfold prevB; rw [if_neg (by omega), Nat.add_sub_cancel, h]
theorem txErr_ways (s : ByteArray) : txErr s = 0 ∨ txErr s = 4 ∨ txErr s = 9 := by
  unfold txErr
  split
  · exact .inr (.inl rfl)
  · split <;> simp

set_option maxHeartbeats 4000000 in
/-- tree.checkBlock -/
theorem checkBlock_any (l : List Bl) (A : Option Addr) (n c : Nat) (k : Nat) (x : Bl) (w : World) (B : Nat) (hB : B ≤ w.heap.size) (h : RB w B (.slice A n c) l) (hx : l[k]? = some x) :
    Calls Tryz.prog 57 #[.slice A n c, .int .i64 k] w fun e w' => e = .returned (.int .i64 (blkErr (prevB l k) x)) ∧ Below w.heap.size w w' := by
  have hbg : n * 80 ≤ 140737488351232 := h.len.2.2
  have hkl := (List.getElem?_eq_some_iff.1 hx).1
  have hkn : k < n := by have := h.len.1; omega
  obtain ⟨b, off, Ak, nk, ck, Ap, np, cp, rfl, hbb, g0, g1, g2, g3, g4, hK, hP⟩ := h.at_ hx
  obtain ⟨V, hV⟩ : ∃ V, V = blkErr (prevB l k) x := ⟨_, rfl⟩
  rw [← hV]
  unfold blkErr at hV
  have hk1 := hK.len
  have hp1 : np = x.props.length := by
    obtain ⟨A', n', c', M, e1, e, e2, _⟩ := hP
    injection e with _ e3
    rw [e3, e2, ← e1, List.length_map]
  rw [← hk1.1] at hV
  obtain ⟨r1, hr1⟩ : ∃ r, r = rngB (prevB l k) x := ⟨_, rfl⟩
  obtain ⟨r2, hr2⟩ : ∃ r, r = ordB (prevB l k) x := ⟨_, rfl⟩
  obtain ⟨r3, hr3⟩ : ∃ r, r = rootB (prevB l k) x := ⟨_, rfl⟩
  rw [← hr1, ← hr2, ← hr3] at hV
  have HV := Lib.hid hV
  have R1 := Lib.hid hr1
  have R2 := Lib.hid hr2
  have R3 := Lib.hid hr3
  have HPL := Lib.hid hp1
  have HT := Lib.hid fun W => checkT_any x.text W
  have HCP := Lib.hid fun W hW => checkProps_any (.slice Ap np cp) x.props W B (Nat.le_trans hB (Below.size hW)) (hP.below (Below.mono hW hB))
  have hkb := hk1.2
  have H := Lib.hid h
  have HX := Lib.hid hx
  clear hV hr1 hr2 hr3 h hx hK hP hk1 hp1 hkl
  have j0 : (0 : Int) ≤ (k : Int) := by omega
  have j1 : (k : Int) < (n : Int) := by omega
  obtain ⟨wa, hwa⟩ : ∃ wa, wa = w.alloc (.cells #[.int .i64 x.id, .int .i64 x.parent, .slice Ak nk ck, .string x.text, .slice Ap np cp] 38) := ⟨_, rfl⟩
  have HBA : Hid (Below w.heap.size w wa) := by rw [hwa]; exact (Below.refl _ _).alloc (Nat.le_refl _) _
  have p0 : Blk wa w.heap.size 38 #[.int .i64 x.id, .int .i64 x.parent, .slice Ak nk ck, .string x.text, .slice Ap np cp] := by rw [hwa]; exact Blk.new w _ _
  have m0 : wa.cell? ⟨w.heap.size, 0, none⟩ = some (.int .i64 x.id) := p0.cell 0
  have m1 : wa.cell? ⟨w.heap.size, 1, none⟩ = some (.int .i64 x.parent) := p0.cell 1
  have m2 : wa.cell? ⟨w.heap.size, 2, none⟩ = some (.slice Ak nk ck) := p0.cell 2
  have m3 : wa.cell? ⟨w.heap.size, 3, none⟩ = some (.string x.text) := p0.cell 3
  have m4 : wa.cell? ⟨w.heap.size, 4, none⟩ = some (.slice Ap np cp) := p0.cell 4
  go_enter Tryz.func57, Tryz.ntmps57
  go_upto_region 2 with fail
  rw [← hwa]
  clear hwa p0
  go_cut [11] (fun s11 wc => s11 = .bool r1 ∧ wa = wc)
  case first =>
    rcases k with _ | j
    · have e := R1.out
      rw [show prevB l 0 = none from rfl] at e
      unfold rngB at e
      dsimp only at e
      obtain ⟨q1, hq1⟩ : ∃ q, (x.id != 0) = q := ⟨_, rfl⟩
      rw [hq1] at e
      subst e
      cases r1
      all_goals
        go_wp2_with fail
        go_meet
        exact ⟨rfl, rfl⟩
    · have hj : j < l.length := by have := (List.getElem?_eq_some_iff.1 HX.out).1; omega
      have e := R1.out
      rw [prevB_succ (List.getElem?_eq_getElem hj)] at e
      unfold rngB at e
      dsimp only at e
      have z0 : ¬ ((j + 1 : Nat) : Int) = 0 := by omega
      have z1 : (0 : Int) < ((j + 1 : Nat) : Int) := by omega
      have z2 : (((j + 1 : Nat) : Int) == 0) = false := by simpa using z0
      by_cases a1 : x.id < 1
      · rw [decide_eq_true a1, Bool.true_or] at e
        subst e
        go_wp2_with fail
        go_meet
        exact ⟨rfl, rfl⟩
      · by_cases a2 : 1000000 < x.id
        · rw [decide_eq_true a2, Bool.or_true] at e
          subst e
          go_wp2_with fail
          go_meet
          exact ⟨rfl, rfl⟩
        · rw [decide_eq_false a1, decide_eq_false a2] at e
          obtain rfl : r1 = false := e
          go_wp2_with fail
          go_meet
          exact ⟨rfl, rfl⟩
  case rest =>
  obtain ⟨rfl, rfl⟩ := hcut
  cases r1
  case true =>
    have hv := HV.out.trans (if_pos rfl)
    have HZ := Lib.hid hv
    clear hv
    go_wp2_with fail
    go_ret
    exact ⟨by rw [HZ.out]; rfl, HBA.out⟩
  have HV2 := Lib.hid (HV.out.trans (if_neg (by decide)))
  clear HV
  go_upto_region 4 with fail
  go_cut [33] (fun s33 wc => s33 = .bool r2 ∧ ∃ q, wc = wa.drewN q)
  case first =>
    rcases k with _ | j
    · obtain rfl : r2 = false := R2.out
      have jz : ¬ (0 : Int) < ((0 : Nat) : Int) := by omega
      go_quiet (fail)
      go_wp2_with fail
      go_meet
      exact ⟨rfl, _, rfl⟩
    · have hj : j < l.length := by have := (List.getElem?_eq_some_iff.1 HX.out).1; omega
      have hy := List.getElem?_eq_getElem hj
      obtain ⟨y, hyy⟩ : ∃ y, y = l[j] := ⟨_, rfl⟩
      rw [← hyy] at hy
      have e := R2.out
      rw [prevB_succ hy] at e
      unfold ordB at e
      dsimp only at e
      obtain ⟨b', off', Ak', nk', ck', Ap', np', cp', e2, hbb', k0, _⟩ := H.out.at_ hy
      obtain ⟨rfl, rfl⟩ : b = b' ∧ off = off' := by injection e2 with e; injection e with e1 e2; exact ⟨e1, e2⟩
      have k0 := (HBA.out.cell (p := ⟨b, off + j * 5, none⟩) (by show b < _; omega)).trans k0
      have jz : (0 : Int) < ((j + 1 : Nat) : Int) := by omega
      have jw : IntKind.i64.wrap (j : Int) = (j : Int) := IntWalk.i64_in _ (by omega)
      have jn : (j : Int) < (n : Int) := by omega
      have jp : (0 : Int) ≤ (j : Int) := by omega
      obtain ⟨q1, hq1⟩ : ∃ q, decide (x.id ≤ y.id) = q := ⟨_, rfl⟩
      rw [hq1] at e
      subst e
      clear hyy hy e2
      cases r2
      · have hq1 := of_decide_eq_false hq1
        go_quiet (fail)
        go_wp2_with fail
        go_meet
        exact ⟨rfl, _, rfl⟩
      · have hq1 := of_decide_eq_true hq1
        go_quiet (fail)
        go_wp2_with fail
        go_meet
        exact ⟨rfl, _, rfl⟩
  case rest =>
  obtain ⟨rfl, q, rfl⟩ := hcut
  have HBQ : Hid (Below w.heap.size w (wa.drewN q)) := bdrew HBA.out _
  cases r2
  case true =>
    have hv := HV2.out.trans (if_pos rfl)
    have HZ := Lib.hid hv
    clear hv
    go_wp2_with fail
    go_ret
    exact ⟨by rw [HZ.out]; rfl, HBQ.out⟩
  have HV3 := Lib.hid (HV2.out.trans (if_neg (by decide)))
  clear HV2
  go_upto_region 6 with fail
  go_cut [47] (fun s47 wc => s47 = .bool r3 ∧ wc = wa.drewN q)
  case first =>
    rcases k with _ | j
    · have e := R3.out
      rw [show prevB l 0 = none from rfl] at e
      unfold rootB at e
      dsimp only at e
      rw [← HPL.out] at e
      obtain ⟨q1, hq1⟩ : ∃ q, (!x.text.toList.isEmpty) = q := ⟨_, rfl⟩
      obtain ⟨q2, hq2⟩ : ∃ q, decide (0 < np) = q := ⟨_, rfl⟩
      obtain ⟨q3, hq3⟩ : ∃ q, (x.parent != 0) = q := ⟨_, rfl⟩
      rw [hq1, hq2, hq3] at e
      have hq2' : decide ((0 : Int) < (np : Int)) = q2 := by rw [← hq2, Bool.eq_iff_iff, decide_eq_true_iff, decide_eq_true_iff]; omega
      subst e
      clear HV3
      cases q1 <;> cases q2 <;> cases q3
      all_goals
        go_wp2_with fail
        go_meet
        exact ⟨rfl, rfl⟩
    · have hj : j < l.length := by have := (List.getElem?_eq_some_iff.1 HX.out).1; omega
      have e := R3.out
      rw [prevB_succ (List.getElem?_eq_getElem hj)] at e
      obtain rfl : r3 = false := e
      have z0 : ¬ ((j + 1 : Nat) : Int) = 0 := by omega
      have z2 : (((j + 1 : Nat) : Int) == 0) = false := by simpa using z0
      go_wp2_with fail
      go_meet
      exact ⟨rfl, rfl⟩
  case rest =>
  obtain ⟨rfl, rfl⟩ := hcut
  cases r3
  case true =>
    have hv := HV3.out.trans (if_pos rfl)
    have HZ := Lib.hid hv
    clear hv
    go_wp2_with fail
    go_ret
    exact ⟨by rw [HZ.out]; rfl, HBQ.out⟩
  have HV4 := Lib.hid (HV3.out.trans (if_neg (by decide)))
  clear HV3
  obtain ⟨tx, htx⟩ : ∃ tx, tx = txErr x.text := ⟨_, rfl⟩
  rw [← htx] at HT HV4
  clear htx
  by_cases hz : tx = 0
  case neg =>
    have HZ := Lib.hid (HV4.out.trans (if_pos hz))
    have hz' : (tx != 0) = true := by simpa using hz
    clear hz
    go_wp2_with fail
    refine (HT.out _).mono ?_
    rintro e w1 ⟨rfl, rfl⟩
    go_wp2_with fail
    go_ret
    exact ⟨by rw [HZ.out]; rfl, HBQ.out⟩
  have HV5 := Lib.hid (HV4.out.trans (if_neg (fun e => e hz)))
  subst hz
  clear HV4
  by_cases hl : 500 < nk
  case pos =>
    have HZ := Lib.hid (HV5.out.trans (if_pos hl))
    have hl' : (500 : Int) < (nk : Int) := by omega
    go_wp2_with fail
    refine (HT.out _).mono ?_
    rintro e w1 ⟨rfl, rfl⟩
    go_wp2_with fail
    go_ret
    exact ⟨by rw [HZ.out]; rfl, HBQ.out⟩
  have HV6 := Lib.hid (HV5.out.trans (if_neg hl))
  have hl' : ¬ (500 : Int) < (nk : Int) := by omega
  clear HV5
  go_wp2_with fail
  refine (HT.out _).mono ?_
  rintro e w1 ⟨rfl, rfl⟩
  go_wp2_with fail
  refine (HCP.out _ HBQ.out).mono ?_
  rintro e w1 ⟨rfl, hb⟩
  have HB2 := Lib.hid (HBQ.out.trans (hb.mono HBQ.out.size))
  clear hb
  rw [← HV6.out]
  go_wp2_with fail
  go_ret
  exact ⟨rfl, HB2.out⟩
end Go.Proofs.YtmkicfjcgbfaaaaGreat
namespace Go.Proofs.YtmkicfjcgbfaaaaGreat
open Go.RowKit Go.Maps

abbrev DU := DataW Unit
def ik (x : Int) : Lit := .int .i64 x
theorem ik_ne {x y : Int} (h : x ≠ y) : ik x ≠ ik y := fun e => h (by injection e)
theorem wf_i64 {x : Int} (h : I64 x) : (Lit.int .i64 x).wf = true := by
  have := wrap64_wf x
  rwa [IntWalk.wrap64_in x h] at this
/-- how an element reads -/
structure ElemLaw {α : Type} (P : Program) (e : TypeId) (en : α → Value) (lt : α → DU) (ok : α → Prop) (z0 : α) : Prop where
  enc : ∀ a, ok a → plainElem P e (en a) = some (lt a, [])
  inv : ∀ v y, plainElem (H := Unit) P e v = some y → ∃ a, v = en a ∧ y = (lt a, [])
  inj : ∀ a b, lt a = lt b → a = b
  zero : ∀ w, (zeroValue e).run P w = .ok (en z0) w
  zok : ok z0
/-- what stands at each key behind a store -/
def putF {α : Type} (f : Int → Option α) (x : Int) (a : α) (y : Int) : Option α := if y = x then some a else f y
theorem putF_same {α : Type} (f : Int → Option α) (x : Int) (a : α) : putF f x a x = some a := if_pos rfl
theorem putF_other {α : Type} (f : Int → Option α) {x y : Int} (a : α) (h : y ≠ x) : putF f x a y = f y := if_neg h
section
variable {P : Program} {k e t : TypeId} {α : Type} {en : α → Value} {lt : α → DU} {ok : α → Prop} {z0 : α} {w w' : World} {b n : Nat} {f : Int → Option α}
/-- block b is a map of at most n entries; f says what stands at each key -/
def MapIn (P : Program) (k e : TypeId) (lt : α → DU) (w : World) (b n : Nat) (f : Int → Option α) : Prop :=
  ∃ D : DU, w.ownsMap P k (plainElem P e) b n D ∧ ∀ x, I64 x → Maps.has D (ik x) = (f x).isSome ∧ ∀ a, f x = some a → ∀ z, D.atKey (ik x) z = lt a
theorem MapIn.made (w : World) : MapIn P k e lt (w.alloc (.map #[] 0)) w.heap.size 0 (fun _ => none) :=
  ⟨.map [], World.ownsMap_made w P k _, fun x _ => ⟨rfl, fun a h => by cases h⟩⟩
theorem MapIn.lt_ (h : MapIn P k e lt w b n f) : b < w.heap.size := by
  obtain ⟨D, h, _⟩ := h; exact h.lt
theorem MapIn.below (h : MapIn P k e lt w b n f) {B : Nat} (hb : Below B w w') (hB : b < B) : MapIn P k e lt w' b n f := by
  obtain ⟨D, ⟨es, clock, h1, h2⟩, h3⟩ := h
  exact ⟨D, ⟨es, clock, (hb.block b hB).trans h1, h2⟩, h3⟩
theorem MapIn.grown (h : MapIn P k e lt w b n f) {row : Option Nat} (hg : w.grownBy w' row) (hne : some b ≠ row) : MapIn P k e lt w' b n f := by
  obtain ⟨D, h1, h3⟩ := h
  exact ⟨D, h1.kept hg hne, h3⟩
theorem MapIn.alloc (h : MapIn P k e lt w b n f) (o : Obj) : MapIn P k e lt (w.alloc o) b n f := by
  obtain ⟨D, h1, h3⟩ := h
  exact ⟨D, h1.alloc o, h3⟩
theorem MapIn.setCell (h : MapIn P k e lt w b n f) {p : Addr} (hp : b ≠ p.block) (u : Value) : MapIn P k e lt (w.setCell p u) b n f := by
  obtain ⟨D, h1, h3⟩ := h
  exact ⟨D, h1.setCell hp u, h3⟩
theorem MapIn.drewN (h : MapIn P k e lt w b n f) (q : Nat) : MapIn P k e lt (w.drewN q) b n f := h
theorem MapIn.look_ok (h : MapIn P k e lt w b n f) (E : ElemLaw P e en lt ok z0) (hk : P.underlying k = some (.int .i64)) (ht : P.underlying t = some (.map k e)) {x : Int} (hx : I64 x) :
    (Instr.lookup t (.map (some b)) (.int .i64 x) true).run P w = .ok (.tuple #[en ((f x).getD z0), .bool (f x).isSome]) w := by
  obtain ⟨D, h1, h3⟩ := h
  obtain ⟨v, ps, hr, hv⟩ := h1.look_ok (int_keyed hk) ht (E.zero w) (E.enc _ E.zok) (keyOf_int_mk hk (wf_i64 hx))
  obtain ⟨h4, h5⟩ := h3 x hx
  obtain ⟨a, rfl, ha⟩ := E.inv _ _ hv
  have ha := congrArg Prod.fst ha
  dsimp only at ha
  rw [hr]
  have h4' : Maps.has D (.int .i64 x) = (f x).isSome := h4
  rw [h4']
  cases hf : f x with
  | none =>
    rw [hf] at h4
    rw [atKey_of_not_has (show Maps.has D (.int .i64 x) = false from h4)] at ha
    rw [E.inj _ _ ha]; rfl
  | some c =>
    have h6 := h5 c hf (lt z0)
    rw [show D.atKey (.int .i64 x) (lt z0) = lt c from h6] at ha
    rw [E.inj _ _ ha]; rfl
theorem MapIn.look (h : MapIn P k e lt w b n f) (E : ElemLaw P e en lt ok z0) (hk : P.underlying k = some (.int .i64)) (ht : P.underlying t = some (.map k e)) {x : Int} (hx : I64 x) :
    (Instr.lookup t (.map (some b)) (.int .i64 x) false).run P w = .ok (en ((f x).getD z0)) w := by
  obtain ⟨D, h1, h3⟩ := h
  obtain ⟨v, ps, hr, hv⟩ := h1.lookup (int_keyed hk) ht (E.zero w) (E.enc _ E.zok) (keyOf_int_mk hk (wf_i64 hx))
  obtain ⟨h4, h5⟩ := h3 x hx
  obtain ⟨a, rfl, ha⟩ := E.inv _ _ hv
  have ha := congrArg Prod.fst ha
  dsimp only at ha
  rw [hr]
  cases hf : f x with
  | none =>
    rw [hf] at h4
    rw [atKey_of_not_has (show Maps.has D (.int .i64 x) = false from h4)] at ha
    rw [E.inj _ _ ha]; rfl
  | some c =>
    have h6 := h5 c hf (lt z0)
    rw [show D.atKey (.int .i64 x) (lt z0) = lt c from h6] at ha
    rw [E.inj _ _ ha]; rfl
theorem MapIn.put (h : MapIn P k e lt w b n f) (E : ElemLaw P e en lt ok z0) (hk : P.underlying k = some (.int .i64)) (ht : P.underlying t = some (.map k e)) (hn : n < maxLen) {x : Int} (hx : I64 x) {a : α} (ha : ok a) :
    ∃ w', (Instr.mapUpdate t (.map (some b)) (.int .i64 x) (en a)).run P w = .ok () w' ∧ MapIn P k e lt w' b (n + 1) (putF f x a) ∧ w.grownBy w' (some b) := by
  obtain ⟨D, h1, h3⟩ := h
  have hM := h1.isMap
  obtain ⟨w', hr, ho, hg⟩ := h1.update (int_keyed hk) ht hn (keyOf_int_mk hk (wf_i64 hx)) (E.enc a ha)
  have hkl : WideAt.IsKeyLit (.int .i64 x) := (int_keyed hk).key (keyOf_int_mk hk (wf_i64 hx))
  refine ⟨w', hr, ⟨_, ho, fun y hy => ?_⟩, hg⟩
  by_cases e1 : y = x
  · subst e1
    rw [putF_same]
    exact ⟨has_put_same hM hkl _, fun c hc z => by
      injection hc with hc
      rw [← hc]
      exact atKey_put_same hM hkl _ z⟩
  · rw [putF_other f a e1]
    obtain ⟨h4, h5⟩ := h3 y hy
    exact ⟨(has_put_other (ik_ne e1) _).trans h4, fun c hc z => (atKey_put_other (ik_ne e1) _ z).trans (h5 c hc z)⟩
end
theorem boolElem {P : Program} {e : TypeId} (he : P.underlying e = some .bool) (hz : ∀ w, (zeroValue e).run P w = .ok (.bool false) w) : ElemLaw P e Value.bool (fun x => .lit (.bool x)) (fun _ => True) false where
  enc a _ := plainElem_bool he a
  inv v y h := by
    unfold plainElem at h
    rw [he] at h
    cases v <;> simp at h
    exact ⟨_, rfl, h.symm⟩
  inj a b h := by injection h with h; injection h
  zero := hz
  zok := trivial
theorem intElem {P : Program} {e : TypeId} (he : P.underlying e = some (.int .i64)) (hz : ∀ w, (zeroValue e).run P w = .ok (.int .i64 0) w) : ElemLaw P e (Value.int .i64) (fun x => .lit (.int .i64 x)) I64 0 where
  enc a h := plainElem_int he (wf_i64 h)
  inv v y h := by
    obtain ⟨a, h1, h2, _⟩ := plainElem_int_inv he h
    exact ⟨a, h1, h2⟩
  inj a b h := by injection h with h; injection h
  zero := hz
  zok := by unfold I64; omega
end Go.Proofs.YtmkicfjcgbfaaaaGreat
namespace Go.Proofs.YtmkicfjcgbfaaaaGreat
open Go.RowKit

/-- the parent of the block at a place -/
def parAt (l : List Bl) (p : Int) : Int := match l[p.toNat]? with | some y => y.parent | none => 0
/-- the error of a kid behind others -/
def kidE (l : List Bl) (bid : Int) (seen : List Int) (k : Int) : Int := if posOf l k < 0 then 7 else if (parAt l (posOf l k) != bid || k == 0) = true then 1 else if seen.contains k = true then 6 else 0
/-- the error of kids behind others -/
def kidsE (l : List Bl) (bid : Int) : List Int → List Int → Int
  | _, [] => 0
  | seen, k :: r => if kidE l bid seen k ≠ 0 then kidE l bid seen k else kidsE l bid (seen ++ [k]) r
/-- the error of the kids of blocks -/
def allKids (l : List Bl) : List Bl → Int
  | [] => 0
  | b :: r => if kidsE l b.id [] b.kids ≠ 0 then kidsE l b.id [] b.kids else allKids l r
theorem kidsE_at {l : List Bl} {bid : Int} {kids : List Int} {j : Nat} {k : Int} (h : kids[j]? = some k) : kidsE l bid (kids.take j) (kids.drop j) = if kidE l bid (kids.take j) k ≠ 0 then kidE l bid (kids.take j) k else kidsE l bid (kids.take (j + 1)) (kids.drop (j + 1)) := by
  obtain ⟨hk, e⟩ := List.getElem?_eq_some_iff.1 h
  rw [List.drop_eq_getElem_cons hk, kidsE, List.take_succ_eq_append_getElem hk, e]
theorem allKids_at {l M : List Bl} {i : Nat} {b : Bl} (h : M[i]? = some b) : allKids l (M.drop i) = if kidsE l b.id [] b.kids ≠ 0 then kidsE l b.id [] b.kids else allKids l (M.drop (i + 1)) := by
  obtain ⟨hk, e⟩ := List.getElem?_eq_some_iff.1 h
  rw [List.drop_eq_getElem_cons hk, allKids, e]
def seenF (L : List Int) (x : Int) : Option Bool := if L.contains x = true then some true else none
theorem seenF_get (L : List Int) (x : Int) : (seenF L x).getD false = L.contains x := by
  unfold seenF; split
  · rename_i h; rw [h]; rfl
  · rename_i h; simpa using h
theorem seenF_nil : seenF [] = fun _ => none := rfl
theorem seenF_put (L : List Int) (x : Int) : putF (seenF L) x true = seenF (L ++ [x]) := by
  funext y
  unfold putF seenF
  by_cases h : y = x
  · rw [if_pos h, if_pos (by subst h; simp)]
  · rw [if_neg h]
    have : (L ++ [x]).contains y = L.contains y := by
      rw [Bool.eq_iff_iff]
      simp [h]
    rw [this]
theorem kidE_ways (l : List Bl) (bid : Int) (seen : List Int) (k : Int) : (posOf l k = -1 ∧ kidE l bid seen k = 7) ∨ ∃ (p : Nat) (y : Bl), posOf l k = (p : Int) ∧ l[p]? = some y ∧ y.id = k ∧ ((((y.parent != bid) || (k == 0)) = true ∧ kidE l bid seen k = 1) ∨ (((y.parent != bid) || (k == 0)) = false ∧ kidE l bid seen k = if seen.contains k = true then 6 else 0)) := by
  unfold kidE
  rcases posOf_spec l k with ⟨h1, _⟩ | ⟨p, y, h1, h2, h3, _⟩
  · exact .inl ⟨h1, if_pos (by omega)⟩
  · refine .inr ⟨p, y, h1, h2, h3, ?_⟩
    rw [if_neg (by omega)]
    have e : parAt l (posOf l k) = y.parent := by unfold parAt; rw [h1, Int.toNat_natCast, h2]
    rw [e]
    cases hq : ((y.parent != bid) || (k == 0))
    · exact .inr ⟨rfl, if_neg (by decide)⟩
    · exact .inl ⟨rfl, if_pos rfl⟩
theorem bool_zero : ∀ w, (zeroValue 4).run Tryz.prog w = .ok (.bool false) w := fun w => Tryz.zeroValue4 w

set_option maxHeartbeats 4000000 in
theorem checkKids_any (l : List Bl) (A : Option Addr) (n c : Nat) (w : World) (B : Nat) (hB : B ≤ w.heap.size) (h : RB w B (.slice A n c) l) (hr : Rise l) (hi : IdsIn l) :
    Calls Tryz.prog 58 #[.slice A n c] w fun e w' => e = .returned (.int .i64 (allKids l l)) ∧ Below w.heap.size w w' := by
  obtain ⟨V, hV⟩ : ∃ V, V = allKids l l := ⟨_, rfl⟩
  rw [← hV]
  have HV : Hid (V = allKids l (l.drop 0)) := hV
  have HN := Lib.hid h.len
  have HI := Lib.hid fun (id : Int) W (hid : I64 id) (hW : Below w.heap.size w W) => index_any l A n c id W B (Nat.le_trans hB hW.size) (h.below (hW.mono hB)) hr hi hid
  have H := Lib.hid h
  have hmm := fun W => run_makeMap (P := Tryz.prog) 141 W
  have HE := Lib.hid (boolElem (P := Tryz.prog) (e := 4) Tryz.underlying4 bool_zero)
  clear h hV
  go_enter Tryz.func58, Tryz.ntmps58
  go_wp2_with fail
  go_loopg [11] n (fun gg s11 wr => ∃ i : Nat, i + gg = n ∧ s11 = .int .i64 (i : Int) ∧ Hid (V = allKids l (l.drop i)) ∧ Hid (Below w.heap.size w wr))
  case atStart => exact ⟨0, by omega, rfl, HV, Below.refl _ _⟩
  case round =>
    obtain ⟨i, hig, rfl, hno, hbel⟩ := hrel
    obtain ⟨W1, rfl⟩ : ∃ W1, W1 = wr := ⟨_, rfl⟩
    have hbg : n * 80 ≤ 140737488351232 := HN.out.2.2
    by_cases hk : i < n
    case neg =>
      obtain rfl : i = n := by omega
      have HZ : Hid (V = 0) := hno.out.trans (by rw [List.drop_of_length_le (by rw [← HN.out.1]; exact Nat.le_refl _)]; rfl)
      go_wp2_with fail
      go_ret
      exact ⟨by rw [HZ.out]; rfl, hbel.out⟩
    obtain ⟨x, hx⟩ : ∃ x, l[i]? = some x := ⟨_, List.getElem?_eq_getElem (by have := HN.out.1; omega)⟩
    obtain ⟨b, off, Ak, nk, ck, Ap, np, cp, rfl, hbb, g0, g1, g2, g3, g4, hK, _⟩ := H.out.at_ hx
    have g0 := (hbel.out.cell (p := ⟨b, off + i * 5, none⟩) (by show b < _; omega)).trans g0
    have g1 := (hbel.out.cell (p := ⟨b, off + i * 5 + 1, none⟩) (by show b < _; omega)).trans g1
    have g2 := (hbel.out.cell (p := ⟨b, off + i * 5 + 2, none⟩) (by show b < _; omega)).trans g2
    have g3 := (hbel.out.cell (p := ⟨b, off + i * 5 + 3, none⟩) (by show b < _; omega)).trans g3
    have g4 := (hbel.out.cell (p := ⟨b, off + i * 5 + 4, none⟩) (by show b < _; omega)).trans g4
    have hst := hno.out.trans (allKids_at (l := l) hx)
    have HK := Lib.hid hK
    have HKL := Lib.hid hK.len
    have j0 : (0 : Int) ≤ (i : Int) := by omega
    have j1 : (i : Int) < (n : Int) := by omega
    have HST := Lib.hid hst
    clear hx hK hst
    have HBA := Lib.hid (hbel.out.alloc hbel.out.size (.cells #[.int .i64 x.id, .int .i64 x.parent, .slice Ak nk ck, .string x.text, .slice Ap np cp] 38))
    obtain ⟨wa, hwa⟩ : ∃ wa, wa = W1.alloc (.cells #[.int .i64 x.id, .int .i64 x.parent, .slice Ak nk ck, .string x.text, .slice Ap np cp] 38) := ⟨_, rfl⟩
    have p0 : Blk wa W1.heap.size 38 #[.int .i64 x.id, .int .i64 x.parent, .slice Ak nk ck, .string x.text, .slice Ap np cp] := by rw [hwa]; exact Blk.new W1 _ _
    have hza : wa.heap.size = W1.heap.size + 1 := by rw [hwa]; simp
    rw [← hwa] at HBA
    have m2 : wa.cell? ⟨W1.heap.size, 2, none⟩ = some (.slice Ak nk ck) := p0.cell 2
    have m2' : (wa.alloc (.map #[] 0)).cell? ⟨W1.heap.size, 2, none⟩ = some (.slice Ak nk ck) := (p0.alloc _).cell 2
    have HP0 := Lib.hid (p0.alloc (.map #[] 0))
    have HM0 := Lib.hid (MapIn.made (P := Tryz.prog) (k := 3) (e := 4) (lt := fun x => .lit (.bool x)) wa)
    have HBM := Lib.hid (HBA.out.alloc HBA.out.size (.map #[] 0))
    have hgm : W1.heap.size < wa.heap.size := p0.lt
    have hw1 : w.heap.size ≤ W1.heap.size := hbel.out.size
    have HWA := Lib.hid hwa
    have HZA := Lib.hid hza
    clear p0 hwa hza
    go_upto_region 4 with fail
    rw [← HWA.out]
    go_upto_region 5 with fail
    obtain ⟨bm, hbm⟩ : ∃ bm, bm = wa.heap.size := ⟨_, rfl⟩
    rw [← hbm] at HM0 hgm ⊢
    have HBMZ : Hid (bm = wa.heap.size) := hbm
    clear hbm
    obtain ⟨U, hU⟩ : ∃ U, U = kidsE l x.id [] x.kids := ⟨_, rfl⟩
    rw [← hU] at HST
    have HU : Hid (U = kidsE l x.id (x.kids.take 0) (x.kids.drop 0)) := hU
    clear hU
    go_wp2_with fail
    go_loopg [19] nk (fun gg s19 wr => ∃ j : Nat, j + gg = nk ∧ s19 = .int .i64 (j : Int) ∧ Hid (U = kidsE l x.id (x.kids.take j) (x.kids.drop j)) ∧ Hid (Below w.heap.size w wr) ∧ Hid (Blk wr W1.heap.size 38 #[.int .i64 x.id, .int .i64 x.parent, .slice Ak nk ck, .string x.text, .slice Ap np cp]) ∧ Hid (MapIn Tryz.prog 3 4 (fun x => .lit (.bool x)) wr bm j (seenF (x.kids.take j))))
    case atStart => exact ⟨0, by omega, rfl, HU, HBM.out, HP0.out, HM0.out⟩
    case round =>
      obtain ⟨j, hjg, rfl, hno2, hbel2, hp2, hm2⟩ := hrel
      have hbk : nk ≤ ck ∧ nk * 8 ≤ 140737488351232 := HKL.out.2
      by_cases hj : j < nk
      case neg =>
        obtain rfl : j = nk := by omega
        have hz : U = 0 := hno2.out.trans (by rw [List.drop_of_length_le (by rw [← HKL.out.1]; exact Nat.le_refl _)]; rfl)
        have HV' := Lib.hid (HST.out.trans (if_neg (fun e => e hz)))
        clear hz
        go_wp2_with fail
        go_roundg (n - (i + 1))
        case measure => omega
        case rel => exact ⟨i + 1, by omega, by go_num, HV', hbel2⟩
      obtain ⟨k, hkk⟩ : ∃ k, x.kids[j]? = some k := ⟨_, List.getElem?_eq_getElem (by have := HKL.out.1; omega)⟩
      have hki : I64 k := HK.out.i64 (List.mem_of_getElem? hkk)
      obtain ⟨bk, ok, rfl, hbk2, q0⟩ := HK.out.at_ hkk
      have q0 := (hbel2.out.cell (p := ⟨bk, ok + j, none⟩) (by show bk < _; omega)).trans q0
      have z0 : (0 : Int) ≤ (j : Int) := by omega
      have z1 : (j : Int) < (nk : Int) := by omega
      have hst2 := hno2.out.trans (kidsE_at (l := l) (bid := x.id) hkk)
      have HTK : Hid (x.kids.take (j + 1) = x.kids.take j ++ [k]) := by
        show _ = _
        obtain ⟨hk, e⟩ := List.getElem?_eq_some_iff.1 hkk
        rw [List.take_succ_eq_append_getElem hk, e]
      have HIX := Lib.hid (HI.out k wr hki hbel2.out)
      clear hkk
      have hg1 : W1.heap.size < wr.heap.size := hp2.out.lt
      have hg2 : bm < wr.heap.size := hm2.out.lt_
      have hgw : w.heap.size ≤ wr.heap.size := hbel2.out.size
      rcases kidE_ways l x.id (x.kids.take j) k with ⟨h1, h2⟩ | ⟨p, y, h1, h2, h3, h4⟩
      · rw [h2] at hst2
        rw [h1] at HIX
        have hz := hst2.trans (if_pos (by decide))
        have HZ := Lib.hid (HST.out.trans ((if_pos (by rw [hz]; decide)).trans hz))
        clear hst2 hz h1 h2
        go_wp2_with fail
        refine HIX.out.mono ?_
        rintro e w2 ⟨rfl, hb⟩
        have HB2 : Hid (Below w.heap.size w w2) := hbel2.out.trans (hb.mono hgw)
        clear hb
        go_wp2_with fail
        go_ret
        exact ⟨by rw [HZ.out]; rfl, HB2.out⟩
      rw [h1] at HIX
      obtain ⟨b', off', Ay, ny, cy, Azp, nzp, czp, e2, hbb', k0, k1, _⟩ := H.out.at_ h2
      obtain ⟨rfl, rfl⟩ : b = b' ∧ off = off' := by injection e2 with e; injection e with e1 e2; exact ⟨e1, e2⟩
      have hpn : p < n := by have := (List.getElem?_eq_some_iff.1 h2).1; have := HN.out.1; omega
      have y0 : (0 : Int) ≤ (p : Int) := by omega
      have y1 : (p : Int) < (n : Int) := by omega
      clear h1 h2 h3 e2 k0
      obtain ⟨r, hrr⟩ : ∃ r, r = ((y.parent != x.id) || (k == 0)) := ⟨_, rfl⟩
      rw [← hrr] at h4
      obtain ⟨r1, hr1⟩ : ∃ r, (y.parent != x.id) = r := ⟨_, rfl⟩
      obtain ⟨r2, hr2⟩ : ∃ r, (k == 0) = r := ⟨_, rfl⟩
      rw [hr1, hr2] at hrr
      go_wp2_with fail
      refine HIX.out.mono ?_
      rintro e w2 ⟨rfl, hb⟩
      have HB2 : Hid (Below w.heap.size w w2) := hbel2.out.trans (hb.mono hgw)
      have HP2 : Hid (Blk w2 W1.heap.size 38 #[.int .i64 x.id, .int .i64 x.parent, .slice (some ⟨bk, ok, none⟩) nk ck, .string x.text, .slice Ap np cp]) := hp2.out.below hb hg1
      have HM2 := Lib.hid (hm2.out.below hb hg2)
      have k1 := (HB2.out.cell (p := ⟨b, off + p * 5 + 1, none⟩) (by show b < _; omega)).trans k1
      have m0 : w2.cell? ⟨W1.heap.size, 0, none⟩ = some (.int .i64 x.id) := HP2.out.cell 0
      have hw2 : wr.heap.size ≤ w2.heap.size := hb.size
      clear hb
      go_upto_region 11 with fail
      go_cut [29] (fun s29 wc => s29 = .bool r ∧ ∃ q, wc = w2.drewN q)
      case first =>
        subst hrr
        clear h4 hst2
        cases r1
        · cases r2
          · go_quiet (fail)
            go_wp2_with fail
            go_meet
            exact ⟨rfl, _, rfl⟩
          · go_quiet (fail)
            go_wp2_with fail
            go_meet
            exact ⟨rfl, _, rfl⟩
        · go_quiet (fail)
          go_wp2_with fail
          go_meet
          exact ⟨rfl, _, rfl⟩
      case rest =>
      obtain ⟨rfl, q, rfl⟩ := hcut
      have HBQ : Hid (Below w.heap.size w (w2.drewN q)) := bdrew HB2.out _
      clear hrr hr1 hr2 k1
      cases r
      case true =>
        have h5 : kidE l x.id (x.kids.take j) k = 1 := by
          rcases h4 with ⟨_, h⟩ | ⟨h, _⟩
          · exact h
          · cases h
        rw [h5] at hst2
        have hz := hst2.trans (if_pos (by decide))
        have HZ := Lib.hid (HST.out.trans ((if_pos (by rw [hz]; decide)).trans hz))
        clear hst2 hz h4 h5
        go_wp2_with fail
        go_ret
        exact ⟨by rw [HZ.out]; rfl, HBQ.out⟩
      have h5 : kidE l x.id (x.kids.take j) k = if (x.kids.take j).contains k = true then 6 else 0 := by
        rcases h4 with ⟨h, _⟩ | ⟨_, h⟩
        · cases h
        · exact h
      rw [h5] at hst2
      clear h4 h5
      have hlk := (HM2.out.drewN q).look HE.out Tryz.underlying3 Tryz.underlying141 hki
      rw [seenF_get] at hlk
      obtain ⟨w3, hup, hm3, hg3⟩ := (HM2.out.drewN q).put HE.out Tryz.underlying3 Tryz.underlying141 (by unfold maxLen; omega) hki (a := true) trivial
      rw [seenF_put, ← HTK.out] at hm3
      have HM3 := Lib.hid hm3
      have hw2g : W1.heap.size < w2.heap.size := by omega
      have HB3 : Hid (Below w.heap.size w w3) := HBQ.out.grown hg3 HBQ.out.size (fun k hk => by injection hk with hk; omega)
      have HP3 : Hid (Blk w3 W1.heap.size 38 #[.int .i64 x.id, .int .i64 x.parent, .slice (some ⟨bk, ok, none⟩) nk ck, .string x.text, .slice Ap np cp]) := (HP2.out.drewN q).grown hg3 (fun e => by injection e with e; omega)
      clear hm3 hg3
      obtain ⟨sn, hsn⟩ : ∃ sn, (x.kids.take j).contains k = sn := ⟨_, rfl⟩
      rw [hsn] at hlk hst2
      clear hsn
      cases sn
      · have HU3 := Lib.hid (hst2.trans (if_neg (by decide)))
        clear hst2
        go_wp2_with fail
        go_roundg (nk - (j + 1))
        case measure => omega
        case rel => exact ⟨j + 1, by omega, by go_num, HU3, HB3, HP3, HM3⟩
      · have hz := hst2.trans (if_pos (by decide))
        have hz : U = 6 := hz
        have HZ := Lib.hid (HST.out.trans ((if_pos (by rw [hz]; decide)).trans hz))
        clear hst2 hz
        go_wp2_with fail
        go_ret
        exact ⟨by rw [HZ.out]; rfl, HBQ.out⟩
end Go.Proofs.YtmkicfjcgbfaaaaGreat
namespace Go.Proofs.YtmkicfjcgbfaaaaGreat

/-- kids that are right -/
structure Kids (l : List Bl) : Prop where
  rise : Rise l
  ids : IdsIn l
  root : ∃ r, l[0]? = some r ∧ r.id = 0 ∧ r.parent = 0
  kid : ∀ b ∈ l, ∀ k ∈ b.kids, k ≠ 0 ∧ ∃ y ∈ l, y.id = k ∧ y.parent = b.id
  nod : ∀ b ∈ l, b.kids.Nodup
  short : l.length ≤ 2000
  few : ∀ b ∈ l, b.kids.length ≤ 500
theorem Rise.inj {l : List Bl} (h : Rise l) {x y : Bl} (hx : x ∈ l) (hy : y ∈ l) (e : x.id = y.id) : x = y := by
  obtain ⟨i, hi, rfl⟩ := List.mem_iff_getElem.1 hx
  obtain ⟨j, hj, rfl⟩ := List.mem_iff_getElem.1 hy
  rcases Nat.lt_trichotomy i j with g | g | g
  · have := h i j _ _ g (List.getElem?_eq_getElem hi) (List.getElem?_eq_getElem hj); omega
  · subst g; rfl
  · have := h j i _ _ g (List.getElem?_eq_getElem hj) (List.getElem?_eq_getElem hi); omega
/-- a block that the root reaches, and how deep it is -/
inductive Dp (l : List Bl) : Int → Nat → Prop
  | root : Dp l 0 0
  | step (b : Bl) (d : Nat) (k : Int) : Dp l b.id d → b ∈ l → k ∈ b.kids → Dp l k (d + 1)
theorem Dp.zero {l : List Bl} (K : Kids l) {d : Nat} (h : Dp l 0 d) : d = 0 := by
  generalize hz : (0 : Int) = z at h
  cases h with
  | root => rfl
  | step b d k h hb hk => exact absurd hz.symm (K.kid b hb _ hk).1
theorem Dp.fun_ {l : List Bl} (K : Kids l) {k : Int} {d : Nat} (h : Dp l k d) : ∀ {d' : Nat}, Dp l k d' → d = d' := by
  induction h with
  | root => intro d' h'; exact (h'.zero K).symm
  | step b d k h hb hk ih =>
    intro d' h'
    cases h' with
    | root => exact absurd rfl (K.kid b hb _ hk).1
    | step b' d' _ h' hb' hk' =>
      obtain ⟨_, y, hy, e1, e2⟩ := K.kid b hb k hk
      obtain ⟨_, y', hy', e1', e2'⟩ := K.kid b' hb' k hk'
      have e := K.rise.inj hy hy' (e1.trans e1'.symm)
      subst e
      rw [← e2', e2] at h'
      rw [ih h']
theorem Dp.mem {l : List Bl} (K : Kids l) {k : Int} {d : Nat} (h : Dp l k d) : ∃ y ∈ l, y.id = k := by
  cases h with
  | root =>
    obtain ⟨r, h1, h2, _⟩ := K.root
    exact ⟨r, List.mem_of_getElem? h1, h2⟩
  | step b d _ h hb hk =>
    obtain ⟨_, y, hy, e, _⟩ := K.kid b hb k hk
    exact ⟨y, hy, e⟩
/-- f says how deep each block is that the root reaches -/
def IsDep (l : List Bl) (f : Int → Option Int) : Prop := ∀ id d, f id = some d ↔ ∃ n : Nat, d = n ∧ Dp l id n
theorem IsDep.uniq {l : List Bl} {f g : Int → Option Int} (hf : IsDep l f) (hg : IsDep l g) : f = g := by
  funext id
  cases h : f id with
  | none =>
    cases h' : g id with
    | none => rfl
    | some d => rw [(hf id d).2 ((hg id d).1 h')] at h; cases h
  | some d => exact ((hg id d).2 ((hf id d).1 h)).symm
theorem IsDep.exists {l : List Bl} (K : Kids l) : ∃ f, IsDep l f := by
  classical
  refine ⟨fun id => if h : ∃ n : Nat, Dp l id n then some (h.choose : Int) else none, fun id d => ?_⟩
  by_cases h : ∃ n : Nat, Dp l id n
  · simp only [dif_pos h]
    constructor
    · intro e
      injection e with e
      exact ⟨h.choose, e.symm, h.choose_spec⟩
    · rintro ⟨n, rfl, hn⟩
      rw [h.choose_spec.fun_ K hn]
  · simp only [dif_neg h]
    exact ⟨(fun e => by cases e), fun ⟨n, _, hn⟩ => absurd ⟨n, hn⟩ h⟩
/-- the error of blocks' depths -/
def lvlE (f : Int → Option Int) : List Bl → Int
  | [] => 0
  | b :: r => if f b.id = none then 12 else if 40 < (f b.id).getD 0 then 13 else lvlE f r
theorem lvlE_at {f : Int → Option Int} {l : List Bl} {i : Nat} {b : Bl} (h : l[i]? = some b) : lvlE f (l.drop i) = if f b.id = none then 12 else if 40 < (f b.id).getD 0 then 13 else lvlE f (l.drop (i + 1)) := by
  obtain ⟨hk, e⟩ := List.getElem?_eq_some_iff.1 h
  rw [List.drop_eq_getElem_cons hk, lvlE, e]

/-! ### a search in the breadth -/
/-- how many blocks have no depth yet -/
def cntF (l : List Bl) (f : Int → Option Int) : Nat := (l.filter fun b => (f b.id).isNone).length
theorem cntF_le (l : List Bl) (f : Int → Option Int) : cntF l f ≤ l.length := List.length_filter_le _ _
theorem filter_less {α : Type} (p q : α → Bool) (hpq : ∀ x, q x = true → p x = true) {e : α} (hp : p e = true) (hq : q e = false) : ∀ {l : List α}, e ∈ l → (l.filter q).length < (l.filter p).length
  | [], h => by cases h
  | a :: l, h => by
    have hle : ∀ l : List α, (l.filter q).length ≤ (l.filter p).length := by
      intro l
      induction l with
      | nil => exact Nat.le_refl _
      | cons a l ih =>
        rw [List.filter_cons, List.filter_cons]
        cases h1 : q a with
        | false =>
          rw [if_neg (by decide)]
          cases h2 : p a with
          | false => rw [if_neg (by decide)]; exact ih
          | true => rw [if_pos rfl, List.length_cons]; omega
        | true => rw [if_pos rfl, if_pos (hpq a h1), List.length_cons, List.length_cons]; omega
    rw [List.filter_cons, List.filter_cons]
    rcases List.mem_cons.1 h with rfl | h
    · rw [hq, hp, if_neg (by decide), if_pos rfl, List.length_cons]
      have := hle l
      omega
    · have ih := filter_less p q hpq hp hq h
      cases h1 : q a with
      | false =>
        rw [if_neg (by decide)]
        cases h2 : p a with
        | false => rw [if_neg (by decide)]; exact ih
        | true => rw [if_pos rfl, List.length_cons]; omega
      | true => rw [if_pos rfl, if_pos (hpq a h1), List.length_cons, List.length_cons]; omega
/-- what the search keeps; t: the block that is being looked at, of whose kids the first are done -/
structure Bfs (l : List Bl) (f : Int → Option Int) (T : List Int) (t : Option (Bl × Nat)) (m : Nat) : Prop where
  zero : f 0 = some 0
  sound : ∀ id d, f id = some d → ∃ n : Nat, d = n ∧ Dp l id n ∧ n + cntF l f ≤ l.length
  queue : ∀ x ∈ T, ∃ d, f x = some d
  now : ∀ b j, t = some (b, j) → b ∈ l ∧ (∃ d, f b.id = some d) ∧ ∀ k ∈ b.kids.take j, ∃ d, f k = some d
  closed : ∀ b ∈ l, (∃ d, f b.id = some d) → b.id ∉ T → (∀ c j, t = some (c, j) → c.id ≠ b.id) → ∀ k ∈ b.kids, ∃ d, f k = some d
  less : cntF l f + T.length ≤ m
section
variable {l : List Bl} {f : Int → Option Int} {T : List Int} {m : Nat}
theorem Bfs.start (_K : Kids l) : Bfs l (fun id => if id = 0 then some 0 else none) [0] none (l.length + 1) where
  zero := rfl
  sound id d h := by
    have h : (if id = 0 then some (0 : Int) else none) = some d := h
    split at h
    · rename_i e
      injection h with h2
      subst h2
      rw [e]
      refine ⟨0, rfl, .root, ?_⟩
      have := cntF_le l (fun id => if id = 0 then some 0 else none)
      omega
    · cases h
  queue x hx := by
    obtain rfl : x = 0 := by simpa using hx
    exact ⟨0, rfl⟩
  now b j h := by cases h
  closed b hb h hT := by
    obtain ⟨d, h⟩ := h
    have h : (if b.id = 0 then some (0 : Int) else none) = some d := h
    split at h
    · rename_i e
      exact absurd (by rw [e]; simp) hT
    · cases h
  less := by
    have := cntF_le l (fun id => if id = 0 then some 0 else none)
    show _ + 1 ≤ _
    omega
theorem Bfs.pop {x : Int} (h : Bfs l f (x :: T) none (m + 1)) {b : Bl} (hb : b ∈ l) (e : b.id = x) : Bfs l f T (some (b, 0)) m where
  zero := h.zero
  sound := h.sound
  queue y hy := h.queue y (List.mem_cons_of_mem _ hy)
  now c j hc := by
    injection hc with hc
    injection hc with h1 h2
    subst h1 h2
    exact ⟨hb, e ▸ h.queue x (by simp), fun k hk => by simp at hk⟩
  closed c hc hf hT hn := h.closed c hc hf (fun hm => by
    rcases List.mem_cons.1 hm with g | g
    · exact hn b 0 rfl (e.trans g.symm)
    · exact hT g) (fun _ _ g => by cases g)
  less := by have := h.less; rw [List.length_cons] at this; omega
theorem Bfs.skip {b : Bl} {j : Nat} {k d : Int} (h : Bfs l f T (some (b, j)) m) (hk : b.kids[j]? = some k) (hd : f k = some d) : Bfs l f T (some (b, j + 1)) m where
  zero := h.zero
  sound := h.sound
  queue := h.queue
  now c i hc := by
    injection hc with hc
    injection hc with h1 h2
    subst h1 h2
    obtain ⟨a1, a2, a3⟩ := h.now b j rfl
    refine ⟨a1, a2, fun y hy => ?_⟩
    obtain ⟨hj, e⟩ := List.getElem?_eq_some_iff.1 hk
    rw [List.take_succ_eq_append_getElem hj, List.mem_append] at hy
    rcases hy with hy | hy
    · exact a3 y hy
    · obtain rfl : y = k := by rw [← e]; simpa using hy
      exact ⟨d, hd⟩
  closed c hc hf hT hn := h.closed c hc hf hT fun e i he => by
    injection he with he
    injection he with h1 h2
    subst h1 h2
    exact hn b (j + 1) rfl
  less := h.less
theorem cntF_put {k : Int} (hd : f k = none) {y : Bl} (hy : y ∈ l) (hyi : y.id = k) (d : Int) : cntF l (putF f k d) + 1 ≤ cntF l f := by
  refine Nat.succ_le_of_lt (filter_less _ _ (fun x hx => ?_) (e := y) (by simp [hyi, hd]) (by rw [hyi, putF_same]; rfl) hy)
  cases hfx : f x.id with
  | none => rfl
  | some v =>
    rw [putF_other f d (fun e => by rw [e, hd] at hfx; cases hfx), hfx] at hx
    cases hx
theorem Bfs.cnt (K : Kids l) {b : Bl} {j : Nat} {k : Int} (h : Bfs l f T (some (b, j)) m) (hk : b.kids[j]? = some k) (hd : f k = none) (d : Int) : cntF l (putF f k d) + 1 ≤ cntF l f := by
  obtain ⟨_, y, hy, hyi, _⟩ := K.kid b (h.now b j rfl).1 k (List.mem_of_getElem? hk)
  exact cntF_put hd hy hyi d
theorem Bfs.add (K : Kids l) {b : Bl} {j : Nat} {k : Int} (h : Bfs l f T (some (b, j)) m) (hk : b.kids[j]? = some k) (hd : f k = none) {d : Int} (hb : f b.id = some d) : Bfs l (putF f k (d + 1)) (T ++ [k]) (some (b, j + 1)) m := by
  obtain ⟨a1, a2, a3⟩ := h.now b j rfl
  have hkm : k ∈ b.kids := List.mem_of_getElem? hk
  have hsome : ∀ z d', f z = some d' → putF f k (d + 1) z = some d' := fun z d' h' => by
    unfold putF
    rw [if_neg (fun e => by rw [e, hd] at h'; cases h')]
    exact h'
  have hself : putF f k (d + 1) k = some (d + 1) := if_pos rfl
  have hc := h.cnt K hk hd (d + 1)
  obtain ⟨n, rfl, hn1, hn2⟩ := h.sound _ _ hb
  refine ⟨hsome _ _ h.zero, fun z e hz => ?_, fun x hx => ?_, fun c i hc => ?_, fun c hcl hf hT hn => ?_, ?_⟩
  · unfold putF at hz
    split at hz
    · rename_i e1
      injection hz with hz
      subst e1 hz
      exact ⟨n + 1, rfl, .step b n _ hn1 a1 hkm, by omega⟩
    · obtain ⟨n', h1, h2, h3⟩ := h.sound z e hz
      exact ⟨n', h1, h2, by omega⟩
  · rcases List.mem_append.1 hx with hx | hx
    · obtain ⟨v, hv⟩ := h.queue x hx
      exact ⟨v, hsome _ _ hv⟩
    · obtain rfl : x = k := by simpa using hx
      exact ⟨_, hself⟩
  · injection hc with hc
    injection hc with h1 h2
    subst h1 h2
    obtain ⟨v, hv⟩ := a2
    refine ⟨a1, ⟨v, hsome _ _ hv⟩, fun z hz => ?_⟩
    obtain ⟨hj, e⟩ := List.getElem?_eq_some_iff.1 hk
    rw [List.take_succ_eq_append_getElem hj, List.mem_append] at hz
    rcases hz with hz | hz
    · obtain ⟨v, hv⟩ := a3 z hz
      exact ⟨v, hsome _ _ hv⟩
    · obtain rfl : z = k := by rw [← e]; simpa using hz
      exact ⟨_, hself⟩
  · have hck : c.id ≠ k := fun e => hT (by rw [e]; simp)
    have hcT : c.id ∉ T := fun g => hT (List.mem_append_left _ g)
    obtain ⟨v, hv⟩ := hf
    have hv' : f c.id = some v := by
      unfold putF at hv
      rwa [if_neg hck] at hv
    intro z hz
    obtain ⟨v', hv2⟩ := h.closed c hcl ⟨v, hv'⟩ hcT (fun e i he => by
      injection he with he
      injection he with h1 h2
      subst h1 h2
      exact hn b (j + 1) rfl) z hz
    exact ⟨v', hsome _ _ hv2⟩
  · have := h.less
    rw [List.length_append, List.length_singleton]
    omega
theorem Bfs.done {b : Bl} {j : Nat} (h : Bfs l f T (some (b, j)) m) (hj : b.kids.length ≤ j) (K : Kids l) : Bfs l f T none m where
  zero := h.zero
  sound := h.sound
  queue := h.queue
  now c i hc := by cases hc
  closed c hc hf hT _ k hk := by
    obtain ⟨a1, a2, a3⟩ := h.now b j rfl
    by_cases e : b.id = c.id
    · have e := K.rise.inj a1 hc e
      subst e
      exact a3 k (by rw [List.take_of_length_le hj]; exact hk)
    · exact h.closed c hc hf hT (fun d i hd => by
        injection hd with hd
        injection hd with h1 h2
        subst h1
        exact e) k hk
  less := h.less
theorem Bfs.isDep (K : Kids l) (h : Bfs l f [] none m) : IsDep l f := by
  have key : ∀ {id : Int} {n : Nat}, Dp l id n → ∃ d, f id = some d := by
    intro id n hd
    induction hd with
    | root => exact ⟨0, h.zero⟩
    | step b d k hd hb hk ih => exact h.closed b hb ih (by simp) (fun _ _ g => by cases g) k hk
  intro id d
  constructor
  · intro hd
    obtain ⟨n, h1, h2, _⟩ := h.sound id d hd
    exact ⟨n, h1, h2⟩
  · rintro ⟨n, rfl, hn⟩
    obtain ⟨d, hd⟩ := key hn
    obtain ⟨n', rfl, h2, _⟩ := h.sound id d hd
    rw [hd, h2.fun_ K hn]
end
end Go.Proofs.YtmkicfjcgbfaaaaGreat
