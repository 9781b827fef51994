/-
  DERIVED. The walks of prop.Compare and slices.CompareFunc over it: what cmpV says. Conditions: the values lie below block B.
  A value of a property as prop.Compare sees it. Conditions: none.
  By an AI agent.
-/
import Derived.Test.YtbdcimakdiegnaaGreatDoorVa06
import Derived.Deep.RegionHeld3
import Derived.Deep.RegionWith
import Derived.Test.YtbdcimakdiegnaaGreatDoorVa01
namespace Go.Proofs.YtbdcimakdiegnaaGreatDoor
open Go.RowKit

theorem drop_at' {α : Type} {l : List α} {k : Nat} {x : α} (h : l[k]? = some x) : l.drop k = x :: l.drop (k + 1) := by
  have hk : k < l.length := by
    rcases Nat.lt_or_ge k l.length with h' | h'
    · exact h'
    · rw [List.getElem?_eq_none h'] at h; cases h
  rw [List.drop_eq_getElem_cons hk]
  rw [List.getElem?_eq_getElem hk] at h
  injection h with h
  rw [h]

/-- the statement of Compare, at a depth -/
def CompareAt (d : Nat) : Prop := ∀ (a b : V) (ca cb : List Value) (w : World) (B : Nat), B ≤ w.heap.size → IsVal w B d a ca → IsVal w B d b cb →
  Calls Tryz.prog 9 #[.agg ca.toArray, .agg cb.toArray] w fun e w' => e = .returned (.int .i64 (cmpV d a b)) ∧ Below w.heap.size w w'

set_option maxHeartbeats 2000000 in
theorem compareFunc_any (d : Nat) (hd : CompareAt d) (l m : List V) (A A' : Option Addr) (len len' cap cap' : Nat) (w : World) (B : Nat) (hB : B ≤ w.heap.size) (hl : IsItems w B d l A len) (hm : IsItems w B d m A' len') :
    Calls Tryz.prog 23 #[.slice A len cap, .slice A' len' cap', .func (.func 9) #[] #[]] w fun e w' => e = .returned (.int .i64 (cmpL (cmpV d) l m)) ∧ Below w.heap.size w w' := by
  have hlm := hl.2.1
  have hmm := hm.2.1
  have HL := Lib.hid hl.1
  have HM := Lib.hid hm.1
  have HD := Lib.hid hd
  clear hd
  go_enter Tryz.func23, Tryz.ntmps23
  go_wp2
  go_loopw [13] (fun i wr => ∃ k : Nat, k ≤ len ∧ k ≤ len' ∧ i = .int .i64 k ∧ Hid (cmpL (cmpV d) (l.drop k) (m.drop k) = cmpL (cmpV d) l m) ∧ Below w.heap.size w wr) (fun i _ => len - (intOf i).toNat)
  case atStart => exact ⟨0, Nat.zero_le _, Nat.zero_le _, rfl, rfl, Below.refl _ _⟩
  case round =>
    obtain ⟨k, hk, hk', rfl, hc, hbel⟩ := hrel
    have hsz := hbel.size
    by_cases hlt : k < len
    · obtain ⟨b, off, it, u0, u1, u2, u3, u4, u5, u6, rfl, hbB, hit, hv, x0, x1, x2, x3, x4⟩ := hl.at_ hlt
      have y0 := (hbel.cell (p := ⟨b, off + k * 5, none⟩) (by simp; omega)).trans x0
      have y1 := (hbel.cell (p := ⟨b, off + k * 5 + 1, none⟩) (by simp; omega)).trans x1
      have y2 := (hbel.cell (p := ⟨b, off + k * 5 + 2, none⟩) (by simp; omega)).trans x2
      have y3 := (hbel.cell (p := ⟨b, off + k * 5 + 3, none⟩) (by simp; omega)).trans x3
      have y4 := (hbel.cell (p := ⟨b, off + k * 5 + 4, none⟩) (by simp; omega)).trans x4
      have HI := Lib.hid hit
      clear x0 x1 x2 x3 x4 hit
      by_cases hlt' : k < len'
      · obtain ⟨b', off', it', v0, v1, v2, v3, v4, v5, v6, rfl, hbB', hit', hv', x0, x1, x2, x3, x4⟩ := hm.at_ hlt'
        have z0 := (hbel.cell (p := ⟨b', off' + k * 5, none⟩) (by simp; omega)).trans x0
        have z1 := (hbel.cell (p := ⟨b', off' + k * 5 + 1, none⟩) (by simp; omega)).trans x1
        have z2 := (hbel.cell (p := ⟨b', off' + k * 5 + 2, none⟩) (by simp; omega)).trans x2
        have z3 := (hbel.cell (p := ⟨b', off' + k * 5 + 3, none⟩) (by simp; omega)).trans x3
        have z4 := (hbel.cell (p := ⟨b', off' + k * 5 + 4, none⟩) (by simp; omega)).trans x4
        have HI' := Lib.hid hit'
        have hbs : b' < wr.heap.size := by omega
        have z0' := fun o => (World.cell?_alloc_lt wr o ⟨b', off' + k * 5, none⟩ hbs).trans z0
        have z1' := fun o => (World.cell?_alloc_lt wr o ⟨b', off' + k * 5 + 1, none⟩ hbs).trans z1
        have z2' := fun o => (World.cell?_alloc_lt wr o ⟨b', off' + k * 5 + 2, none⟩ hbs).trans z2
        have z3' := fun o => (World.cell?_alloc_lt wr o ⟨b', off' + k * 5 + 3, none⟩ hbs).trans z3
        have z4' := fun o => (World.cell?_alloc_lt wr o ⟨b', off' + k * 5 + 4, none⟩ hbs).trans z4
        clear x0 x1 x2 x3 x4 hit'
        have hval := ((hv.below (hbel.mono hB)).keep (w' := wr) (B' := B) (fun _ _ => rfl) (Nat.le_refl _))
        have hval' := ((hv'.below (hbel.mono hB)).keep (w' := wr) (B' := B) (fun _ _ => rfl) (Nat.le_refl _))
        have hstep : cmpL (cmpV d) (l.drop k) (m.drop k) = if cmpV d it it' = 0 then cmpL (cmpV d) (l.drop (k + 1)) (m.drop (k + 1)) else cmpV d it it' := by
          rw [drop_at' HI.out, drop_at' HI'.out]; rfl
        have hb := cmpV_bd d it it'
        by_cases h0 : cmpV d it it' = 0
        · have HS : Hid (cmpL (cmpV d) (l.drop (k + 1)) (m.drop (k + 1)) = cmpL (cmpV d) l m) := by rw [if_pos h0] at hstep; exact hstep.symm.trans hc.out
          have H0 := Lib.hid h0
          clear hstep h0 hb
          go_wp2_with fail
          refine (HD.out it it' _ _ _ B ?_ ((hval.alloc (by omega) _).alloc (by simp; omega) _) ((hval'.alloc (by omega) _).alloc (by simp; omega) _)).mono ?_
          · simp; omega
          rintro e w1 ⟨rfl, hb1⟩
          rw [H0.out]
          go_wp2
          go_roundw
          case rel => exact ⟨k + 1, by omega, by omega, by go_num, HS, ((hbel.alloc hsz _).alloc (by simp; omega) _).trans (hb1.mono (by simp; omega))⟩
          case measure => simp [intOf]; omega
        · have HS : Hid (cmpV d it it' = cmpL (cmpV d) l m) := by rw [if_neg h0] at hstep; exact hstep.symm.trans hc.out
          have hn : (cmpV d it it' != 0) = true := by simpa using h0
          clear hstep h0
          go_wp2_with fail
          refine (HD.out it it' _ _ _ B ?_ ((hval.alloc (by omega) _).alloc (by simp; omega) _) ((hval'.alloc (by omega) _).alloc (by simp; omega) _)).mono ?_
          · simp; omega
          rintro e w1 ⟨rfl, hb1⟩
          go_wp2
          go_ret
          exact ⟨ret_int' HS.out, ((hbel.alloc hsz _).alloc (by simp; omega) _).trans (hb1.mono (by simp; omega))⟩
      · obtain rfl : k = len' := by omega
        have HS : Hid (1 = cmpL (cmpV d) l m) := by
          have := hc.out
          rw [drop_at' HI.out, show m.drop k = [] from List.drop_eq_nil_of_le (by rw [HM.out]; exact Nat.le_refl _)] at this
          exact this
        go_wp2
        go_ret
        exact ⟨ret_int' HS.out, hbel.alloc hsz _⟩
    · obtain rfl : k = len := by omega
      have hc' := hc.out
      rw [show l.drop k = [] from List.drop_eq_nil_of_le (by rw [HL.out]; exact Nat.le_refl _)] at hc'
      by_cases hlt' : k < len'
      · have HS : Hid (-1 = cmpL (cmpV d) l m) := by
          have hkm : k < m.length := by rw [HM.out]; exact hlt'
          rw [drop_at' (List.getElem?_eq_getElem hkm)] at hc'
          exact hc'
        clear hc'
        go_wp2
        go_ret
        exact ⟨ret_int' HS.out, hbel⟩
      · have HS : Hid (0 = cmpL (cmpV d) l m) := by
          rw [show m.drop k = [] from List.drop_eq_nil_of_le (by rw [HM.out]; omega)] at hc'
          exact hc'
        clear hc'
        go_wp2
        go_ret
        exact ⟨ret_int' HS.out, hbel⟩
set_option maxHeartbeats 1000000 in
theorem compare_span (n t n' t' : Int) (s s' : ByteArray) (A A' : Option Addr) (len cap len' cap' : Nat) (w : World) :
    Calls Tryz.prog 9 #[.agg #[.int .i64 5, .int .i64 n, .int .i64 t, .string s, .slice A len cap], .agg #[.int .i64 5, .int .i64 n', .int .i64 t', .string s', .slice A' len' cap']] w fun e w' => e = .returned (.int .i64 (orI (c3 n n') (c3 t t'))) ∧ Below w.heap.size w w' := by
  go_enter Tryz.func9, Tryz.ntmps9
  go_wp2_with fail
  refine (cmpInt_any _ _ _).mono ?_
  rintro e w1 ⟨rfl, hw1⟩
  rw [show c3 5 5 = 0 from rfl, ← hw1]
  clear hw1
  go_wp2_with fail
  go_region_held3 (fun w' => w'.cell? ⟨w.heap.size, 1, none⟩ = some (.int .i64 n) ∧ w'.cell? ⟨w.heap.size, 2, none⟩ = some (.int .i64 t) ∧ w'.cell? ⟨w.heap.size + 1, 1, none⟩ = some (.int .i64 n') ∧ w'.cell? ⟨w.heap.size + 1, 2, none⟩ = some (.int .i64 t'))
    (go_keep)
    (first
      | (go_at_call_of 20 (Value.int .i64 n); refine (cmpInt_any n n' _).mono ?_; rintro e w1 ⟨rfl, rfl⟩)
      | (go_at_call_of 20 (Value.int .i64 t); refine (cmpInt_any t t' _).mono ?_; rintro e w1 ⟨rfl, rfl⟩)
      | (go_at_call 21; refine (or_two (c3 n n') (c3 t t') _ _ _ ?_ ?_).mono ?_; (rw [World.cell?_drew, World.cell?_alloc_at _ _ _ _ (by simp)]; rfl); (rw [World.cell?_drew, World.cell?_alloc_at _ _ _ _ (by simp)]; rfl); rintro e w1 ⟨rfl, rfl⟩))
  all_goals go_wp2
  all_goals go_ret
  all_goals exact ⟨rfl, ((((Below.refl _ _).alloc (Nat.le_refl _) _).alloc (by simp) _).alloc (by simp <;> omega) _).drew⟩

theorem cmpV_out {d : Nat} {k n t k' n' t' : Int} {s s' : ByteArray} {l l' : List V} (h : c3 k k' ≠ 0) : c3 k k' = cmpV (d + 1) (.mk k n t s l) (.mk k' n' t' s' l') := by unfold cmpV; rw [if_neg h]

set_option maxHeartbeats 4000000 in
theorem compareAt : ∀ d, CompareAt d
  | 0 => fun _ _ _ _ _ _ _ h _ => h.elim
  | d + 1 => by
    have IH := Lib.hid (compareAt d)
    intro a b ca cb w B hB ha hb
    obtain ⟨k, n, t, s, l⟩ := a
    obtain ⟨k', n', t', s', l'⟩ := b
    obtain ⟨A, len, cap, rfl, hl⟩ := ha.form
    obtain ⟨A', len', cap', rfl, hl'⟩ := hb.form
    clear ha hb
    have hK : ∀ o1 o2, IsItems ((w.alloc o1).alloc o2) B d l A len ∧ IsItems ((w.alloc o1).alloc o2) B d l' A' len' := fun o1 o2 =>
      ⟨hl.keep (fun p hp => (World.cell?_alloc_lt (w.alloc o1) o2 p (by simp; omega)).trans (World.cell?_alloc_lt w o1 p (by omega))) (Nat.le_refl _), hl'.keep (fun p hp => (World.cell?_alloc_lt (w.alloc o1) o2 p (by simp; omega)).trans (World.cell?_alloc_lt w o1 p (by omega))) (Nat.le_refl _)⟩
    have HK := Lib.hid hK
    clear hK hl hl'
    by_cases h0 : c3 k k' = 0
    · obtain rfl := c3_zero.1 h0
      have H0 := Lib.hid h0
      clear h0
      by_cases e1 : k = 1 ∨ k = 2 ∨ k = 4
      · have HV : Hid (c3 n n' = cmpV (d + 1) (.mk k n t s l) (.mk k n' t' s' l')) := by show _ = _; unfold cmpV; rw [if_pos H0.out, if_pos e1]
        rcases e1 with rfl | rfl | rfl
        all_goals
          go_enter Tryz.func9, Tryz.ntmps9
          go_wp2_with fail
          refine (cmpInt_any _ _ _).mono ?_
          rintro e w1 ⟨rfl, hw1⟩
          rw [H0.out, ← hw1]
          clear hw1
          go_wp2_with fail
          refine (cmpInt_any _ _ _).mono ?_
          rintro e w1 ⟨rfl, hw1⟩
          rw [← hw1]
          clear hw1
          go_wp2
          go_ret
          exact ⟨ret_int' HV.out, ((Below.refl _ _).alloc (Nat.le_refl _) _).alloc (by simp) _⟩
      · by_cases e2 : k = 5
        · have HV : Hid (orI (c3 n n') (c3 t t') = cmpV (d + 1) (.mk k n t s l) (.mk k n' t' s' l')) := by show _ = _; unfold cmpV orI; rw [if_pos H0.out, if_neg e1, if_pos e2]
          clear e1
          subst e2
          exact (compare_span n t n' t' s s' A A' len cap len' cap' w).mono fun e w' ⟨he, hb⟩ => ⟨he.trans (ret_int' HV.out), hb⟩
        · by_cases e3 : k = 3 ∨ k = 6
          · have HV : Hid (cL s.data.toList s'.data.toList = cmpV (d + 1) (.mk k n t s l) (.mk k n' t' s' l')) := by show _ = _; unfold cmpV; rw [if_pos H0.out, if_neg e1, if_neg e2, if_pos e3]
            clear e1 e2
            rcases e3 with rfl | rfl
            all_goals
              go_enter Tryz.func9, Tryz.ntmps9
              go_wp2_with fail
              refine (cmpInt_any _ _ _).mono ?_
              rintro e w1 ⟨rfl, hw1⟩
              rw [H0.out, ← hw1]
              clear hw1
              go_wp2_with fail
              refine (cmpStr_any _ _ _).mono ?_
              rintro e w1 ⟨rfl, hw1⟩
              rw [← hw1]
              clear hw1
              go_wp2
              go_ret
              exact ⟨ret_int' HV.out, ((Below.refl _ _).alloc (Nat.le_refl _) _).alloc (by simp) _⟩
          · by_cases e4 : k = 7
            · have HV : Hid (cmpL (cmpV d) l l' = cmpV (d + 1) (.mk k n t s l) (.mk k n' t' s' l')) := by show _ = _; rw [cmpV, if_pos H0.out, if_neg e1, if_neg e2, if_neg e3, if_pos e4]
              clear e1 e2 e3
              subst e4
              go_enter Tryz.func9, Tryz.ntmps9
              go_wp2_with fail
              refine (cmpInt_any _ _ _).mono ?_
              rintro e w1 ⟨rfl, hw1⟩
              rw [H0.out, ← hw1]
              clear hw1
              go_wp2_with fail
              refine (compareFunc_any d IH.out l l' A A' len len' cap cap' _ B ?_ (HK.out _ _).1 (HK.out _ _).2).mono ?_
              · simp; omega
              rintro e w1 ⟨rfl, hb1⟩
              go_wp2
              go_ret
              exact ⟨ret_int' HV.out, (((Below.refl _ _).alloc (Nat.le_refl _) _).alloc (by simp) _).trans (hb1.mono (by simp; omega))⟩
            · have HV : Hid (0 = cmpV (d + 1) (.mk k n t s l) (.mk k n' t' s' l')) := by show _ = _; unfold cmpV; rw [if_pos H0.out, if_neg e1, if_neg e2, if_neg e3, if_neg e4]
              have f1 : (k == 1) = false := beq_eq_false_iff_ne.2 (by omega)
              have f2 : (k == 2) = false := beq_eq_false_iff_ne.2 (by omega)
              have f3 : (k == 3) = false := beq_eq_false_iff_ne.2 (by omega)
              have f4 : (k == 4) = false := beq_eq_false_iff_ne.2 (by omega)
              have f5 : (k == 5) = false := beq_eq_false_iff_ne.2 (by omega)
              have f6 : (k == 6) = false := beq_eq_false_iff_ne.2 (by omega)
              have f7 : (k == 7) = false := beq_eq_false_iff_ne.2 (by omega)
              clear e1 e2 e3 e4
              go_enter Tryz.func9, Tryz.ntmps9
              go_wp2_with fail
              refine (cmpInt_any _ _ _).mono ?_
              rintro e w1 ⟨rfl, hw1⟩
              rw [H0.out, ← hw1]
              clear hw1
              go_wp2
              go_ret
              exact ⟨ret_int' HV.out, ((Below.refl _ _).alloc (Nat.le_refl _) _).alloc (by simp) _⟩
    · have HV := Lib.hid (cmpV_out (d := d) (n := n) (t := t) (s := s) (l := l) (n' := n') (t' := t') (s' := s') (l' := l') h0)
      have hn : (c3 k k' != 0) = true := by simpa using h0
      clear h0
      go_enter Tryz.func9, Tryz.ntmps9
      go_wp2_with fail
      refine (cmpInt_any _ _ _).mono ?_
      rintro e w1 ⟨rfl, hw1⟩
      rw [← hw1]
      clear hw1
      go_wp2
      go_ret
      exact ⟨ret_int' HV.out, ((Below.refl _ _).alloc (Nat.le_refl _) _).alloc (by simp) _⟩

end Go.Proofs.YtbdcimakdiegnaaGreatDoor
namespace Go.Proofs.YtbdcimakdiegnaaGreatDoor
open Go.RowKit

mutual
/-- the value as Compare's law has it -/
def toV : Vl → V
  | .mk k i t s l => .mk k i t s (toVs l)
def toVs : List Vl → List V
  | [] => []
  | x :: l => toV x :: toVs l
end
theorem toVs_map : ∀ l : List Vl, toVs l = l.map toV
  | [] => by rw [toVs]; rfl
  | x :: l => by rw [toVs, List.map_cons, toVs_map l]
theorem isVal_of {W : World} {B : Nat} : ∀ {d : Nat} {x : Vl × Value}, RVd W B d x.2 x.1.items → IsVal W B (d + 1) (toV x.1) (vlV x)
  | 0, (.mk k i t s l, u), ⟨h1, A, c, h2⟩ => by
    have h1 : l = [] := h1
    have h2 : u = .slice A 0 c := h2
    subst h1 h2
    exact ⟨A, 0, c, rfl, by rw [toVs]; rfl, by omega, fun h => absurd h (by omega)⟩
  | d + 1, (.mk k i t s l, u), ⟨A, n, c, M, h1, h2, h3, h4, h5, h6⟩ => by
    have h1 : M.map Prod.fst = l := h1
    have h2 : u = .slice A n c := h2
    subst h1 h2
    refine ⟨A, n, c, rfl, by rw [toVs_map, List.length_map, List.length_map, h3], by omega, fun hn => ?_⟩
    obtain ⟨y, hy⟩ : ∃ y, M[0]? = some y := ⟨_, List.getElem?_eq_getElem (by omega)⟩
    obtain ⟨b, off, rfl, hb, _⟩ := h5.plain_at (by omega) vlV_len h3 hy
    refine ⟨b, off, rfl, hb, fun j it hit => ?_⟩
    rw [toVs_map, List.getElem?_map, List.getElem?_map] at hit
    obtain ⟨z, hz⟩ : ∃ z, M[j]? = some z := by
      cases h : M[j]? with
      | none => rw [h] at hit; cases hit
      | some z => exact ⟨z, rfl⟩
    rw [hz] at hit
    obtain rfl : toV z.1 = it := by simpa using hit
    obtain ⟨b', off', e, _, hc⟩ := h5.plain_at (by omega) vlV_len h3 hz
    injection e with e
    injection e with e1 e2
    subst e1 e2
    exact ⟨vlV z, vlV_len z, fun q w hq => hc q w hq, isVal_of (h6 z (List.mem_of_getElem? hz))⟩
mutual
/-- how deep a value is -/
def depV : Vl → Nat
  | .mk _ _ _ _ l => depL l + 1
def depL : List Vl → Nat
  | [] => 0
  | x :: l => max (depV x) (depL l)
end
theorem depL_mem : ∀ {l : List Vl} {x : Vl}, x ∈ l → depV x ≤ depL l
  | y :: l, x, h => by
    rw [depL]
    rcases List.mem_cons.1 h with rfl | h
    · omega
    · have := depL_mem h; omega
theorem cmpL_congr {f g : V → V → Int} : ∀ {l m : List V}, (∀ a ∈ l, ∀ b ∈ m, f a b = g a b) → cmpL f l m = cmpL g l m
  | [], [], _ => by unfold cmpL; rfl
  | [], _ :: _, _ => by unfold cmpL; rfl
  | _ :: _, [], _ => by unfold cmpL; rfl
  | a :: l, b :: m, h => by
    rw [cmpL, cmpL, h a (by simp) b (by simp), cmpL_congr (l := l) (m := m) fun x hx y hy => h x (by simp [hx]) y (by simp [hy])]
theorem cmpV_stab : ∀ (d : Nat) (a b : Vl), depV a ≤ d → depV b ≤ d → cmpV (d + 1) (toV a) (toV b) = cmpV d (toV a) (toV b)
  | 0, .mk _ _ _ _ _, _, h, _ => by rw [depV] at h; omega
  | d + 1, .mk k i t s l, .mk k' i' t' s' l', h1, h2 => by
    rw [depV] at h1 h2
    have e : cmpL (cmpV (d + 1)) (toVs l) (toVs l') = cmpL (cmpV d) (toVs l) (toVs l') := cmpL_congr fun a ha b hb => by
      rw [toVs_map] at ha hb
      obtain ⟨a, ja, rfl⟩ := List.mem_map.1 ha
      obtain ⟨b, jb, rfl⟩ := List.mem_map.1 hb
      exact cmpV_stab d a b (by have := depL_mem ja; omega) (by have := depL_mem jb; omega)
    rw [toV, toV, cmpV, cmpV, e]
theorem cmpV_far {d d' : Nat} {a b : Vl} (h1 : depV a ≤ d) (h2 : depV b ≤ d) (h : d ≤ d') : cmpV d' (toV a) (toV b) = cmpV d (toV a) (toV b) := by
  induction h with
  | refl => rfl
  | @step m hm ih =>
    have hm : d ≤ m := hm
    exact (cmpV_stab m a b (by omega) (by omega)).trans ih
theorem dep_of {W : World} {B : Nat} : ∀ {d : Nat} {v : Value} {l : List Vl}, RVd W B d v l → depL l ≤ d
  | 0, _, _, ⟨h, _⟩ => by subst h; rw [depL]; omega
  | d + 1, _, l, ⟨A, n, c, M, h1, h2, h3, h4, h5, h6⟩ => by
    subst h1
    clear h2 h3 h4 h5
    induction M with
    | nil => rw [List.map_nil, depL]; omega
    | cons x M ih =>
      rw [List.map_cons, depL]
      have h7 := dep_of (h6 x (by simp))
      have h8 := ih fun y hy => h6 y (by simp [hy])
      obtain ⟨⟨k, i, t, s, l⟩, u⟩ := x
      have : depV (Vl.mk k i t s l) = depL l + 1 := by rw [depV]
      have h7 : depL l ≤ d := h7
      show max (depV (Vl.mk k i t s l)) _ ≤ _
      omega
/-- prop.Compare over values -/
def cmpP (a b : Vl) : Int := cmpV (max (depV a) (depV b)) (toV a) (toV b)
theorem cmpP_at {d : Nat} {a b : Vl} (h1 : depV a ≤ d) (h2 : depV b ≤ d) : cmpV d (toV a) (toV b) = cmpP a b := cmpV_far (by omega) (by omega) (by omega)
theorem cmpP_refl (a : Vl) : cmpP a a = 0 := Tot.refl (tot_cmpV _) _
theorem cmpP_zero {a b : Vl} (h : cmpP a b = 0) : cmpP b a = 0 := by
  have h1 : cmpV (max (depV b) (depV a)) (toV a) (toV b) = 0 := by rw [Nat.max_comm]; exact h
  have := (tot_cmpV (max (depV b) (depV a))).anti (toV a) (toV b)
  show cmpV _ _ _ = 0
  omega
theorem compare_any (x y : Vl × Value) (w : World) (B : Nat) (hB : B ≤ w.heap.size) (hx : RV w B x.2 x.1.items) (hy : RV w B y.2 y.1.items) :
    Calls Tryz.prog 9 #[AV x, AV y] w fun e w' => e = .returned (.int .i64 (cmpP x.1 y.1)) ∧ Below w.heap.size w w' := by
  obtain ⟨d1, hx⟩ := hx
  obtain ⟨d2, hy⟩ := hy
  have e : cmpV (max d1 d2 + 1) (toV x.1) (toV y.1) = cmpP x.1 y.1 := cmpP_at (by
    have := dep_of hx
    obtain ⟨⟨k, i, t, s, l⟩, u⟩ := x
    rw [depV]; have : depL l ≤ d1 := this; omega) (by
    have := dep_of hy
    obtain ⟨⟨k, i, t, s, l⟩, u⟩ := y
    rw [depV]; have : depL l ≤ d2 := this; omega)
  rw [← e]
  exact compareAt (max d1 d2 + 1) (toV x.1) (toV y.1) (vlV x) (vlV y) w B hB (isVal_of (hx.up (by omega))) (isVal_of (hy.up (by omega)))
end Go.Proofs.YtbdcimakdiegnaaGreatDoor
