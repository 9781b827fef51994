/-
  DERIVED. Plain law: which spans are strong. Conditions: none.
  The walk of text.strengthen. Conditions: a row of spans of the caller's own, none of them strong.
  Plain law: plain spans side by side are one; the spans of a text lie one after the other. Conditions: none.
  By an AI agent.
-/
import Derived.Test.YtnlonleljbbgoaaGreatDoorKe20
namespace Go.Proofs.YtnlonleljbbgoaaGreatDoor
open Go.RowKit

/-- is span j a bold mark? -/
def bold (l : List Sp) (j : Nat) : Bool := match l[j]? with | some x => x.kind == 7 | none => false
/-- the bold marks ahead of place j -/
def cnt (l : List Sp) : Nat → Nat
  | 0 => 0
  | j + 1 => cnt l j + (if bold l j = true then 1 else 0)
theorem cnt_yes {l : List Sp} {j : Nat} (h : bold l j = true) : cnt l (j + 1) = cnt l j + 1 := by simp [cnt, h]
theorem cnt_no {l : List Sp} {j : Nat} (h : bold l j = false) : cnt l (j + 1) = cnt l j := by simp [cnt, h]
theorem cnt_mono (l : List Sp) : ∀ {i j : Nat}, i ≤ j → cnt l i ≤ cnt l j := by
  intro i j h
  induction h with
  | refl => exact Nat.le_refl _
  | step _ ih => exact Nat.le_trans ih (by simp [cnt])
/-- strong, where the first P marks make pairs -/
def strF (l : List Sp) (P j : Nat) : Bool := decide (cnt l (j + 1) ≤ P) && (bold l j || cnt l (j + 1) % 2 == 1)
def withS (l : List Sp) (f : Nat → Bool) : List Sp := l.mapIdx fun j x => { x with strong := f j }
theorem withS_len (l : List Sp) (f : Nat → Bool) : (withS l f).length = l.length := by simp [withS]
theorem withS_at {l : List Sp} {f : Nat → Bool} {j : Nat} {x : Sp} (h : l[j]? = some x) : (withS l f)[j]? = some { x with strong := f j } := by simp [withS, h]
theorem withS_ext {l : List Sp} {f g : Nat → Bool} (h : ∀ j, j < l.length → f j = g j) : withS l f = withS l g := by
  apply List.ext_getElem? 
  intro j
  by_cases hj : j < l.length
  · have e := List.getElem?_eq_getElem hj
    rw [withS_at e, withS_at e, h j hj]
  · rw [List.getElem?_eq_none (by rw [withS_len]; omega), List.getElem?_eq_none (by rw [withS_len]; omega)]
theorem withS_same {l : List Sp} (h : ∀ x ∈ l, x.strong = false) : withS l (fun _ => false) = l := by
  apply List.ext_getElem?
  intro j
  cases e : l[j]? with
  | none => rw [List.getElem?_eq_none_iff] at e; rw [List.getElem?_eq_none (by rw [withS_len]; omega)]
  | some x =>
    rw [withS_at e]
    have := h x (List.mem_of_getElem? e)
    cases x; simp at this; subst this; rfl
theorem withS_set {l : List Sp} {f : Nat → Bool} {k : Nat} {x : Sp} (h : l[k]? = some x) (b : Bool) : (withS l f).set k { x with strong := b } = withS l (fun j => if j = k then b else f j) := by
  apply List.ext_getElem?
  intro j
  rw [List.getElem?_set, withS_len]
  have hk : k < l.length := (List.getElem?_eq_some_iff.1 h).1
  by_cases e : k = j
  · subst e
    rw [if_pos rfl, if_pos hk, withS_at h]
    simp
  · rw [if_neg e]
    cases ej : l[j]? with
    | none => rw [List.getElem?_eq_none_iff] at ej; rw [List.getElem?_eq_none (by rw [withS_len]; omega), List.getElem?_eq_none (by rw [withS_len]; omega)]
    | some y => rw [withS_at ej, withS_at ej]; simp [show ¬ j = k from fun g => e g.symm]

/-- what strengthen makes of tokens -/
def strK (l : List Sp) (P j : Nat) (k : Int) : Int := if bold l j && decide (P < cnt l (j + 1)) then 1 else k
def strong (l : List Sp) : List Sp := l.mapIdx fun j x => { x with kind := strK l (cnt l l.length / 2 * 2) j x.kind, strong := strF l (cnt l l.length / 2 * 2) j }
theorem strong_len (l : List Sp) : (strong l).length = l.length := by simp [strong]
theorem strong_at {l : List Sp} {j : Nat} {x : Sp} (h : l[j]? = some x) : (strong l)[j]? = some { x with kind := strK l (cnt l l.length / 2 * 2) j x.kind, strong := strF l (cnt l l.length / 2 * 2) j } := by simp [strong, h]

theorem bold_at {l : List Sp} {j : Nat} {x : Sp} (h : l[j]? = some x) : bold l j = (x.kind == 7) := by unfold bold; rw [h]
/-- the pair (o, i) is made -/
theorem strF_pair {l : List Sp} {o i j : Nat} (ho : bold l o = true) (hi : bold l i = true) (hoi : o < i) (hodd : cnt l i % 2 = 1) (hc : cnt l (o + 1) = cnt l i) :
    strF l (cnt l i + 1) j = (if o ≤ j ∧ j ≤ i then true else strF l (cnt l i - 1) j) := by
  have e1 := cnt_yes ho
  have e2 := cnt_yes hi
  unfold strF
  by_cases h1 : o ≤ j
  · by_cases h2 : j ≤ i
    · rw [if_pos ⟨h1, h2⟩]
      rcases Nat.lt_or_ge j i with h3 | h3
      · have a1 := cnt_mono l (show o + 1 ≤ j + 1 by omega)
        have a2 := cnt_mono l (show j + 1 ≤ i by omega)
        have a3 : cnt l (j + 1) = cnt l i := by omega
        rw [a3]
        simp [hodd]
      · obtain rfl : j = i := by omega
        rw [e2, hi]; simp
    · rw [if_neg (by omega)]
      have a1 := cnt_mono l (show i + 1 ≤ j by omega)
      have a2 := cnt_mono l (show j ≤ j + 1 by omega)
      have n2 : decide (cnt l (j + 1) ≤ cnt l i - 1) = false := by simp; omega
      rw [n2]
      by_cases h3 : cnt l (j + 1) ≤ cnt l i + 1
      · have a3 : cnt l (j + 1) = cnt l i + 1 := by omega
        have hb : bold l j = false := by
          cases hb : bold l j
          · rfl
          · have := cnt_yes hb; omega
        rw [a3, hb]
        have : (cnt l i + 1) % 2 = 0 := by omega
        simp [this]
      · have n1 : decide (cnt l (j + 1) ≤ cnt l i + 1) = false := by simp; omega
        rw [n1]
  · rw [if_neg (by omega)]
    have a1 := cnt_mono l (show j + 1 ≤ o by omega)
    have n1 : decide (cnt l (j + 1) ≤ cnt l i + 1) = true := by simp; omega
    have n2 : decide (cnt l (j + 1) ≤ cnt l i - 1) = true := by simp; omega
    rw [n1, n2]
theorem strF_zero (l : List Sp) (j : Nat) : strF l 0 j = false := by
  unfold strF
  cases hb : bold l j
  · by_cases h : cnt l (j + 1) = 0
    · simp [h]
    · simp; omega
  · have := cnt_yes hb
    simp [this]
theorem strong_even {l : List Sp} (h : cnt l l.length % 2 = 0) : strong l = withS l (strF l (cnt l l.length)) := by
  have e : cnt l l.length / 2 * 2 = cnt l l.length := by omega
  apply List.ext_getElem?
  intro j
  cases ej : l[j]? with
  | none => rw [List.getElem?_eq_none_iff] at ej; rw [List.getElem?_eq_none (by rw [strong_len]; omega), List.getElem?_eq_none (by rw [withS_len]; omega)]
  | some x =>
    rw [strong_at ej, withS_at ej, e]
    have hj : j < l.length := (List.getElem?_eq_some_iff.1 ej).1
    have := cnt_mono l (show j + 1 ≤ l.length by omega)
    unfold strK
    rw [show decide (cnt l l.length < cnt l (j + 1)) = false by simp; omega]
    simp
theorem strong_odd {l : List Sp} {o : Nat} {x : Sp} (h : cnt l l.length % 2 = 1) (ho : l[o]? = some x) (hb : bold l o = true) (hc : cnt l (o + 1) = cnt l l.length) :
    strong l = (withS l (strF l (cnt l l.length - 1))).set o { x with kind := 1, strong := strF l (cnt l l.length - 1) o } := by
  have e : cnt l l.length / 2 * 2 = cnt l l.length - 1 := by omega
  apply List.ext_getElem?
  intro j
  rw [List.getElem?_set, withS_len]
  have hol : o < l.length := (List.getElem?_eq_some_iff.1 ho).1
  by_cases eo : o = j
  · subst eo
    rw [if_pos rfl, if_pos hol, strong_at ho, e]
    unfold strK
    rw [hb, show decide (cnt l l.length - 1 < cnt l (o + 1)) = true by simp; omega]
    rfl
  · rw [if_neg eo]
    cases ej : l[j]? with
    | none => rw [List.getElem?_eq_none_iff] at ej; rw [List.getElem?_eq_none (by rw [strong_len]; omega), List.getElem?_eq_none (by rw [withS_len]; omega)]
    | some y =>
      rw [strong_at ej, withS_at ej, e]
      have hj : j < l.length := (List.getElem?_eq_some_iff.1 ej).1
      have a1 := cnt_mono l (show j + 1 ≤ l.length by omega)
      have : (bold l j && decide (cnt l l.length - 1 < cnt l (j + 1))) = false := by
        cases hbj : bold l j
        · rfl
        · have b1 := cnt_yes hbj
          have b2 := cnt_yes hb
          simp
          rcases Nat.lt_or_ge j o with g | g
          · have := cnt_mono l (show j + 1 ≤ o by omega); omega
          · have := cnt_mono l (show o + 1 ≤ j by omega); omega
      unfold strK
      rw [this]
      simp

/-! the cells -/
theorem flatC_at {l : List Sp} {k i : Nat} {x : Sp} (h : l[k]? = some x) (hi : i < 7) : (flatC l)[k * 7 + i]? = (spCells x)[i]? := by
  unfold flatC
  induction l generalizing k with
  | nil => simp at h
  | cons y l ih =>
    rw [List.flatMap_cons]
    have hl : (spCells y).length = 7 := rfl
    cases k with
    | zero =>
      simp at h
      subst h
      rw [List.getElem?_append_left (by omega)]
      simp
    | succ k =>
      rw [List.getElem?_append_right (by omega), hl, show (k + 1) * 7 + i - 7 = k * 7 + i by omega]
      exact ih (by simpa using h)
theorem flatC_set {l : List Sp} {k i : Nat} {x y : Sp} {u : Value} (h : l[k]? = some x) (hi : i < 7) (hu : (spCells x).set i u = spCells y) : (flatC l).set (k * 7 + i) u = flatC (l.set k y) := by
  unfold flatC
  induction l generalizing k with
  | nil => simp at h
  | cons z l ih =>
    have hl : (spCells z).length = 7 := rfl
    cases k with
    | zero =>
      simp at h
      subst h
      rw [List.flatMap_cons, List.set_append_left _ _ (by omega)]
      simp [hu]
    | succ k =>
      rw [List.flatMap_cons, List.set_append_right _ _ (by omega), hl, show (k + 1) * 7 + i - 7 = k * 7 + i by omega, ih (by simpa using h)]
      rfl
end Go.Proofs.YtnlonleljbbgoaaGreatDoor
namespace Go.Proofs.YtnlonleljbbgoaaGreatDoor
open Go.RowKit

/-- the marks so far: none is open, or the one at o is -/
def Opened (l : List Sp) (i : Nat) (op : Int) (f : Nat → Bool) : Prop :=
  (op = -1 ∧ cnt l i % 2 = 0 ∧ f = strF l (cnt l i)) ∨
  ∃ o : Nat, op = o ∧ o < i ∧ bold l o = true ∧ cnt l (o + 1) = cnt l i ∧ cnt l i % 2 = 1 ∧ f = strF l (cnt l i - 1)

theorem own_ge {w : World} {B n g c : Nat} {e : TypeId} {xs : List Value} (h : w.ownsRow B e 7 (.slice (some ⟨g, 0, none⟩) n c) n xs) : B ≤ g := (h.lt g rfl).1

theorem store_sp {w w0 : World} {B g c k i n : Nat} {L : List Sp} {x y : Sp} {u : Value} (hown : w.ownsRow B 132 7 (.slice (some ⟨g, 0, none⟩) n c) n (flatC L)) (hb : Below B w0 w) (hx : L[k]? = some x) (hi : i < 7) (hu : (spCells x).set i u = spCells y) :
    (w.setCell ⟨g, k * 7 + i, none⟩ u).ownsRow B 132 7 (.slice (some ⟨g, 0, none⟩) n c) n (flatC (L.set k y)) ∧ Below B w0 (w.setCell ⟨g, k * 7 + i, none⟩ u) := by
  have h := (hown.stored (k * 7 + i) u).1
  rw [flatC_set hx hi hu] at h
  exact ⟨h, hb.setCell (p := ⟨g, k * 7 + i, none⟩) (own_ge hown) _⟩

set_option maxHeartbeats 1000000 in
set_option maxRecDepth 100000 in
theorem strengthen_any (l : List Sp) (v : Value) (w : World) (B : Nat) (hown : w.ownsRow B 132 7 v l.length (flatC l)) (hl : ∀ x ∈ l, x.strong = false) (hn : l.length ≤ 4294967280) :
    Calls Tryz.prog 272 #[v] w fun e w' => e = .returned (.tuple #[]) ∧ w'.ownsRow B 132 7 v l.length (flatC (strong l)) ∧ Below B w w' := by
  by_cases h0 : l.length = 0
  · obtain rfl : l = [] := List.length_eq_zero_iff.1 h0
    have hv : ∃ A c, v = .slice A 0 c := by
      rcases hown.2 with ⟨rfl, _⟩ | ⟨g, cap, cur, hv, _⟩
      · exact ⟨_, _, rfl⟩
      · exact ⟨_, _, hv⟩
    obtain ⟨A, c, rfl⟩ := hv
    have R : Hid (w.ownsRow B 132 7 (.slice A 0 c) 0 (flatC (strong []))) := hown
    clear hown hl hn h0
    go_enter Tryz.func272, Tryz.ntmps272
    go_wp2
    go_loopg [2, 7] 0 (fun g s2 s7 wr => s2 = .int .i64 (-1) ∧ s7 = .int .i64 0 ∧ wr = w)
    case atStart => exact ⟨rfl, rfl, rfl⟩
    case round =>
      obtain ⟨rfl, rfl, rfl⟩ := hrel
      go_wp2
      go_end0
      exact ⟨rfl, R.out, Below.refl _ _⟩
  · obtain ⟨g, c, rfl⟩ : ∃ g c, v = .slice (some ⟨g, 0, none⟩) l.length c := by
      rcases hown.2 with ⟨_, h⟩ | ⟨g, cap, cur, hv, _⟩
      · exact absurd h h0
      · exact ⟨_, _, hv⟩
    have hcap : l.length ≤ c := by
      rcases hown.2 with ⟨hv, _⟩ | ⟨g', cap, cur, hv, _, _, hc, _⟩
      · cases hv
      · injection hv with _ _ e; omega
    have HN := Lib.hid h0
    have HLF := Lib.hid hl
    clear h0 hl
    go_enter Tryz.func272, Tryz.ntmps272
    go_wp2
    go_loopg [2, 7] l.length (fun gg s2 s7 wr => ∃ (i : Nat) (op : Int) (f : Nat → Bool), i + gg = l.length ∧ s7 = .int .i64 i ∧ s2 = .int .i64 op ∧ Hid (Opened l i op f) ∧ wr.ownsRow B 132 7 (.slice (some ⟨g, 0, none⟩) l.length c) l.length (flatC (withS l f)) ∧ Below B w wr)
    case atStart => exact ⟨0, -1, fun _ => false, by omega, rfl, rfl, .inl ⟨rfl, rfl, funext fun j => (strF_zero l j).symm⟩, by rw [withS_same HLF.out]; exact hown, Below.refl _ _⟩
    case round =>
      obtain ⟨i, op, f, hig, rfl, rfl, HO, hown', hbel⟩ := hrel
      clear hown
      by_cases hil : i < l.length
      · have ii : (i : Int) < (l.length : Int) := by omega
        have ii0 : (0 : Int) ≤ (i : Int) := by omega
        obtain ⟨x, hx⟩ : ∃ x, l[i]? = some x := ⟨_, List.getElem?_eq_getElem hil⟩
        have hb := bold_at hx
        have HX := Lib.hid hx
        have c0 : wr.cell? ⟨g, i * 7, none⟩ = some (.int .i64 x.kind) := by
          have := hown'.cells (g := g) rfl (i * 7) (.int .i64 x.kind) (by have := flatC_at (i := 0) (withS_at (f := f) hx) (by omega); simpa [spCells] using this)
          rw [Addr.add_lit] at this
          simpa using this
        clear hx
        cases hk : (x.kind == 7)
        · have hk' : (x.kind != 7) = true := by simp [bne, hk]
          rw [hk] at hb
          have HO' : Hid (Opened l (i + 1) op f) := by
            show Opened _ _ _ _
            have e := cnt_no hb
            rcases HO.out with ⟨a1, a2, a3⟩ | ⟨o, a1, a2, a3, a4, a5, a6⟩
            · exact .inl ⟨a1, by rw [e]; exact a2, by rw [e]; exact a3⟩
            · exact .inr ⟨o, a1, by omega, a3, by rw [e]; exact a4, by rw [e]; exact a5, by rw [e]; exact a6⟩
          clear HO hk hb
          go_wp2
          go_roundg (l.length - (i + 1))
          case measure => omega
          case rel => exact ⟨i + 1, op, f, by omega, by go_num, rfl, HO', hown', hbel⟩
        · have hk' : (x.kind != 7) = false := by simp [bne, hk]
          rw [hk] at hb
          have e := cnt_yes hb
          rcases HO.out with ⟨rfl, a2, a3⟩ | ⟨o, rfl, a2, a3, a4, a5, a6⟩
          · have HO' : Hid (Opened l (i + 1) i f) := .inr ⟨i, rfl, by omega, hb, rfl, by omega, by rw [e, a3]; rfl⟩
            clear HO hk hb a2 a3 e
            go_wp2
            go_roundg (l.length - (i + 1))
            case measure => omega
            case rel => exact ⟨i + 1, i, f, by omega, by go_num, rfl, HO', hown', hbel⟩
          · have io : (0 : Int) ≤ (o : Int) := by omega
            have HB := Lib.hid (And.intro hb (And.intro a2 (And.intro a3 (And.intro a4 (And.intro a5 a6)))))
            clear HO hk hb a3 a4 a5 a6 e
            go_wp2
            go_loopg [4] (i + 1 - o) (fun gg s4 wi => ∃ k : Nat, k + gg = i + 1 ∧ o ≤ k ∧ s4 = .int .i64 k ∧ wi.ownsRow B 132 7 (.slice (some ⟨g, 0, none⟩) l.length c) l.length (flatC (withS l (fun j => if o ≤ j ∧ j < k then true else f j))) ∧ Below B w wi)
            case atStart => exact ⟨o, by omega, Nat.le_refl _, rfl, by rw [withS_ext (g := f) (fun j _ => by rw [if_neg (by omega)])]; exact hown', hbel⟩
            case round =>
              obtain ⟨k, hkg, hok, rfl, hown2, hbel2⟩ := hrel
              clear hown' c0
              have ik0 : (0 : Int) ≤ (k : Int) := by omega
              by_cases hki : k ≤ i
              · have iki : (k : Int) ≤ (i : Int) := by omega
                have ikl : (k : Int) < (l.length : Int) := by omega
                obtain ⟨y, hy⟩ : ∃ y, l[k]? = some y := ⟨_, List.getElem?_eq_getElem (by omega)⟩
                have hL := withS_at (f := (fun j => if o ≤ j ∧ j < k then true else f j)) hy
                have c6 : wr.cell? ⟨g, k * 7 + 6, none⟩ = some (.bool (if o ≤ k ∧ k < k then true else f k)) := by
                  have := hown2.cells (g := g) rfl (k * 7 + 6) (.bool (if o ≤ k ∧ k < k then true else f k)) (by rw [flatC_at (i := 6) hL (by omega)]; rfl)
                  rw [Addr.add_lit] at this
                  simpa using this
                have f6 := hown2.frozenAt (k * 7 + 6)
                have R := store_sp (i := 6) (y := { y with strong := true }) (u := .bool true) hown2 hbel2 hL (by omega) rfl
                rw [withS_set hy, withS_ext (g := fun j => if o ≤ j ∧ j < k + 1 then true else f j) (fun j _ => by
                  by_cases e1 : j = k
                  · rw [if_pos e1, if_pos (by omega)]
                  · rw [if_neg e1]
                    by_cases e2 : o ≤ j ∧ j < k
                    · rw [if_pos e2, if_pos (by omega)]
                    · rw [if_neg e2, if_neg (by omega)])] at R
                have R := Lib.hid R
                clear hy hL hown2
                go_wp2
                go_roundg (i + 1 - (k + 1))
                case measure => omega
                case rel => exact ⟨k + 1, by omega, by omega, by go_num, R.out.1, R.out.2⟩
              · obtain rfl : k = i + 1 := by omega
                have iki : (i : Int) < ((i + 1 : Nat) : Int) := by omega
                obtain ⟨b1, b2, b3, b4, b5, b6⟩ := HB.out
                have e := cnt_yes b1
                have HO' : Hid (Opened l (i + 1) (-1) (strF l (cnt l i + 1))) := .inl ⟨rfl, by omega, by rw [e]⟩
                have R : wr.ownsRow B 132 7 (.slice (some ⟨g, 0, none⟩) l.length c) l.length (flatC (withS l (strF l (cnt l i + 1)))) := by
                  rw [withS_ext (g := fun j => if o ≤ j ∧ j < i + 1 then true else f j) (fun j _ => ?_)]
                  · exact hown2
                  · rw [strF_pair b3 b1 b2 b5 b4, b6]
                    by_cases e1 : o ≤ j ∧ j ≤ i
                    · rw [if_pos e1, if_pos (by omega)]
                    · rw [if_neg e1, if_neg (by omega)]
                clear b1 b2 b3 b4 b5 b6 e hown2
                go_wp2
                go_roundg (l.length - (i + 1))
                case measure => omega
                case rel => exact ⟨i + 1, -1, _, by omega, by go_num, rfl, HO', R, hbel2⟩
      · obtain rfl : i = l.length := by omega
        have iil : ¬ ((l.length : Int) < (l.length : Int)) := by omega
        rcases HO.out with ⟨rfl, a2, rfl⟩ | ⟨o, rfl, a2, a3, a4, a5, rfl⟩
        · rw [← strong_even a2] at hown'
          clear a2 HO
          go_wp2
          go_end0
          exact ⟨rfl, hown', hbel⟩
        · have io : (0 : Int) ≤ (o : Int) := by omega
          have iol : (o : Int) < (l.length : Int) := by omega
          obtain ⟨y, hy⟩ : ∃ y, l[o]? = some y := ⟨_, List.getElem?_eq_getElem (by omega)⟩
          have hL := withS_at (f := strF l (cnt l l.length - 1)) hy
          have c0 : wr.cell? ⟨g, o * 7, none⟩ = some (.int .i64 y.kind) := by
            have := hown'.cells (g := g) rfl (o * 7) (.int .i64 y.kind) (by have := flatC_at (i := 0) hL (by omega); simpa [spCells] using this)
            rw [Addr.add_lit] at this
            simpa using this
          have f0 := hown'.frozenAt (o * 7)
          have R := store_sp (i := 0) (y := { y with kind := 1, strong := strF l (cnt l l.length - 1) o }) (u := .int .i64 1) hown' hbel hL (by omega) rfl
          rw [← strong_odd a5 hy a3 a4] at R
          have R := Lib.hid R
          clear a3 a4 a5 hy hL hown' HO
          go_wp2
          go_end0
          exact ⟨rfl, R.out⟩
end Go.Proofs.YtnlonleljbbgoaaGreatDoor
namespace Go.Proofs.YtnlonleljbbgoaaGreatDoor
open Go.RowKit

def mstep (acc : List Sp) (x : Sp) : List Sp :=
  match acc.getLast? with
  | some y => if (x.kind == 1 && y.kind == 1 && y.strong == x.strong) = true then acc.dropLast ++ [{ y with to_ := x.to_ }] else acc ++ [x]
  | none => [x]
def merge (acc : List Sp) : List Sp → List Sp
  | [] => acc
  | x :: r => merge (mstep acc x) r
def fillT (s : ByteArray) (x : Sp) : Sp := if x.kind = 1 then { x with text := s.extract x.frm x.to_ } else x
def spans (s : ByteArray) : List Sp := (merge [] (strong (toks s 0))).map (fillT s)

/-- one after the other, from a to b -/
def Cont : Nat → List Sp → Nat → Prop
  | a, [], b => a = b
  | a, x :: r, b => x.frm = a ∧ a < x.to_ ∧ Cont x.to_ r b
theorem cont_le : ∀ {l : List Sp} {a b : Nat}, Cont a l b → a ≤ b ∧ a + l.length ≤ b
  | [], a, b, h => by cases h; simp
  | x :: r, a, b, h => by
    have := cont_le h.2.2
    have := h.2.1
    simp; omega
theorem cont_mem : ∀ {l : List Sp} {a b : Nat}, Cont a l b → ∀ x ∈ l, a ≤ x.frm ∧ x.frm < x.to_ ∧ x.to_ ≤ b
  | x :: r, a, b, h, y, hy => by
    rcases List.mem_cons.1 hy with rfl | hy
    · exact ⟨Nat.le_of_eq h.1.symm, by rw [h.1]; exact h.2.1, (cont_le h.2.2).1⟩
    · have := cont_mem h.2.2 y hy
      have := h.2.1
      omega
theorem cont_append : ∀ {l r : List Sp} {a b c : Nat}, Cont a l b → Cont b r c → Cont a (l ++ r) c
  | [], r, a, b, c, h, k => by cases h; exact k
  | x :: l, r, a, b, c, h, k => ⟨h.1, h.2.1, cont_append h.2.2 k⟩
theorem cont_split : ∀ {l r : List Sp} {a c : Nat}, Cont a (l ++ r) c → ∃ b, Cont a l b ∧ Cont b r c
  | [], r, a, c, h => ⟨a, rfl, h⟩
  | x :: l, r, a, c, h => by
    obtain ⟨b, h1, h2⟩ := cont_split h.2.2
    exact ⟨b, ⟨h.1, h.2.1, h1⟩, h2⟩
theorem toks_cont (s : ByteArray) : ∀ n a, s.size - a = n → a ≤ s.size → Cont a (toks s a) s.size
  | 0, a, h, ha => by rw [toks_end (by omega)]; show a = _; omega
  | n + 1, a, h, ha => by
    induction n using Nat.strongRecOn generalizing a with
    | _ n ih =>
      rw [toks_step (by omega)]
      have t := tokA_to (s := s) (a := a) (by omega)
      refine ⟨t.1, t.2.1, ?_⟩
      by_cases e : (tokA s a).to_ = s.size
      · rw [e, toks_end (Nat.le_refl _)]; rfl
      · exact ih (s.size - (tokA s a).to_ - 1) (by omega) _ (by omega) t.2.2
theorem cont_map : ∀ {l : List Sp} {g : Sp → Sp} {a b : Nat}, (∀ x, (g x).frm = x.frm ∧ (g x).to_ = x.to_) → Cont a l b → Cont a (l.map g) b
  | [], g, a, b, hg, h => h
  | x :: l, g, a, b, hg, h => by
    show (g x).frm = a ∧ a < (g x).to_ ∧ Cont (g x).to_ (l.map g) b
    rw [(hg x).1, (hg x).2]
    exact ⟨h.1, h.2.1, cont_map hg h.2.2⟩
theorem cont_mapIdx : ∀ {l : List Sp} {g : Nat → Sp → Sp} {a b : Nat}, (∀ j x, (g j x).frm = x.frm ∧ (g j x).to_ = x.to_) → Cont a l b → Cont a (l.mapIdx g) b
  | [], g, a, b, hg, h => h
  | x :: l, g, a, b, hg, h => by
    rw [List.mapIdx_cons]
    show (g 0 x).frm = a ∧ a < (g 0 x).to_ ∧ Cont (g 0 x).to_ _ b
    rw [(hg 0 x).1, (hg 0 x).2]
    exact ⟨h.1, h.2.1, cont_mapIdx (fun j x => hg (j + 1) x) h.2.2⟩
theorem strong_cont {l : List Sp} {a b : Nat} (h : Cont a l b) : Cont a (strong l) b := cont_mapIdx (fun _ _ => ⟨rfl, rfl⟩) h
theorem mstep_cont {acc : List Sp} {x : Sp} {a b : Nat} (h : Cont a acc b) (hx : x.frm = b) (hl : b < x.to_) : Cont a (mstep acc x) x.to_ := by
  have one : Cont b [x] x.to_ := ⟨hx, hl, rfl⟩
  unfold mstep
  cases e : acc.getLast? with
  | none =>
    rw [List.getLast?_eq_none_iff] at e
    subst e
    have e1 : a = b := h
    subst e1
    exact one
  | some y =>
    dsimp only
    split
    · obtain ⟨r, rfl⟩ := List.getLast?_eq_some_iff.1 e
      rw [List.dropLast_concat]
      obtain ⟨c, h1, h2⟩ := cont_split h
      refine cont_append h1 ⟨h2.1, ?_, rfl⟩
      have := h2.2.1
      have e2 : y.to_ = b := h2.2.2
      show c < x.to_
      omega
    · exact cont_append h one
theorem merge_cont : ∀ {l acc : List Sp} {a b c : Nat}, Cont a acc b → Cont b l c → Cont a (merge acc l) c
  | [], acc, a, b, c, h, k => by cases k; exact h
  | x :: l, acc, a, b, c, h, k => show Cont a (merge (mstep acc x) l) c from merge_cont (mstep_cont h k.1 k.2.1) k.2.2
theorem mstep_no {acc : List Sp} {x : Sp} (h : ∀ r y, acc = r ++ [y] → (x.kind == 1 && y.kind == 1 && y.strong == x.strong) = false) : mstep acc x = acc ++ [x] := by
  unfold mstep
  cases e : acc.getLast? with
  | none => rw [List.getLast?_eq_none_iff] at e; subst e; rfl
  | some y =>
    obtain ⟨r, hr⟩ := List.getLast?_eq_some_iff.1 e
    dsimp only
    rw [h r y hr]
    rfl
theorem mstep_yes {r : List Sp} {x y : Sp} (h : (x.kind == 1 && y.kind == 1 && y.strong == x.strong) = true) : mstep (r ++ [y]) x = r ++ [{ y with to_ := x.to_ }] := by
  unfold mstep
  rw [List.getLast?_concat]
  dsimp only
  rw [if_pos h, List.dropLast_concat]
theorem mstep_len (acc : List Sp) (x : Sp) : (mstep acc x).length ≤ acc.length + 1 := by
  unfold mstep
  cases e : acc.getLast? with
  | none => simp
  | some y =>
    obtain ⟨r, rfl⟩ := List.getLast?_eq_some_iff.1 e
    dsimp only
    split <;> simp
theorem fillT_pos (s : ByteArray) (x : Sp) : (fillT s x).frm = x.frm ∧ (fillT s x).to_ = x.to_ := by unfold fillT; split <;> exact ⟨rfl, rfl⟩
/-- the texts of the first i spans are laid -/
def fillI (l : List Sp) (s : ByteArray) (i : Nat) : List Sp := l.mapIdx fun j x => if j < i then fillT s x else x
theorem fillI_len (l : List Sp) (s : ByteArray) (i : Nat) : (fillI l s i).length = l.length := by simp [fillI]
theorem fillI_get (l : List Sp) (s : ByteArray) (i j : Nat) : (fillI l s i)[j]? = (l[j]?).map (fun x => if j < i then fillT s x else x) := by simp [fillI]
theorem fillI_at {l : List Sp} {s : ByteArray} {i : Nat} {y : Sp} (h : l[i]? = some y) : (fillI l s i)[i]? = some y := by rw [fillI_get, h]; simp
theorem fillI_zero (l : List Sp) (s : ByteArray) : fillI l s 0 = l := by
  apply List.ext_getElem?; intro j; rw [fillI_get]; cases l[j]? <;> simp
theorem fillI_all (l : List Sp) (s : ByteArray) : fillI l s l.length = l.map (fillT s) := by
  apply List.ext_getElem?; intro j; rw [fillI_get, List.getElem?_map]
  cases e : l[j]? with
  | none => rfl
  | some x => simp [(List.getElem?_eq_some_iff.1 e).1]
theorem fillI_set {l : List Sp} {s : ByteArray} {i : Nat} {y : Sp} (h : l[i]? = some y) : (fillI l s i).set i (fillT s y) = fillI l s (i + 1) := by
  apply List.ext_getElem?; intro j
  rw [List.getElem?_set, fillI_len, fillI_get, fillI_get]
  have hi : i < l.length := (List.getElem?_eq_some_iff.1 h).1
  by_cases e : i = j
  · subst e; rw [if_pos rfl, if_pos hi, h]; simp
  · rw [if_neg e]
    cases l[j]? with
    | none => rfl
    | some x =>
      simp only [Option.map_some]
      by_cases g : j < i
      · rw [if_pos g, if_pos (by omega)]
      · rw [if_neg g, if_neg (by omega)]
theorem fillI_same {l : List Sp} {s : ByteArray} {i : Nat} {y : Sp} (h : l[i]? = some y) (hk : y.kind ≠ 1) : fillI l s i = fillI l s (i + 1) := by
  rw [← fillI_set h, show fillT s y = y from if_neg hk]
  apply List.ext_getElem?; intro j
  rw [List.getElem?_set, fillI_len]
  by_cases e : i = j
  · subst e; rw [if_pos rfl, if_pos (List.getElem?_eq_some_iff.1 h).1, fillI_at h]
  · rw [if_neg e]
theorem spans_cont (s : ByteArray) : Cont 0 (spans s) s.size :=
  cont_map (fillT_pos s) (merge_cont (a := 0) (b := 0) rfl (strong_cont (toks_cont s _ 0 rfl (Nat.zero_le _))))
theorem toks_weak (s : ByteArray) (a : Nat) : ∀ x ∈ toks s a, x.strong = false := by
  have key : ∀ n a, ∀ x ∈ toksN s n a, x.strong = false := by
    intro n
    induction n with
    | zero => intro a x hx; cases hx
    | succ n ih =>
      intro a x hx
      simp only [toksN] at hx
      split at hx
      · rcases List.mem_cons.1 hx with rfl | hx
        · unfold tokA tokE tokC tokL tokR tokT tokB plainAt
          dsimp only
          repeat' split
          all_goals rfl
        · exact ih _ _ hx
      · cases hx
  exact key _ a
theorem toks_len (s : ByteArray) : (toks s 0).length ≤ s.size := by
  have := (cont_le (toks_cont s _ 0 rfl (Nat.zero_le _))).2
  omega
end Go.Proofs.YtnlonleljbbgoaaGreatDoor
