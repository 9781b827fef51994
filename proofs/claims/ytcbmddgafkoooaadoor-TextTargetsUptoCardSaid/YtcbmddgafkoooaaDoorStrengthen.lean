/-
  DERIVED. The walk of text.strengthen. Conditions: a row of spans of the caller's own, none of them strong. By an AI agent.
-/
import Derived.Test.YtcbmddgafkoooaaDoorStrong
namespace Go.Proofs.YtcbmddgafkoooaaDoor
open Go.RowKit

/-- the marks so far: none is open, or the one at o is -/
def Opened (l : List Sp) (i : Nat) (op : Int) (f : Nat → Bool) : Prop :=
  (op = -1 ∧ cnt l i % 2 = 0 ∧ f = strF l (cnt l i)) ∨
  ∃ o : Nat, op = o ∧ o < i ∧ bold l o = true ∧ cnt l (o + 1) = cnt l i ∧ cnt l i % 2 = 1 ∧ f = strF l (cnt l i - 1)

theorem own_ge {w : World} {B n g c : Nat} {e : TypeId} {xs : List Value} (h : w.ownsRow B e 7 (.slice (some ⟨g, 0, none⟩) n c) n xs) : B ≤ g := (h.lt g rfl).1

theorem store_sp {w w0 : World} {B g c k i n : Nat} {L : List Sp} {x y : Sp} {u : Value} (hown : w.ownsRow B 29 7 (.slice (some ⟨g, 0, none⟩) n c) n (flatC L)) (hb : Below B w0 w) (hx : L[k]? = some x) (hi : i < 7) (hu : (spCells x).set i u = spCells y) :
    (w.setCell ⟨g, k * 7 + i, none⟩ u).ownsRow B 29 7 (.slice (some ⟨g, 0, none⟩) n c) n (flatC (L.set k y)) ∧ Below B w0 (w.setCell ⟨g, k * 7 + i, none⟩ u) := by
  have h := (hown.stored (k * 7 + i) u).1
  rw [flatC_set hx hi hu] at h
  exact ⟨h, hb.setCell (p := ⟨g, k * 7 + i, none⟩) (own_ge hown) _⟩

set_option maxHeartbeats 1000000 in
set_option maxRecDepth 100000 in
theorem strengthen_any (l : List Sp) (v : Value) (w : World) (B : Nat) (hown : w.ownsRow B 29 7 v l.length (flatC l)) (hl : ∀ x ∈ l, x.strong = false) (hn : l.length ≤ 4294967280) :
    Calls Tryd.prog 37 #[v] w fun e w' => e = .returned (.tuple #[]) ∧ w'.ownsRow B 29 7 v l.length (flatC (strong l)) ∧ Below B w w' := by
  by_cases h0 : l.length = 0
  · obtain rfl : l = [] := List.length_eq_zero_iff.1 h0
    have hv : ∃ A c, v = .slice A 0 c := by
      rcases hown.2 with ⟨rfl, _⟩ | ⟨g, cap, cur, hv, _⟩
      · exact ⟨_, _, rfl⟩
      · exact ⟨_, _, hv⟩
    obtain ⟨A, c, rfl⟩ := hv
    have R : Hid (w.ownsRow B 29 7 (.slice A 0 c) 0 (flatC (strong []))) := hown
    clear hown hl hn h0
    go_enter Tryd.func37, Tryd.ntmps37
    go_wp2
    go_loopg [2, 7] 0 (fun g s2 s7 wr => s2 = .int .i64 (-1) ∧ s7 = .int .i64 0 ∧ wr = w)
    case atStart => exact ⟨rfl, rfl, rfl⟩
    case round =>
      obtain ⟨rfl, rfl, rfl⟩ := hrel
      go_wp2
      go_end0
      exact ⟨rfl, R.out, Below.refl _ _⟩
  · obtain ⟨g, c, rfl⟩ : ∃ g c, v = .slice (some ⟨g, 0, none⟩) l.length c := by
      rcases hown.2 with ⟨_, h⟩ | ⟨g, cap, cur, hv, _⟩
      · exact absurd h h0
      · exact ⟨_, _, hv⟩
    have hcap : l.length ≤ c := by
      rcases hown.2 with ⟨hv, _⟩ | ⟨g', cap, cur, hv, _, _, hc, _⟩
      · cases hv
      · injection hv with _ _ e; omega
    have HN := Lib.hid h0
    have HLF := Lib.hid hl
    clear h0 hl
    go_enter Tryd.func37, Tryd.ntmps37
    go_wp2
    go_loopg [2, 7] l.length (fun gg s2 s7 wr => ∃ (i : Nat) (op : Int) (f : Nat → Bool), i + gg = l.length ∧ s7 = .int .i64 i ∧ s2 = .int .i64 op ∧ Hid (Opened l i op f) ∧ wr.ownsRow B 29 7 (.slice (some ⟨g, 0, none⟩) l.length c) l.length (flatC (withS l f)) ∧ Below B w wr)
    case atStart => exact ⟨0, -1, fun _ => false, by omega, rfl, rfl, .inl ⟨rfl, rfl, funext fun j => (strF_zero l j).symm⟩, by rw [withS_same HLF.out]; exact hown, Below.refl _ _⟩
    case round =>
      obtain ⟨i, op, f, hig, rfl, rfl, HO, hown', hbel⟩ := hrel
      clear hown
      by_cases hil : i < l.length
      · have ii : (i : Int) < (l.length : Int) := by omega
        have ii0 : (0 : Int) ≤ (i : Int) := by omega
        obtain ⟨x, hx⟩ : ∃ x, l[i]? = some x := ⟨_, List.getElem?_eq_getElem hil⟩
        have hb := bold_at hx
        have HX := Lib.hid hx
        have c0 : wr.cell? ⟨g, i * 7, none⟩ = some (.int .i64 x.kind) := by
          have := hown'.cells (g := g) rfl (i * 7) (.int .i64 x.kind) (by have := flatC_at (i := 0) (withS_at (f := f) hx) (by omega); simpa [spCells] using this)
          rw [Addr.add_lit] at this
          simpa using this
        clear hx
        cases hk : (x.kind == 7)
        · have hk' : (x.kind != 7) = true := by simp [bne, hk]
          rw [hk] at hb
          have HO' : Hid (Opened l (i + 1) op f) := by
            show Opened _ _ _ _
            have e := cnt_no hb
            rcases HO.out with ⟨a1, a2, a3⟩ | ⟨o, a1, a2, a3, a4, a5, a6⟩
            · exact .inl ⟨a1, by rw [e]; exact a2, by rw [e]; exact a3⟩
            · exact .inr ⟨o, a1, by omega, a3, by rw [e]; exact a4, by rw [e]; exact a5, by rw [e]; exact a6⟩
          clear HO hk hb
          go_wp2
          go_roundg (l.length - (i + 1))
          case measure => omega
          case rel => exact ⟨i + 1, op, f, by omega, by go_num, rfl, HO', hown', hbel⟩
        · have hk' : (x.kind != 7) = false := by simp [bne, hk]
          rw [hk] at hb
          have e := cnt_yes hb
          rcases HO.out with ⟨rfl, a2, a3⟩ | ⟨o, rfl, a2, a3, a4, a5, a6⟩
          · have HO' : Hid (Opened l (i + 1) i f) := .inr ⟨i, rfl, by omega, hb, rfl, by omega, by rw [e, a3]; rfl⟩
            clear HO hk hb a2 a3 e
            go_wp2
            go_roundg (l.length - (i + 1))
            case measure => omega
            case rel => exact ⟨i + 1, i, f, by omega, by go_num, rfl, HO', hown', hbel⟩
          · have io : (0 : Int) ≤ (o : Int) := by omega
            have HB := Lib.hid (And.intro hb (And.intro a2 (And.intro a3 (And.intro a4 (And.intro a5 a6)))))
            clear HO hk hb a3 a4 a5 a6 e
            go_wp2
            go_loopg [4] (i + 1 - o) (fun gg s4 wi => ∃ k : Nat, k + gg = i + 1 ∧ o ≤ k ∧ s4 = .int .i64 k ∧ wi.ownsRow B 29 7 (.slice (some ⟨g, 0, none⟩) l.length c) l.length (flatC (withS l (fun j => if o ≤ j ∧ j < k then true else f j))) ∧ Below B w wi)
            case atStart => exact ⟨o, by omega, Nat.le_refl _, rfl, by rw [withS_ext (g := f) (fun j _ => by rw [if_neg (by omega)])]; exact hown', hbel⟩
            case round =>
              obtain ⟨k, hkg, hok, rfl, hown2, hbel2⟩ := hrel
              clear hown' c0
              have ik0 : (0 : Int) ≤ (k : Int) := by omega
              by_cases hki : k ≤ i
              · have iki : (k : Int) ≤ (i : Int) := by omega
                have ikl : (k : Int) < (l.length : Int) := by omega
                obtain ⟨y, hy⟩ : ∃ y, l[k]? = some y := ⟨_, List.getElem?_eq_getElem (by omega)⟩
                have hL := withS_at (f := (fun j => if o ≤ j ∧ j < k then true else f j)) hy
                have c6 : wr.cell? ⟨g, k * 7 + 6, none⟩ = some (.bool (if o ≤ k ∧ k < k then true else f k)) := by
                  have := hown2.cells (g := g) rfl (k * 7 + 6) (.bool (if o ≤ k ∧ k < k then true else f k)) (by rw [flatC_at (i := 6) hL (by omega)]; rfl)
                  rw [Addr.add_lit] at this
                  simpa using this
                have f6 := hown2.frozenAt (k * 7 + 6)
                have R := store_sp (i := 6) (y := { y with strong := true }) (u := .bool true) hown2 hbel2 hL (by omega) rfl
                rw [withS_set hy, withS_ext (g := fun j => if o ≤ j ∧ j < k + 1 then true else f j) (fun j _ => by
                  by_cases e1 : j = k
                  · rw [if_pos e1, if_pos (by omega)]
                  · rw [if_neg e1]
                    by_cases e2 : o ≤ j ∧ j < k
                    · rw [if_pos e2, if_pos (by omega)]
                    · rw [if_neg e2, if_neg (by omega)])] at R
                have R := Lib.hid R
                clear hy hL hown2
                go_wp2
                go_roundg (i + 1 - (k + 1))
                case measure => omega
                case rel => exact ⟨k + 1, by omega, by omega, by go_num, R.out.1, R.out.2⟩
              · obtain rfl : k = i + 1 := by omega
                have iki : (i : Int) < ((i + 1 : Nat) : Int) := by omega
                obtain ⟨b1, b2, b3, b4, b5, b6⟩ := HB.out
                have e := cnt_yes b1
                have HO' : Hid (Opened l (i + 1) (-1) (strF l (cnt l i + 1))) := .inl ⟨rfl, by omega, by rw [e]⟩
                have R : wr.ownsRow B 29 7 (.slice (some ⟨g, 0, none⟩) l.length c) l.length (flatC (withS l (strF l (cnt l i + 1)))) := by
                  rw [withS_ext (g := fun j => if o ≤ j ∧ j < i + 1 then true else f j) (fun j _ => ?_)]
                  · exact hown2
                  · rw [strF_pair b3 b1 b2 b5 b4, b6]
                    by_cases e1 : o ≤ j ∧ j ≤ i
                    · rw [if_pos e1, if_pos (by omega)]
                    · rw [if_neg e1, if_neg (by omega)]
                clear b1 b2 b3 b4 b5 b6 e hown2
                go_wp2
                go_roundg (l.length - (i + 1))
                case measure => omega
                case rel => exact ⟨i + 1, -1, _, by omega, by go_num, rfl, HO', R, hbel2⟩
      · obtain rfl : i = l.length := by omega
        have iil : ¬ ((l.length : Int) < (l.length : Int)) := by omega
        rcases HO.out with ⟨rfl, a2, rfl⟩ | ⟨o, rfl, a2, a3, a4, a5, rfl⟩
        · rw [← strong_even a2] at hown'
          clear a2 HO
          go_wp2
          go_end0
          exact ⟨rfl, hown', hbel⟩
        · have io : (0 : Int) ≤ (o : Int) := by omega
          have iol : (o : Int) < (l.length : Int) := by omega
          obtain ⟨y, hy⟩ : ∃ y, l[o]? = some y := ⟨_, List.getElem?_eq_getElem (by omega)⟩
          have hL := withS_at (f := strF l (cnt l l.length - 1)) hy
          have c0 : wr.cell? ⟨g, o * 7, none⟩ = some (.int .i64 y.kind) := by
            have := hown'.cells (g := g) rfl (o * 7) (.int .i64 y.kind) (by have := flatC_at (i := 0) hL (by omega); simpa [spCells] using this)
            rw [Addr.add_lit] at this
            simpa using this
          have f0 := hown'.frozenAt (o * 7)
          have R := store_sp (i := 0) (y := { y with kind := 1, strong := strF l (cnt l l.length - 1) o }) (u := .int .i64 1) hown' hbel hL (by omega) rfl
          rw [← strong_odd a5 hy a3 a4] at R
          have R := Lib.hid R
          clear a3 a4 a5 hy hL hown' HO
          go_wp2
          go_end0
          exact ⟨rfl, R.out⟩
end Go.Proofs.YtcbmddgafkoooaaDoor
