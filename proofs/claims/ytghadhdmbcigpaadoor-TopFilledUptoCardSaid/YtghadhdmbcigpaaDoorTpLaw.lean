/-
  DERIVED. The walk of florkeep2.TemplatePlain: it returns true. Conditions: sizes; the library's own bound holds some number; the table of powers of ten is laid. By an AI agent.
-/
import Derived.Test.YtghadhdmbcigpaaDoorTpFill
namespace Go.Proofs.YtghadhdmbcigpaaDoor
open Go.RowKit

theorem index_two : ∀ (l : List UInt8), Lib.index l [123, 123] = -1 → ∀ i : Nat, ¬ (l[i]? = some (123 : UInt8) ∧ l[i + 1]? = some (123 : UInt8))
  | [], _, i => by simp
  | b :: l, h, i => by
    unfold Lib.index at h
    rintro ⟨h1, h2⟩
    by_cases hp : ([123, 123] : List UInt8).isPrefixOf (b :: l) = true
    · rw [if_pos hp] at h; cases h
    · rw [if_neg hp] at h
      have hl : Lib.index l [123, 123] = -1 := by
        have := Lib.index_ge l [123, 123]
        by_cases hx : Lib.index l [123, 123] = -1
        · exact hx
        · rw [if_neg (by simpa using hx)] at h; omega
      cases i with
      | zero =>
        simp only [List.getElem?_cons_zero, Option.some.injEq] at h1
        cases l with
        | nil => simp at h2
        | cons c l =>
          simp at h2
          subst h1 h2
          exact hp (by simp [List.isPrefixOf])
      | succ i => exact index_two l hl i ⟨by simpa using h1, by simpa using h2⟩
theorem bt_get (s : ByteArray) (i : Nat) (h : bt s i = 123) : s.data.toList[i]? = some (123 : UInt8) := by
  have hi : i < s.size := bt_in (by omega)
  rw [bt_at hi] at h
  have e : s[i] = 123 := UInt8.toNat_inj.1 (by show s[i].toNat = 123; omega)
  rw [List.getElem?_eq_getElem (by simpa using hi)]
  have : s.data.toList[i]'(by simpa using hi) = s[i] := by rw [Array.getElem_toList]; rfl
  rw [this, e]
theorem no_two {s : ByteArray} (h : Lib.contains s.data.toList [123, 123] = false) : okZ s := by
  intro i h1 h2
  unfold Lib.contains at h
  have := Lib.index_ge s.data.toList [123, 123]
  exact index_two s.data.toList (by simp at h; omega) i ⟨bt_get s i h1, bt_get s (i + 1) h2⟩
def sp1 : ByteArray := ⟨#[32]⟩
def nmX : ByteArray := ⟨#[120]⟩
theorem okT_sp {s : ByteArray} (h : okZ s) : okT (s ++ sp1) := by
  intro i h1
  rw [bt_app] at h1
  by_cases hi : i < s.size
  · rw [if_pos hi] at h1
    refine ⟨by rw [ByteArray.size_append]; show i + 1 < s.size + 1; omega, ?_⟩
    rw [bt_app]
    by_cases hj : i + 1 < s.size
    · rw [if_pos hj]; exact h i h1
    · rw [if_neg hj, show i + 1 - s.size = 0 by omega]; decide
  · rw [if_neg hi] at h1
    exfalso
    have hx : i - s.size < sp1.size := bt_in (by omega)
    have : sp1.size = 1 := rfl
    rw [show i - s.size = 0 by omega] at h1
    exact absurd h1 (by decide)
theorem okN_x : okN nmX := ⟨by decide, by decide, fun i hi => by
  have : nmX.size = 1 := rfl
  obtain rfl : i = 0 := by omega
  decide⟩
theorem tpl_x (s : ByteArray) : s ++ (⟨#[32, 123, 123, 120, 125, 125]⟩ : ByteArray) = tpl [(s ++ sp1, nmX)] ⟨#[]⟩ := by
  show _ = (s ++ sp1) ++ (lb2 ++ (nmX ++ (rb2 ++ ⟨#[]⟩)))
  rw [ByteArray.append_assoc]
  rfl
theorem filled_x (s v : ByteArray) : filled [(nmX, v)] [(s ++ sp1, nmX)] ⟨#[]⟩ = s ++ sp1 ++ v := by
  show (s ++ sp1) ++ (valOf [(nmX, v)] nmX ++ (⟨#[]⟩ : ByteArray)) = _
  rw [app_nil]
  congr 1
  unfold valOf
  rw [List.find?_cons, show isNm nmX (nmX, v) = true from by simp [isNm]]

set_option maxHeartbeats 1000000 in
theorem ruleText_zero (w : World) : Calls Tryd.prog 10 #[.agg #[.int .i64 0, .int .i64 0, .int .i64 0, .int .i64 0, .int .i64 0, .slice none 0 0, .slice none 0 0, .int .i64 0, .slice none 0 0]] w fun e w' => e = .returned (.tuple #[.string ⟨#[]⟩, .int .i64 10]) ∧ Below w.heap.size w w' := by
  have hout : ∀ w1, Calls Tryd.prog 36 #[.int .i64 0, .int .i64 1, .int .i64 4] w1 fun e w' => e = .returned (.bool true) ∧ w1 = w' := by
    intro w1
    go_enter Tryd.func36, Tryd.ntmps36
    go_wp2
    go_ret
    exact ⟨by simp, rfl⟩
  have hchk : ∀ w1, Calls Tryd.prog 22 #[.agg #[.int .i64 0, .int .i64 0, .int .i64 0, .int .i64 0, .int .i64 0, .slice none 0 0, .slice none 0 0, .int .i64 0, .slice none 0 0]] w1 fun e w' => e = .returned (.int .i64 10) ∧ Below w1.heap.size w1 w' := by
    intro w1
    go_enter Tryd.func22, Tryd.ntmps22
    go_wp2_with fail
    refine (hout _).mono ?_
    rintro e w2 ⟨rfl, rfl⟩
    go_wp2_with fail
    go_ret
    exact ⟨rfl, (Below.refl _ _).alloc (Nat.le_refl _) _⟩
  clear hout
  go_enter Tryd.func10, Tryd.ntmps10
  go_wp2_with fail
  refine (hchk _).mono ?_
  rintro e w2 ⟨rfl, hb⟩
  go_wp2_with fail
  go_ret2
  exact ⟨rfl, ((Below.refl _ _).alloc (Nat.le_refl _) _).trans (hb.mono (by simp))⟩
set_option maxHeartbeats 1000000 in
theorem awakeDay_any (w : World) : Calls Tryd.prog 5 #[] w fun e w' => e = .returned (.bool true) ∧ Below w.heap.size w w' := by
  go_enter Tryd.func5, Tryd.ntmps5
  go_wp2_with fail
  refine (ruleText_zero _).mono ?_
  rintro e w1 ⟨rfl, hb⟩
  go_wp2_with fail
  go_ret
  exact ⟨rfl, hb⟩

set_option maxHeartbeats 1000000 in
theorem large_any (e : Int) (o : ByteArray) (w : World) : Calls Tryd.prog 8 #[.int .i64 e, .string o] w fun r w' => r = .returned (.bool (e == 4 && o.toList.isEmpty)) ∧ w' = w := by
  by_cases he : e = 4
  · subst he
    go_enter Tryd.func8, Tryd.ntmps8
    go_wp2_with fail
    go_ret
    exact ⟨by simp, rfl⟩
  · have h : (e == 4) = false := by simpa using he
    go_enter Tryd.func8, Tryd.ntmps8
    go_wp2_with fail
    go_ret
    exact ⟨by simp [h], rfl⟩

theorem large_yes (w : World) : Calls Tryd.prog 8 #[.int .i64 4, .string ⟨#[]⟩] w fun r w' => r = .returned (.bool true) ∧ w' = w :=
  (large_any 4 ⟨#[]⟩ w).mono fun _ _ ⟨h1, h2⟩ => ⟨by rw [h1]; simp [ByteArray.toList_eq], h2⟩
theorem large_no (o : ByteArray) (w : World) : Calls Tryd.prog 8 #[.int .i64 0, .string o] w fun r w' => r = .returned (.bool false) ∧ w' = w :=
  (large_any 0 o w).mono fun _ _ ⟨h1, h2⟩ => ⟨by rw [h1]; rfl, h2⟩

set_option maxHeartbeats 4000000 in
set_option maxRecDepth 100000 in
theorem templatePlain_any (s v : ByteArray) (d m : Int) (w : World) (hs : s.size ≤ 1048576) (hv : v.size ≤ 1048576) (hm : w.cell? ⟨0, 0, none⟩ = some (.int .i64 m)) (hP : Pow w) (hz0 : 0 < w.heap.size) :
    Calls Tryd.prog 3 #[.string s, .string v, .int .i64 d] w fun e w' => e = .returned (.bool true) ∧ Below w.heap.size w w' := by
  have HM := Lib.hid hm
  have HPW := Lib.hid hP
  clear hm hP
  go_enter Tryd.func3, Tryd.ntmps3
  go_wp2_with fail
  refine (awakeDay_any _).mono ?_
  rintro e w1 ⟨rfl, hb1⟩
  have HB1 := Lib.hid hb1
  have hm1 := (hb1.cell (p := ⟨0, 0, none⟩) (by show (0 : Nat) < w.heap.size; omega)).trans HM.out
  have HM1 := Lib.hid hm1
  have HP1 := Lib.hid (HPW.out.below hb1)
  clear hb1 hm1 HM HPW
  go_wp2_with fail
  refine (Tryd.strings_Contains s ⟨#[123, 123]⟩ m w1 (by omega) HM1.out).mono ?_
  rintro e w2 ⟨rfl, rfl⟩
  rw [show (⟨#[123, 123]⟩ : ByteArray).data.toList = [123, 123] from rfl]
  clear HM1
  cases hc : Lib.contains s.data.toList [123, 123] with
  | true =>
    go_wp2_with fail
    go_ret
    exact ⟨rfl, HB1.out⟩
  | false =>
    by_cases hd0 : d < 0
    · clear hc
      go_wp2_with fail
      go_ret
      exact ⟨rfl, HB1.out⟩
    by_cases hd1 : 100000 < d
    · clear hc
      go_wp2_with fail
      go_ret
      exact ⟨rfl, HB1.out⟩
    have hq0 : 0 ≤ d := by omega
    have hq1 : d ≤ 100000 := by omega
    have hzz := no_two hc
    have HZ := Lib.hid hzz
    clear hc hzz
    go_wp2_with fail
    refine (fill_any [] s s [] none 0 0 d w2 w2.heap.size (by omega) (by decide) rfl (by simp) HZ.out Reads.none_ (Nat.le_refl _) rfl (by omega) (Nat.le_refl _) (by simp) (by simp) (by simp) hq0 hq1 HP1.out (by show s.size ≤ _; omega)).mono ?_
    rintro e w3 ⟨hres, hb3⟩
    have HB3 := Lib.hid (HB1.out.trans (hb3.mono HB1.out.size))
    have HP3 := Lib.hid (HP1.out.below hb3)
    clear hb3 HP1 HB1
    have K : Hid (∀ w1, Pow w1 → ∀ t, Calls Tryd.prog 7 #[.string (s ++ ⟨#[32, 123, 123, 120, 125, 125]⟩), .slice (some ⟨w1.heap.size, 0, none⟩) 1 1, .int .i64 d] (w1.alloc (.cells #[.string ⟨#[120]⟩, .string v] t)) fun e w' => (e = .returned (.tuple #[.string ⟨#[]⟩, .int .i64 4]) ∨ e = .returned (.tuple #[.string (s ++ ⟨#[32]⟩ ++ v), .int .i64 0])) ∧ Below w1.heap.size w1 w') := by
      intro w1 hp1 t
      have hb := (Below.refl w1.heap.size w1).alloc (Nat.le_refl _) (.cells #[.string ⟨#[120]⟩, .string v] t)
      refine (fill_any [(s ++ sp1, nmX)] ⟨#[]⟩ (s ++ ⟨#[32, 123, 123, 120, 125, 125]⟩) [(nmX, v)] _ 1 1 d _ (w1.heap.size + 1) ?_ (by simp) (tpl_x s) ?_ ?_ ⟨rfl, fun _ => ⟨_, rfl, Nat.lt_succ_self _, new_cells w1 _ (rowsV [(nmX, v)]) t rfl⟩⟩ (by simp) rfl (by decide) (Nat.le_refl _) ?_ (by simp) ?_ hq0 hq1 (hp1.below hb) ?_).mono ?_
      · rw [ByteArray.size_append]; show s.size + 6 ≤ _; omega
      · intro x hx; rw [List.mem_singleton] at hx; subst hx; exact ⟨okT_sp HZ.out, okN_x⟩
      · intro i hi
        exact absurd hi (by rw [bt_out (Nat.zero_le i)]; decide)
      · intro x hx; rw [List.mem_singleton] at hx; subst hx; exact okN_x
      · intro x hx; rw [List.mem_singleton] at hx; subst hx; exact ⟨_, List.mem_singleton.2 rfl, by simp [isNm]⟩
      · rw [filled_x, ByteArray.size_append, ByteArray.size_append]; show s.size + 1 + v.size ≤ _; omega
      · rintro e w2 ⟨h1, h2⟩
        rw [filled_x] at h1
        exact ⟨h1, hb.trans (h2.mono (by simp))⟩
    clear HZ
    have i0 : ¬ d < 0 := by omega
    rcases hres with rfl | rfl
    · go_wp2_with fail
      refine (K.out w3 HP3.out _).mono ?_
      rintro e w4 ⟨hres4, hb4⟩
      have HB4 := Lib.hid (HB3.out.trans (hb4.mono HB3.out.size))
      clear hb4 K
      rcases hres4 with rfl | rfl
      · go_wp2_with fail
        refine (large_yes _).mono ?_
        rintro e w5 ⟨rfl, rfl⟩
        go_wp2_with fail
        refine (large_yes _).mono ?_
        rintro e w5 ⟨rfl, rfl⟩
        go_wp2_with fail
        go_ret
        exact ⟨rfl, HB4.out⟩
      · go_wp2_with fail
        refine (large_yes _).mono ?_
        rintro e w5 ⟨rfl, rfl⟩
        go_wp2_with fail
        refine (large_no _ _).mono ?_
        rintro e w5 ⟨rfl, rfl⟩
        go_wp2_with fail
        go_ret
        exact ⟨rfl, HB4.out⟩
    · go_wp2_with fail
      refine (K.out w3 HP3.out _).mono ?_
      rintro e w4 ⟨hres4, hb4⟩
      have HB4 := Lib.hid (HB3.out.trans (hb4.mono HB3.out.size))
      clear hb4 K
      rcases hres4 with rfl | rfl
      · go_wp2_with fail
        refine (large_no _ _).mono ?_
        rintro e w5 ⟨rfl, rfl⟩
        go_wp2_with fail
        refine (large_yes _).mono ?_
        rintro e w5 ⟨rfl, rfl⟩
        go_wp2_with fail
        go_ret
        exact ⟨rfl, HB4.out⟩
      · go_wp2_with fail
        refine (large_no _ _).mono ?_
        rintro e w5 ⟨rfl, rfl⟩
        go_wp2_with fail
        refine (large_no _ _).mono ?_
        rintro e w5 ⟨rfl, rfl⟩
        go_wp2_with fail
        go_ret
        exact ⟨rfl, HB4.out⟩
end Go.Proofs.YtghadhdmbcigpaaDoor
