/-
  DERIVED. The walks of prop.hasControl and prop.checkText. Conditions: sizes.
  strings.IndexRune at the two brackets, of a rune beyond ASCII. Conditions: a valid rune.
  strings.IndexAny at the two brackets, of every text. Conditions: a length in reach.
  By an AI agent.
-/
import Derived.Test.YtnlonleljbbgoaaGreatDoorKe07
import Derived.Test.YtnlonleljbbgoaaGreatDoorKe04
import Derived.Test.YtnlonleljbbgoaaGreatDoorKe02
import Derived.Test.YtnlonleljbbgoaaGreatDoorKe01
import Derived.Test.YtnlonleljbbgoaaGreatDoorKe08
import Derived.Test.YtnlonleljbbgoaaGreatDoorChecked
import Derived.Deep.LoopGhost
import Derived.Deep.QuietTactic
import Derived.BigQuiet
import Derived.Laws.Runes
import Derived.Lib.OthersKept
import Derived.Lib.DecodeN
namespace Go.Proofs.YtnlonleljbbgoaaGreatDoor
open Go.RowKit

def ctR (r : Nat) : Bool := decide (r < 32) || (r == 127)
theorem ctR_byte (c : UInt8) : ctR c.toNat = ctlB c := rfl
theorem ctR_far {r : Nat} (h : 128 ≤ r) : ctR r = false := by unfold ctR; simp; omega
theorem idxF_ctl (s : ByteArray) : ∀ f pos, s.size - pos ≤ f → ((0 ≤ Lib.idxFuncFrom ctR true s f pos) ↔ ∃ j, ∃ h : j < s.size, pos ≤ j ∧ ctlB s[j] = true)
  | 0, pos, hf => by
    unfold Lib.idxFuncFrom
    exact ⟨fun h => absurd h (by omega), fun ⟨j, h, h1, _⟩ => absurd h1 (by omega)⟩
  | f + 1, pos, hf => by
    unfold Lib.idxFuncFrom
    by_cases hp : pos < s.size
    · rw [if_pos hp]
      by_cases ha : (s[pos]).toNat < 128
      · rw [decode_ascii s pos hp ha]
        dsimp only
        cases hc : ctlB s[pos]
        · rw [if_neg (by rw [ctR_byte, hc]; decide), idxF_ctl s f (pos + 1) (by omega)]
          constructor
          · rintro ⟨j, h, h1, h2⟩
            exact ⟨j, h, by omega, h2⟩
          · rintro ⟨j, h, h1, h2⟩
            refine ⟨j, h, ?_, h2⟩
            rcases Nat.lt_or_ge pos j with g | g
            · exact g
            · obtain rfl : pos = j := by omega
              rw [hc] at h2; cases h2
        · rw [if_pos (by rw [ctR_byte, hc])]
          exact ⟨fun _ => ⟨pos, hp, Nat.le_refl _, hc⟩, fun _ => by omega⟩
      · obtain ⟨a1, a2, a3, a4, a5⟩ := decode_far hp (by omega)
        rw [if_neg (by rw [ctR_far a1]; decide), idxF_ctl s f _ (by omega)]
        constructor
        · rintro ⟨j, h, h1, h2⟩
          exact ⟨j, h, by omega, h2⟩
        · rintro ⟨j, h, h1, h2⟩
          refine ⟨j, h, ?_, h2⟩
          rcases Nat.lt_or_ge j (pos + (Utf8.decode s pos).2) with g | g
          · have := a5 j h h1 g
            exfalso
            unfold ctlB at h2
            simp at h2
            omega
          · exact g
    · rw [if_neg hp]
      exact ⟨fun h => absurd h (by omega), fun ⟨j, h, h1, _⟩ => absurd h1 (by omega)⟩
theorem ctl_iff (s : ByteArray) : (ctl s = true) ↔ ∃ j, ∃ h : j < s.size, ctlB s[j] = true := by
  constructor
  · intro h
    obtain ⟨c, hc, h2⟩ := List.any_eq_true.1 h
    obtain ⟨j, hj, rfl⟩ := List.mem_iff_getElem.1 hc
    have e : s.data.toList[j] = s[j]'(by simpa using hj) := by simp; rfl
    rw [e] at h2
    exact ⟨j, by simpa using hj, h2⟩
  · rintro ⟨j, h, h2⟩
    exact ctl_yes s j h h2
theorem idxF_is (s : ByteArray) : decide ((0 : Int) ≤ Lib.idxFunc ctR true s) = ctl s := by
  rw [Bool.eq_iff_iff, decide_eq_true_iff, ctl_iff]
  unfold Lib.idxFunc
  rw [idxF_ctl s s.size 0 (by omega)]
  exact ⟨fun ⟨j, h, _, h2⟩ => ⟨j, h, h2⟩, fun ⟨j, h, h2⟩ => ⟨j, h, Nat.zero_le _, h2⟩⟩
theorem ctrl_at (w : World) : PredAt Tryz.prog 202 #[] encR ctR w := fun W r _ => by
  unfold FnGives
  unfold ctR
  obtain ⟨q1, h1⟩ : ∃ q, q = decide (r < 32) := ⟨_, rfl⟩
  obtain ⟨q2, h2⟩ : ∃ q, q = (r == 127) := ⟨_, rfl⟩
  rw [← h1, ← h2]
  have z2 : ((r : Int) == 127) = q2 := by rw [h2, Bool.eq_iff_iff]; simp; omega
  clear h2
  cases q1
  · have z1 : ¬ (r : Int) < 32 := by have := of_decide_eq_false h1.symm; omega
    clear h1
    cases q2
    all_goals
      go_enter Tryz.func202, Tryz.ntmps202
      go_wp2
      go_ret
      exact ⟨rfl, 0, rfl⟩
  · have z1 : (r : Int) < 32 := by have := of_decide_eq_true h1.symm; omega
    clear h1
    go_enter Tryz.func202, Tryz.ntmps202
    go_wp2
    go_ret
    exact ⟨rfl, 0, rfl⟩
set_option maxHeartbeats 400000 in
theorem hasControlP_any (s : ByteArray) (w : World) :
    Calls Tryz.prog 172 #[.string s] w fun e w' => e = .returned (.bool (ctl s)) ∧ Below w.heap.size w w' := by
  have HC := Lib.hid (Tryz.strings_ContainsFunc 202 #[] (enters_of Tryz.func202 (by kernel_rfl) rfl) ctR s w (ctrl_at w))
  rw [idxF_is] at HC
  go_enter Tryz.func172, Tryz.ntmps172
  go_wp2_with fail
  refine HC.out.mono ?_
  rintro e w1 ⟨rfl, hb⟩
  have HB := Lib.hid hb
  clear hb
  go_wp2_with fail
  go_ret
  exact ⟨rfl, HB.out⟩

def lkS : ByteArray := ⟨#[91, 93, 124]⟩
theorem lkS_asc : Asc lkS := by
  intro i h
  have : i < 3 := h
  match i, this with
  | 0, _ => exact (by decide : (91 : UInt8).toNat < 128)
  | 1, _ => exact (by decide : (93 : UInt8).toNat < 128)
  | 2, _ => exact (by decide : (124 : UInt8).toNat < 128)
/-- has a text a byte that no title has -/
def lkAny (s : ByteArray) : Bool := decide (0 ≤ Lib.indexAny s.data.toList lkS.data.toList)
/-- a text that is no title -/
def lkBad (s : ByteArray) : Bool := s.toList.isEmpty || (bt s 0 == 32) || (bt s (s.size - 1) == 32) || lkAny s
/-- the error of the text of a value -/
def ttErr (k6 : Bool) (s : ByteArray) : Int :=
  if 2000 < s.size then 4 else if k6 = true ∧ 100 < s.size then 4 else if ctl s = true then 9 else if (k6 && lkBad s) = true then 1 else 0

set_option maxHeartbeats 4000000 in
theorem checkTextP_any (x : Vl × Value) (w : World) (hv : ∃ A n c, x.2 = .slice A n c) :
    Calls Tryz.prog 134 #[AV x] w fun e w' => e = .returned (.int .i64 (ttErr (x.1.kind == 6) x.1.text)) ∧ Below w.heap.size w w' := by
  obtain ⟨⟨k, i, t, s, l⟩, v⟩ := x
  obtain ⟨A, n, c, rfl⟩ := hv
  dsimp only [AV, Vl.kind, Vl.int_, Vl.to_, Vl.text, Vl.items]
  obtain ⟨k6, h6⟩ : ∃ q, (k == 6) = q := ⟨_, rfl⟩
  rw [h6]
  by_cases b1 : 2000 < s.size
  · have hv : ttErr k6 s = 4 := if_pos b1
    rw [hv]
    have b1' : (2000 : Int) < (s.size : Int) := by omega
    clear hv b1
    cases k6 <;>
    · go_enter Tryz.func134, Tryz.ntmps134
      go_wp2_with fail
      go_ret
      exact ⟨rfl, (Below.refl _ _).alloc (Nat.le_refl _) _⟩
  have b1' : ¬ (2000 : Int) < (s.size : Int) := by omega
  have HC := Lib.hid fun W => hasControlP_any s W
  have HA := Lib.hid fun W => containsAny_asc lkS lkS_asc (by decide) (by decide) s W (by omega)
  by_cases b2 : k6 = true ∧ 100 < s.size
  · have hv : ttErr k6 s = 4 := by unfold ttErr; rw [if_neg b1, if_pos b2]
    rw [hv]
    obtain ⟨rfl, b2⟩ := b2
    have b2' : (100 : Int) < (s.size : Int) := by omega
    clear hv b1 b2
    go_enter Tryz.func134, Tryz.ntmps134
    go_wp2_with fail
    go_ret
    exact ⟨rfl, (Below.refl _ _).alloc (Nat.le_refl _) _⟩
  have hv : ttErr k6 s = if ctl s = true then 9 else if (k6 && lkBad s) = true then 1 else 0 := by unfold ttErr; rw [if_neg b1, if_neg b2]
  rw [hv]
  clear hv
  obtain ⟨q, hq⟩ : ∃ q, q = ctl s := ⟨_, rfl⟩
  rw [← hq] at HC ⊢
  clear hq
  obtain ⟨lb, hlb⟩ : ∃ lb, lb = lkBad s := ⟨_, rfl⟩
  rw [← hlb]
  have HLB := Lib.hid hlb
  clear hlb
  cases k6
  case false =>
    go_enter Tryz.func134, Tryz.ntmps134
    go_wp2_with fail
    refine (HC.out _).mono ?_
    rintro e w1 ⟨rfl, hb⟩
    have hc := fun i => hb.cell (p := ⟨w.heap.size, i, none⟩) (by simp)
    have HB : Hid (Below w.heap.size w w1) := ((Below.refl _ _).alloc (Nat.le_refl _) _).trans (hb.mono (by simp))
    clear hb
    cases q
    · go_wp2_with fail
      go_ret
      exact ⟨rfl, HB.out⟩
    · go_wp2_with fail
      go_ret
      exact ⟨rfl, HB.out⟩
  case true =>
    have b2' : ¬ (100 : Int) < (s.size : Int) := fun h => b2 ⟨rfl, by omega⟩
    cases q
    case true =>
      go_enter Tryz.func134, Tryz.ntmps134
      go_wp2_with fail
      refine (HC.out _).mono ?_
      rintro e w1 ⟨rfl, hb⟩
      have hc := fun i => hb.cell (p := ⟨w.heap.size, i, none⟩) (by simp)
      have HB : Hid (Below w.heap.size w w1) := ((Below.refl _ _).alloc (Nat.le_refl _) _).trans (hb.mono (by simp))
      clear hb
      go_wp2_with fail
      go_ret
      exact ⟨rfl, HB.out⟩
    by_cases h0 : s.size = 0
    · obtain rfl : s = ⟨#[]⟩ := by cases s with | mk d => rw [show d = #[] from Array.eq_empty_of_size_eq_zero h0]
      have e : lb = true := by
        rw [HLB.out]
        unfold lkBad
        rw [show (⟨#[]⟩ : ByteArray).toList.isEmpty = true from by rw [ByteArray.toList_eq]; rfl]
        rfl
      rw [e]
      clear e h0
      go_enter Tryz.func134, Tryz.ntmps134
      go_wp2_with fail
      refine (HC.out _).mono ?_
      rintro e w1 ⟨rfl, hb⟩
      have hc := fun i => hb.cell (p := ⟨w.heap.size, i, none⟩) (by simp)
      have HB : Hid (Below w.heap.size w w1) := ((Below.refl _ _).alloc (Nat.le_refl _) _).trans (hb.mono (by simp))
      clear hb
      go_wp2_with fail
      go_ret
      exact ⟨rfl, HB.out⟩
    have hne := notEmpty_of (t := s) (by omega)
    have hz : 0 < s.size := by omega
    have hl : s.size - 1 < s.size := by omega
    have z1 : (1 : Int) ≤ (s.size : Int) := by omega
    have z0 : (0 : Int) ≤ (s.size : Int) - 1 := by omega
    have z2 : ((s.size : Int) - 1).toNat = s.size - 1 := by omega
    have hlk : lb = ((((s[0].toNat : Int) == 32) || ((s[s.size - 1].toNat : Int) == 32)) || lkAny s) := by rw [HLB.out]; unfold lkBad; rw [hne, bt_at hz, bt_at hl]; rfl
    obtain ⟨a1, e1⟩ : ∃ q, ((s[0].toNat : Int) == 32) = q := ⟨_, rfl⟩
    obtain ⟨a2, e2⟩ : ∃ q, ((s[s.size - 1].toNat : Int) == 32) = q := ⟨_, rfl⟩
    obtain ⟨a3, e3⟩ : ∃ q, lkAny s = q := ⟨_, rfl⟩
    rw [e1, e2, e3] at hlk
    have HA3 : Hid (∀ W, Calls Tryz.prog 136 #[.string s, .string ⟨#[91, 93, 124]⟩] W fun e w' => e = .returned (.bool a3) ∧ Below W.heap.size W w') := fun W => by rw [← e3]; exact HA.out W
    obtain ⟨V, hV⟩ : ∃ V : Int, V = (if false = true then 9 else if (true && lb) = true then 1 else 0) := ⟨_, rfl⟩
    rw [← hV]
    rw [hlk] at hV
    have HLK := Lib.hid hV
    clear hlk e3 h0 HA hV
    cases a1 <;> cases a2
    all_goals
      go_enter Tryz.func134, Tryz.ntmps134
      go_wp2_with fail
      refine (HC.out _).mono ?_
      rintro e w1 ⟨rfl, hb⟩
      have hc := fun i => hb.cell (p := ⟨w.heap.size, i, none⟩) (by simp)
      have HB : Hid (Below w.heap.size w w1) := ((Below.refl _ _).alloc (Nat.le_refl _) _).trans (hb.mono (by simp))
      clear hb
      go_wp2_with fail
    · refine (HA3.out _).mono ?_
      rintro e w2 ⟨rfl, hb⟩
      have HB2 : Hid (Below w.heap.size w w2) := HB.out.trans (hb.mono HB.out.size)
      clear hb
      cases a3
      · go_wp2_with fail
        go_ret
        exact ⟨by rw [HLK.out]; rfl, HB2.out⟩
      · go_wp2_with fail
        go_ret
        exact ⟨by rw [HLK.out]; rfl, HB2.out⟩
    all_goals
      go_ret
      exact ⟨by rw [HLK.out]; rfl, HB.out⟩
end Go.Proofs.YtnlonleljbbgoaaGreatDoor
namespace Go.Proofs.YtnlonleljbbgoaaGreatDoor
open Go.RowKit


/-- the text of the two brackets -/
def brS : ByteArray := ⟨#[91, 93]⟩

set_option maxHeartbeats 2000000 in
set_option maxRecDepth 100000 in
theorem indexRune_br (r : Int) (w : World) (h1 : 128 ≤ r) (hv : (0 ≤ r ∧ r < 55296) ∨ (57343 < r ∧ r ≤ 1114111)) :
    Calls Tryz.prog 165 #[.string ⟨#[91, 93]⟩, .int .i32 r] w fun e w' => e = .returned (.int .i64 (-1)) ∧ Below w.heap.size w w' := by
  have h0 : (0 : Int) ≤ r := by omega
  have hr : r ≤ 1114111 := by omega
  have hn : ¬ r < 128 := by omega
  have HV := Lib.hid hv
  have hval : Utf8.valid r = true := by unfold Utf8.valid; simp; omega
  obtain ⟨e1, e2, e3⟩ := encode_facts r hval h1
  obtain ⟨T, hT⟩ : ∃ T, T = Utf8.encode r := ⟨_, rfl⟩
  rw [← hT] at e1 e2 e3
  have HT := Lib.hid hT
  clear hv hval hT
  by_cases hE : r = 65533
  · subst hE
    go_enter Tryz.func165, Tryz.ntmps165
    clear HT e1 e2 e3 HV
    go_wp2_with fail
    go_loopg [5, 6] 2 (fun g _ _ wx => ∃ i : Nat, i + g = 2 ∧ wx = w.iter ⟨#[91, 93]⟩ i)
    case atStart => exact ⟨0, by omega, rfl⟩
    case round =>
      obtain ⟨i, hig, rfl⟩ := hrel
      have ways : i = 0 ∨ i = 1 ∨ i = 2 := by omega
      rcases ways with rfl | rfl | rfl
      · have hnx := fun ty => run_next_ascii (P := Tryz.prog) w ⟨#[91, 93]⟩ 0 ty (by decide) (by decide)
        go_wp2
        go_roundg 1
        case measure => omega
        case rel => exact ⟨1, by omega, rfl⟩
      · have hnx := fun ty => run_next_ascii (P := Tryz.prog) w ⟨#[91, 93]⟩ 1 ty (by decide) (by decide)
        go_wp2
        go_roundg 0
        case measure => omega
        case rel => exact ⟨2, by omega, rfl⟩
      · have hnx := run_next_end (P := Tryz.prog) w ⟨#[91, 93]⟩ 2
        go_wp2
        go_ret
        exact ⟨rfl, (Below.refl _ _).alloc (Nat.le_refl _) _⟩
  · have hE' : (r == 65533) = false := by simpa using hE
    clear hE
    go_enter Tryz.func165, Tryz.ntmps165
    go_wp2_with fail
    refine (validRune_any r _ HV.out).mono ?_
    rintro e w1 ⟨rfl, hw⟩
    rw [← hw]
    clear hw
    have hT' := HT.out.symm
    have HB : Hid (∀ (x : Int) w, Calls Tryz.prog 178 #[.string ByteArray.empty, .int .u8 x] w fun e w' => e = .returned (.int .i64 (-1)) ∧ w' = w) := fun x w => Tryz.strings_IndexByte _ x w
    by_cases h2 : T.size = 2
    · have h3 := e3 (by omega)
      obtain ⟨hl, q⟩ : ∃ hl : 1 < T.size, ((((⟨#[91, 93]⟩ : ByteArray)[1]'(by decide)).toNat : Int) != (T[1].toNat : Int)) = true := by
        refine ⟨by omega, ?_⟩
        show ((93 : Int) != (T[1].toNat : Int)) = true
        have h4 : T[1] = T[T.size - 1] := by congr 1; omega
        rw [h4]; simp; omega
      clear e1 e2 e3 h3
      go_wp2_with fail
      go_step3
      go_wp2_with fail
      go_loopg [9, 10] 0 (fun g s9 s10 wr => s9 = .int .i64 1 ∧ s10 = .int .i64 0 ∧ wr = w)
      case atStart => exact ⟨by go_num, rfl, rfl⟩
      case round =>
        obtain ⟨rfl, rfl, rfl⟩ := hrel
        go_wp2_with fail
        go_step3
        go_wp2_with fail
        go_quiet (fail)
        go_wp2_with fail
        have hwr : IntKind.i64.wrap 2 = 2 := by decide
        go_quiet (refine (HB.out _ _).mono (fun _ _ h => ⟨h.1, _, h.2⟩))
        go_wp2_with fail
        rw [Exit.noGoto_ret]
        simp only [Exit.inBlock, Exit.then]
        rw [Exit.noGoto_ret]
        go_ret
        exact ⟨rfl, bdrew (Below.refl _ _) _⟩
    · have h2' : (2 : Int) ≤ (T.size : Int) - 1 := by omega
      have h2'' : ¬ ((T.size : Int) - 1 < 2) := by omega
      clear e3
      go_wp2_with fail
      go_step3
      go_wp2_with fail
      go_loopg [9, 10] 0 (fun g s9 s10 wr => s9 = .int .i64 (T.size - 1) ∧ s10 = .int .i64 0 ∧ wr = w)
      case atStart => exact ⟨by go_num, rfl, rfl⟩
      case round =>
        obtain ⟨rfl, rfl, rfl⟩ := hrel
        go_wp2_with fail
        try rw [Exit.noGoto_ret]
        go_ret
        exact ⟨rfl, Below.refl _ _⟩
end Go.Proofs.YtnlonleljbbgoaaGreatDoor
namespace Go.Proofs.YtnlonleljbbgoaaGreatDoor
open Go.RowKit



theorem noAny_more {s : ByteArray} {i k : Nat} (h : Lib.NoAny s.data.toList [91, 93] i) (hm : ∀ j (hj : j < s.size), i ≤ j → j < k → 128 ≤ (s[j]).toNat) : Lib.NoAny s.data.toList [91, 93] k := by
  intro j b hj hb
  rcases Nat.lt_or_ge j i with g | g
  · exact h j b g hb
  · obtain ⟨hjs, e⟩ := List.getElem?_eq_some_iff.1 hb
    have hjs' : j < s.size := by simpa using hjs
    have := hm j hjs' g hj
    have e2 : s[j] = b := by rw [← e]; rfl
    rw [e2] at this
    simp
    refine ⟨fun e => ?_, fun e => ?_⟩ <;> (subst e; simp at this)

set_option maxHeartbeats 2000000 in
set_option maxRecDepth 100000 in
theorem indexAny_short (s : ByteArray) (w : World) (hs : s.size ≤ 8) :
    Calls Tryz.prog 126 #[.string s, .string ⟨#[91, 93]⟩] w fun e w' => e = .returned (.int .i64 (Lib.indexAny s.data.toList [91, 93])) ∧ Below w.heap.size w w' := by
  have hemp : (⟨#[91, 93]⟩ : ByteArray).toList.isEmpty = false := by rw [Lib.toList_data]; rfl
  have h8z : ¬ ((8 : Int) < (s.size : Int)) := by omega
  go_enter Tryz.func126, Tryz.ntmps126
  go_wp2_with (first | (go_at_call 166; go_in))
  go_loopg [9, 10] s.size (fun g _ _ wx => ∃ i : Nat, i ≤ s.size ∧ s.size - i ≤ g ∧ wx.heap[w.heap.size]? = some (.stringIter s i) ∧ Below w.heap.size w wx ∧ Lib.NoAny s.data.toList [91, 93] i)
  case atStart => exact ⟨0, Nat.zero_le _, by omega, World.iter_heap w s 0, (Below.refl _ _).alloc (Nat.le_refl _) _, Lib.NoAny.zero _ _⟩
  case round =>
    obtain ⟨i, hi, hig, hit, hbel, hno⟩ := hrel
    have HN := Lib.hid hno
    have HB := Lib.hid hbel
    have hsz := hbel.size
    have hkz : w.heap.size < wr.heap.size := by
      rcases Nat.lt_or_ge w.heap.size wr.heap.size with h' | h'
      · exact h'
      · simp [Array.getElem?_eq_none h'] at hit
    clear hno hbel
    by_cases his : i < s.size
    · have hxl : s.data.toList[i]? = some s[i] := Lib.data_getElem? s i his
      have HX := Lib.hid hxl
      clear hxl
      by_cases hx128 : (s[i]).toNat < 128
      · have hnx := fun ty => Lib.run_next_ascii_at (P := Tryz.prog) wr w.heap.size s i ty hit his hx128
        have hit2 := Lib.iterAt_heap wr w.heap.size s i (i + 1) hit
        have hbel2 := Lib.below_iterAt HB.out (Nat.le_refl _) s (i + 1)
        obtain ⟨x, hx⟩ : ∃ x : UInt8, s[i] = x := ⟨_, rfl⟩
        rw [hx] at hnx hx128 HX
        obtain ⟨W, hW⟩ : ∃ W, W = wr.iterAt w.heap.size s (i + 1) := ⟨_, rfl⟩
        rw [← hW] at hnx hit2 hbel2
        have HW := Lib.hid (And.intro hit2 hbel2)
        have hxi : (x.toNat : Int) < 128 := by omega
        have hcon := Lib.contains_iff_indexByte [91, 93] x
        have hback : ((x.toNat : Int)).toNat.toUInt8 = x := by simp
        have HBK := Lib.hid hback
        clear hit hx hW hit2 hbel2 hback
        cases hin : ([91, 93] : List UInt8).contains x
        · rw [hin] at hcon
          have hlt : ¬ ((0 : Int) ≤ Lib.indexByte [91, 93] x) := of_decide_eq_false hcon.symm
          have HN2 := Lib.hid (HN.out.succ HX.out hin)
          clear hcon hin
          go_wp2_with fail
          refine (Tryz.strings_IndexRune_ascii _ _ _ (by omega) hxi).mono ?_
          rintro e w1 ⟨rfl, hw⟩
          rw [hw, HBK.out, show (⟨#[91, 93]⟩ : ByteArray).data.toList = [91, 93] from rfl]
          clear hw
          go_wp2
          go_roundg (s.size - (i + 1))
          case measure => omega
          case rel => exact ⟨i + 1, by omega, by omega, HW.out.1, HW.out.2, HN2.out⟩
        · rw [hin] at hcon
          have hge : (0 : Int) ≤ Lib.indexByte [91, 93] x := of_decide_eq_true hcon.symm
          have HR : Hid (Lib.indexAny s.data.toList [91, 93] = (i : Int)) := Lib.indexAny_hit HN.out HX.out hin
          clear hcon hin
          go_wp2_with fail
          refine (Tryz.strings_IndexRune_ascii _ _ _ (by omega) hxi).mono ?_
          rintro e w1 ⟨rfl, hw⟩
          rw [hw, HBK.out, show (⟨#[91, 93]⟩ : ByteArray).data.toList = [91, 93] from rfl]
          clear hw
          go_wp2
          go_ret
          exact ⟨by rw [HR.out]; rfl, HW.out.2⟩
      · obtain ⟨f1, f2, f3, f4, f5⟩ := decode_far his (by omega)
        have hnx := fun ty => Lib.run_next_any_at (P := Tryz.prog) wr w.heap.size s i ty hit his
        obtain ⟨r, hr⟩ : ∃ r, r = (Utf8.decode s i).1 := ⟨_, rfl⟩
        obtain ⟨d, hd⟩ : ∃ d, d = (Utf8.decode s i).2 := ⟨_, rfl⟩
        rw [← hr] at f1 f2 hnx
        rw [← hd] at f3 f4 f5 hnx
        have hit2 := Lib.iterAt_heap wr w.heap.size s i (i + d) hit
        have hbel2 := Lib.below_iterAt HB.out (Nat.le_refl _) s (i + d)
        have HN2 := Lib.hid (noAny_more HN.out f5)
        obtain ⟨W, hW⟩ : ∃ W, W = wr.iterAt w.heap.size s (i + d) := ⟨_, rfl⟩
        have hWz : W.heap.size = wr.heap.size := by rw [hW]; exact Lib.iterAt_size _ _ _ _
        rw [← hW] at hnx hit2 hbel2
        have HW := Lib.hid (And.intro hit2 hbel2)
        clear hit hW hit2 hbel2 hr hd f5 hx128
        go_wp2_with fail
        refine (indexRune_br (r : Int) _ (by omega) (by omega)).mono ?_
        rintro e w1 ⟨rfl, hb1⟩
        have HW1 := Lib.hid (And.intro ((hb1.block w.heap.size (by omega)).trans HW.out.1) (HW.out.2.trans (hb1.mono (by omega))))
        clear hb1
        go_wp2
        go_roundg (s.size - (i + d))
        case measure => omega
        case rel => exact ⟨i + d, by omega, by omega, HW1.out.1, HW1.out.2, HN2.out⟩
    · obtain rfl : i = s.size := by omega
      have hnx := fun ty => Lib.run_next_end_at (P := Tryz.prog) wr w.heap.size s s.size ty hit his
      go_wp2
      go_ret
      exact ⟨by rw [Lib.indexAny_none (by rw [← Lib.size_eq]; exact HN.out)]; rfl, HB.out⟩

theorem indexAny_br (s : ByteArray) (w : World) (hs : s.size ≤ 4294967280) :
    Calls Tryz.prog 126 #[.string s, .string ⟨#[91, 93]⟩] w fun e w' => e = .returned (.int .i64 (Lib.indexAny s.data.toList [91, 93])) ∧ Below w.heap.size w w' := by
  by_cases h8 : s.size ≤ 8
  · exact indexAny_short s w h8
  · refine (Tryz.strings_IndexAny_long (zero_of_info set_info).1 s ⟨#[91, 93]⟩ w (by decide) (by omega) (by omega) (by decide) (fun j b hb => ?_)).mono fun e w' ⟨h1, h2⟩ => ⟨h1, ?_⟩
    · match j, hb with
      | 0, hb => simp at hb; subst hb; decide
      | 1, hb => simp at hb; subst hb; decide
      | j + 2, hb => simp at hb
    · rw [h2]
      exact ((Below.refl _ _).alloc (Nat.le_refl _) _).alloc (by simp) _
end Go.Proofs.YtnlonleljbbgoaaGreatDoor
