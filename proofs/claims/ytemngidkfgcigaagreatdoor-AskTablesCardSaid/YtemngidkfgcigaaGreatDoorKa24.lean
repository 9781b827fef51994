/-
  DERIVED. strings.IndexRune at a text of ASCII bytes, of a rune beyond ASCII. Conditions: a valid rune.
  strings.IndexAny and ContainsAny at ASCII bytes, of every text. Conditions: a length in reach.
  The walks of florref1.controls and IsTarget. Conditions: a length in reach.
  The walk of florref1.IsTag, of a text of bytes of a tag. Conditions: a length in reach.
  Plain law: the token at a place, by its first byte; the same of the text from that place on. Conditions: none.
  strings.Cut at a bar. Conditions: a length in reach. By an AI agent (IndexByte after the shelf's own proof, turned to this program).
  Plain law: the reference's link, cut at the first bar ahead of the first bracket, is the code's. Conditions: none.
  By an AI agent.
-/
import Derived.Test.YtemngidkfgcigaaGreatDoorKa05
import Derived.Test.YtemngidkfgcigaaGreatDoorKa04
import Derived.Test.YtemngidkfgcigaaGreatDoorKa14
import Derived.Test.YtemngidkfgcigaaGreatDoorKa23
import Derived.Laws.Externs
namespace Go.Proofs.YtemngidkfgcigaaGreatDoor
open Go.RowKit


end Go.Proofs.YtemngidkfgcigaaGreatDoor
namespace Go.Proofs.YtemngidkfgcigaaGreatDoor
open Go.RowKit




theorem indexAny_anyB (s : ByteArray) (L : List UInt8) : (0 ≤ Lib.indexAny s.data.toList L) = (upto (isAny L) s 0 < s.size) := by
  have := indexAny_upto s L _ 0 rfl
  rw [List.drop_zero] at this
  rw [this]
  split
  · rename_i h; simp [h]
  · rename_i h; simp [h]

set_option maxHeartbeats 1000000 in
theorem containsAnyU_asc (L : ByteArray) (hL : Asc L) (hL2 : 2 ≤ L.size) (hLs : L.size ≤ 64) (s : ByteArray) (w : World) (hs : s.size ≤ 4294967280) :
    Calls Tryz.prog 67 #[.string s, .string L] w fun e w' => e = .returned (.bool (decide (upto (isAny L.data.toList) s 0 < s.size))) ∧ Below w.heap.size w w' := by
  have hv := indexAny_anyB s L.data.toList
  obtain ⟨v, hvv⟩ : ∃ v, v = Lib.indexAny s.data.toList L.data.toList := ⟨_, rfl⟩
  rw [← hvv] at hv
  have HV : Hid (decide (0 ≤ v) = decide (upto (isAny L.data.toList) s 0 < s.size)) := by show _ = _; simp only [hv]
  have HVV := Lib.hid hvv
  have HL := Lib.hid hL
  clear hv hvv hL
  go_enter Tryz.func67, Tryz.ntmps67
  go_wp2_with fail
  refine (indexAny_asc L HL.out hL2 hLs s _ hs).mono ?_
  rintro e w1 ⟨rfl, hb⟩
  rw [← HVV.out]
  have HB := Lib.hid hb
  clear hb
  go_wp2
  go_ret
  exact ⟨ret_boolS HV.out, HB.out⟩
end Go.Proofs.YtemngidkfgcigaaGreatDoor
namespace Go.Proofs.YtemngidkfgcigaaGreatDoor
open Go.RowKit

def lowB (n : Int) : Bool := decide (n < 32)
def badS : ByteArray := ⟨#[91, 93, 124, 96]⟩
theorem badS_asc : Asc badS := by
  intro i h
  have : i < 4 := h
  match i, this with
  | 0, _ => exact (by decide : (91 : UInt8).toNat < 128)
  | 1, _ => exact (by decide : (93 : UInt8).toNat < 128)
  | 2, _ => exact (by decide : (124 : UInt8).toNat < 128)
  | 3, _ => exact (by decide : (96 : UInt8).toNat < 128)
set_option maxHeartbeats 1000000 in
theorem controls_any (s : ByteArray) (w : World) (hs : s.size ≤ 4294967280) :
    Calls Tryz.prog 89 #[.string s] w fun e w' => e = .returned (.bool (decide (upto lowB s 0 < s.size))) ∧ w = w' := by
  go_enter Tryz.func89, Tryz.ntmps89
  go_wp2
  go_loop [3] (fun i => ∃ k : Nat, k ≤ s.size ∧ i = .int .i64 k ∧ Hid (upto lowB s k = upto lowB s 0)) (fun i => s.size - (intOf i).toNat)
  case atStart => exact ⟨0, Nat.zero_le _, rfl, rfl⟩
  case round =>
    obtain ⟨k, hk, rfl, hu⟩ := hrel
    by_cases hlt : k < s.size
    · have i0 : (0 : Int) ≤ (k : Int) := by omega
      have i1 : (k : Int) < (s.size : Int) := by omega
      have hb := bt_at hlt
      cases hq : decide ((s[k].toNat : Int) < 32)
      · have HU : Hid (upto lowB s (k + 1) = upto lowB s 0) := (upto_go hlt (by rw [hb]; exact hq)).symm.trans hu.out
        clear hb
        go_wp2
        go_round
        case rel => exact ⟨k + 1, by omega, by go_num, HU⟩
        case measure => simp [intOf]; omega
      · have HV : Hid (true = decide (upto lowB s 0 < s.size)) := by
          show _ = _
          rw [← hu.out, upto_stop (by rw [hb]; exact hq)]
          simp [hlt]
        clear hb
        go_wp2
        go_ret
        exact ⟨ret_boolS HV.out, rfl⟩
    · obtain rfl : k = s.size := by omega
      have HV : Hid (false = decide (upto lowB s 0 < s.size)) := by
        show _ = _
        rw [← hu.out, upto_out (Nat.le_refl _)]
        simp
      go_wp2
      go_ret
      exact ⟨ret_boolS HV.out, rfl⟩

theorem isTgt_split {t : ByteArray} (h0 : 0 < t.size) (h1 : t.size ≤ 100) (h2 : (bt t 0 == 32) = false) (h3 : (bt t (t.size - 1) == 32) = false) :
    isTgt t = (!(decide (upto (isAny badS.data.toList) t 0 < t.size)) && !(decide (upto lowB t 0 < t.size))) := by
  unfold isTgt
  rw [h2, h3]
  simp only [h0, h1, decide_true, Bool.true_and, Bool.not_false]
  have e1 := upto_ge (notB tgtB) t 0
  have key : ∀ n : Int, notB tgtB n = (isAny badS.data.toList n || lowB n) := by
    intro n
    unfold notB isAny badS lowB tgtB
    rw [Bool.eq_iff_iff]
    simp
    omega
  by_cases ha : upto (isAny badS.data.toList) t 0 < t.size
  · have := upto_at ha
    have hn : ¬ upto (notB tgtB) t 0 = t.size := fun e => by
      have := upto_mid (stop := notB tgtB) (s := t) (i := 0) (j := upto (isAny badS.data.toList) t 0) (Nat.zero_le _) (by omega)
      rw [key] at this
      simp at this
      rw [upto_at ha] at this
      cases this.1
    simp [ha, hn]
  · by_cases hb : upto lowB t 0 < t.size
    · have hn : ¬ upto (notB tgtB) t 0 = t.size := fun e => by
        have := upto_mid (stop := notB tgtB) (s := t) (i := 0) (j := upto lowB t 0) (Nat.zero_le _) (by omega)
        rw [key] at this
        simp at this
        rw [upto_at hb] at this
        cases this.2
      simp [hb, hn]
    · have : upto (notB tgtB) t 0 = t.size := upto_eq (Nat.zero_le _) (Nat.le_refl _) (fun j hj hj' => by
        rw [key, upto_mid (stop := isAny badS.data.toList) (i := 0) hj (by omega), upto_mid (stop := lowB) (i := 0) hj (by omega)]; rfl) (.inl rfl)
      simp [ha, hb, this]

set_option maxHeartbeats 2000000 in
theorem rIsTarget_any (t : ByteArray) (w : World) (hs : t.size ≤ 4294967280) :
    Calls Tryz.prog 73 #[.string t] w fun e w' => e = .returned (.bool (isTgt t)) ∧ Below w.heap.size w w' := by
  by_cases c0 : t.size = 0
  · have HV : Hid (false = isTgt t) := by show _ = _; unfold isTgt; simp [c0]
    have g0 : decide ((1 : Int) ≤ (t.size : Int)) = false := by simp; omega
    clear c0
    go_enter Tryz.func73, Tryz.ntmps73
    go_wp2_with fail
    go_ret
    exact ⟨ret_boolS HV.out, Below.refl _ _⟩
  have hp : 0 < t.size := by omega
  have g0 : decide ((1 : Int) ≤ (t.size : Int)) = true := by simp; omega
  clear c0
  by_cases c1 : t.size ≤ 100
  · have g1 : decide ((t.size : Int) ≤ 100) = true := by simp; omega
    have hlast : t.size - 1 < t.size := by omega
    have i1 : (0 : Int) ≤ (t.size : Int) - 1 := by omega
    have i2 : (t.size : Int) ≤ 100 := by omega
    have b0 := bt_at hp
    have b1 := bt_at hlast
    cases c2 : decide (upto (isAny badS.data.toList) t 0 < t.size)
    · cases c3 : ((t[0].toNat : Int) == 32)
      · cases c4 : ((t[t.size - 1].toNat : Int) == 32)
        · have hsp := isTgt_split hp c1 (by rw [b0]; exact c3) (by rw [b1]; exact c4)
          rw [c2] at hsp
          have HV : Hid ((!(decide (upto lowB t 0 < t.size))) = isTgt t) := by show _ = _; rw [hsp]; rfl
          have d3 : ((t[0].toNat : Int) != 32) = true := by simpa using c3
          have d4 : ((t[t.size - 1].toNat : Int) != 32) = true := by simpa using c4
          clear b0 b1 hsp c3 c4
          go_enter Tryz.func73, Tryz.ntmps73
          go_wp2_with fail
          refine (containsAnyU_asc badS badS_asc (by decide) (by decide) t _ hs).mono ?_
          rintro e w1 ⟨rfl, hb⟩
          rw [c2]
          have HB := Lib.hid hb
          clear hb c2
          go_wp2_with fail
          refine (controls_any t _ hs).mono ?_
          rintro e w2 ⟨rfl, hw⟩
          rw [← hw]
          clear hw
          obtain ⟨v, hv⟩ : ∃ v, v = decide (upto lowB t 0 < t.size) := ⟨_, rfl⟩
          rw [← hv] at HV ⊢
          clear hv
          go_wp2_with fail
          go_ret
          exact ⟨ret_boolS HV.out, HB.out⟩
        · have HV : Hid (false = isTgt t) := by show _ = _; unfold isTgt; rw [b1, c4]; simp
          have d3 : ((t[0].toNat : Int) != 32) = true := by simpa using c3
          have d4 : ((t[t.size - 1].toNat : Int) != 32) = false := by simpa using c4
          clear b0 b1 c3 c4
          go_enter Tryz.func73, Tryz.ntmps73
          go_wp2_with fail
          refine (containsAnyU_asc badS badS_asc (by decide) (by decide) t _ hs).mono ?_
          rintro e w1 ⟨rfl, hb⟩
          rw [c2]
          have HB := Lib.hid hb
          clear hb c2
          go_wp2_with fail
          go_ret
          exact ⟨ret_boolS HV.out, HB.out⟩
      · have HV : Hid (false = isTgt t) := by show _ = _; unfold isTgt; rw [b0, c3]; simp
        have d3 : ((t[0].toNat : Int) != 32) = false := by simpa using c3
        clear b0 b1 c3
        go_enter Tryz.func73, Tryz.ntmps73
        go_wp2_with fail
        refine (containsAnyU_asc badS badS_asc (by decide) (by decide) t _ hs).mono ?_
        rintro e w1 ⟨rfl, hb⟩
        rw [c2]
        have HB := Lib.hid hb
        clear hb c2
        go_wp2_with fail
        go_ret
        exact ⟨ret_boolS HV.out, HB.out⟩
    · have HV : Hid (false = isTgt t) := by
        show _ = _
        cases c3 : (bt t 0 == 32)
        · cases c4 : (bt t (t.size - 1) == 32)
          · rw [isTgt_split hp c1 c3 c4, c2]; rfl
          · unfold isTgt; rw [c4]; simp
        · unfold isTgt; rw [c3]; simp
      clear b0 b1
      go_enter Tryz.func73, Tryz.ntmps73
      go_wp2_with fail
      refine (containsAnyU_asc badS badS_asc (by decide) (by decide) t _ hs).mono ?_
      rintro e w1 ⟨rfl, hb⟩
      rw [c2]
      have HB := Lib.hid hb
      clear hb c2
      go_wp2_with fail
      go_ret
      exact ⟨ret_boolS HV.out, HB.out⟩
  · have HV : Hid (false = isTgt t) := by show _ = _; unfold isTgt; simp [c1]
    have g1 : decide ((t.size : Int) ≤ 100) = false := by simp; omega
    clear c1
    go_enter Tryz.func73, Tryz.ntmps73
    go_wp2_with fail
    go_ret
    exact ⟨ret_boolS HV.out, Below.refl _ _⟩
end Go.Proofs.YtemngidkfgcigaaGreatDoor
namespace Go.Proofs.YtemngidkfgcigaaGreatDoor
open Go.RowKit

/-- is there a letter ahead of place k? -/
def letTo (s : ByteArray) (k : Nat) : Bool := decide (upto letB s 0 < k)
theorem letTo_step {s : ByteArray} {k : Nat} (hk : k < s.size) : letTo s (k + 1) = (letTo s k || letB (bt s k)) := by
  unfold letTo
  by_cases h : upto letB s 0 < k
  · simp [h]; omega
  · cases hb : letB (bt s k)
    · have : upto letB s 0 ≠ k := fun e => by have := upto_at (stop := letB) (s := s) (i := 0) (by omega); rw [e, hb] at this; cases this
      simp [h]; omega
    · have : upto letB s 0 ≤ k := by
        rcases Nat.lt_or_ge k (upto letB s 0) with g | g
        · have := upto_mid (stop := letB) (i := 0) (Nat.zero_le _) g; rw [hb] at this; cases this
        · exact g
      simp; omega
def isTagB (s : ByteArray) : Bool := letTo s s.size && decide (s.size ≤ 100) && !(bt s 0 == 47) && !(bt s (s.size - 1) == 47)

theorem isTagB_eq (s : ByteArray) {a b : Int} (h0 : bt s 0 = a) (h1 : bt s (s.size - 1) = b) : isTagB s = (letTo s s.size && decide ((s.size : Int) ≤ 100) && (a != 47) && (b != 47)) := by
  unfold isTagB
  rw [h0, h1]
  have : decide (s.size ≤ 100) = decide ((s.size : Int) ≤ 100) := by simp only [decide_eq_decide]; omega
  rw [this]
  rfl

set_option maxHeartbeats 4000000 in
set_option maxRecDepth 100000 in
theorem rIsTag_any (s : ByteArray) (w : World) (hs : s.size ≤ 4294967280) (h0 : 0 < s.size) (hall : ∀ i, i < s.size → tagB (bt s i) = true) :
    Calls Tryz.prog 76 #[.string s] w fun e w' => e = .returned (.bool (isTagB s)) ∧ w = w' := by
  have HA := Lib.hid hall
  clear hall
  go_enter Tryz.func76, Tryz.ntmps76
  go_wp2
  go_loop [3, 4] (fun b i => ∃ k : Nat, k ≤ s.size ∧ i = .int .i64 k ∧ b = .bool (letTo s k)) (fun _ i => s.size - (intOf i).toNat)
  case atStart => exact ⟨0, Nat.zero_le _, rfl, by unfold letTo; simp⟩
  case round =>
    obtain ⟨k, hk, rfl, rfl⟩ := hrel
    by_cases hlt : k < s.size
    · have i0 : (0 : Int) ≤ (k : Int) := by omega
      have i1 : (k : Int) < (s.size : Int) := by omega
      have ht := HA.out k hlt
      have hst := letTo_step hlt
      rw [bt_at hlt] at ht hst
      have c0 : (0 : Int) ≤ (s[k].toNat : Int) := by omega
      have c1 : (s[k].toNat : Int) ≤ 255 := by have := (s[k]).toNat_lt; omega
      obtain ⟨c, hc⟩ : ∃ c : Int, c = (s[k].toNat : Int) := ⟨_, rfl⟩
      have HC := Lib.hid hc
      rw [← hc] at ht hst c0 c1
      rw [tagB_split] at ht
      obtain ⟨b, hb⟩ : ∃ b, b = letTo s k := ⟨_, rfl⟩
      rw [← hb] at hst ⊢
      obtain ⟨b', hb'⟩ : ∃ b', b' = letTo s (k + 1) := ⟨_, rfl⟩
      rw [← hb'] at hst
      have HB' := Lib.hid hb'
      have hcc : (s[k].toNat : Int) = c := hc.symm
      clear hb hb' hc
      cases hl : letB c
      · rw [hl] at ht hst
        cases hd : digB c
        · rw [hd] at ht
          have hw3 : c = 95 ∨ c = 45 ∨ c = 47 := by simpa [or_assoc] using ht
          have n1 : (c != 95) = !(c == 95) := rfl
          rcases hw3 with e3 | e3 | e3
          · have q1 : (c != 95) = false := by rw [e3]; rfl
            have q2 : (c != 45) = true := by rw [e3]; rfl
            have q3 : (c != 47) = true := by rw [e3]; rfl
            clear e3 n1
            have HH := Lib.hid hst
            clear hst ht
            cases b
            · skip
              go_wp2_with fail
              refine (rLetter_any _ _ c0 c1).mono ?_
              rintro e w1 ⟨rfl, hw⟩
              rw [hl, ← hw]
              clear hw
              go_wp2_with fail
              refine (rDigit_any _ _ c0 c1).mono ?_
              rintro e w1 ⟨rfl, hw⟩
              rw [hd, ← hw]
              clear hw
              go_wp2_with fail
              refine (rLetter_any _ _ c0 c1).mono ?_
              rintro e w1 ⟨rfl, hw⟩
              rw [hl, ← hw]
              clear hw
              go_wp2_with fail
              go_round
              case rel => exact ⟨k + 1, by omega, by go_num, by rw [← HB'.out, HH.out]; rfl⟩
              case measure => simp [intOf]; omega
            · skip
              go_wp2_with fail
              refine (rLetter_any _ _ c0 c1).mono ?_
              rintro e w1 ⟨rfl, hw⟩
              rw [hl, ← hw]
              clear hw
              go_wp2_with fail
              refine (rDigit_any _ _ c0 c1).mono ?_
              rintro e w1 ⟨rfl, hw⟩
              rw [hd, ← hw]
              clear hw
              go_wp2_with fail
              go_round
              case rel => exact ⟨k + 1, by omega, by go_num, by rw [← HB'.out, HH.out]; rfl⟩
              case measure => simp [intOf]; omega
          · have q1 : (c != 95) = true := by rw [e3]; rfl
            have q2 : (c != 45) = false := by rw [e3]; rfl
            have q3 : (c != 47) = true := by rw [e3]; rfl
            clear e3 n1
            have HH := Lib.hid hst
            clear hst ht
            cases b
            · skip
              go_wp2_with fail
              refine (rLetter_any _ _ c0 c1).mono ?_
              rintro e w1 ⟨rfl, hw⟩
              rw [hl, ← hw]
              clear hw
              go_wp2_with fail
              refine (rDigit_any _ _ c0 c1).mono ?_
              rintro e w1 ⟨rfl, hw⟩
              rw [hd, ← hw]
              clear hw
              go_wp2_with fail
              refine (rLetter_any _ _ c0 c1).mono ?_
              rintro e w1 ⟨rfl, hw⟩
              rw [hl, ← hw]
              clear hw
              go_wp2_with fail
              go_round
              case rel => exact ⟨k + 1, by omega, by go_num, by rw [← HB'.out, HH.out]; rfl⟩
              case measure => simp [intOf]; omega
            · skip
              go_wp2_with fail
              refine (rLetter_any _ _ c0 c1).mono ?_
              rintro e w1 ⟨rfl, hw⟩
              rw [hl, ← hw]
              clear hw
              go_wp2_with fail
              refine (rDigit_any _ _ c0 c1).mono ?_
              rintro e w1 ⟨rfl, hw⟩
              rw [hd, ← hw]
              clear hw
              go_wp2_with fail
              go_round
              case rel => exact ⟨k + 1, by omega, by go_num, by rw [← HB'.out, HH.out]; rfl⟩
              case measure => simp [intOf]; omega
          · have q1 : (c != 95) = true := by rw [e3]; rfl
            have q2 : (c != 45) = true := by rw [e3]; rfl
            have q3 : (c != 47) = false := by rw [e3]; rfl
            clear e3 n1
            have HH := Lib.hid hst
            clear hst ht
            cases b
            · skip
              go_wp2_with fail
              refine (rLetter_any _ _ c0 c1).mono ?_
              rintro e w1 ⟨rfl, hw⟩
              rw [hl, ← hw]
              clear hw
              go_wp2_with fail
              refine (rDigit_any _ _ c0 c1).mono ?_
              rintro e w1 ⟨rfl, hw⟩
              rw [hd, ← hw]
              clear hw
              go_wp2_with fail
              refine (rLetter_any _ _ c0 c1).mono ?_
              rintro e w1 ⟨rfl, hw⟩
              rw [hl, ← hw]
              clear hw
              go_wp2_with fail
              go_round
              case rel => exact ⟨k + 1, by omega, by go_num, by rw [← HB'.out, HH.out]; rfl⟩
              case measure => simp [intOf]; omega
            · skip
              go_wp2_with fail
              refine (rLetter_any _ _ c0 c1).mono ?_
              rintro e w1 ⟨rfl, hw⟩
              rw [hl, ← hw]
              clear hw
              go_wp2_with fail
              refine (rDigit_any _ _ c0 c1).mono ?_
              rintro e w1 ⟨rfl, hw⟩
              rw [hd, ← hw]
              clear hw
              go_wp2_with fail
              go_round
              case rel => exact ⟨k + 1, by omega, by go_num, by rw [← HB'.out, HH.out]; rfl⟩
              case measure => simp [intOf]; omega
        · skip
          have HH := Lib.hid hst
          clear hst ht
          cases b
          · skip
            go_wp2_with fail
            refine (rLetter_any _ _ c0 c1).mono ?_
            rintro e w1 ⟨rfl, hw⟩
            rw [hl, ← hw]
            clear hw
            go_wp2_with fail
            refine (rDigit_any _ _ c0 c1).mono ?_
            rintro e w1 ⟨rfl, hw⟩
            rw [hd, ← hw]
            clear hw
            go_wp2_with fail
            refine (rLetter_any _ _ c0 c1).mono ?_
            rintro e w1 ⟨rfl, hw⟩
            rw [hl, ← hw]
            clear hw
            go_wp2_with fail
            go_round
            case rel => exact ⟨k + 1, by omega, by go_num, by rw [← HB'.out, HH.out]; rfl⟩
            case measure => simp [intOf]; omega
          · skip
            go_wp2_with fail
            refine (rLetter_any _ _ c0 c1).mono ?_
            rintro e w1 ⟨rfl, hw⟩
            rw [hl, ← hw]
            clear hw
            go_wp2_with fail
            refine (rDigit_any _ _ c0 c1).mono ?_
            rintro e w1 ⟨rfl, hw⟩
            rw [hd, ← hw]
            clear hw
            go_wp2_with fail
            go_round
            case rel => exact ⟨k + 1, by omega, by go_num, by rw [← HB'.out, HH.out]; rfl⟩
            case measure => simp [intOf]; omega
      · rw [hl] at hst
        have HH := Lib.hid hst
        clear hst ht
        cases b
        · skip
          go_wp2_with fail
          refine (rLetter_any _ _ c0 c1).mono ?_
          rintro e w1 ⟨rfl, hw⟩
          rw [hl, ← hw]
          clear hw
          go_wp2_with fail
          refine (rLetter_any _ _ c0 c1).mono ?_
          rintro e w1 ⟨rfl, hw⟩
          rw [hl, ← hw]
          clear hw
          go_wp2_with fail
          go_round
          case rel => exact ⟨k + 1, by omega, by go_num, by rw [← HB'.out, HH.out]; rfl⟩
          case measure => simp [intOf]; omega
        · skip
          go_wp2_with fail
          refine (rLetter_any _ _ c0 c1).mono ?_
          rintro e w1 ⟨rfl, hw⟩
          rw [hl, ← hw]
          clear hw
          go_wp2_with fail
          go_round
          case rel => exact ⟨k + 1, by omega, by go_num, by rw [← HB'.out, HH.out]; rfl⟩
          case measure => simp [intOf]; omega
    · obtain rfl : k = s.size := by omega
      have hlast : s.size - 1 < s.size := by omega
      have i1 : (0 : Int) ≤ (s.size : Int) - 1 := by omega
      have b0 := bt_at h0
      have b1 := bt_at hlast
      have HV := isTagB_eq s b0 b1
      obtain ⟨b, hb⟩ : ∃ b, b = letTo s s.size := ⟨_, rfl⟩
      rw [← hb] at HV ⊢
      have HV1 := Lib.hid HV
      clear hb b0 b1 HV
      cases b
      · have HV2 : Hid (false = isTagB s) := by show _ = _; rw [HV1.out]; rfl
        go_wp2_with fail
        go_ret
        exact ⟨ret_boolS HV2.out, rfl⟩
      · cases d1 : decide ((s.size : Int) ≤ 100)
        · have HV2 : Hid (false = isTagB s) := by show _ = _; rw [HV1.out, d1]; rfl
          go_wp2_with fail
          go_ret
          exact ⟨ret_boolS HV2.out, rfl⟩
        · cases d2 : ((s[0].toNat : Int) != 47)
          · have HV2 : Hid (false = isTagB s) := by show _ = _; rw [HV1.out, d1, d2]; rfl
            go_wp2_with fail
            go_ret
            exact ⟨ret_boolS HV2.out, rfl⟩
          · have HV2 : Hid (((s[s.size - 1].toNat : Int) != 47) = isTagB s) := by show _ = _; rw [HV1.out, d1, d2]; rfl
            go_wp2_with fail
            go_ret
            exact ⟨ret_boolS HV2.out, rfl⟩
end Go.Proofs.YtemngidkfgcigaaGreatDoor
namespace Go.Proofs.YtemngidkfgcigaaGreatDoor
open Go.RowKit

theorem same_tail {s : ByteArray} {a : Nat} (ha : a ≤ s.size) : Same (s.extract a s.size) s 0 a :=
  ⟨Nat.zero_le _, ha, by rw [List.drop_zero, ext_list]⟩
theorem tail_bt {s : ByteArray} {a : Nat} (ha : a ≤ s.size) (i : Nat) : bt (s.extract a s.size) i = bt s (a + i) := by
  have := (same_tail ha).at_ i
  rwa [Nat.zero_add] at this
theorem tail_ext {s : ByteArray} {a : Nat} (ha : a ≤ s.size) {i j : Nat} (h : i ≤ j) : (s.extract a s.size).extract i j = s.extract (a + i) (a + j) :=
  ((same_tail ha).ext (Nat.zero_le _) h (by omega) (by omega)).symm
theorem tail_size {s : ByteArray} {a : Nat} : (s.extract a s.size).size = s.size - a := by rw [ByteArray.size_extract]; omega

def byteK : Nat → Int
  | 0 => 92
  | 1 => 96
  | 2 => 91
  | 3 => 40
  | 4 => 35
  | _ => 42
theorem tokK_byte {k : Nat} {s : ByteArray} {a : Nat} {x : Sp} (h : tokK k s a = some x) : bt s a = byteK k := by
  unfold tokK at h
  split at h
  · exact tokE_byte h
  · exact tokC_byte h
  · exact (tokL_inv h).b0
  · unfold tokR at h; dsimp only at h; split at h
    · rename_i c; exact c.1
    · cases h
  · unfold tokT at h; dsimp only at h; split at h
    · rename_i c; exact c.1
    · cases h
  · unfold tokB at h; split at h
    · rename_i c
      rw [c.1]
      unfold byteK
      split <;> first | rfl | (exfalso; simp_all)
    · cases h
theorem byteK_inj {j k : Nat} (hk : k < 6) (hj : j < k) : byteK j ≠ byteK k := by
  match k, hk with
  | 1, _ => match j, hj with | 0, _ => decide
  | 2, _ => match j, hj with | 0, _ => decide | 1, _ => decide
  | 3, _ => match j, hj with | 0, _ => decide | 1, _ => decide | 2, _ => decide
  | 4, _ => match j, hj with | 0, _ => decide | 1, _ => decide | 2, _ => decide | 3, _ => decide
  | 5, _ => match j, hj with | 0, _ => decide | 1, _ => decide | 2, _ => decide | 3, _ => decide | 4, _ => decide
theorem tokA_of {k : Nat} {s : ByteArray} {a : Nat} {x : Sp} (hk : k < 6) (h : tokK k s a = some x) : tokA s a = x :=
  tokA_some hk (fun j hj => by
    cases e : tokK j s a with
    | none => rfl
    | some y => exact absurd ((tokK_byte e).symm.trans (tokK_byte h)) (byteK_inj hk hj)) h
theorem tokA_no {k : Nat} {s : ByteArray} {a : Nat} (hk : k < 6) (hb : bt s a = byteK k) (h : tokK k s a = none) : tokA s a = plainAt a :=
  tokA_none (fun j hj => by
    cases e : tokK j s a with
    | none => rfl
    | some y =>
      have h1 := (tokK_byte e).symm.trans hb
      rcases Nat.lt_trichotomy j k with g | g | g
      · exact absurd h1 (byteK_inj hk g)
      · subst g; rw [h] at e; cases e
      · exact absurd h1.symm (byteK_inj hj g))
/-- the reference's token, as a value -/
def rtV (s : ByteArray) (a : Nat) : Value := spV (fillT s (tokA s a))
theorem rtV_plain {s : ByteArray} {a : Nat} (h : tokA s a = plainAt a) : rtV s a = .agg #[.int .i64 1, .int .i64 a, .int .i64 (a + 1), .string (s.extract a (a + 1)), .string ⟨#[]⟩, .int .i64 0, .bool false] := by
  unfold rtV; rw [h]; rfl
theorem rtV_of {k : Nat} {s : ByteArray} {a : Nat} {x : Sp} (hk : k < 6) (h : tokK k s a = some x) (h1 : x.kind ≠ 1) : rtV s a = spV x := by
  unfold rtV; rw [tokA_of hk h]; unfold fillT; rw [if_neg h1]
end Go.Proofs.YtemngidkfgcigaaGreatDoor
namespace Go.Proofs.YtemngidkfgcigaaGreatDoor
open Go.RowKit

set_option maxHeartbeats 1000000 in
set_option maxRecDepth 100000 in
theorem sliteIndexByte_any (s : ByteArray) (c : Int) (w : World) :
    Calls Tryz.prog 82 #[.string s, .int .u8 c] w fun e w' => e = .returned (.int .i64 (Lib.indexByte s.data.toList c.toNat.toUInt8)) ∧ w' = w := by
  go_enter Tryz.func82, Tryz.ntmps82
  go_wp2
  rw [run_callFunc_extern Tryz.func92 (by kernel_rfl) (by kernel_rfl) (by kernel_rfl) (e := Extern.BytealgIndexByte.indexByte) (by kernel_rfl), Lib.run_indexByteString]
  simp only [Result.andThen]
  rw [Oper.upon_value]
  go_wp2
  go_ret
  exact ⟨rfl, rfl⟩

set_option maxHeartbeats 1000000 in
set_option maxRecDepth 100000 in
theorem indexBar_any (Q : ByteArray) (w : World) :
    Calls Tryz.prog 96 #[.string Q, .string ⟨#[124]⟩] w fun e w' => e = .returned (.int .i64 (Lib.indexByte Q.data.toList 124)) ∧ w' = w := by
  by_cases hq : Q = ⟨#[124]⟩
  · subst hq
    go_enter Tryz.func96, Tryz.ntmps96
    go_wp2_with fail
    go_ret
    exact ⟨rfl, rfl⟩
  · have hne : (([124] : List UInt8) == Q.toList) = false := by
      rw [Lib.toList_data]
      simp only [beq_eq_false_iff_ne, ne_eq]
      intro e
      exact hq (ba_ext e.symm)
    clear hq
    go_enter Tryz.func96, Tryz.ntmps96
    go_wp2_with fail
    refine (sliteIndexByte_any Q _ _).mono ?_
    rintro e w1 ⟨rfl, rfl⟩
    go_wp2_with fail
    go_ret
    exact ⟨rfl, rfl⟩

def cutV (Q : ByteArray) : Value :=
  if upto (isC 124) Q 0 < Q.size then .tuple #[.string (Q.extract 0 (upto (isC 124) Q 0)), .string (Q.extract (upto (isC 124) Q 0 + 1) Q.size), .bool true] else .tuple #[.string Q, .string ⟨#[]⟩, .bool false]
theorem indexBar_upto (Q : ByteArray) : Lib.indexByte Q.data.toList 124 = if upto (isC 124) Q 0 < Q.size then (upto (isC 124) Q 0 : Int) else -1 := by
  have := indexByte_upto Q 124 _ 0 rfl
  rw [List.drop_zero] at this
  rw [this]
  show (if upto (isC 124) Q 0 < Q.size then (upto (isC 124) Q 0 : Int) - 0 else -1) = _
  simp
set_option maxHeartbeats 1000000 in
set_option maxRecDepth 100000 in
theorem sliteCut_any (Q : ByteArray) (w : World) (hs : Q.size ≤ 4294967280) :
    Calls Tryz.prog 88 #[.string Q, .string ⟨#[124]⟩] w fun e w' => e = .returned (cutV Q) ∧ Below w.heap.size w w' := by
  have hx := indexBar_upto Q
  by_cases h : upto (isC 124) Q 0 < Q.size
  · rw [if_pos h] at hx
    have HV : Hid (cutV Q = .tuple #[.string (Q.extract 0 (upto (isC 124) Q 0)), .string (Q.extract (upto (isC 124) Q 0 + 1) Q.size), .bool true]) := by show _ = _; unfold cutV; rw [if_pos h]
    obtain ⟨u, hu⟩ : ∃ u, u = upto (isC 124) Q 0 := ⟨_, rfl⟩
    rw [← hu] at hx h HV
    have HX := Lib.hid hx
    have i0 : (0 : Int) ≤ (u : Int) := by omega
    have i1 : (u : Int) < (Q.size : Int) := by omega
    have z1 : IntKind.i64.wrap ((u : Int) + 1) = (u : Int) + 1 := IntWalk.i64_in _ (by omega)
    have z2 : (0 : Int) ≤ (u : Int) + 1 := by omega
    have z3 : (u : Int) + 1 ≤ (Q.size : Int) := by omega
    have z4 : ((u : Int) + 1).toNat = u + 1 := by omega
    clear hx hu
    go_enter Tryz.func88, Tryz.ntmps88
    go_wp2_with fail
    refine (indexBar_any Q _).mono ?_
    rintro e w1 ⟨rfl, rfl⟩
    rw [HX.out]
    go_wp2_with fail
    go_quiet (fail)
    go_wp2
    go_ret3
    exact ⟨by rw [HV.out]; rfl, bdrew (Below.refl _ _) _⟩
  · rw [if_neg h] at hx
    have HV : Hid (cutV Q = .tuple #[.string Q, .string ⟨#[]⟩, .bool false]) := by show _ = _; unfold cutV; rw [if_neg h]
    have HX := Lib.hid hx
    clear hx h
    go_enter Tryz.func88, Tryz.ntmps88
    go_wp2_with fail
    refine (indexBar_any Q _).mono ?_
    rintro e w1 ⟨rfl, rfl⟩
    rw [HX.out]
    go_wp2_with fail
    go_ret3
    exact ⟨by rw [HV.out]; rfl, Below.refl _ _⟩
theorem cutV_shape (Q : ByteArray) : ∃ (a b : ByteArray) (c : Bool), cutV Q = .tuple #[.string a, .string b, .bool c] := by
  unfold cutV
  split
  · exact ⟨_, _, _, rfl⟩
  · exact ⟨_, _, _, rfl⟩
set_option maxHeartbeats 1000000 in
set_option maxRecDepth 100000 in
theorem cutBar_any (Q : ByteArray) (w : World) (hs : Q.size ≤ 4294967280) :
    Calls Tryz.prog 72 #[.string Q, .string ⟨#[124]⟩] w fun e w' => e = .returned (cutV Q) ∧ Below w.heap.size w w' := by
  obtain ⟨a, b, c, hv⟩ := cutV_shape Q
  have HV := Lib.hid hv
  clear hv
  go_enter Tryz.func72, Tryz.ntmps72
  go_wp2_with fail
  refine (sliteCut_any Q _ hs).mono ?_
  rintro e w1 ⟨rfl, hb⟩
  rw [HV.out]
  have HB := Lib.hid hb
  clear hb
  go_wp2
  go_ret3
  exact ⟨by rw [HV.out]; rfl, HB.out⟩
end Go.Proofs.YtemngidkfgcigaaGreatDoor
namespace Go.Proofs.YtemngidkfgcigaaGreatDoor
open Go.RowKit

theorem upto_skip {stop : Int → Bool} {s : ByteArray} {i k : Nat} (hik : i ≤ k) (hk : k ≤ s.size) (hm : ∀ j, i ≤ j → j < k → stop (bt s j) = false) : upto stop s i = upto stop s k := by
  have h1 := upto_ge stop s k
  have h2 := upto_le (stop := stop) (s := s) (i := k) hk
  refine upto_eq (by omega) h2 (fun j hj hj' => ?_) ?_
  · rcases Nat.lt_or_ge j k with g | g
    · exact hm j hj g
    · exact upto_mid g hj'
  · rcases Nat.lt_or_ge (upto stop s k) s.size with g | g
    · exact .inr (upto_at g)
    · exact .inl (by omega)

def brB : Int → Bool := isAny [91, 93]
theorem brB_iff (n : Int) : brB n = true ↔ n = 91 ∨ n = 93 := by unfold brB isAny; simp
theorem tgtB_not (n : Int) (h : tgtB n = true) : n ≠ 91 ∧ n ≠ 93 ∧ n ≠ 124 := by unfold tgtB at h; simp at h; omega

/-- the reference's cut: the first bracket at J, the first bar ahead of it 2 + u -/
structure LkCut (T : ByteArray) (J u : Nat) : Prop where
  hJ : upto brB T 2 = J
  JT : J < T.size
  hu : upto (isC 124) (T.extract 2 J) 0 = u
theorem LkCut.J2 {T : ByteArray} {J u : Nat} (h : LkCut T J u) : 2 ≤ J := by rw [← h.hJ]; exact upto_ge _ _ _
theorem LkCut.qs {T : ByteArray} {J u : Nat} (h : LkCut T J u) : (T.extract 2 J).size = J - 2 := by have := h.JT; rw [ByteArray.size_extract]; omega
theorem LkCut.ule {T : ByteArray} {J u : Nat} (h : LkCut T J u) : u ≤ J - 2 := by rw [← h.qs, ← h.hu]; exact upto_le (Nat.zero_le _)
theorem LkCut.bt {T : ByteArray} {J u i : Nat} (h : LkCut T J u) (hi : i < J - 2) : Go.Proofs.YtemngidkfgcigaaGreatDoor.bt (T.extract 2 J) i = Go.Proofs.YtemngidkfgcigaaGreatDoor.bt T (2 + i) := bt_ext T 2 J i (Nat.le_of_lt h.JT) hi
theorem LkCut.noBar {T : ByteArray} {J u i : Nat} (h : LkCut T J u) (h1 : 2 ≤ i) (h2 : i < 2 + u) : Go.Proofs.YtemngidkfgcigaaGreatDoor.bt T i ≠ 124 := by
  have hu := h.ule
  have := upto_mid (stop := isC 124) (s := T.extract 2 J) (i := 0) (j := i - 2) (Nat.zero_le _) (by rw [h.hu]; omega)
  rw [h.bt (by omega), show 2 + (i - 2) = i by omega] at this
  intro e; rw [e] at this; cases this
theorem LkCut.noBr {T : ByteArray} {J u i : Nat} (h : LkCut T J u) (h1 : 2 ≤ i) (h2 : i < J) : brB (Go.Proofs.YtemngidkfgcigaaGreatDoor.bt T i) = false := upto_mid h1 (by rw [h.hJ]; exact h2)
theorem LkCut.atJ {T : ByteArray} {J u : Nat} (h : LkCut T J u) : brB (Go.Proofs.YtemngidkfgcigaaGreatDoor.bt T J) = true := by
  have := upto_at (stop := brB) (s := T) (i := 2) (by rw [h.hJ]; exact h.JT)
  rwa [h.hJ] at this
theorem LkCut.atU {T : ByteArray} {J u : Nat} (h : LkCut T J u) (hu : u < J - 2) : Go.Proofs.YtemngidkfgcigaaGreatDoor.bt T (2 + u) = 124 := by
  have := upto_at (stop := isC 124) (s := T.extract 2 J) (i := 0) (by rw [h.hu, h.qs]; exact hu)
  rw [h.hu, h.bt hu] at this
  unfold isC at this
  simpa using this
theorem ext_ext (s : ByteArray) (a b i j : Nat) (h : a + j ≤ b) : (s.extract a b).extract i j = s.extract (a + i) (a + j) := by
  apply ba_ext
  rw [ext_list2, ext_list2, ext_list2, List.drop_take, List.take_take, List.drop_drop]
  congr 1
  omega
/-- the target that is cut off -/
theorem LkCut.target {T : ByteArray} {J u : Nat} (h : LkCut T J u) : (T.extract 2 J).extract 0 u = T.extract 2 (2 + u) := by
  have h1 := h.ule
  have h2 := h.J2
  rw [ext_ext T 2 J 0 u (by omega)]
theorem LkCut.end_ {T : ByteArray} {J u : Nat} (h : LkCut T J u) (ht : isTgt (T.extract 2 (2 + u)) = true) : upto (notB tgtB) T 2 = 2 + u := by
  have h1 := h.ule
  have h2 := h.J2
  have h3 := h.JT
  obtain ⟨_, _, u3⟩ := isTgt_facts ht
  have hz : (T.extract 2 (2 + u)).size = u := by rw [ByteArray.size_extract]; omega
  refine upto_eq (by omega) (by omega) (fun j hj hj' => ?_) (.inr ?_)
  · have := u3 (j - 2) (by omega)
    rw [bt_ext T 2 (2 + u) (j - 2) (by omega) (by omega), show 2 + (j - 2) = j by omega] at this
    unfold notB; rw [this]; rfl
  · rcases Nat.lt_or_ge u (J - 2) with g | g
    · rw [h.atU g]; decide
    · rw [show 2 + u = J by omega]
      rcases (brB_iff _).1 h.atJ with e | e <;> rw [e] <;> decide
theorem LkCut.ofLink {T : ByteArray} {J u e : Nat} {x : Sp} (h : LkCut T J u) (LI : LinkIs T 0 e x) : e = 2 + u := by
  obtain ⟨h1, h2, h3, h4⟩ := LI.es
  have hle := h.ule
  have hJ2 := h.J2
  have ee := LI.ee
  rw [Nat.zero_add] at ee h2
  have hin : ∀ i, 2 ≤ i → i < e → tgtB (Go.Proofs.YtemngidkfgcigaaGreatDoor.bt T i) = true := fun i h1 h2 => by
    have := upto_mid (stop := notB tgtB) (s := T) (i := 2) (j := i) h1 (by rw [ee]; exact h2)
    unfold notB at this; simpa using this
  have heJ : e ≤ J := by
    rcases Nat.lt_or_ge J e with g | g
    · have := tgtB_not _ (hin J hJ2 g)
      have := (brB_iff _).1 h.atJ
      omega
    · exact g
  have hue : 2 + u ≤ e := by
    rcases Nat.lt_or_ge e (2 + u) with g | g
    · rcases LI.en with c | c
      · have := h.noBr h2 (show e < J by omega)
        have h93 : brB (Go.Proofs.YtemngidkfgcigaaGreatDoor.bt T e) = true := (brB_iff _).2 (.inr c.1)
        rw [h93] at this; cases this
      · exact absurd c.1 (h.noBar h2 g)
    · exact g
  rcases Nat.lt_or_ge (2 + u) e with g | g
  · have := tgtB_not _ (hin (2 + u) (by omega) g)
    have := h.atU (by omega)
    omega
  · omega
/-- no bracket behind: no link -/
theorem link_none {T : ByteArray} (h : T.size ≤ upto brB T 2) : tokL T 0 = none := by
  cases e : tokL T 0 with
  | none => rfl
  | some x =>
    have LI := tokL_inv e
    rw [Nat.zero_add] at LI
    obtain ⟨h1, h2, _, _⟩ := LI.es
    exfalso
    have key : ∀ i, 2 ≤ i → i < T.size → Go.Proofs.YtemngidkfgcigaaGreatDoor.bt T i ≠ 93 := fun i h2 h3 h93 => by
      have := upto_mid (stop := brB) h2 (show i < upto brB T 2 by omega)
      rw [(brB_iff _).2 (.inr h93)] at this; cases this
    rcases LI.en with c | ⟨_, c2, c3, c4, _⟩
    · exact key _ (by omega) h1 c.1
    · exact key _ (by omega) c2 c4
/-- no two brackets there: no link -/
theorem LkCut.noEnd {T : ByteArray} {J u : Nat} (h : LkCut T J u) (h2 : ¬ (Go.Proofs.YtemngidkfgcigaaGreatDoor.bt T J = 93 ∧ Go.Proofs.YtemngidkfgcigaaGreatDoor.bt T (J + 1) = 93)) : tokL T 0 = none := by
  cases e : tokL T 0 with
  | none => rfl
  | some x =>
    have LI := tokL_inv e
    rw [Nat.zero_add] at LI
    have he := h.ofLink LI
    obtain ⟨h1, _, _, _⟩ := LI.es
    have hule := h.ule
    have hJ2 := h.J2
    exfalso
    rcases LI.en with c | ⟨c1, c2, c3, c4, c5, _⟩
    · have : J = 2 + u := by
        rcases Nat.lt_or_ge (2 + u) J with g | g
        · have := h.noBr (by omega) g
          rw [← he, (brB_iff _).2 (.inr c.1)] at this; cases this
        · omega
      rw [this, ← he] at h2
      exact h2 ⟨c.1, c.2.1⟩
    · have hj : upto (isAny [91, 93]) T (upto (notB tgtB) T 2 + 1) = J := by
        have hlt : 2 + u < J := by
          rcases Nat.lt_or_ge (2 + u) J with g | g
          · exact g
          · have := (brB_iff _).1 h.atJ
            rw [show J = 2 + u by omega, ← he] at this; omega
        have := upto_skip (stop := brB) (s := T) (i := 2) (k := 2 + u + 1) (by omega) (by have := h.JT; omega) (fun j hj hj' => h.noBr hj (by omega))
        rw [he, ← h.hJ, this]; rfl
      rw [hj] at c4 c5
      exact h2 ⟨c4, c5⟩
theorem LkCut.bad {T : ByteArray} {J u : Nat} (h : LkCut T J u) (ht : isTgt (T.extract 2 (2 + u)) = false) : tokL T 0 = none := by
  cases e : tokL T 0 with
  | none => rfl
  | some x =>
    have LI := tokL_inv e
    rw [Nat.zero_add] at LI
    have he := h.ofLink LI
    have := LI.tg
    rw [he, Nat.zero_add, ht] at this
    cases this
theorem LkCut.short {T : ByteArray} {J u : Nat} (h : LkCut T J u) (b0 : Go.Proofs.YtemngidkfgcigaaGreatDoor.bt T 0 = 91) (b1 : Go.Proofs.YtemngidkfgcigaaGreatDoor.bt T 1 = 91) (ht : isTgt (T.extract 2 (2 + u)) = true) (h2 : Go.Proofs.YtemngidkfgcigaaGreatDoor.bt T J = 93 ∧ Go.Proofs.YtemngidkfgcigaaGreatDoor.bt T (J + 1) = 93) (hu : u = J - 2) :
    tokL T 0 = some ⟨4, 0, J + 2, T.extract 2 J, noB, 0, false⟩ := by
  have he := h.end_ ht
  have hJ2 := h.J2
  have e1 : 2 + u = J := by omega
  rw [e1] at he ht
  unfold tokL
  dsimp only
  rw [Nat.zero_add, Nat.zero_add, he, if_pos ⟨b0, b1, ht⟩, if_pos h2]
theorem LkCut.long {T : ByteArray} {J u : Nat} (h : LkCut T J u) (b0 : Go.Proofs.YtemngidkfgcigaaGreatDoor.bt T 0 = 91) (b1 : Go.Proofs.YtemngidkfgcigaaGreatDoor.bt T 1 = 91) (ht : isTgt (T.extract 2 (2 + u)) = true) (h2 : Go.Proofs.YtemngidkfgcigaaGreatDoor.bt T J = 93 ∧ Go.Proofs.YtemngidkfgcigaaGreatDoor.bt T (J + 1) = 93) (hu : u < J - 2) :
    tokL T 0 = if u + 1 < J - 2 then some ⟨4, 0, J + 2, T.extract 2 (2 + u), T.extract (2 + u + 1) J, 0, false⟩ else none := by
  have he := h.end_ ht
  have hJ2 := h.J2
  have hat := h.atU hu
  have hJT := h.JT
  have hj : upto (isAny [91, 93]) T (2 + u + 1) = J := by
    have := upto_skip (stop := brB) (s := T) (i := 2) (k := 2 + u + 1) (by omega) (by omega) (fun j hj hj' => h.noBr hj (by omega))
    rw [← h.hJ, this]; rfl
  unfold tokL
  dsimp only
  rw [Nat.zero_add, Nat.zero_add, he, if_pos ⟨b0, b1, ht⟩, if_neg (by rw [hat]; omega), hj]
  by_cases c : u + 1 < J - 2
  · rw [if_pos c, if_pos ⟨hat, hJT, by omega, h2⟩]
  · rw [if_neg c, if_neg (fun c' => c (by omega))]
end Go.Proofs.YtemngidkfgcigaaGreatDoor
