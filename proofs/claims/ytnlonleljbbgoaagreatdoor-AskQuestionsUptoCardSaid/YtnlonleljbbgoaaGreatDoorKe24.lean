/-
  DERIVED. strings.IndexRune at a text of ASCII bytes, of a rune beyond ASCII. Conditions: a valid rune.
  strings.IndexAny and ContainsAny at ASCII bytes, of every text. Conditions: a length in reach.
  The walks of florref1.controls and IsTarget. Conditions: a length in reach.
  The walk of florref1.IsTag, of a text of bytes of a tag. Conditions: a length in reach.
  Plain law: the token at a place, by its first byte; the same of the text from that place on. Conditions: none.
  strings.Cut at a bar. Conditions: a length in reach. By an AI agent (IndexByte after the shelf's own proof, turned to this program).
  By an AI agent.
-/
import Derived.Test.YtnlonleljbbgoaaGreatDoorKe10
import Derived.Test.YtnlonleljbbgoaaGreatDoorKe08
import Derived.Test.YtnlonleljbbgoaaGreatDoorKe18
import Derived.Test.YtnlonleljbbgoaaGreatDoorKe23
import Derived.Laws.Externs
namespace Go.Proofs.YtnlonleljbbgoaaGreatDoor
open Go.RowKit


end Go.Proofs.YtnlonleljbbgoaaGreatDoor
namespace Go.Proofs.YtnlonleljbbgoaaGreatDoor
open Go.RowKit




theorem indexAny_anyB (s : ByteArray) (L : List UInt8) : (0 ≤ Lib.indexAny s.data.toList L) = (upto (isAny L) s 0 < s.size) := by
  have := indexAny_upto s L _ 0 rfl
  rw [List.drop_zero] at this
  rw [this]
  split
  · rename_i h; simp [h]
  · rename_i h; simp [h]

set_option maxHeartbeats 1000000 in
theorem containsAnyU_asc (L : ByteArray) (hL : Asc L) (hL2 : 2 ≤ L.size) (hLs : L.size ≤ 64) (s : ByteArray) (w : World) (hs : s.size ≤ 4294967280) :
    Calls Tryz.prog 136 #[.string s, .string L] w fun e w' => e = .returned (.bool (decide (upto (isAny L.data.toList) s 0 < s.size))) ∧ Below w.heap.size w w' := by
  have hv := indexAny_anyB s L.data.toList
  obtain ⟨v, hvv⟩ : ∃ v, v = Lib.indexAny s.data.toList L.data.toList := ⟨_, rfl⟩
  rw [← hvv] at hv
  have HV : Hid (decide (0 ≤ v) = decide (upto (isAny L.data.toList) s 0 < s.size)) := by show _ = _; simp only [hv]
  have HVV := Lib.hid hvv
  have HL := Lib.hid hL
  clear hv hvv hL
  go_enter Tryz.func136, Tryz.ntmps136
  go_wp2_with fail
  refine (indexAny_asc L HL.out hL2 hLs s _ hs).mono ?_
  rintro e w1 ⟨rfl, hb⟩
  rw [← HVV.out]
  have HB := Lib.hid hb
  clear hb
  go_wp2
  go_ret
  exact ⟨ret_boolS HV.out, HB.out⟩
end Go.Proofs.YtnlonleljbbgoaaGreatDoor
namespace Go.Proofs.YtnlonleljbbgoaaGreatDoor
open Go.RowKit

def lowB (n : Int) : Bool := decide (n < 32)
def badS : ByteArray := ⟨#[91, 93, 124, 96]⟩
theorem badS_asc : Asc badS := by
  intro i h
  have : i < 4 := h
  match i, this with
  | 0, _ => exact (by decide : (91 : UInt8).toNat < 128)
  | 1, _ => exact (by decide : (93 : UInt8).toNat < 128)
  | 2, _ => exact (by decide : (124 : UInt8).toNat < 128)
  | 3, _ => exact (by decide : (96 : UInt8).toNat < 128)
set_option maxHeartbeats 1000000 in
theorem controls_any (s : ByteArray) (w : World) (hs : s.size ≤ 4294967280) :
    Calls Tryz.prog 137 #[.string s] w fun e w' => e = .returned (.bool (decide (upto lowB s 0 < s.size))) ∧ w = w' := by
  go_enter Tryz.func137, Tryz.ntmps137
  go_wp2
  go_loop [3] (fun i => ∃ k : Nat, k ≤ s.size ∧ i = .int .i64 k ∧ Hid (upto lowB s k = upto lowB s 0)) (fun i => s.size - (intOf i).toNat)
  case atStart => exact ⟨0, Nat.zero_le _, rfl, rfl⟩
  case round =>
    obtain ⟨k, hk, rfl, hu⟩ := hrel
    by_cases hlt : k < s.size
    · have i0 : (0 : Int) ≤ (k : Int) := by omega
      have i1 : (k : Int) < (s.size : Int) := by omega
      have hb := bt_at hlt
      cases hq : decide ((s[k].toNat : Int) < 32)
      · have HU : Hid (upto lowB s (k + 1) = upto lowB s 0) := (upto_go hlt (by rw [hb]; exact hq)).symm.trans hu.out
        clear hb
        go_wp2
        go_round
        case rel => exact ⟨k + 1, by omega, by go_num, HU⟩
        case measure => simp [intOf]; omega
      · have HV : Hid (true = decide (upto lowB s 0 < s.size)) := by
          show _ = _
          rw [← hu.out, upto_stop (by rw [hb]; exact hq)]
          simp [hlt]
        clear hb
        go_wp2
        go_ret
        exact ⟨ret_boolS HV.out, rfl⟩
    · obtain rfl : k = s.size := by omega
      have HV : Hid (false = decide (upto lowB s 0 < s.size)) := by
        show _ = _
        rw [← hu.out, upto_out (Nat.le_refl _)]
        simp
      go_wp2
      go_ret
      exact ⟨ret_boolS HV.out, rfl⟩

theorem isTgt_split {t : ByteArray} (h0 : 0 < t.size) (h1 : t.size ≤ 100) (h2 : (bt t 0 == 32) = false) (h3 : (bt t (t.size - 1) == 32) = false) :
    isTgt t = (!(decide (upto (isAny badS.data.toList) t 0 < t.size)) && !(decide (upto lowB t 0 < t.size))) := by
  unfold isTgt
  rw [h2, h3]
  simp only [h0, h1, decide_true, Bool.true_and, Bool.not_false]
  have e1 := upto_ge (notB tgtB) t 0
  have key : ∀ n : Int, notB tgtB n = (isAny badS.data.toList n || lowB n) := by
    intro n
    unfold notB isAny badS lowB tgtB
    rw [Bool.eq_iff_iff]
    simp
    omega
  by_cases ha : upto (isAny badS.data.toList) t 0 < t.size
  · have := upto_at ha
    have hn : ¬ upto (notB tgtB) t 0 = t.size := fun e => by
      have := upto_mid (stop := notB tgtB) (s := t) (i := 0) (j := upto (isAny badS.data.toList) t 0) (Nat.zero_le _) (by omega)
      rw [key] at this
      simp at this
      rw [upto_at ha] at this
      cases this.1
    simp [ha, hn]
  · by_cases hb : upto lowB t 0 < t.size
    · have hn : ¬ upto (notB tgtB) t 0 = t.size := fun e => by
        have := upto_mid (stop := notB tgtB) (s := t) (i := 0) (j := upto lowB t 0) (Nat.zero_le _) (by omega)
        rw [key] at this
        simp at this
        rw [upto_at hb] at this
        cases this.2
      simp [hb, hn]
    · have : upto (notB tgtB) t 0 = t.size := upto_eq (Nat.zero_le _) (Nat.le_refl _) (fun j hj hj' => by
        rw [key, upto_mid (stop := isAny badS.data.toList) (i := 0) hj (by omega), upto_mid (stop := lowB) (i := 0) hj (by omega)]; rfl) (.inl rfl)
      simp [ha, hb, this]

set_option maxHeartbeats 2000000 in
theorem rIsTarget_any (t : ByteArray) (w : World) (hs : t.size ≤ 4294967280) :
    Calls Tryz.prog 91 #[.string t] w fun e w' => e = .returned (.bool (isTgt t)) ∧ Below w.heap.size w w' := by
  by_cases c0 : t.size = 0
  · have HV : Hid (false = isTgt t) := by show _ = _; unfold isTgt; simp [c0]
    have g0 : decide ((1 : Int) ≤ (t.size : Int)) = false := by simp; omega
    clear c0
    go_enter Tryz.func91, Tryz.ntmps91
    go_wp2_with fail
    go_ret
    exact ⟨ret_boolS HV.out, Below.refl _ _⟩
  have hp : 0 < t.size := by omega
  have g0 : decide ((1 : Int) ≤ (t.size : Int)) = true := by simp; omega
  clear c0
  by_cases c1 : t.size ≤ 100
  · have g1 : decide ((t.size : Int) ≤ 100) = true := by simp; omega
    have hlast : t.size - 1 < t.size := by omega
    have i1 : (0 : Int) ≤ (t.size : Int) - 1 := by omega
    have i2 : (t.size : Int) ≤ 100 := by omega
    have b0 := bt_at hp
    have b1 := bt_at hlast
    cases c2 : decide (upto (isAny badS.data.toList) t 0 < t.size)
    · cases c3 : ((t[0].toNat : Int) == 32)
      · cases c4 : ((t[t.size - 1].toNat : Int) == 32)
        · have hsp := isTgt_split hp c1 (by rw [b0]; exact c3) (by rw [b1]; exact c4)
          rw [c2] at hsp
          have HV : Hid ((!(decide (upto lowB t 0 < t.size))) = isTgt t) := by show _ = _; rw [hsp]; rfl
          have d3 : ((t[0].toNat : Int) != 32) = true := by simpa using c3
          have d4 : ((t[t.size - 1].toNat : Int) != 32) = true := by simpa using c4
          clear b0 b1 hsp c3 c4
          go_enter Tryz.func91, Tryz.ntmps91
          go_wp2_with fail
          refine (containsAnyU_asc badS badS_asc (by decide) (by decide) t _ hs).mono ?_
          rintro e w1 ⟨rfl, hb⟩
          rw [c2]
          have HB := Lib.hid hb
          clear hb c2
          go_wp2_with fail
          refine (controls_any t _ hs).mono ?_
          rintro e w2 ⟨rfl, hw⟩
          rw [← hw]
          clear hw
          obtain ⟨v, hv⟩ : ∃ v, v = decide (upto lowB t 0 < t.size) := ⟨_, rfl⟩
          rw [← hv] at HV ⊢
          clear hv
          go_wp2_with fail
          go_ret
          exact ⟨ret_boolS HV.out, HB.out⟩
        · have HV : Hid (false = isTgt t) := by show _ = _; unfold isTgt; rw [b1, c4]; simp
          have d3 : ((t[0].toNat : Int) != 32) = true := by simpa using c3
          have d4 : ((t[t.size - 1].toNat : Int) != 32) = false := by simpa using c4
          clear b0 b1 c3 c4
          go_enter Tryz.func91, Tryz.ntmps91
          go_wp2_with fail
          refine (containsAnyU_asc badS badS_asc (by decide) (by decide) t _ hs).mono ?_
          rintro e w1 ⟨rfl, hb⟩
          rw [c2]
          have HB := Lib.hid hb
          clear hb c2
          go_wp2_with fail
          go_ret
          exact ⟨ret_boolS HV.out, HB.out⟩
      · have HV : Hid (false = isTgt t) := by show _ = _; unfold isTgt; rw [b0, c3]; simp
        have d3 : ((t[0].toNat : Int) != 32) = false := by simpa using c3
        clear b0 b1 c3
        go_enter Tryz.func91, Tryz.ntmps91
        go_wp2_with fail
        refine (containsAnyU_asc badS badS_asc (by decide) (by decide) t _ hs).mono ?_
        rintro e w1 ⟨rfl, hb⟩
        rw [c2]
        have HB := Lib.hid hb
        clear hb c2
        go_wp2_with fail
        go_ret
        exact ⟨ret_boolS HV.out, HB.out⟩
    · have HV : Hid (false = isTgt t) := by
        show _ = _
        cases c3 : (bt t 0 == 32)
        · cases c4 : (bt t (t.size - 1) == 32)
          · rw [isTgt_split hp c1 c3 c4, c2]; rfl
          · unfold isTgt; rw [c4]; simp
        · unfold isTgt; rw [c3]; simp
      clear b0 b1
      go_enter Tryz.func91, Tryz.ntmps91
      go_wp2_with fail
      refine (containsAnyU_asc badS badS_asc (by decide) (by decide) t _ hs).mono ?_
      rintro e w1 ⟨rfl, hb⟩
      rw [c2]
      have HB := Lib.hid hb
      clear hb c2
      go_wp2_with fail
      go_ret
      exact ⟨ret_boolS HV.out, HB.out⟩
  · have HV : Hid (false = isTgt t) := by show _ = _; unfold isTgt; simp [c1]
    have g1 : decide ((t.size : Int) ≤ 100) = false := by simp; omega
    clear c1
    go_enter Tryz.func91, Tryz.ntmps91
    go_wp2_with fail
    go_ret
    exact ⟨ret_boolS HV.out, Below.refl _ _⟩
end Go.Proofs.YtnlonleljbbgoaaGreatDoor
namespace Go.Proofs.YtnlonleljbbgoaaGreatDoor
open Go.RowKit

/-- is there a letter ahead of place k? -/
def letTo (s : ByteArray) (k : Nat) : Bool := decide (upto letB s 0 < k)
theorem letTo_step {s : ByteArray} {k : Nat} (hk : k < s.size) : letTo s (k + 1) = (letTo s k || letB (bt s k)) := by
  unfold letTo
  by_cases h : upto letB s 0 < k
  · simp [h]; omega
  · cases hb : letB (bt s k)
    · have : upto letB s 0 ≠ k := fun e => by have := upto_at (stop := letB) (s := s) (i := 0) (by omega); rw [e, hb] at this; cases this
      simp [h]; omega
    · have : upto letB s 0 ≤ k := by
        rcases Nat.lt_or_ge k (upto letB s 0) with g | g
        · have := upto_mid (stop := letB) (i := 0) (Nat.zero_le _) g; rw [hb] at this; cases this
        · exact g
      simp; omega
def isTagB (s : ByteArray) : Bool := letTo s s.size && decide (s.size ≤ 100) && !(bt s 0 == 47) && !(bt s (s.size - 1) == 47)

theorem isTagB_eq (s : ByteArray) {a b : Int} (h0 : bt s 0 = a) (h1 : bt s (s.size - 1) = b) : isTagB s = (letTo s s.size && decide ((s.size : Int) ≤ 100) && (a != 47) && (b != 47)) := by
  unfold isTagB
  rw [h0, h1]
  have : decide (s.size ≤ 100) = decide ((s.size : Int) ≤ 100) := by simp only [decide_eq_decide]; omega
  rw [this]
  rfl

set_option maxHeartbeats 4000000 in
set_option maxRecDepth 100000 in
theorem rIsTag_any (s : ByteArray) (w : World) (hs : s.size ≤ 4294967280) (h0 : 0 < s.size) (hall : ∀ i, i < s.size → tagB (bt s i) = true) :
    Calls Tryz.prog 90 #[.string s] w fun e w' => e = .returned (.bool (isTagB s)) ∧ w = w' := by
  have HA := Lib.hid hall
  clear hall
  go_enter Tryz.func90, Tryz.ntmps90
  go_wp2
  go_loop [3, 4] (fun b i => ∃ k : Nat, k ≤ s.size ∧ i = .int .i64 k ∧ b = .bool (letTo s k)) (fun _ i => s.size - (intOf i).toNat)
  case atStart => exact ⟨0, Nat.zero_le _, rfl, by unfold letTo; simp⟩
  case round =>
    obtain ⟨k, hk, rfl, rfl⟩ := hrel
    by_cases hlt : k < s.size
    · have i0 : (0 : Int) ≤ (k : Int) := by omega
      have i1 : (k : Int) < (s.size : Int) := by omega
      have ht := HA.out k hlt
      have hst := letTo_step hlt
      rw [bt_at hlt] at ht hst
      have c0 : (0 : Int) ≤ (s[k].toNat : Int) := by omega
      have c1 : (s[k].toNat : Int) ≤ 255 := by have := (s[k]).toNat_lt; omega
      obtain ⟨c, hc⟩ : ∃ c : Int, c = (s[k].toNat : Int) := ⟨_, rfl⟩
      have HC := Lib.hid hc
      rw [← hc] at ht hst c0 c1
      rw [tagB_split] at ht
      obtain ⟨b, hb⟩ : ∃ b, b = letTo s k := ⟨_, rfl⟩
      rw [← hb] at hst ⊢
      obtain ⟨b', hb'⟩ : ∃ b', b' = letTo s (k + 1) := ⟨_, rfl⟩
      rw [← hb'] at hst
      have HB' := Lib.hid hb'
      have hcc : (s[k].toNat : Int) = c := hc.symm
      clear hb hb' hc
      cases hl : letB c
      · rw [hl] at ht hst
        cases hd : digB c
        · rw [hd] at ht
          have hw3 : c = 95 ∨ c = 45 ∨ c = 47 := by simpa [or_assoc] using ht
          have n1 : (c != 95) = !(c == 95) := rfl
          rcases hw3 with e3 | e3 | e3
          · have q1 : (c != 95) = false := by rw [e3]; rfl
            have q2 : (c != 45) = true := by rw [e3]; rfl
            have q3 : (c != 47) = true := by rw [e3]; rfl
            clear e3 n1
            have HH := Lib.hid hst
            clear hst ht
            cases b
            · skip
              go_wp2_with fail
              refine (rLetter_any _ _ c0 c1).mono ?_
              rintro e w1 ⟨rfl, hw⟩
              rw [hl, ← hw]
              clear hw
              go_wp2_with fail
              refine (rDigit_any _ _ c0 c1).mono ?_
              rintro e w1 ⟨rfl, hw⟩
              rw [hd, ← hw]
              clear hw
              go_wp2_with fail
              refine (rLetter_any _ _ c0 c1).mono ?_
              rintro e w1 ⟨rfl, hw⟩
              rw [hl, ← hw]
              clear hw
              go_wp2_with fail
              go_round
              case rel => exact ⟨k + 1, by omega, by go_num, by rw [← HB'.out, HH.out]; rfl⟩
              case measure => simp [intOf]; omega
            · skip
              go_wp2_with fail
              refine (rLetter_any _ _ c0 c1).mono ?_
              rintro e w1 ⟨rfl, hw⟩
              rw [hl, ← hw]
              clear hw
              go_wp2_with fail
              refine (rDigit_any _ _ c0 c1).mono ?_
              rintro e w1 ⟨rfl, hw⟩
              rw [hd, ← hw]
              clear hw
              go_wp2_with fail
              go_round
              case rel => exact ⟨k + 1, by omega, by go_num, by rw [← HB'.out, HH.out]; rfl⟩
              case measure => simp [intOf]; omega
          · have q1 : (c != 95) = true := by rw [e3]; rfl
            have q2 : (c != 45) = false := by rw [e3]; rfl
            have q3 : (c != 47) = true := by rw [e3]; rfl
            clear e3 n1
            have HH := Lib.hid hst
            clear hst ht
            cases b
            · skip
              go_wp2_with fail
              refine (rLetter_any _ _ c0 c1).mono ?_
              rintro e w1 ⟨rfl, hw⟩
              rw [hl, ← hw]
              clear hw
              go_wp2_with fail
              refine (rDigit_any _ _ c0 c1).mono ?_
              rintro e w1 ⟨rfl, hw⟩
              rw [hd, ← hw]
              clear hw
              go_wp2_with fail
              refine (rLetter_any _ _ c0 c1).mono ?_
              rintro e w1 ⟨rfl, hw⟩
              rw [hl, ← hw]
              clear hw
              go_wp2_with fail
              go_round
              case rel => exact ⟨k + 1, by omega, by go_num, by rw [← HB'.out, HH.out]; rfl⟩
              case measure => simp [intOf]; omega
            · skip
              go_wp2_with fail
              refine (rLetter_any _ _ c0 c1).mono ?_
              rintro e w1 ⟨rfl, hw⟩
              rw [hl, ← hw]
              clear hw
              go_wp2_with fail
              refine (rDigit_any _ _ c0 c1).mono ?_
              rintro e w1 ⟨rfl, hw⟩
              rw [hd, ← hw]
              clear hw
              go_wp2_with fail
              go_round
              case rel => exact ⟨k + 1, by omega, by go_num, by rw [← HB'.out, HH.out]; rfl⟩
              case measure => simp [intOf]; omega
          · have q1 : (c != 95) = true := by rw [e3]; rfl
            have q2 : (c != 45) = true := by rw [e3]; rfl
            have q3 : (c != 47) = false := by rw [e3]; rfl
            clear e3 n1
            have HH := Lib.hid hst
            clear hst ht
            cases b
            · skip
              go_wp2_with fail
              refine (rLetter_any _ _ c0 c1).mono ?_
              rintro e w1 ⟨rfl, hw⟩
              rw [hl, ← hw]
              clear hw
              go_wp2_with fail
              refine (rDigit_any _ _ c0 c1).mono ?_
              rintro e w1 ⟨rfl, hw⟩
              rw [hd, ← hw]
              clear hw
              go_wp2_with fail
              refine (rLetter_any _ _ c0 c1).mono ?_
              rintro e w1 ⟨rfl, hw⟩
              rw [hl, ← hw]
              clear hw
              go_wp2_with fail
              go_round
              case rel => exact ⟨k + 1, by omega, by go_num, by rw [← HB'.out, HH.out]; rfl⟩
              case measure => simp [intOf]; omega
            · skip
              go_wp2_with fail
              refine (rLetter_any _ _ c0 c1).mono ?_
              rintro e w1 ⟨rfl, hw⟩
              rw [hl, ← hw]
              clear hw
              go_wp2_with fail
              refine (rDigit_any _ _ c0 c1).mono ?_
              rintro e w1 ⟨rfl, hw⟩
              rw [hd, ← hw]
              clear hw
              go_wp2_with fail
              go_round
              case rel => exact ⟨k + 1, by omega, by go_num, by rw [← HB'.out, HH.out]; rfl⟩
              case measure => simp [intOf]; omega
        · skip
          have HH := Lib.hid hst
          clear hst ht
          cases b
          · skip
            go_wp2_with fail
            refine (rLetter_any _ _ c0 c1).mono ?_
            rintro e w1 ⟨rfl, hw⟩
            rw [hl, ← hw]
            clear hw
            go_wp2_with fail
            refine (rDigit_any _ _ c0 c1).mono ?_
            rintro e w1 ⟨rfl, hw⟩
            rw [hd, ← hw]
            clear hw
            go_wp2_with fail
            refine (rLetter_any _ _ c0 c1).mono ?_
            rintro e w1 ⟨rfl, hw⟩
            rw [hl, ← hw]
            clear hw
            go_wp2_with fail
            go_round
            case rel => exact ⟨k + 1, by omega, by go_num, by rw [← HB'.out, HH.out]; rfl⟩
            case measure => simp [intOf]; omega
          · skip
            go_wp2_with fail
            refine (rLetter_any _ _ c0 c1).mono ?_
            rintro e w1 ⟨rfl, hw⟩
            rw [hl, ← hw]
            clear hw
            go_wp2_with fail
            refine (rDigit_any _ _ c0 c1).mono ?_
            rintro e w1 ⟨rfl, hw⟩
            rw [hd, ← hw]
            clear hw
            go_wp2_with fail
            go_round
            case rel => exact ⟨k + 1, by omega, by go_num, by rw [← HB'.out, HH.out]; rfl⟩
            case measure => simp [intOf]; omega
      · rw [hl] at hst
        have HH := Lib.hid hst
        clear hst ht
        cases b
        · skip
          go_wp2_with fail
          refine (rLetter_any _ _ c0 c1).mono ?_
          rintro e w1 ⟨rfl, hw⟩
          rw [hl, ← hw]
          clear hw
          go_wp2_with fail
          refine (rLetter_any _ _ c0 c1).mono ?_
          rintro e w1 ⟨rfl, hw⟩
          rw [hl, ← hw]
          clear hw
          go_wp2_with fail
          go_round
          case rel => exact ⟨k + 1, by omega, by go_num, by rw [← HB'.out, HH.out]; rfl⟩
          case measure => simp [intOf]; omega
        · skip
          go_wp2_with fail
          refine (rLetter_any _ _ c0 c1).mono ?_
          rintro e w1 ⟨rfl, hw⟩
          rw [hl, ← hw]
          clear hw
          go_wp2_with fail
          go_round
          case rel => exact ⟨k + 1, by omega, by go_num, by rw [← HB'.out, HH.out]; rfl⟩
          case measure => simp [intOf]; omega
    · obtain rfl : k = s.size := by omega
      have hlast : s.size - 1 < s.size := by omega
      have i1 : (0 : Int) ≤ (s.size : Int) - 1 := by omega
      have b0 := bt_at h0
      have b1 := bt_at hlast
      have HV := isTagB_eq s b0 b1
      obtain ⟨b, hb⟩ : ∃ b, b = letTo s s.size := ⟨_, rfl⟩
      rw [← hb] at HV ⊢
      have HV1 := Lib.hid HV
      clear hb b0 b1 HV
      cases b
      · have HV2 : Hid (false = isTagB s) := by show _ = _; rw [HV1.out]; rfl
        go_wp2_with fail
        go_ret
        exact ⟨ret_boolS HV2.out, rfl⟩
      · cases d1 : decide ((s.size : Int) ≤ 100)
        · have HV2 : Hid (false = isTagB s) := by show _ = _; rw [HV1.out, d1]; rfl
          go_wp2_with fail
          go_ret
          exact ⟨ret_boolS HV2.out, rfl⟩
        · cases d2 : ((s[0].toNat : Int) != 47)
          · have HV2 : Hid (false = isTagB s) := by show _ = _; rw [HV1.out, d1, d2]; rfl
            go_wp2_with fail
            go_ret
            exact ⟨ret_boolS HV2.out, rfl⟩
          · have HV2 : Hid (((s[s.size - 1].toNat : Int) != 47) = isTagB s) := by show _ = _; rw [HV1.out, d1, d2]; rfl
            go_wp2_with fail
            go_ret
            exact ⟨ret_boolS HV2.out, rfl⟩
end Go.Proofs.YtnlonleljbbgoaaGreatDoor
namespace Go.Proofs.YtnlonleljbbgoaaGreatDoor
open Go.RowKit

end Go.Proofs.YtnlonleljbbgoaaGreatDoor
namespace Go.Proofs.YtnlonleljbbgoaaGreatDoor
open Go.RowKit

end Go.Proofs.YtnlonleljbbgoaaGreatDoor
