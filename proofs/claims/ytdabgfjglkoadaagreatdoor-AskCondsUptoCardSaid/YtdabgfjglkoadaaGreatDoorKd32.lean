/-
  DERIVED. The walk of the reference's IsTag, of every text. Conditions: a length in reach.
  The error of a condition: the walks of the reference's zero, condNode and CondError. Conditions: sizes.
  What fields an operation of a condition uses: the walk of ask.uses. Conditions: none.
  By an AI agent.
-/
import Derived.Test.YtdabgfjglkoadaaGreatDoorKd30
import Derived.Test.YtdabgfjglkoadaaGreatDoorKd13
import Derived.StillTailTactics
import Derived.Deep.DeepCutAuto
namespace Go.Proofs.YtdabgfjglkoadaaGreatDoor
open Go.RowKit

set_option maxHeartbeats 4000000 in
set_option maxRecDepth 100000 in
theorem rIsTagNo_any (s : ByteArray) (w : World) (hs : s.size ≤ 4294967280) (K : Nat) (hK : K < s.size) (hall : ∀ i, i < K → tagB (bt s i) = true) (hno : tagB (bt s K) = false) :
    Calls Tryz.prog 36 #[.string s] w fun e w' => e = .returned (.bool false) ∧ w = w' := by
  have HA := Lib.hid hall
  have HNO := Lib.hid hno
  clear hall hno
  go_enter Tryz.func36, Tryz.ntmps36
  go_wp2
  go_loop [3, 4] (fun b i => ∃ k : Nat, k ≤ K ∧ i = .int .i64 k ∧ b = .bool (letTo s k)) (fun _ i => s.size - (intOf i).toNat)
  case atStart => exact ⟨0, Nat.zero_le _, rfl, by unfold letTo; simp⟩
  case round =>
    obtain ⟨k, hk, rfl, rfl⟩ := hrel
    by_cases hlK : k < K
    · have hlt : k < s.size := by omega
      have i0 : (0 : Int) ≤ (k : Int) := by omega
      have i1 : (k : Int) < (s.size : Int) := by omega
      have ht := HA.out k hlK
      have hst := letTo_step hlt
      rw [bt_at hlt] at ht hst
      have c0 : (0 : Int) ≤ (s[k].toNat : Int) := by omega
      have c1 : (s[k].toNat : Int) ≤ 255 := by have := (s[k]).toNat_lt; omega
      obtain ⟨c, hc⟩ : ∃ c : Int, c = (s[k].toNat : Int) := ⟨_, rfl⟩
      have HC := Lib.hid hc
      rw [← hc] at ht hst c0 c1
      rw [tagB_split] at ht
      obtain ⟨b, hb⟩ : ∃ b, b = letTo s k := ⟨_, rfl⟩
      rw [← hb] at hst ⊢
      obtain ⟨b', hb'⟩ : ∃ b', b' = letTo s (k + 1) := ⟨_, rfl⟩
      rw [← hb'] at hst
      have HB' := Lib.hid hb'
      have hcc : (s[k].toNat : Int) = c := hc.symm
      clear hb hb' hc
      cases hl : letB c
      · rw [hl] at ht hst
        cases hd : digB c
        · rw [hd] at ht
          have hw3 : c = 95 ∨ c = 45 ∨ c = 47 := by simpa [or_assoc] using ht
          have n1 : (c != 95) = !(c == 95) := rfl
          rcases hw3 with e3 | e3 | e3
          · have q1 : (c != 95) = false := by rw [e3]; rfl
            have q2 : (c != 45) = true := by rw [e3]; rfl
            have q3 : (c != 47) = true := by rw [e3]; rfl
            clear e3 n1
            have HH := Lib.hid hst
            clear hst ht
            cases b
            · skip
              go_wp2_with fail
              refine (rLetter_any _ _ c0 c1).mono ?_
              rintro e w1 ⟨rfl, hw⟩
              rw [hl, ← hw]
              clear hw
              go_wp2_with fail
              refine (rDigit_any _ _ c0 c1).mono ?_
              rintro e w1 ⟨rfl, hw⟩
              rw [hd, ← hw]
              clear hw
              go_wp2_with fail
              refine (rLetter_any _ _ c0 c1).mono ?_
              rintro e w1 ⟨rfl, hw⟩
              rw [hl, ← hw]
              clear hw
              go_wp2_with fail
              go_round
              case rel => exact ⟨k + 1, by omega, by go_num, by rw [← HB'.out, HH.out]; rfl⟩
              case measure => simp [intOf]; omega
            · skip
              go_wp2_with fail
              refine (rLetter_any _ _ c0 c1).mono ?_
              rintro e w1 ⟨rfl, hw⟩
              rw [hl, ← hw]
              clear hw
              go_wp2_with fail
              refine (rDigit_any _ _ c0 c1).mono ?_
              rintro e w1 ⟨rfl, hw⟩
              rw [hd, ← hw]
              clear hw
              go_wp2_with fail
              go_round
              case rel => exact ⟨k + 1, by omega, by go_num, by rw [← HB'.out, HH.out]; rfl⟩
              case measure => simp [intOf]; omega
          · have q1 : (c != 95) = true := by rw [e3]; rfl
            have q2 : (c != 45) = false := by rw [e3]; rfl
            have q3 : (c != 47) = true := by rw [e3]; rfl
            clear e3 n1
            have HH := Lib.hid hst
            clear hst ht
            cases b
            · skip
              go_wp2_with fail
              refine (rLetter_any _ _ c0 c1).mono ?_
              rintro e w1 ⟨rfl, hw⟩
              rw [hl, ← hw]
              clear hw
              go_wp2_with fail
              refine (rDigit_any _ _ c0 c1).mono ?_
              rintro e w1 ⟨rfl, hw⟩
              rw [hd, ← hw]
              clear hw
              go_wp2_with fail
              refine (rLetter_any _ _ c0 c1).mono ?_
              rintro e w1 ⟨rfl, hw⟩
              rw [hl, ← hw]
              clear hw
              go_wp2_with fail
              go_round
              case rel => exact ⟨k + 1, by omega, by go_num, by rw [← HB'.out, HH.out]; rfl⟩
              case measure => simp [intOf]; omega
            · skip
              go_wp2_with fail
              refine (rLetter_any _ _ c0 c1).mono ?_
              rintro e w1 ⟨rfl, hw⟩
              rw [hl, ← hw]
              clear hw
              go_wp2_with fail
              refine (rDigit_any _ _ c0 c1).mono ?_
              rintro e w1 ⟨rfl, hw⟩
              rw [hd, ← hw]
              clear hw
              go_wp2_with fail
              go_round
              case rel => exact ⟨k + 1, by omega, by go_num, by rw [← HB'.out, HH.out]; rfl⟩
              case measure => simp [intOf]; omega
          · have q1 : (c != 95) = true := by rw [e3]; rfl
            have q2 : (c != 45) = true := by rw [e3]; rfl
            have q3 : (c != 47) = false := by rw [e3]; rfl
            clear e3 n1
            have HH := Lib.hid hst
            clear hst ht
            cases b
            · skip
              go_wp2_with fail
              refine (rLetter_any _ _ c0 c1).mono ?_
              rintro e w1 ⟨rfl, hw⟩
              rw [hl, ← hw]
              clear hw
              go_wp2_with fail
              refine (rDigit_any _ _ c0 c1).mono ?_
              rintro e w1 ⟨rfl, hw⟩
              rw [hd, ← hw]
              clear hw
              go_wp2_with fail
              refine (rLetter_any _ _ c0 c1).mono ?_
              rintro e w1 ⟨rfl, hw⟩
              rw [hl, ← hw]
              clear hw
              go_wp2_with fail
              go_round
              case rel => exact ⟨k + 1, by omega, by go_num, by rw [← HB'.out, HH.out]; rfl⟩
              case measure => simp [intOf]; omega
            · skip
              go_wp2_with fail
              refine (rLetter_any _ _ c0 c1).mono ?_
              rintro e w1 ⟨rfl, hw⟩
              rw [hl, ← hw]
              clear hw
              go_wp2_with fail
              refine (rDigit_any _ _ c0 c1).mono ?_
              rintro e w1 ⟨rfl, hw⟩
              rw [hd, ← hw]
              clear hw
              go_wp2_with fail
              go_round
              case rel => exact ⟨k + 1, by omega, by go_num, by rw [← HB'.out, HH.out]; rfl⟩
              case measure => simp [intOf]; omega
        · skip
          have HH := Lib.hid hst
          clear hst ht
          cases b
          · skip
            go_wp2_with fail
            refine (rLetter_any _ _ c0 c1).mono ?_
            rintro e w1 ⟨rfl, hw⟩
            rw [hl, ← hw]
            clear hw
            go_wp2_with fail
            refine (rDigit_any _ _ c0 c1).mono ?_
            rintro e w1 ⟨rfl, hw⟩
            rw [hd, ← hw]
            clear hw
            go_wp2_with fail
            refine (rLetter_any _ _ c0 c1).mono ?_
            rintro e w1 ⟨rfl, hw⟩
            rw [hl, ← hw]
            clear hw
            go_wp2_with fail
            go_round
            case rel => exact ⟨k + 1, by omega, by go_num, by rw [← HB'.out, HH.out]; rfl⟩
            case measure => simp [intOf]; omega
          · skip
            go_wp2_with fail
            refine (rLetter_any _ _ c0 c1).mono ?_
            rintro e w1 ⟨rfl, hw⟩
            rw [hl, ← hw]
            clear hw
            go_wp2_with fail
            refine (rDigit_any _ _ c0 c1).mono ?_
            rintro e w1 ⟨rfl, hw⟩
            rw [hd, ← hw]
            clear hw
            go_wp2_with fail
            go_round
            case rel => exact ⟨k + 1, by omega, by go_num, by rw [← HB'.out, HH.out]; rfl⟩
            case measure => simp [intOf]; omega
      · rw [hl] at hst
        have HH := Lib.hid hst
        clear hst ht
        cases b
        · skip
          go_wp2_with fail
          refine (rLetter_any _ _ c0 c1).mono ?_
          rintro e w1 ⟨rfl, hw⟩
          rw [hl, ← hw]
          clear hw
          go_wp2_with fail
          refine (rLetter_any _ _ c0 c1).mono ?_
          rintro e w1 ⟨rfl, hw⟩
          rw [hl, ← hw]
          clear hw
          go_wp2_with fail
          go_round
          case rel => exact ⟨k + 1, by omega, by go_num, by rw [← HB'.out, HH.out]; rfl⟩
          case measure => simp [intOf]; omega
        · skip
          go_wp2_with fail
          refine (rLetter_any _ _ c0 c1).mono ?_
          rintro e w1 ⟨rfl, hw⟩
          rw [hl, ← hw]
          clear hw
          go_wp2_with fail
          go_round
          case rel => exact ⟨k + 1, by omega, by go_num, by rw [← HB'.out, HH.out]; rfl⟩
          case measure => simp [intOf]; omega
    · obtain rfl : k = K := by omega
      have i0 : (0 : Int) ≤ (k : Int) := by omega
      have i1 : (k : Int) < (s.size : Int) := by omega
      have hn := HNO.out
      rw [bt_at hK, tagB_split] at hn
      have c0 : (0 : Int) ≤ (s[k].toNat : Int) := by omega
      have c1 : (s[k].toNat : Int) ≤ 255 := by have := (s[k]).toNat_lt; omega
      obtain ⟨c, hc⟩ : ∃ c : Int, c = (s[k].toNat : Int) := ⟨_, rfl⟩
      rw [← hc] at hn c0 c1
      have hcc : (s[k].toNat : Int) = c := hc.symm
      simp only [Bool.or_eq_false_iff] at hn
      obtain ⟨⟨⟨⟨hl, hd⟩, h5⟩, h6⟩, h7⟩ := hn
      have q1 : (c != 95) = true := congrArg (!·) h5
      have q2 : (c != 45) = true := congrArg (!·) h6
      have q3 : (c != 47) = true := congrArg (!·) h7
      clear h5 h6 h7 hc
      go_wp2_with fail
      refine (rLetter_any _ _ c0 c1).mono ?_
      rintro e w1 ⟨rfl, hw⟩
      rw [hl, ← hw]
      clear hw
      go_wp2_with fail
      refine (rDigit_any _ _ c0 c1).mono ?_
      rintro e w1 ⟨rfl, hw⟩
      rw [hd, ← hw]
      clear hw
      go_wp2_with fail
      go_ret
      exact ⟨rfl, rfl⟩

set_option maxHeartbeats 1000000 in
theorem rIsTagNil_any (w : World) :
    Calls Tryz.prog 36 #[.string ⟨#[]⟩] w fun e w' => e = .returned (.bool false) ∧ w = w' := by
  go_enter Tryz.func36, Tryz.ntmps36
  go_wp2
  go_loop [3, 4] (fun b i => i = .int .i64 0 ∧ b = .bool false) (fun _ _ => 0)
  case atStart => exact ⟨rfl, rfl⟩
  case round =>
    obtain ⟨rfl, rfl⟩ := hrel
    go_wp2_with fail
    go_ret
    exact ⟨rfl, rfl⟩
/-- the reference's IsTag -/
theorem rIsTagG_any (s : ByteArray) (w : World) (hs : s.size ≤ 4294967280) :
    Calls Tryz.prog 36 #[.string s] w fun e w' => e = .returned (.bool (tagFull s)) ∧ w = w' := by
  have hle := upto_le (stop := notB tagB) (s := s) (i := 0) (Nat.zero_le _)
  have hmid : ∀ i, i < upto (notB tagB) s 0 → tagB (bt s i) = true := fun i hi => by
    have := upto_mid (stop := notB tagB) (s := s) (i := 0) (Nat.zero_le i) hi
    unfold notB at this
    simpa using this
  by_cases h : upto (notB tagB) s 0 = s.size
  · by_cases h0 : s.size = 0
    · obtain rfl : s = ⟨#[]⟩ := by cases s with | mk d => rw [show d = #[] from Array.eq_empty_of_size_eq_zero h0]
      have : tagFull ⟨#[]⟩ = false := by decide
      rw [this]
      exact rIsTagNil_any w
    · have : tagFull s = isTagB s := by unfold tagFull; rw [decide_eq_true h]; rfl
      rw [this]
      exact rIsTag_any s w hs (by omega) fun i hi => hmid i (by omega)
  · have : tagFull s = false := by unfold tagFull; rw [decide_eq_false h]; rfl
    rw [this]
    have ha := upto_at (stop := notB tagB) (s := s) (i := 0) (by omega)
    exact rIsTagNo_any s w hs (upto (notB tagB) s 0) (by omega) hmid (by have h2 : (!tagB (bt s (upto (notB tagB) s 0))) = true := ha; simpa using h2)
end Go.Proofs.YtdabgfjglkoadaaGreatDoor
namespace Go.Proofs.YtdabgfjglkoadaaGreatDoor
open Go.RowKit

set_option maxHeartbeats 4000000 in
set_option maxRecDepth 100000 in
/-- the reference's zero -/
theorem zero_any (v : Vl) (Ai : Option Addr) (ni ci : Nat) (w : World) (B : Nat) (hB : B ≤ w.heap.size) (hv : RV w B (.slice Ai ni ci) v.items) :
    Calls Tryz.prog 34 #[AV (v, .slice Ai ni ci)] w fun e w' => e = .returned (.bool (zeroB v)) ∧ Below w.heap.size w w' := by
  obtain ⟨d, hd⟩ := hv
  obtain ⟨wb, hwb⟩ : ∃ wb, wb = w.alloc (.cells #[.int .i64 v.kind, .int .i64 v.int_, .int .i64 v.to_, .string v.text, .slice Ai ni ci] 24) := ⟨_, rfl⟩
  have hbb : Below w.heap.size w wb := by rw [hwb]; exact (Below.refl _ _).alloc (Nat.le_refl _) _
  have kb : Blk wb w.heap.size 24 #[.int .i64 v.kind, .int .i64 v.int_, .int .i64 v.to_, .string v.text, .slice Ai ni ci] := by rw [hwb]; exact Blk.new _ _ _
  have HS := Lib.hid (sameRef_any d (v, .slice Ai ni ci) (.mk 0 0 0 ⟨#[]⟩ [], .slice none 0 0) wb B (Nat.le_trans hB hbb.size) (hd.below (hbb.mono hB)) (by
    cases d with
    | zero => exact ⟨rfl, none, 0, rfl⟩
    | succ d => exact ⟨none, 0, 0, [], rfl, rfl, rfl, ⟨Nat.le_refl _, by omega⟩, ⟨rfl, fun h => absurd h (by omega)⟩, fun x hx => by cases hx⟩))
  have hz : sameV v (.mk 0 0 0 ⟨#[]⟩ []) = zeroB v := by
    obtain ⟨k, i, t, s, l⟩ := v
    rw [sameV]
    unfold zeroB
    rw [dec_toList, show (⟨#[]⟩ : ByteArray).toList = [] from ByteArray.toList_eq _]
    cases l with
    | nil => rw [sameL]; rfl
    | cons a l =>
      have h : sameL (a :: l) [] = false := by rw [sameL] <;> simp
      rw [h]; rfl
  rw [show ((v, Value.slice Ai ni ci) : Vl × Value).1 = v from rfl, hz] at HS
  unfold AV at HS
  dsimp only [Vl.kind, Vl.int_, Vl.to_, Vl.text] at HS
  have HB := Lib.hid hbb
  have HWB := Lib.hid hwb
  have x0 := kb.cell 0
  have x1 := kb.cell 1
  have x2 := kb.cell 2
  have x3 := kb.cell 3
  have x4 := kb.cell 4
  clear hwb hbb kb hz hd
  unfold AV
  dsimp only
  go_enter Tryz.func34, Tryz.ntmps34
  go_upto_region 1 with fail
  rw [← HWB.out]
  go_wp2_with fail
  refine HS.out.mono ?_
  rintro e w1 ⟨rfl, hb⟩
  have HB2 : Hid (Below w.heap.size w w1) := HB.out.trans (hb.mono HB.out.size)
  clear hb
  go_wp2_with fail
  go_ret
  exact ⟨rfl, HB2.out⟩
end Go.Proofs.YtdabgfjglkoadaaGreatDoor
namespace Go.Proofs.YtdabgfjglkoadaaGreatDoor
open Go.RowKit

set_option maxHeartbeats 4000000 in
set_option maxRecDepth 100000 in
/-- ask.uses -/
theorem uses_any (o : Int) (w : World) :
    Calls Tryz.prog 62 #[.int .i64 o] w fun e w' => e = .returned (.tuple #[.bool (uN o), .bool (uT o), .bool (uV o), .bool (uM o), .int .i64 (uK o)]) ∧ w' = w := by
  by_cases h1 : o = 1
  · subst h1
    go_enter Tryz.func62, Tryz.ntmps62
    go_wp2_with fail
    exact bodyPost_ret (v := .tuple #[.bool false, .bool false, .bool false, .bool false, .int .i64 (-1)]) (by simp [results, Tryz.results62, go_sem]) rfl ⟨rfl, rfl⟩
  by_cases h2 : o = 2
  · subst h2
    go_enter Tryz.func62, Tryz.ntmps62
    go_wp2_with fail
    exact bodyPost_ret (v := .tuple #[.bool false, .bool false, .bool false, .bool false, .int .i64 (-1)]) (by simp [results, Tryz.results62, go_sem]) rfl ⟨rfl, rfl⟩
  by_cases h3 : o = 3
  · subst h3
    go_enter Tryz.func62, Tryz.ntmps62
    go_wp2_with fail
    exact bodyPost_ret (v := .tuple #[.bool false, .bool false, .bool false, .bool false, .int .i64 1]) (by simp [results, Tryz.results62, go_sem]) rfl ⟨rfl, rfl⟩
  by_cases h15 : o = 15
  · subst h15
    go_enter Tryz.func62, Tryz.ntmps62
    go_wp2_with fail
    exact bodyPost_ret (v := .tuple #[.bool false, .bool false, .bool false, .bool false, .int .i64 1]) (by simp [results, Tryz.results62, go_sem]) rfl ⟨rfl, rfl⟩
  by_cases h16 : o = 16
  · subst h16
    go_enter Tryz.func62, Tryz.ntmps62
    go_wp2_with fail
    exact bodyPost_ret (v := .tuple #[.bool false, .bool false, .bool false, .bool false, .int .i64 1]) (by simp [results, Tryz.results62, go_sem]) rfl ⟨rfl, rfl⟩
  by_cases h17 : o = 17
  · subst h17
    go_enter Tryz.func62, Tryz.ntmps62
    go_wp2_with fail
    exact bodyPost_ret (v := .tuple #[.bool false, .bool false, .bool false, .bool false, .int .i64 1]) (by simp [results, Tryz.results62, go_sem]) rfl ⟨rfl, rfl⟩
  by_cases h4 : o = 4
  · subst h4
    go_enter Tryz.func62, Tryz.ntmps62
    go_wp2_with fail
    exact bodyPost_ret (v := .tuple #[.bool false, .bool true, .bool false, .bool false, .int .i64 0]) (by simp [results, Tryz.results62, go_sem]) rfl ⟨rfl, rfl⟩
  by_cases h5 : o = 5
  · subst h5
    go_enter Tryz.func62, Tryz.ntmps62
    go_wp2_with fail
    exact bodyPost_ret (v := .tuple #[.bool false, .bool true, .bool false, .bool false, .int .i64 0]) (by simp [results, Tryz.results62, go_sem]) rfl ⟨rfl, rfl⟩
  by_cases h6 : o = 6
  · subst h6
    go_enter Tryz.func62, Tryz.ntmps62
    go_wp2_with fail
    exact bodyPost_ret (v := .tuple #[.bool false, .bool true, .bool false, .bool false, .int .i64 0]) (by simp [results, Tryz.results62, go_sem]) rfl ⟨rfl, rfl⟩
  by_cases h7 : o = 7
  · subst h7
    go_enter Tryz.func62, Tryz.ntmps62
    go_wp2_with fail
    exact bodyPost_ret (v := .tuple #[.bool false, .bool true, .bool false, .bool false, .int .i64 0]) (by simp [results, Tryz.results62, go_sem]) rfl ⟨rfl, rfl⟩
  by_cases h9 : o = 9
  · subst h9
    go_enter Tryz.func62, Tryz.ntmps62
    go_wp2_with fail
    exact bodyPost_ret (v := .tuple #[.bool false, .bool false, .bool false, .bool true, .int .i64 0]) (by simp [results, Tryz.results62, go_sem]) rfl ⟨rfl, rfl⟩
  by_cases h10 : o = 10
  · subst h10
    go_enter Tryz.func62, Tryz.ntmps62
    go_wp2_with fail
    exact bodyPost_ret (v := .tuple #[.bool false, .bool false, .bool false, .bool true, .int .i64 0]) (by simp [results, Tryz.results62, go_sem]) rfl ⟨rfl, rfl⟩
  by_cases h11 : o = 11
  · subst h11
    go_enter Tryz.func62, Tryz.ntmps62
    go_wp2_with fail
    exact bodyPost_ret (v := .tuple #[.bool true, .bool false, .bool false, .bool false, .int .i64 0]) (by simp [results, Tryz.results62, go_sem]) rfl ⟨rfl, rfl⟩
  by_cases h12 : o = 12
  · subst h12
    go_enter Tryz.func62, Tryz.ntmps62
    go_wp2_with fail
    exact bodyPost_ret (v := .tuple #[.bool true, .bool false, .bool true, .bool false, .int .i64 0]) (by simp [results, Tryz.results62, go_sem]) rfl ⟨rfl, rfl⟩
  by_cases h13 : o = 13
  · subst h13
    go_enter Tryz.func62, Tryz.ntmps62
    go_wp2_with fail
    exact bodyPost_ret (v := .tuple #[.bool true, .bool false, .bool true, .bool false, .int .i64 0]) (by simp [results, Tryz.results62, go_sem]) rfl ⟨rfl, rfl⟩
  by_cases h14 : o = 14
  · subst h14
    go_enter Tryz.func62, Tryz.ntmps62
    go_wp2_with fail
    exact bodyPost_ret (v := .tuple #[.bool true, .bool false, .bool true, .bool false, .int .i64 0]) (by simp [results, Tryz.results62, go_sem]) rfl ⟨rfl, rfl⟩
  have e1 : (o == 1) = false := by simpa using h1
  have e2 : (o == 2) = false := by simpa using h2
  have e3 : (o == 3) = false := by simpa using h3
  have e15 : (o == 15) = false := by simpa using h15
  have e16 : (o == 16) = false := by simpa using h16
  have e17 : (o == 17) = false := by simpa using h17
  have e4 : (o == 4) = false := by simpa using h4
  have e5 : (o == 5) = false := by simpa using h5
  have e6 : (o == 6) = false := by simpa using h6
  have e7 : (o == 7) = false := by simpa using h7
  have e9 : (o == 9) = false := by simpa using h9
  have e10 : (o == 10) = false := by simpa using h10
  have e11 : (o == 11) = false := by simpa using h11
  have e12 : (o == 12) = false := by simpa using h12
  have e13 : (o == 13) = false := by simpa using h13
  have e14 : (o == 14) = false := by simpa using h14
  have HV : Hid (uN o = false ∧ uT o = false ∧ uV o = false ∧ uM o = false ∧ uK o = 0) := by
    refine ⟨decide_eq_false (by omega), decide_eq_false (by omega), decide_eq_false (by omega), decide_eq_false (by omega), ?_⟩
    unfold uK
    rw [if_neg (by omega), if_neg (by omega)]
  clear h1 h2 h3 h15 h16 h17 h4 h5 h6 h7 h9 h10 h11 h12 h13 h14
  go_enter Tryz.func62, Tryz.ntmps62
  go_wp2_with fail
  refine bodyPost_ret (v := .tuple #[.bool false, .bool false, .bool false, .bool false, .int .i64 0]) (by simp [results, Tryz.results62, go_sem]) rfl ⟨?_, rfl⟩
  obtain ⟨a1, a2, a3, a4, a5⟩ := HV.out
  rw [a1, a2, a3, a4, a5]
end Go.Proofs.YtdabgfjglkoadaaGreatDoor
