/-
  DERIVED. The walk of text.linkAt. Conditions: a place in the text.
  strings.Join over a row of the call's own. Conditions: sizes.
  By an AI agent.
-/
import Derived.Test.YtnlonleljbbgoaaGreatDoorKe08
import Derived.Test.YtnlonleljbbgoaaGreatDoorKe10
import Derived.Test.YtnlonleljbbgoaaGreatDoorKe06
import Derived.Test.YtnlonleljbbgoaaGreatDoorKe09
namespace Go.Proofs.YtnlonleljbbgoaaGreatDoor
open Go.RowKit

theorem tokL_head {s : ByteArray} {a : Nat} (h : ¬ (bt s a = 91 ∧ bt s (a + 1) = 91)) : tokL s a = none := by
  unfold tokL; rw [if_neg (fun g => h ⟨g.1, g.2.1⟩)]
theorem tokL_tgt {s : ByteArray} {a : Nat} (h : isTgt (s.extract (a + 2) (upto (notB tgtB) s (a + 2))) = false) : tokL s a = none := by
  unfold tokL; rw [if_neg (fun g => by rw [h] at g; cases g.2.2)]
theorem tokL_short {s : ByteArray} {a e : Nat} (he : upto (notB tgtB) s (a + 2) = e) (h1 : bt s a = 91) (h2 : bt s (a + 1) = 91) (h3 : isTgt (s.extract (a + 2) e) = true) (h4 : bt s e = 93) (h5 : bt s (e + 1) = 93) :
    tokL s a = some ⟨4, a, e + 2, s.extract (a + 2) e, noB, 0, false⟩ := by
  subst he; unfold tokL; rw [if_pos ⟨h1, h2, h3⟩, if_pos ⟨h4, h5⟩]
theorem tokL_long {s : ByteArray} {a e : Nat} (he : upto (notB tgtB) s (a + 2) = e) (h1 : bt s a = 91) (h2 : bt s (a + 1) = 91) (h3 : isTgt (s.extract (a + 2) e) = true) (h4 : ¬ (bt s e = 93 ∧ bt s (e + 1) = 93)) :
    tokL s a = if bt s e = 124 ∧ upto (isAny [91, 93]) s (e + 1) < s.size ∧ e + 1 < upto (isAny [91, 93]) s (e + 1) ∧ bt s (upto (isAny [91, 93]) s (e + 1)) = 93 ∧ bt s (upto (isAny [91, 93]) s (e + 1) + 1) = 93 then some ⟨4, a, upto (isAny [91, 93]) s (e + 1) + 2, s.extract (a + 2) e, s.extract (e + 1) (upto (isAny [91, 93]) s (e + 1)), 0, false⟩ else none := by
  subst he; unfold tokL; rw [if_pos ⟨h1, h2, h3⟩, if_neg h4]

theorem indexAny_ext (s : ByteArray) (a : Nat) (l : List UInt8) : Lib.indexAny (s.extract a s.size).data.toList l = if upto (isAny l) s a < s.size then (upto (isAny l) s a : Int) - a else -1 := by
  rw [ext_list]; exact indexAny_upto s l _ a rfl

/-- at the end of the target -/
structure LinkEnd (s : ByteArray) (a e : Nat) : Prop where
  ae : a + 2 ≤ e
  es : e ≤ s.size
  up : upto (notB tgtB) s (a + 2) = e
  b0 : bt s a = 91
  b1 : bt s (a + 1) = 91

theorem prefix_two (s : ByteArray) (a : Nat) (c : UInt8) {x : Int} (hx : (c.toNat : Int) = x) {b : Bool} (h : (decide (bt s a = x ∧ bt s (a + 1) = x)) = b) : Lib.hasPrefix (s.extract a s.size).data.toList [c, c] = b := by
  rw [hasPrefix_two, hx, ← h, Bool.eq_iff_iff]; simp
theorem prefix_one (s : ByteArray) (a : Nat) (c : UInt8) {x : Int} (hx : (c.toNat : Int) = x) {b : Bool} (h : (decide (bt s a = x)) = b) : Lib.hasPrefix (s.extract a s.size).data.toList [c] = b := by
  rw [hasPrefix_one, hx, ← h, Bool.eq_iff_iff]; simp

set_option maxHeartbeats 4000000 in
set_option maxRecDepth 100000 in
theorem linkAt_any (s : ByteArray) (a : Nat) (w : World) (hs : s.size ≤ 4294967280) (ha : a < s.size) :
    Calls Tryz.prog 296 #[.string s, .int .i64 a] w fun e w' => e = .returned (tokV (tokL s a)) ∧ Below w.heap.size w w' := by
  have hi0 : (0 : Int) ≤ (a : Int) := by omega
  have hi1 : (a : Int) ≤ (s.size : Int) := by omega
  cases hP : decide (bt s a = 91 ∧ bt s (a + 1) = 91)
  · have HP := Lib.hid (prefix_two s a 91 rfl hP)
    have HV : Hid (Ending.returned (.tuple #[spZ, .bool false]) = .returned (tokV (tokL s a))) := by show _ = _; rw [tokL_head (by simpa using hP)]; rfl
    clear hP
    go_enter Tryz.func296, Tryz.ntmps296
    go_wp2_with fail
    refine (Tryz.strings_HasPrefix _ _ _).mono ?_
    rintro e w1 ⟨rfl, rfl⟩
    rw [show (⟨#[91, 91]⟩ : ByteArray).data.toList = [91, 91] from rfl, HP.out]
    go_wp2
    refine bodyPost_ret (v := .tuple #[spZ, .bool false]) (by simp [results, Tryz.results296, go_sem, spZ]) rfl ⟨HV.out, (Below.refl _ _).alloc (Nat.le_refl _) _⟩
  · have HP := Lib.hid (prefix_two s a 91 rfl hP)
    have hb : bt s a = 91 ∧ bt s (a + 1) = 91 := by simpa using hP
    have ha2 : a + 2 ≤ s.size := by have := bt_in (s := s) (i := a + 1) (by omega); omega
    have HB := Lib.hid hb
    clear hP hb
    go_enter Tryz.func296, Tryz.ntmps296
    go_wp2_with fail
    refine (Tryz.strings_HasPrefix _ _ _).mono ?_
    rintro e w1 ⟨rfl, rfl⟩
    rw [show (⟨#[91, 91]⟩ : ByteArray).data.toList = [91, 91] from rfl, HP.out]
    go_wp2
    go_loop [6] (fun i => ∃ k : Nat, a + 2 ≤ k ∧ k ≤ s.size ∧ i = .int .i64 k ∧ Hid (upto (notB tgtB) s k = upto (notB tgtB) s (a + 2))) (fun i => s.size - (intOf i).toNat)
    case atStart => exact ⟨a + 2, Nat.le_refl _, ha2, rfl, rfl⟩
    case round =>
      obtain ⟨k, hk0, hk, rfl, hu⟩ := hrel
      have ik0 : (0 : Int) ≤ (k : Int) := by omega
      have ways : (∃ h : k < s.size, tgtB (s[k].toNat : Int) = true) ∨ (∃ h : k < s.size, tgtB (s[k].toNat : Int) = false) ∨ s.size ≤ k := by
        by_cases h : k < s.size
        · cases hq : tgtB (s[k].toNat : Int)
          · exact .inr (.inl ⟨h, hq⟩)
          · exact .inl ⟨h, hq⟩
        · exact .inr (.inr (by omega))
      rcases ways with ⟨hlt, hq⟩ | ways
      · have hc0 : (0 : Int) ≤ (s[k].toNat : Int) := by omega
        have hc1 : (s[k].toNat : Int) ≤ 255 := by have := (s[k]).toNat_lt; omega
        have ik1 : (k : Int) < (s.size : Int) := by omega
        have HU : Hid (upto (notB tgtB) s (k + 1) = upto (notB tgtB) s (a + 2)) := (upto_go hlt (by rw [bt_at hlt]; unfold notB; rw [hq]; rfl)).symm.trans hu.out
        go_wp2_with fail
        refine (inTarget_any _ _ hc0 hc1).mono ?_
        rintro e w1 ⟨rfl, hw⟩
        rw [hq, ← hw]
        clear hw
        go_wp2
        go_round
        case rel => exact ⟨k + 1, by omega, by omega, by go_num, HU⟩
        case measure => simp [intOf]; omega
      · have L : Hid (LinkEnd s a k) := by
          refine ⟨hk0, hk, ?_, HB.out.1, HB.out.2⟩
          rw [← hu.out]
          rcases ways with ⟨h, hq⟩ | h
          · exact upto_stop (by rw [bt_at h]; unfold notB; rw [hq]; rfl)
          · exact upto_out h
        have lt0 : (a : Int) + 2 ≤ (k : Int) := by omega
        have lt1 : (k : Int) ≤ (s.size : Int) := by omega
        clear HB HP hu
        rcases ways with ⟨hlt, hq⟩ | hge
        · have hc0 : (0 : Int) ≤ (s[k].toNat : Int) := by omega
          have hc1 : (s[k].toNat : Int) ≤ 255 := by have := (s[k]).toNat_lt; omega
          have ik1 : (k : Int) < (s.size : Int) := by omega
          go_wp2_with fail
          refine (inTarget_any _ _ hc0 hc1).mono ?_
          rintro e w1 ⟨rfl, hw⟩
          rw [hq, ← hw]
          clear hw
          have hsx : (s.extract (a + 2) k).size ≤ 4294967280 := by rw [ByteArray.size_extract]; omega
          go_wp2_with fail
          refine (isTarget_any (s.extract (a + 2) k) _ hsx).mono ?_
          rintro e w1 ⟨rfl, hw⟩
          rw [← hw]
          clear hw
          cases hT : isTgt (s.extract (a + 2) k)
          · have HV : Hid (Ending.returned (.tuple #[spZ, .bool false]) = .returned (tokV (tokL s a))) := by show _ = _; rw [tokL_tgt (by rw [L.out.up]; exact hT)]; rfl
            go_wp2
            refine bodyPost_ret (v := .tuple #[spZ, .bool false]) (by simp [results, Tryz.results296, go_sem, spZ]) rfl ⟨HV.out, (Below.refl _ _).alloc (Nat.le_refl _) _⟩
          · have HT := Lib.hid hT
            clear hT
            cases h1 : decide (bt s k = 93 ∧ bt s (k + 1) = 93)
            · have H1 := Lib.hid (prefix_two s k 93 rfl h1)
              have N1 : Hid (¬ (bt s k = 93 ∧ bt s (k + 1) = 93)) := by simpa [Hid] using h1
              clear h1
              go_wp2_with fail
              refine (Tryz.strings_HasPrefix _ _ _).mono ?_
              rintro e w1 ⟨rfl, rfl⟩
              rw [show (⟨#[93, 93]⟩ : ByteArray).data.toList = [93, 93] from rfl, H1.out]
              cases h2 : decide (bt s k = 124)
              · have H2 := Lib.hid (prefix_one s k 124 rfl h2)
                have HV : Hid (Ending.returned (.tuple #[spZ, .bool false]) = .returned (tokV (tokL s a))) := by show _ = _; rw [tokL_long L.out.up L.out.b0 L.out.b1 HT.out N1.out, if_neg (fun g => by simp at h2; exact h2 g.1)]; rfl
                clear h2
                go_wp2_with fail
                refine (Tryz.strings_HasPrefix _ _ _).mono ?_
                rintro e w1 ⟨rfl, rfl⟩
                rw [show (⟨#[124]⟩ : ByteArray).data.toList = [124] from rfl, H2.out]
                go_wp2
                refine bodyPost_ret (v := .tuple #[spZ, .bool false]) (by simp [results, Tryz.results296, go_sem, spZ]) rfl ⟨HV.out, (Below.refl _ _).alloc (Nat.le_refl _) _⟩
              · have H2 := Lib.hid (prefix_one s k 124 rfl h2)
                have hk124 : bt s k = 124 := by simpa using h2
                have hks : k < s.size := bt_in (by omega)
                have HK := Lib.hid hk124
                clear h2 hk124
                have ik2 : (k : Int) + 1 ≤ (s.size : Int) := by omega
                go_wp2_with fail
                refine (Tryz.strings_HasPrefix _ _ _).mono ?_
                rintro e w1 ⟨rfl, rfl⟩
                rw [show (⟨#[124]⟩ : ByteArray).data.toList = [124] from rfl, H2.out]
                go_wp2_with fail
                have hsy : (s.extract (k + 1) s.size).size ≤ 4294967280 := by rw [ByteArray.size_extract]; omega
                refine (indexAny_br _ _ hsy).mono ?_
                rintro e w1 ⟨rfl, hb1⟩
                have hbel : Below w.heap.size w w1 := ((Below.refl _ _).alloc (Nat.le_refl _) _).trans (hb1.mono (by simp))
                have K : Blk w1 w.heap.size 132 #[.int .i64 0, .int .i64 0, .int .i64 0, .string ⟨#[]⟩, .string ⟨#[]⟩, .int .i64 0, .bool false] := (Blk.new _ _ _).below hb1 (by simp)
                have q0 := K.cell 0
                have q1 := K.cell 1
                have q2 := K.cell 2
                have q3 := K.cell 3
                have q4 := K.cell 4
                have q5 := K.cell 5
                have q6 := K.cell 6
                have f0 := K.frozen 0
                have f1 := K.frozen 1
                have f2 := K.frozen 2
                have f3 := K.frozen 3
                have f4 := K.frozen 4
                have f5 := K.frozen 5
                have f6 := K.frozen 6
                clear K hb1 hsx hsy
                have hJ := upto_ge (isAny [91, 93]) s (k + 1)
                have hx := indexAny_ext s (k + 1) [91, 93]
                by_cases c2 : upto (isAny [91, 93]) s (k + 1) < s.size ∧ k + 1 < upto (isAny [91, 93]) s (k + 1)
                · obtain ⟨m, hm⟩ : ∃ m : Nat, upto (isAny [91, 93]) s (k + 1) = k + 1 + m := ⟨upto (isAny [91, 93]) s (k + 1) - (k + 1), by omega⟩
                  have hm1 : 1 ≤ m := by omega
                  have hm2 : k + 1 + m < s.size := by omega
                  have hxm : Lib.indexAny (s.extract (k + 1) s.size).data.toList [91, 93] = (m : Int) := by rw [hx, if_pos (by omega), hm]; omega
                  rw [hxm]
                  cases h3 : decide (bt s (k + 1 + m) = 93 ∧ bt s (k + 1 + m + 1) = 93)
                  · have H3 := Lib.hid (prefix_two s (k + 1 + m) 93 rfl h3)
                    have HV : Hid (Ending.returned (.tuple #[spZ, .bool false]) = .returned (tokV (tokL s a))) := by show _ = _; rw [tokL_long L.out.up L.out.b0 L.out.b1 HT.out N1.out, if_neg (fun g => by rw [hm] at g; simp only [decide_eq_false_iff_not] at h3; exact h3 ⟨g.2.2.2.1, g.2.2.2.2⟩)]; rfl
                    clear h3 c2 hJ hx hm hxm
                    go_wp2_with fail
                    refine (Tryz.strings_HasPrefix _ _ _).mono ?_
                    rintro e w2 ⟨rfl, hw⟩
                    rw [hw]
                    clear hw
                    rw [show (⟨#[93, 93]⟩ : ByteArray).data.toList = [93, 93] from rfl, H3.out]
                    go_wp2
                    refine bodyPost_ret (v := .tuple #[spZ, .bool false]) (by simp [results, Tryz.results296, go_sem, spZ, q0, q1, q2, q3, q4, q5, q6]) rfl ⟨HV.out, ((((((hbel.setCell (Nat.le_refl _) _).setCell (Nat.le_refl _) _).setCell (Nat.le_refl _) _).setCell (Nat.le_refl _) _).setCell (Nat.le_refl _) _).setCell (Nat.le_refl _) _).setCell (Nat.le_refl _) _⟩
                  · have H3 := Lib.hid (prefix_two s (k + 1 + m) 93 rfl h3)
                    have HV : Hid (Ending.returned (.tuple #[.agg #[.int .i64 4, .int .i64 a, .int .i64 (k + m + 3), .string (s.extract (a + 2) k), .string (s.extract (k + 1) (k + 1 + m)), .int .i64 0, .bool false], .bool true]) = .returned (tokV (tokL s a))) := by
                      show _ = _
                      simp only [decide_eq_true_eq] at h3
                      rw [tokL_long L.out.up L.out.b0 L.out.b1 HT.out N1.out, if_pos ⟨HK.out, c2.1, c2.2, by rw [hm]; exact h3.1, by rw [hm]; exact h3.2⟩, hm]
                      unfold tokV spV
                      simp only
                      rw [show ((k + 1 + m + 2 : Nat) : Int) = (k : Int) + m + 3 by omega]
                    clear h3 c2 hJ hx hm hxm
                    go_wp2_with fail
                    refine (Tryz.strings_HasPrefix _ _ _).mono ?_
                    rintro e w2 ⟨rfl, hw⟩
                    rw [hw]
                    clear hw
                    rw [show (⟨#[93, 93]⟩ : ByteArray).data.toList = [93, 93] from rfl, H3.out]
                    go_wp2
                    refine bodyPost_ret (v := (.tuple #[.agg #[.int .i64 4, .int .i64 a, .int .i64 (k + m + 3), .string (s.extract (a + 2) k), .string (s.extract (k + 1) (k + 1 + m)), .int .i64 0, .bool false], .bool true])) (by simp [results, Tryz.results296, go_sem, q0, q1, q2, q3, q4, q5, q6]) rfl ⟨HV.out, ((((((hbel.setCell (Nat.le_refl _) _).setCell (Nat.le_refl _) _).setCell (Nat.le_refl _) _).setCell (Nat.le_refl _) _).setCell (Nat.le_refl _) _).setCell (Nat.le_refl _) _).setCell (Nat.le_refl _) _⟩
                · obtain ⟨x, hxx, hx0⟩ : ∃ x : Int, Lib.indexAny (s.extract (k + 1) s.size).data.toList [91, 93] = x ∧ x < 1 := by
                    refine ⟨_, rfl, ?_⟩
                    rw [hx]
                    split <;> omega
                  have HV : Hid (Ending.returned (.tuple #[spZ, .bool false]) = .returned (tokV (tokL s a))) := by show _ = _; rw [tokL_long L.out.up L.out.b0 L.out.b1 HT.out N1.out, if_neg (fun g => c2 ⟨g.2.1, g.2.2.1⟩)]; rfl
                  rw [hxx]
                  clear c2 hJ hx hxx
                  go_wp2
                  refine bodyPost_ret (v := .tuple #[spZ, .bool false]) (by simp [results, Tryz.results296, go_sem, spZ, q0, q1, q2, q3, q4, q5, q6]) rfl ⟨HV.out, ((((((hbel.setCell (Nat.le_refl _) _).setCell (Nat.le_refl _) _).setCell (Nat.le_refl _) _).setCell (Nat.le_refl _) _).setCell (Nat.le_refl _) _).setCell (Nat.le_refl _) _).setCell (Nat.le_refl _) _⟩
            · have H1 := Lib.hid (prefix_two s k 93 rfl h1)
              simp only [decide_eq_true_eq] at h1
              have HV : Hid (Ending.returned (.tuple #[.agg #[.int .i64 4, .int .i64 a, .int .i64 (k + 2), .string (s.extract (a + 2) k), .string ⟨#[]⟩, .int .i64 0, .bool false], .bool true]) = .returned (tokV (tokL s a))) := by show _ = _; rw [tokL_short L.out.up L.out.b0 L.out.b1 HT.out h1.1 h1.2]; rfl
              clear h1
              go_wp2_with fail
              refine (Tryz.strings_HasPrefix _ _ _).mono ?_
              rintro e w1 ⟨rfl, rfl⟩
              rw [show (⟨#[93, 93]⟩ : ByteArray).data.toList = [93, 93] from rfl, H1.out]
              go_wp2
              refine bodyPost_ret (v := (.tuple #[.agg #[.int .i64 4, .int .i64 a, .int .i64 (k + 2), .string (s.extract (a + 2) k), .string ⟨#[]⟩, .int .i64 0, .bool false], .bool true])) (by simp [results, Tryz.results296, go_sem]) rfl ⟨HV.out, (Below.refl _ _).alloc (Nat.le_refl _) _⟩
        · have hsx : (s.extract (a + 2) k).size ≤ 4294967280 := by rw [ByteArray.size_extract]; omega
          go_wp2_with fail
          refine (isTarget_any (s.extract (a + 2) k) _ hsx).mono ?_
          rintro e w1 ⟨rfl, hw⟩
          rw [← hw]
          clear hw
          cases hT : isTgt (s.extract (a + 2) k)
          · have HV : Hid (Ending.returned (.tuple #[spZ, .bool false]) = .returned (tokV (tokL s a))) := by show _ = _; rw [tokL_tgt (by rw [L.out.up]; exact hT)]; rfl
            go_wp2
            refine bodyPost_ret (v := .tuple #[spZ, .bool false]) (by simp [results, Tryz.results296, go_sem, spZ]) rfl ⟨HV.out, (Below.refl _ _).alloc (Nat.le_refl _) _⟩
          · have HT := Lib.hid hT
            clear hT
            cases h1 : decide (bt s k = 93 ∧ bt s (k + 1) = 93)
            · have H1 := Lib.hid (prefix_two s k 93 rfl h1)
              have N1 : Hid (¬ (bt s k = 93 ∧ bt s (k + 1) = 93)) := by simpa [Hid] using h1
              clear h1
              go_wp2_with fail
              refine (Tryz.strings_HasPrefix _ _ _).mono ?_
              rintro e w1 ⟨rfl, rfl⟩
              rw [show (⟨#[93, 93]⟩ : ByteArray).data.toList = [93, 93] from rfl, H1.out]
              cases h2 : decide (bt s k = 124)
              · have H2 := Lib.hid (prefix_one s k 124 rfl h2)
                have HV : Hid (Ending.returned (.tuple #[spZ, .bool false]) = .returned (tokV (tokL s a))) := by show _ = _; rw [tokL_long L.out.up L.out.b0 L.out.b1 HT.out N1.out, if_neg (fun g => by simp at h2; exact h2 g.1)]; rfl
                clear h2
                go_wp2_with fail
                refine (Tryz.strings_HasPrefix _ _ _).mono ?_
                rintro e w1 ⟨rfl, rfl⟩
                rw [show (⟨#[124]⟩ : ByteArray).data.toList = [124] from rfl, H2.out]
                go_wp2
                refine bodyPost_ret (v := .tuple #[spZ, .bool false]) (by simp [results, Tryz.results296, go_sem, spZ]) rfl ⟨HV.out, (Below.refl _ _).alloc (Nat.le_refl _) _⟩
              · have H2 := Lib.hid (prefix_one s k 124 rfl h2)
                have hk124 : bt s k = 124 := by simpa using h2
                have hks : k < s.size := bt_in (by omega)
                omega
            · simp only [decide_eq_true_eq] at h1
              have hks : k < s.size := bt_in (by omega)
              omega
end Go.Proofs.YtnlonleljbbgoaaGreatDoor
namespace Go.Proofs.YtnlonleljbbgoaaGreatDoor
open Go.RowKit

def joinB (xs : List ByteArray) (sep : ByteArray) : ByteArray := ⟨(Lib.join (xs.map (·.data.toList)) sep.data.toList).toArray⟩
theorem joinB_size (xs : List ByteArray) (sep : ByteArray) : (joinB xs sep).size = (Lib.join (xs.map (·.data.toList)) sep.data.toList).length := by
  show (Lib.join _ _).toArray.size = _
  simp
theorem joinB_nil (sep : ByteArray) : joinB [] sep = ⟨#[]⟩ := rfl
theorem joinB_one (x sep : ByteArray) : joinB [x] sep = x := by
  unfold joinB
  rw [List.map_cons, List.map_nil, Lib.join_one]
theorem joinB_cons (x y : ByteArray) (r : List ByteArray) (sep : ByteArray) : joinB (x :: y :: r) sep = x ++ sep ++ joinB (y :: r) sep := by
  apply ByteArray.ext
  unfold joinB
  simp only [List.map_cons]
  rw [Lib.join_cons, Lib.join_cons]
  simp [Lib.joinTail]
theorem joinB_snoc : ∀ (xs : List ByteArray) (y sep : ByteArray), xs ≠ [] → joinB (xs ++ [y]) sep = joinB xs sep ++ sep ++ y
  | [], _, _, h => absurd rfl h
  | [x], y, sep, _ => by
    rw [show [x] ++ [y] = [x, y] from rfl, joinB_cons, joinB_one, joinB_one]
  | x :: z :: r, y, sep, _ => by
    rw [show (x :: z :: r) ++ [y] = x :: z :: (r ++ [y]) from rfl, joinB_cons, joinB_cons, show z :: (r ++ [y]) = (z :: r) ++ [y] from rfl, joinB_snoc (z :: r) y sep (by simp)]
    simp only [ByteArray.append_assoc]
theorem joinB_le (sep : ByteArray) (k : Nat) : ∀ (xs : List ByteArray), (∀ x ∈ xs, x.size ≤ k) → (joinB xs sep).size ≤ xs.length * (k + sep.size)
  | [], _ => by rw [joinB_nil]; exact Nat.zero_le _
  | [x], h => by
    rw [joinB_one, List.length_singleton]
    have := h x (by simp)
    omega
  | x :: y :: r, h => by
    have ih := joinB_le sep k (y :: r) (fun z hz => h z (by simp [hz]))
    have hx := h x (by simp)
    rw [joinB_cons, ByteArray.size_append, ByteArray.size_append, List.length_cons, Nat.succ_mul]
    omega
theorem str_one (s : ByteArray) : ∀ u ∈ [Value.string s], u.oneCell' = true := fun u hu => by rw [List.mem_singleton.1 hu]; rfl
theorem take_str {α : Type} (f : α → ByteArray) {xs : List α} {k : Nat} {x : α} (h : xs[k]? = some x) : (((xs.take (k + 1)).map f).map Value.string) = ((xs.take k).map f).map .string ++ [.string (f x)] := by
  rw [List.take_add_one, h]
  simp
theorem join_own (xs : List ByteArray) (sep : ByteArray) (w : World) (base n : Nat) (v : Value) (h : w.ownsRow base 9 1 v n (xs.map .string)) (hn : n = xs.length) (hb : n ≤ 4294967280) (hs : (joinB xs sep).size ≤ 4294967280) :
    Calls Tryz.prog 62 #[v, .string sep] w fun e w' => e = .returned (.string (joinB xs sep)) ∧ Below w.heap.size w w' := by
  have hr := own_reads h
  obtain ⟨h1, h2⟩ := h
  have h0 : ∀ A c, n = 0 → Calls Tryz.prog 62 #[.slice A n c, .string sep] w fun e w' => e = .returned (.string (joinB xs sep)) ∧ Below w.heap.size w w' := by
    intro A c h0
    obtain rfl : xs = [] := List.eq_nil_of_length_eq_zero (by omega)
    rw [h0]
    refine (Tryz.strings_Join_none A c sep w).mono ?_
    rintro e w' ⟨rfl, rfl⟩
    exact ⟨rfl, Below.refl _ _⟩
  rcases h2 with ⟨rfl, rfl⟩ | ⟨g, cap, cur, rfl, hg, hh, hnc, _⟩
  · exact h0 none 0 rfl
  · rcases Nat.eq_zero_or_pos n with h3 | h3
    · exact h0 _ _ h3
    · obtain ⟨A, c, e, hrd⟩ := hr
      injection e with e1 e2 e3
      subst e1
      obtain ⟨b, off, e4, hbb, hc⟩ := hrd.plain h3 (by decide)
      injection e4 with e4
      rw [e4]
      have h := Tryz.strings_Join b off cap xs sep w (fun j x hx => hc j (.string x) (by rw [List.getElem?_map, hx]; rfl)) hbb (by omega) (by omega) (by rw [← joinB_size]; omega)
      rw [← hn] at h
      exact h
end Go.Proofs.YtnlonleljbbgoaaGreatDoor
