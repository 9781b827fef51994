/-
  DERIVED. The walk of the reference's used. Conditions: sizes.
  By an AI agent.
-/
import Derived.Test.YtmkicfjcgbfaaaaGreatTe25
import Derived.Deep.DeepCutAuto
namespace Go.Proofs.YtmkicfjcgbfaaaaGreat
open Go.RowKit

set_option maxRecDepth 100000 in
set_option maxHeartbeats 4000000 in
theorem used1_any (id pa at_ fr to_ vk vi vt : Int) (tx nm vs : ByteArray) (A : Option Addr) (n c : Nat) (Q V : Bool) (w : World)
    (hQ : Q = ((vk == 0) && (vi == 0) && (vt == 0) && vs.toList.isEmpty && ((n : Int) == 0)))
    (hV : V = ((fr == 0) && (to_ == 0) && nm.toList.isEmpty && Q)) :
    Calls Tryz.prog 74 #[.agg #[.int .i64 1, .int .i64 id, .int .i64 pa, .int .i64 at_, .int .i64 fr, .int .i64 to_, .string tx, .string nm, .int .i64 vk, .int .i64 vi, .int .i64 vt, .string vs, .slice A n c]] w fun e w' => e = .returned (.bool V) ∧ Below w.heap.size w w' := by
  have HQ := Lib.hid hQ
  have HV := Lib.hid hV
  clear hQ hV
  obtain ⟨wb, hwb⟩ : ∃ wb, wb = (w.alloc (.cells #[.int .i64 1, .int .i64 id, .int .i64 pa, .int .i64 at_, .int .i64 fr, .int .i64 to_, .string tx, .string nm, .int .i64 vk, .int .i64 vi, .int .i64 vt, .string vs, .slice A n c] 31)).alloc (.cells #[.int .i64 vk, .int .i64 vi, .int .i64 vt, .string vs, .slice A n c] 29) := ⟨_, rfl⟩
  have hp0 : Blk wb w.heap.size 31 #[.int .i64 1, .int .i64 id, .int .i64 pa, .int .i64 at_, .int .i64 fr, .int .i64 to_, .string tx, .string nm, .int .i64 vk, .int .i64 vi, .int .i64 vt, .string vs, .slice A n c] := by rw [hwb]; exact (Blk.new w _ _).alloc _
  have hp1 : Blk wb (w.heap.size + 1) 29 #[.int .i64 vk, .int .i64 vi, .int .i64 vt, .string vs, .slice A n c] := by
    rw [hwb]
    have h := Blk.new (w.alloc (.cells #[.int .i64 1, .int .i64 id, .int .i64 pa, .int .i64 at_, .int .i64 fr, .int .i64 to_, .string tx, .string nm, .int .i64 vk, .int .i64 vi, .int .i64 vt, .string vs, .slice A n c] 31)) 29 #[.int .i64 vk, .int .i64 vi, .int .i64 vt, .string vs, .slice A n c]
    simpa only [World.size_alloc] using h
  have HB : Hid (Below w.heap.size w wb) := by rw [hwb]; exact ((Below.refl _ _).alloc (Nat.le_refl _) _).alloc (by simp) _
  have HWB := Lib.hid hwb
  have e0 := fun i => hp0.cell i
  have P1 := Lib.hid hp1
  clear hp0 hp1 hwb
  go_enter Tryz.func74, Tryz.ntmps74
  go_upto_region 5 with fail
  rw [← HWB.out]
  go_cut [7] (fun s7 wc => s7 = .bool Q ∧ wb = wc)
  case first =>
    have e1 := fun i => P1.out.cell i
    obtain ⟨q0, hq0⟩ : ∃ q, (vk == 0) = q := ⟨_, rfl⟩
    obtain ⟨q1, hq1⟩ : ∃ q, (vi == 0) = q := ⟨_, rfl⟩
    obtain ⟨q2, hq2⟩ : ∃ q, (vt == 0) = q := ⟨_, rfl⟩
    obtain ⟨q3, hq3⟩ : ∃ q, vs.toList.isEmpty = q := ⟨_, rfl⟩
    obtain ⟨q4, hq4⟩ : ∃ q, ((n : Int) == 0) = q := ⟨_, rfl⟩
    have e := HQ.out
    rw [hq0, hq1, hq2, hq3, hq4] at e
    cases q0
    case false =>
      obtain rfl : Q = false := e
      go_wp2_with fail
      go_meet
      exact ⟨rfl, rfl⟩
    cases q1
    case false =>
      obtain rfl : Q = false := e
      go_wp2_with fail
      go_meet
      exact ⟨rfl, rfl⟩
    cases q2
    case false =>
      obtain rfl : Q = false := e
      go_wp2_with fail
      go_meet
      exact ⟨rfl, rfl⟩
    cases q3
    case false =>
      obtain rfl : Q = false := e
      go_wp2_with fail
      go_meet
      exact ⟨rfl, rfl⟩
    cases q4
    all_goals
      first
        | (obtain rfl : Q = false := e)
        | (obtain rfl : Q = true := e)
      go_wp2_with fail
      go_meet
      exact ⟨rfl, rfl⟩
  case rest =>
    obtain ⟨rfl, rfl⟩ := hcut
    have hV := HV.out
    clear HQ
    obtain ⟨b0, hb0⟩ : ∃ q, (fr == 0) = q := ⟨_, rfl⟩
    rw [hb0] at hV
    cases b0
    case false =>
      have HL : Hid (V = false) := by show _ = _; rw [hV]; simp
      clear hV
      go_wp2_with fail
      go_ret
      exact ⟨by rw [HL.out]; rfl, HB.out⟩
    obtain ⟨b1, hb1⟩ : ∃ q, (to_ == 0) = q := ⟨_, rfl⟩
    rw [hb1] at hV
    cases b1
    case false =>
      have HL : Hid (V = false) := by show _ = _; rw [hV]; simp
      clear hV
      go_wp2_with fail
      go_ret
      exact ⟨by rw [HL.out]; rfl, HB.out⟩
    obtain ⟨b2, hb2⟩ : ∃ q, nm.toList.isEmpty = q := ⟨_, rfl⟩
    rw [hb2] at hV
    cases b2
    case false =>
      have HL : Hid (V = false) := by show _ = _; rw [hV]; simp
      clear hV
      go_wp2_with fail
      go_ret
      exact ⟨by rw [HL.out]; rfl, HB.out⟩
    obtain ⟨b3, hb3⟩ : ∃ q, Q = q := ⟨_, rfl⟩
    rw [hb3] at hV
    cases b3
    case false =>
      have HL : Hid (V = false) := by show _ = _; rw [hV]; simp
      clear hV
      go_wp2_with fail
      go_ret
      exact ⟨by rw [HL.out]; rfl, HB.out⟩
    have HL : Hid (V = true) := by show _ = _; rw [hV]; simp
    clear hV
    go_wp2_with fail
    go_ret
    exact ⟨by rw [HL.out]; rfl, HB.out⟩
set_option maxRecDepth 100000 in
set_option maxHeartbeats 4000000 in
theorem used2_any (id pa at_ fr to_ vk vi vt : Int) (tx nm vs : ByteArray) (A : Option Addr) (n c : Nat) (Q V : Bool) (w : World)
    (hQ : Q = ((vk == 0) && (vi == 0) && (vt == 0) && vs.toList.isEmpty && ((n : Int) == 0)))
    (hV : V = ((pa == 0) && (at_ == 0) && (fr == 0) && (to_ == 0) && tx.toList.isEmpty && nm.toList.isEmpty && Q)) :
    Calls Tryz.prog 74 #[.agg #[.int .i64 2, .int .i64 id, .int .i64 pa, .int .i64 at_, .int .i64 fr, .int .i64 to_, .string tx, .string nm, .int .i64 vk, .int .i64 vi, .int .i64 vt, .string vs, .slice A n c]] w fun e w' => e = .returned (.bool V) ∧ Below w.heap.size w w' := by
  have HQ := Lib.hid hQ
  have HV := Lib.hid hV
  clear hQ hV
  obtain ⟨wb, hwb⟩ : ∃ wb, wb = (w.alloc (.cells #[.int .i64 2, .int .i64 id, .int .i64 pa, .int .i64 at_, .int .i64 fr, .int .i64 to_, .string tx, .string nm, .int .i64 vk, .int .i64 vi, .int .i64 vt, .string vs, .slice A n c] 31)).alloc (.cells #[.int .i64 vk, .int .i64 vi, .int .i64 vt, .string vs, .slice A n c] 29) := ⟨_, rfl⟩
  have hp0 : Blk wb w.heap.size 31 #[.int .i64 2, .int .i64 id, .int .i64 pa, .int .i64 at_, .int .i64 fr, .int .i64 to_, .string tx, .string nm, .int .i64 vk, .int .i64 vi, .int .i64 vt, .string vs, .slice A n c] := by rw [hwb]; exact (Blk.new w _ _).alloc _
  have hp1 : Blk wb (w.heap.size + 1) 29 #[.int .i64 vk, .int .i64 vi, .int .i64 vt, .string vs, .slice A n c] := by
    rw [hwb]
    have h := Blk.new (w.alloc (.cells #[.int .i64 2, .int .i64 id, .int .i64 pa, .int .i64 at_, .int .i64 fr, .int .i64 to_, .string tx, .string nm, .int .i64 vk, .int .i64 vi, .int .i64 vt, .string vs, .slice A n c] 31)) 29 #[.int .i64 vk, .int .i64 vi, .int .i64 vt, .string vs, .slice A n c]
    simpa only [World.size_alloc] using h
  have HB : Hid (Below w.heap.size w wb) := by rw [hwb]; exact ((Below.refl _ _).alloc (Nat.le_refl _) _).alloc (by simp) _
  have HWB := Lib.hid hwb
  have e0 := fun i => hp0.cell i
  have P1 := Lib.hid hp1
  clear hp0 hp1 hwb
  go_enter Tryz.func74, Tryz.ntmps74
  go_upto_region 5 with fail
  rw [← HWB.out]
  go_cut [7] (fun s7 wc => s7 = .bool Q ∧ wb = wc)
  case first =>
    have e1 := fun i => P1.out.cell i
    obtain ⟨q0, hq0⟩ : ∃ q, (vk == 0) = q := ⟨_, rfl⟩
    obtain ⟨q1, hq1⟩ : ∃ q, (vi == 0) = q := ⟨_, rfl⟩
    obtain ⟨q2, hq2⟩ : ∃ q, (vt == 0) = q := ⟨_, rfl⟩
    obtain ⟨q3, hq3⟩ : ∃ q, vs.toList.isEmpty = q := ⟨_, rfl⟩
    obtain ⟨q4, hq4⟩ : ∃ q, ((n : Int) == 0) = q := ⟨_, rfl⟩
    have e := HQ.out
    rw [hq0, hq1, hq2, hq3, hq4] at e
    cases q0
    case false =>
      obtain rfl : Q = false := e
      go_wp2_with fail
      go_meet
      exact ⟨rfl, rfl⟩
    cases q1
    case false =>
      obtain rfl : Q = false := e
      go_wp2_with fail
      go_meet
      exact ⟨rfl, rfl⟩
    cases q2
    case false =>
      obtain rfl : Q = false := e
      go_wp2_with fail
      go_meet
      exact ⟨rfl, rfl⟩
    cases q3
    case false =>
      obtain rfl : Q = false := e
      go_wp2_with fail
      go_meet
      exact ⟨rfl, rfl⟩
    cases q4
    all_goals
      first
        | (obtain rfl : Q = false := e)
        | (obtain rfl : Q = true := e)
      go_wp2_with fail
      go_meet
      exact ⟨rfl, rfl⟩
  case rest =>
    obtain ⟨rfl, rfl⟩ := hcut
    have hV := HV.out
    clear HQ
    obtain ⟨b0, hb0⟩ : ∃ q, (pa == 0) = q := ⟨_, rfl⟩
    rw [hb0] at hV
    cases b0
    case false =>
      have HL : Hid (V = false) := by show _ = _; rw [hV]; simp
      clear hV
      go_wp2_with fail
      go_ret
      exact ⟨by rw [HL.out]; rfl, HB.out⟩
    obtain ⟨b1, hb1⟩ : ∃ q, (at_ == 0) = q := ⟨_, rfl⟩
    rw [hb1] at hV
    cases b1
    case false =>
      have HL : Hid (V = false) := by show _ = _; rw [hV]; simp
      clear hV
      go_wp2_with fail
      go_ret
      exact ⟨by rw [HL.out]; rfl, HB.out⟩
    obtain ⟨b2, hb2⟩ : ∃ q, (fr == 0) = q := ⟨_, rfl⟩
    rw [hb2] at hV
    cases b2
    case false =>
      have HL : Hid (V = false) := by show _ = _; rw [hV]; simp
      clear hV
      go_wp2_with fail
      go_ret
      exact ⟨by rw [HL.out]; rfl, HB.out⟩
    obtain ⟨b3, hb3⟩ : ∃ q, (to_ == 0) = q := ⟨_, rfl⟩
    rw [hb3] at hV
    cases b3
    case false =>
      have HL : Hid (V = false) := by show _ = _; rw [hV]; simp
      clear hV
      go_wp2_with fail
      go_ret
      exact ⟨by rw [HL.out]; rfl, HB.out⟩
    obtain ⟨b4, hb4⟩ : ∃ q, tx.toList.isEmpty = q := ⟨_, rfl⟩
    rw [hb4] at hV
    cases b4
    case false =>
      have HL : Hid (V = false) := by show _ = _; rw [hV]; simp
      clear hV
      go_wp2_with fail
      go_ret
      exact ⟨by rw [HL.out]; rfl, HB.out⟩
    obtain ⟨b5, hb5⟩ : ∃ q, nm.toList.isEmpty = q := ⟨_, rfl⟩
    rw [hb5] at hV
    cases b5
    case false =>
      have HL : Hid (V = false) := by show _ = _; rw [hV]; simp
      clear hV
      go_wp2_with fail
      go_ret
      exact ⟨by rw [HL.out]; rfl, HB.out⟩
    obtain ⟨b6, hb6⟩ : ∃ q, Q = q := ⟨_, rfl⟩
    rw [hb6] at hV
    cases b6
    case false =>
      have HL : Hid (V = false) := by show _ = _; rw [hV]; simp
      clear hV
      go_wp2_with fail
      go_ret
      exact ⟨by rw [HL.out]; rfl, HB.out⟩
    have HL : Hid (V = true) := by show _ = _; rw [hV]; simp
    clear hV
    go_wp2_with fail
    go_ret
    exact ⟨by rw [HL.out]; rfl, HB.out⟩
set_option maxRecDepth 100000 in
set_option maxHeartbeats 4000000 in
theorem used3_any (id pa at_ fr to_ vk vi vt : Int) (tx nm vs : ByteArray) (A : Option Addr) (n c : Nat) (Q V : Bool) (w : World)
    (hQ : Q = ((vk == 0) && (vi == 0) && (vt == 0) && vs.toList.isEmpty && ((n : Int) == 0)))
    (hV : V = ((fr == 0) && (to_ == 0) && tx.toList.isEmpty && nm.toList.isEmpty && Q)) :
    Calls Tryz.prog 74 #[.agg #[.int .i64 3, .int .i64 id, .int .i64 pa, .int .i64 at_, .int .i64 fr, .int .i64 to_, .string tx, .string nm, .int .i64 vk, .int .i64 vi, .int .i64 vt, .string vs, .slice A n c]] w fun e w' => e = .returned (.bool V) ∧ Below w.heap.size w w' := by
  have HQ := Lib.hid hQ
  have HV := Lib.hid hV
  clear hQ hV
  obtain ⟨wb, hwb⟩ : ∃ wb, wb = (w.alloc (.cells #[.int .i64 3, .int .i64 id, .int .i64 pa, .int .i64 at_, .int .i64 fr, .int .i64 to_, .string tx, .string nm, .int .i64 vk, .int .i64 vi, .int .i64 vt, .string vs, .slice A n c] 31)).alloc (.cells #[.int .i64 vk, .int .i64 vi, .int .i64 vt, .string vs, .slice A n c] 29) := ⟨_, rfl⟩
  have hp0 : Blk wb w.heap.size 31 #[.int .i64 3, .int .i64 id, .int .i64 pa, .int .i64 at_, .int .i64 fr, .int .i64 to_, .string tx, .string nm, .int .i64 vk, .int .i64 vi, .int .i64 vt, .string vs, .slice A n c] := by rw [hwb]; exact (Blk.new w _ _).alloc _
  have hp1 : Blk wb (w.heap.size + 1) 29 #[.int .i64 vk, .int .i64 vi, .int .i64 vt, .string vs, .slice A n c] := by
    rw [hwb]
    have h := Blk.new (w.alloc (.cells #[.int .i64 3, .int .i64 id, .int .i64 pa, .int .i64 at_, .int .i64 fr, .int .i64 to_, .string tx, .string nm, .int .i64 vk, .int .i64 vi, .int .i64 vt, .string vs, .slice A n c] 31)) 29 #[.int .i64 vk, .int .i64 vi, .int .i64 vt, .string vs, .slice A n c]
    simpa only [World.size_alloc] using h
  have HB : Hid (Below w.heap.size w wb) := by rw [hwb]; exact ((Below.refl _ _).alloc (Nat.le_refl _) _).alloc (by simp) _
  have HWB := Lib.hid hwb
  have e0 := fun i => hp0.cell i
  have P1 := Lib.hid hp1
  clear hp0 hp1 hwb
  go_enter Tryz.func74, Tryz.ntmps74
  go_upto_region 5 with fail
  rw [← HWB.out]
  go_cut [7] (fun s7 wc => s7 = .bool Q ∧ wb = wc)
  case first =>
    have e1 := fun i => P1.out.cell i
    obtain ⟨q0, hq0⟩ : ∃ q, (vk == 0) = q := ⟨_, rfl⟩
    obtain ⟨q1, hq1⟩ : ∃ q, (vi == 0) = q := ⟨_, rfl⟩
    obtain ⟨q2, hq2⟩ : ∃ q, (vt == 0) = q := ⟨_, rfl⟩
    obtain ⟨q3, hq3⟩ : ∃ q, vs.toList.isEmpty = q := ⟨_, rfl⟩
    obtain ⟨q4, hq4⟩ : ∃ q, ((n : Int) == 0) = q := ⟨_, rfl⟩
    have e := HQ.out
    rw [hq0, hq1, hq2, hq3, hq4] at e
    cases q0
    case false =>
      obtain rfl : Q = false := e
      go_wp2_with fail
      go_meet
      exact ⟨rfl, rfl⟩
    cases q1
    case false =>
      obtain rfl : Q = false := e
      go_wp2_with fail
      go_meet
      exact ⟨rfl, rfl⟩
    cases q2
    case false =>
      obtain rfl : Q = false := e
      go_wp2_with fail
      go_meet
      exact ⟨rfl, rfl⟩
    cases q3
    case false =>
      obtain rfl : Q = false := e
      go_wp2_with fail
      go_meet
      exact ⟨rfl, rfl⟩
    cases q4
    all_goals
      first
        | (obtain rfl : Q = false := e)
        | (obtain rfl : Q = true := e)
      go_wp2_with fail
      go_meet
      exact ⟨rfl, rfl⟩
  case rest =>
    obtain ⟨rfl, rfl⟩ := hcut
    have hV := HV.out
    clear HQ
    obtain ⟨b0, hb0⟩ : ∃ q, (fr == 0) = q := ⟨_, rfl⟩
    rw [hb0] at hV
    cases b0
    case false =>
      have HL : Hid (V = false) := by show _ = _; rw [hV]; simp
      clear hV
      go_wp2_with fail
      go_ret
      exact ⟨by rw [HL.out]; rfl, HB.out⟩
    obtain ⟨b1, hb1⟩ : ∃ q, (to_ == 0) = q := ⟨_, rfl⟩
    rw [hb1] at hV
    cases b1
    case false =>
      have HL : Hid (V = false) := by show _ = _; rw [hV]; simp
      clear hV
      go_wp2_with fail
      go_ret
      exact ⟨by rw [HL.out]; rfl, HB.out⟩
    obtain ⟨b2, hb2⟩ : ∃ q, tx.toList.isEmpty = q := ⟨_, rfl⟩
    rw [hb2] at hV
    cases b2
    case false =>
      have HL : Hid (V = false) := by show _ = _; rw [hV]; simp
      clear hV
      go_wp2_with fail
      go_ret
      exact ⟨by rw [HL.out]; rfl, HB.out⟩
    obtain ⟨b3, hb3⟩ : ∃ q, nm.toList.isEmpty = q := ⟨_, rfl⟩
    rw [hb3] at hV
    cases b3
    case false =>
      have HL : Hid (V = false) := by show _ = _; rw [hV]; simp
      clear hV
      go_wp2_with fail
      go_ret
      exact ⟨by rw [HL.out]; rfl, HB.out⟩
    obtain ⟨b4, hb4⟩ : ∃ q, Q = q := ⟨_, rfl⟩
    rw [hb4] at hV
    cases b4
    case false =>
      have HL : Hid (V = false) := by show _ = _; rw [hV]; simp
      clear hV
      go_wp2_with fail
      go_ret
      exact ⟨by rw [HL.out]; rfl, HB.out⟩
    have HL : Hid (V = true) := by show _ = _; rw [hV]; simp
    clear hV
    go_wp2_with fail
    go_ret
    exact ⟨by rw [HL.out]; rfl, HB.out⟩
set_option maxRecDepth 100000 in
set_option maxHeartbeats 4000000 in
theorem used4_any (id pa at_ fr to_ vk vi vt : Int) (tx nm vs : ByteArray) (A : Option Addr) (n c : Nat) (Q V : Bool) (w : World)
    (hQ : Q = ((vk == 0) && (vi == 0) && (vt == 0) && vs.toList.isEmpty && ((n : Int) == 0)))
    (hV : V = ((pa == 0) && (at_ == 0) && nm.toList.isEmpty && Q)) :
    Calls Tryz.prog 74 #[.agg #[.int .i64 4, .int .i64 id, .int .i64 pa, .int .i64 at_, .int .i64 fr, .int .i64 to_, .string tx, .string nm, .int .i64 vk, .int .i64 vi, .int .i64 vt, .string vs, .slice A n c]] w fun e w' => e = .returned (.bool V) ∧ Below w.heap.size w w' := by
  have HQ := Lib.hid hQ
  have HV := Lib.hid hV
  clear hQ hV
  obtain ⟨wb, hwb⟩ : ∃ wb, wb = (w.alloc (.cells #[.int .i64 4, .int .i64 id, .int .i64 pa, .int .i64 at_, .int .i64 fr, .int .i64 to_, .string tx, .string nm, .int .i64 vk, .int .i64 vi, .int .i64 vt, .string vs, .slice A n c] 31)).alloc (.cells #[.int .i64 vk, .int .i64 vi, .int .i64 vt, .string vs, .slice A n c] 29) := ⟨_, rfl⟩
  have hp0 : Blk wb w.heap.size 31 #[.int .i64 4, .int .i64 id, .int .i64 pa, .int .i64 at_, .int .i64 fr, .int .i64 to_, .string tx, .string nm, .int .i64 vk, .int .i64 vi, .int .i64 vt, .string vs, .slice A n c] := by rw [hwb]; exact (Blk.new w _ _).alloc _
  have hp1 : Blk wb (w.heap.size + 1) 29 #[.int .i64 vk, .int .i64 vi, .int .i64 vt, .string vs, .slice A n c] := by
    rw [hwb]
    have h := Blk.new (w.alloc (.cells #[.int .i64 4, .int .i64 id, .int .i64 pa, .int .i64 at_, .int .i64 fr, .int .i64 to_, .string tx, .string nm, .int .i64 vk, .int .i64 vi, .int .i64 vt, .string vs, .slice A n c] 31)) 29 #[.int .i64 vk, .int .i64 vi, .int .i64 vt, .string vs, .slice A n c]
    simpa only [World.size_alloc] using h
  have HB : Hid (Below w.heap.size w wb) := by rw [hwb]; exact ((Below.refl _ _).alloc (Nat.le_refl _) _).alloc (by simp) _
  have HWB := Lib.hid hwb
  have e0 := fun i => hp0.cell i
  have P1 := Lib.hid hp1
  clear hp0 hp1 hwb
  go_enter Tryz.func74, Tryz.ntmps74
  go_upto_region 5 with fail
  rw [← HWB.out]
  go_cut [7] (fun s7 wc => s7 = .bool Q ∧ wb = wc)
  case first =>
    have e1 := fun i => P1.out.cell i
    obtain ⟨q0, hq0⟩ : ∃ q, (vk == 0) = q := ⟨_, rfl⟩
    obtain ⟨q1, hq1⟩ : ∃ q, (vi == 0) = q := ⟨_, rfl⟩
    obtain ⟨q2, hq2⟩ : ∃ q, (vt == 0) = q := ⟨_, rfl⟩
    obtain ⟨q3, hq3⟩ : ∃ q, vs.toList.isEmpty = q := ⟨_, rfl⟩
    obtain ⟨q4, hq4⟩ : ∃ q, ((n : Int) == 0) = q := ⟨_, rfl⟩
    have e := HQ.out
    rw [hq0, hq1, hq2, hq3, hq4] at e
    cases q0
    case false =>
      obtain rfl : Q = false := e
      go_wp2_with fail
      go_meet
      exact ⟨rfl, rfl⟩
    cases q1
    case false =>
      obtain rfl : Q = false := e
      go_wp2_with fail
      go_meet
      exact ⟨rfl, rfl⟩
    cases q2
    case false =>
      obtain rfl : Q = false := e
      go_wp2_with fail
      go_meet
      exact ⟨rfl, rfl⟩
    cases q3
    case false =>
      obtain rfl : Q = false := e
      go_wp2_with fail
      go_meet
      exact ⟨rfl, rfl⟩
    cases q4
    all_goals
      first
        | (obtain rfl : Q = false := e)
        | (obtain rfl : Q = true := e)
      go_wp2_with fail
      go_meet
      exact ⟨rfl, rfl⟩
  case rest =>
    obtain ⟨rfl, rfl⟩ := hcut
    have hV := HV.out
    clear HQ
    obtain ⟨b0, hb0⟩ : ∃ q, (pa == 0) = q := ⟨_, rfl⟩
    rw [hb0] at hV
    cases b0
    case false =>
      have HL : Hid (V = false) := by show _ = _; rw [hV]; simp
      clear hV
      go_wp2_with fail
      go_ret
      exact ⟨by rw [HL.out]; rfl, HB.out⟩
    obtain ⟨b1, hb1⟩ : ∃ q, (at_ == 0) = q := ⟨_, rfl⟩
    rw [hb1] at hV
    cases b1
    case false =>
      have HL : Hid (V = false) := by show _ = _; rw [hV]; simp
      clear hV
      go_wp2_with fail
      go_ret
      exact ⟨by rw [HL.out]; rfl, HB.out⟩
    obtain ⟨b2, hb2⟩ : ∃ q, nm.toList.isEmpty = q := ⟨_, rfl⟩
    rw [hb2] at hV
    cases b2
    case false =>
      have HL : Hid (V = false) := by show _ = _; rw [hV]; simp
      clear hV
      go_wp2_with fail
      go_ret
      exact ⟨by rw [HL.out]; rfl, HB.out⟩
    obtain ⟨b3, hb3⟩ : ∃ q, Q = q := ⟨_, rfl⟩
    rw [hb3] at hV
    cases b3
    case false =>
      have HL : Hid (V = false) := by show _ = _; rw [hV]; simp
      clear hV
      go_wp2_with fail
      go_ret
      exact ⟨by rw [HL.out]; rfl, HB.out⟩
    have HL : Hid (V = true) := by show _ = _; rw [hV]; simp
    clear hV
    go_wp2_with fail
    go_ret
    exact ⟨by rw [HL.out]; rfl, HB.out⟩
set_option maxRecDepth 100000 in
set_option maxHeartbeats 4000000 in
theorem used5_any (id pa at_ fr to_ vk vi vt : Int) (tx nm vs : ByteArray) (A : Option Addr) (n c : Nat) (Q V : Bool) (w : World)
    (hQ : Q = ((vk == 0) && (vi == 0) && (vt == 0) && vs.toList.isEmpty && ((n : Int) == 0)))
    (hV : V = ((pa == 0) && (at_ == 0) && (fr == 0) && (to_ == 0) && tx.toList.isEmpty)) :
    Calls Tryz.prog 74 #[.agg #[.int .i64 5, .int .i64 id, .int .i64 pa, .int .i64 at_, .int .i64 fr, .int .i64 to_, .string tx, .string nm, .int .i64 vk, .int .i64 vi, .int .i64 vt, .string vs, .slice A n c]] w fun e w' => e = .returned (.bool V) ∧ Below w.heap.size w w' := by
  have HQ := Lib.hid hQ
  have HV := Lib.hid hV
  clear hQ hV
  obtain ⟨wb, hwb⟩ : ∃ wb, wb = (w.alloc (.cells #[.int .i64 5, .int .i64 id, .int .i64 pa, .int .i64 at_, .int .i64 fr, .int .i64 to_, .string tx, .string nm, .int .i64 vk, .int .i64 vi, .int .i64 vt, .string vs, .slice A n c] 31)).alloc (.cells #[.int .i64 vk, .int .i64 vi, .int .i64 vt, .string vs, .slice A n c] 29) := ⟨_, rfl⟩
  have hp0 : Blk wb w.heap.size 31 #[.int .i64 5, .int .i64 id, .int .i64 pa, .int .i64 at_, .int .i64 fr, .int .i64 to_, .string tx, .string nm, .int .i64 vk, .int .i64 vi, .int .i64 vt, .string vs, .slice A n c] := by rw [hwb]; exact (Blk.new w _ _).alloc _
  have hp1 : Blk wb (w.heap.size + 1) 29 #[.int .i64 vk, .int .i64 vi, .int .i64 vt, .string vs, .slice A n c] := by
    rw [hwb]
    have h := Blk.new (w.alloc (.cells #[.int .i64 5, .int .i64 id, .int .i64 pa, .int .i64 at_, .int .i64 fr, .int .i64 to_, .string tx, .string nm, .int .i64 vk, .int .i64 vi, .int .i64 vt, .string vs, .slice A n c] 31)) 29 #[.int .i64 vk, .int .i64 vi, .int .i64 vt, .string vs, .slice A n c]
    simpa only [World.size_alloc] using h
  have HB : Hid (Below w.heap.size w wb) := by rw [hwb]; exact ((Below.refl _ _).alloc (Nat.le_refl _) _).alloc (by simp) _
  have HWB := Lib.hid hwb
  have e0 := fun i => hp0.cell i
  have P1 := Lib.hid hp1
  clear hp0 hp1 hwb
  go_enter Tryz.func74, Tryz.ntmps74
  go_upto_region 5 with fail
  rw [← HWB.out]
  go_cut [7] (fun s7 wc => s7 = .bool Q ∧ wb = wc)
  case first =>
    have e1 := fun i => P1.out.cell i
    obtain ⟨q0, hq0⟩ : ∃ q, (vk == 0) = q := ⟨_, rfl⟩
    obtain ⟨q1, hq1⟩ : ∃ q, (vi == 0) = q := ⟨_, rfl⟩
    obtain ⟨q2, hq2⟩ : ∃ q, (vt == 0) = q := ⟨_, rfl⟩
    obtain ⟨q3, hq3⟩ : ∃ q, vs.toList.isEmpty = q := ⟨_, rfl⟩
    obtain ⟨q4, hq4⟩ : ∃ q, ((n : Int) == 0) = q := ⟨_, rfl⟩
    have e := HQ.out
    rw [hq0, hq1, hq2, hq3, hq4] at e
    cases q0
    case false =>
      obtain rfl : Q = false := e
      go_wp2_with fail
      go_meet
      exact ⟨rfl, rfl⟩
    cases q1
    case false =>
      obtain rfl : Q = false := e
      go_wp2_with fail
      go_meet
      exact ⟨rfl, rfl⟩
    cases q2
    case false =>
      obtain rfl : Q = false := e
      go_wp2_with fail
      go_meet
      exact ⟨rfl, rfl⟩
    cases q3
    case false =>
      obtain rfl : Q = false := e
      go_wp2_with fail
      go_meet
      exact ⟨rfl, rfl⟩
    cases q4
    all_goals
      first
        | (obtain rfl : Q = false := e)
        | (obtain rfl : Q = true := e)
      go_wp2_with fail
      go_meet
      exact ⟨rfl, rfl⟩
  case rest =>
    obtain ⟨rfl, rfl⟩ := hcut
    have hV := HV.out
    clear HQ
    obtain ⟨b0, hb0⟩ : ∃ q, (pa == 0) = q := ⟨_, rfl⟩
    rw [hb0] at hV
    cases b0
    case false =>
      have HL : Hid (V = false) := by show _ = _; rw [hV]; simp
      clear hV
      go_wp2_with fail
      go_ret
      exact ⟨by rw [HL.out]; rfl, HB.out⟩
    obtain ⟨b1, hb1⟩ : ∃ q, (at_ == 0) = q := ⟨_, rfl⟩
    rw [hb1] at hV
    cases b1
    case false =>
      have HL : Hid (V = false) := by show _ = _; rw [hV]; simp
      clear hV
      go_wp2_with fail
      go_ret
      exact ⟨by rw [HL.out]; rfl, HB.out⟩
    obtain ⟨b2, hb2⟩ : ∃ q, (fr == 0) = q := ⟨_, rfl⟩
    rw [hb2] at hV
    cases b2
    case false =>
      have HL : Hid (V = false) := by show _ = _; rw [hV]; simp
      clear hV
      go_wp2_with fail
      go_ret
      exact ⟨by rw [HL.out]; rfl, HB.out⟩
    obtain ⟨b3, hb3⟩ : ∃ q, (to_ == 0) = q := ⟨_, rfl⟩
    rw [hb3] at hV
    cases b3
    case false =>
      have HL : Hid (V = false) := by show _ = _; rw [hV]; simp
      clear hV
      go_wp2_with fail
      go_ret
      exact ⟨by rw [HL.out]; rfl, HB.out⟩
    obtain ⟨b4, hb4⟩ : ∃ q, tx.toList.isEmpty = q := ⟨_, rfl⟩
    rw [hb4] at hV
    cases b4
    case false =>
      have HL : Hid (V = false) := by show _ = _; rw [hV]; simp
      clear hV
      go_wp2_with fail
      go_ret
      exact ⟨by rw [HL.out]; rfl, HB.out⟩
    have HL : Hid (V = true) := by show _ = _; rw [hV]; simp
    clear hV
    go_wp2_with fail
    go_ret
    exact ⟨by rw [HL.out]; rfl, HB.out⟩
/-- the reference's used, at a kind that there is -/
theorem used_any (o : Opn) (A : Option Addr) (n c : Nat) (w : World) (hn : n = o.val.items.length) (hk : 1 ≤ o.kind ∧ o.kind ≤ 5) :
    Calls Tryz.prog 74 #[AO (o, .slice A n c)] w fun e w' => e = .returned (.bool (usedB o)) ∧ Below w.heap.size w w' := by
  obtain ⟨V, hV⟩ : ∃ V, V = usedB o := ⟨_, rfl⟩
  dsimp only [AO]
  rw [← hV]
  obtain ⟨Q, hQ⟩ : ∃ Q, Q = noV o.val := ⟨_, rfl⟩
  unfold usedB at hV
  rw [← hQ] at hV
  unfold noV at hQ
  rw [← hn] at hQ
  have hk : o.kind = 1 ∨ o.kind = 2 ∨ o.kind = 3 ∨ o.kind = 4 ∨ o.kind = 5 := by omega
  rcases hk with hk | hk | hk | hk | hk
  all_goals rw [hk] at hV ⊢
  · refine used1_any _ _ _ _ _ _ _ _ _ _ _ _ _ _ Q V w hQ (hV.trans ?_)
    simp [Bool.and_assoc]
  · refine used2_any _ _ _ _ _ _ _ _ _ _ _ _ _ _ Q V w hQ (hV.trans ?_)
    simp [Bool.and_assoc]
  · refine used3_any _ _ _ _ _ _ _ _ _ _ _ _ _ _ Q V w hQ (hV.trans ?_)
    simp [Bool.and_assoc]
  · refine used4_any _ _ _ _ _ _ _ _ _ _ _ _ _ _ Q V w hQ (hV.trans ?_)
    simp [Bool.and_assoc]
  · refine used5_any _ _ _ _ _ _ _ _ _ _ _ _ _ _ Q V w hQ (hV.trans ?_)
    simp [Bool.and_assoc]
end Go.Proofs.YtmkicfjcgbfaaaaGreat
