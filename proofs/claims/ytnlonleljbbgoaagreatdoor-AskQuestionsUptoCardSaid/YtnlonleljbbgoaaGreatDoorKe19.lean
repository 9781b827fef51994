/-
  DERIVED. The walk of text.token. Conditions: a place in the text, a kind of tokens.
  By an AI agent.
-/
import Derived.Test.YtnlonleljbbgoaaGreatDoorKe18
namespace Go.Proofs.YtnlonleljbbgoaaGreatDoor
open Go.RowKit

def tokK (k : Nat) (s : ByteArray) (a : Nat) : Option Sp :=
  match k with
  | 0 => tokE s a
  | 1 => tokC s a
  | 2 => tokL s a
  | 3 => tokR s a
  | 4 => tokT s a
  | _ => tokB s a
theorem tokV_shape (o : Option Sp) : ∃ (ki f t : Int) (tx sh : ByteArray) (id : Int) (st b : Bool), tokV o = .tuple #[.agg #[.int .i64 ki, .int .i64 f, .int .i64 t, .string tx, .string sh, .int .i64 id, .bool st], .bool b] := by
  cases o with
  | none => exact ⟨_, _, _, _, _, _, _, _, rfl⟩
  | some x => exact ⟨_, _, _, _, _, _, _, _, rfl⟩

set_option maxHeartbeats 1000000 in
theorem token_0 (s : ByteArray) (a : Nat) (w : World) (hs : s.size ≤ 4294967280) (ha : a < s.size) :
    Calls Tryz.prog 288 #[.int .i64 0, .string s, .int .i64 a] w fun e w' => e = .returned (tokV (tokE s a)) ∧ Below w.heap.size w w' := by
  obtain ⟨ki, f, t, tx, sh, id, st, b, hv⟩ := tokV_shape (tokE s a)
  have HV : Hid (Ending.returned (.tuple #[.agg #[.int .i64 ki, .int .i64 f, .int .i64 t, .string tx, .string sh, .int .i64 id, .bool st], .bool b]) = .returned (tokV (tokE s a))) := by show _ = _; rw [hv]
  have HW := Lib.hid hv
  clear hv
  go_enter Tryz.func288, Tryz.ntmps288
  go_wp2_with fail
  refine (escapeAt_any s a _ hs ha).mono ?_
  rintro e w1 ⟨rfl, hbw⟩
  rw [HW.out]
  have hbel : Below w.heap.size w w1 := ((Below.refl _ _).alloc (Nat.le_refl _) _).trans (hbw.mono (by simp))
  have K : Blk w1 w.heap.size 132 #[.int .i64 0, .int .i64 0, .int .i64 0, .string ⟨#[]⟩, .string ⟨#[]⟩, .int .i64 0, .bool false] := (Blk.new _ _ _).below hbw (by simp)
  have q0 := K.cell 0
  have f0 := K.frozen 0
  have q1 := K.cell 1
  have f1 := K.frozen 1
  have q2 := K.cell 2
  have f2 := K.frozen 2
  have q3 := K.cell 3
  have f3 := K.frozen 3
  have q4 := K.cell 4
  have f4 := K.frozen 4
  have q5 := K.cell 5
  have f5 := K.frozen 5
  have q6 := K.cell 6
  have f6 := K.frozen 6
  clear K hbw
  go_wp2_with fail
  refine bodyPost_ret (v := (.tuple #[.agg #[.int .i64 ki, .int .i64 f, .int .i64 t, .string tx, .string sh, .int .i64 id, .bool st], .bool b])) (by simp [results, Tryz.results288, go_sem, q0, q1, q2, q3, q4, q5, q6]) rfl ⟨HV.out, ((((((hbel.setCell (Nat.le_refl _) _).setCell (Nat.le_refl _) _).setCell (Nat.le_refl _) _).setCell (Nat.le_refl _) _).setCell (Nat.le_refl _) _).setCell (Nat.le_refl _) _).setCell (Nat.le_refl _) _⟩

set_option maxHeartbeats 1000000 in
theorem token_1 (s : ByteArray) (a : Nat) (w : World) (hs : s.size ≤ 4294967280) (ha : a < s.size) :
    Calls Tryz.prog 288 #[.int .i64 1, .string s, .int .i64 a] w fun e w' => e = .returned (tokV (tokC s a)) ∧ Below w.heap.size w w' := by
  obtain ⟨ki, f, t, tx, sh, id, st, b, hv⟩ := tokV_shape (tokC s a)
  have HV : Hid (Ending.returned (.tuple #[.agg #[.int .i64 ki, .int .i64 f, .int .i64 t, .string tx, .string sh, .int .i64 id, .bool st], .bool b]) = .returned (tokV (tokC s a))) := by show _ = _; rw [hv]
  have HW := Lib.hid hv
  clear hv
  go_enter Tryz.func288, Tryz.ntmps288
  go_wp2_with fail
  refine (codeAt_any s a _ hs ha).mono ?_
  rintro e w1 ⟨rfl, hbw⟩
  rw [HW.out]
  have hbel : Below w.heap.size w w1 := ((Below.refl _ _).alloc (Nat.le_refl _) _).trans (hbw.mono (by simp))
  have K : Blk w1 w.heap.size 132 #[.int .i64 0, .int .i64 0, .int .i64 0, .string ⟨#[]⟩, .string ⟨#[]⟩, .int .i64 0, .bool false] := (Blk.new _ _ _).below hbw (by simp)
  have q0 := K.cell 0
  have f0 := K.frozen 0
  have q1 := K.cell 1
  have f1 := K.frozen 1
  have q2 := K.cell 2
  have f2 := K.frozen 2
  have q3 := K.cell 3
  have f3 := K.frozen 3
  have q4 := K.cell 4
  have f4 := K.frozen 4
  have q5 := K.cell 5
  have f5 := K.frozen 5
  have q6 := K.cell 6
  have f6 := K.frozen 6
  clear K hbw
  go_wp2_with fail
  refine bodyPost_ret (v := (.tuple #[.agg #[.int .i64 ki, .int .i64 f, .int .i64 t, .string tx, .string sh, .int .i64 id, .bool st], .bool b])) (by simp [results, Tryz.results288, go_sem, q0, q1, q2, q3, q4, q5, q6]) rfl ⟨HV.out, ((((((hbel.setCell (Nat.le_refl _) _).setCell (Nat.le_refl _) _).setCell (Nat.le_refl _) _).setCell (Nat.le_refl _) _).setCell (Nat.le_refl _) _).setCell (Nat.le_refl _) _).setCell (Nat.le_refl _) _⟩

set_option maxHeartbeats 1000000 in
theorem token_2 (s : ByteArray) (a : Nat) (w : World) (hs : s.size ≤ 4294967280) (ha : a < s.size) :
    Calls Tryz.prog 288 #[.int .i64 2, .string s, .int .i64 a] w fun e w' => e = .returned (tokV (tokL s a)) ∧ Below w.heap.size w w' := by
  obtain ⟨ki, f, t, tx, sh, id, st, b, hv⟩ := tokV_shape (tokL s a)
  have HV : Hid (Ending.returned (.tuple #[.agg #[.int .i64 ki, .int .i64 f, .int .i64 t, .string tx, .string sh, .int .i64 id, .bool st], .bool b]) = .returned (tokV (tokL s a))) := by show _ = _; rw [hv]
  have HW := Lib.hid hv
  clear hv
  go_enter Tryz.func288, Tryz.ntmps288
  go_wp2_with fail
  refine (linkAt_any s a _ hs ha).mono ?_
  rintro e w1 ⟨rfl, hbw⟩
  rw [HW.out]
  have hbel : Below w.heap.size w w1 := ((Below.refl _ _).alloc (Nat.le_refl _) _).trans (hbw.mono (by simp))
  have K : Blk w1 w.heap.size 132 #[.int .i64 0, .int .i64 0, .int .i64 0, .string ⟨#[]⟩, .string ⟨#[]⟩, .int .i64 0, .bool false] := (Blk.new _ _ _).below hbw (by simp)
  have q0 := K.cell 0
  have f0 := K.frozen 0
  have q1 := K.cell 1
  have f1 := K.frozen 1
  have q2 := K.cell 2
  have f2 := K.frozen 2
  have q3 := K.cell 3
  have f3 := K.frozen 3
  have q4 := K.cell 4
  have f4 := K.frozen 4
  have q5 := K.cell 5
  have f5 := K.frozen 5
  have q6 := K.cell 6
  have f6 := K.frozen 6
  clear K hbw
  go_wp2_with fail
  refine bodyPost_ret (v := (.tuple #[.agg #[.int .i64 ki, .int .i64 f, .int .i64 t, .string tx, .string sh, .int .i64 id, .bool st], .bool b])) (by simp [results, Tryz.results288, go_sem, q0, q1, q2, q3, q4, q5, q6]) rfl ⟨HV.out, ((((((hbel.setCell (Nat.le_refl _) _).setCell (Nat.le_refl _) _).setCell (Nat.le_refl _) _).setCell (Nat.le_refl _) _).setCell (Nat.le_refl _) _).setCell (Nat.le_refl _) _).setCell (Nat.le_refl _) _⟩

set_option maxHeartbeats 1000000 in
theorem token_3 (s : ByteArray) (a : Nat) (w : World) (hs : s.size ≤ 4294967280) (ha : a < s.size) :
    Calls Tryz.prog 288 #[.int .i64 3, .string s, .int .i64 a] w fun e w' => e = .returned (tokV (tokR s a)) ∧ Below w.heap.size w w' := by
  obtain ⟨ki, f, t, tx, sh, id, st, b, hv⟩ := tokV_shape (tokR s a)
  have HV : Hid (Ending.returned (.tuple #[.agg #[.int .i64 ki, .int .i64 f, .int .i64 t, .string tx, .string sh, .int .i64 id, .bool st], .bool b]) = .returned (tokV (tokR s a))) := by show _ = _; rw [hv]
  have HW := Lib.hid hv
  clear hv
  go_enter Tryz.func288, Tryz.ntmps288
  go_wp2_with fail
  refine (refAt_any s a _ hs ha).mono ?_
  rintro e w1 ⟨rfl, hbw⟩
  rw [HW.out]
  have hbel : Below w.heap.size w w1 := ((Below.refl _ _).alloc (Nat.le_refl _) _).trans (hbw.mono (by simp))
  have K : Blk w1 w.heap.size 132 #[.int .i64 0, .int .i64 0, .int .i64 0, .string ⟨#[]⟩, .string ⟨#[]⟩, .int .i64 0, .bool false] := (Blk.new _ _ _).below hbw (by simp)
  have q0 := K.cell 0
  have f0 := K.frozen 0
  have q1 := K.cell 1
  have f1 := K.frozen 1
  have q2 := K.cell 2
  have f2 := K.frozen 2
  have q3 := K.cell 3
  have f3 := K.frozen 3
  have q4 := K.cell 4
  have f4 := K.frozen 4
  have q5 := K.cell 5
  have f5 := K.frozen 5
  have q6 := K.cell 6
  have f6 := K.frozen 6
  clear K hbw
  go_wp2_with fail
  refine bodyPost_ret (v := (.tuple #[.agg #[.int .i64 ki, .int .i64 f, .int .i64 t, .string tx, .string sh, .int .i64 id, .bool st], .bool b])) (by simp [results, Tryz.results288, go_sem, q0, q1, q2, q3, q4, q5, q6]) rfl ⟨HV.out, ((((((hbel.setCell (Nat.le_refl _) _).setCell (Nat.le_refl _) _).setCell (Nat.le_refl _) _).setCell (Nat.le_refl _) _).setCell (Nat.le_refl _) _).setCell (Nat.le_refl _) _).setCell (Nat.le_refl _) _⟩

set_option maxHeartbeats 1000000 in
theorem token_4 (s : ByteArray) (a : Nat) (w : World) (hs : s.size ≤ 4294967280) (ha : a < s.size) :
    Calls Tryz.prog 288 #[.int .i64 4, .string s, .int .i64 a] w fun e w' => e = .returned (tokV (tokT s a)) ∧ Below w.heap.size w w' := by
  obtain ⟨ki, f, t, tx, sh, id, st, b, hv⟩ := tokV_shape (tokT s a)
  have HV : Hid (Ending.returned (.tuple #[.agg #[.int .i64 ki, .int .i64 f, .int .i64 t, .string tx, .string sh, .int .i64 id, .bool st], .bool b]) = .returned (tokV (tokT s a))) := by show _ = _; rw [hv]
  have HW := Lib.hid hv
  clear hv
  go_enter Tryz.func288, Tryz.ntmps288
  go_wp2_with fail
  refine (tagAt_any s a _ hs ha).mono ?_
  rintro e w1 ⟨rfl, hbw⟩
  rw [HW.out]
  have hbel : Below w.heap.size w w1 := ((Below.refl _ _).alloc (Nat.le_refl _) _).trans (hbw.mono (by simp))
  have K : Blk w1 w.heap.size 132 #[.int .i64 0, .int .i64 0, .int .i64 0, .string ⟨#[]⟩, .string ⟨#[]⟩, .int .i64 0, .bool false] := (Blk.new _ _ _).below hbw (by simp)
  have q0 := K.cell 0
  have f0 := K.frozen 0
  have q1 := K.cell 1
  have f1 := K.frozen 1
  have q2 := K.cell 2
  have f2 := K.frozen 2
  have q3 := K.cell 3
  have f3 := K.frozen 3
  have q4 := K.cell 4
  have f4 := K.frozen 4
  have q5 := K.cell 5
  have f5 := K.frozen 5
  have q6 := K.cell 6
  have f6 := K.frozen 6
  clear K hbw
  go_wp2_with fail
  refine bodyPost_ret (v := (.tuple #[.agg #[.int .i64 ki, .int .i64 f, .int .i64 t, .string tx, .string sh, .int .i64 id, .bool st], .bool b])) (by simp [results, Tryz.results288, go_sem, q0, q1, q2, q3, q4, q5, q6]) rfl ⟨HV.out, ((((((hbel.setCell (Nat.le_refl _) _).setCell (Nat.le_refl _) _).setCell (Nat.le_refl _) _).setCell (Nat.le_refl _) _).setCell (Nat.le_refl _) _).setCell (Nat.le_refl _) _).setCell (Nat.le_refl _) _⟩

set_option maxHeartbeats 1000000 in
theorem token_5 (s : ByteArray) (a : Nat) (w : World) (hs : s.size ≤ 4294967280) (ha : a < s.size) :
    Calls Tryz.prog 288 #[.int .i64 5, .string s, .int .i64 a] w fun e w' => e = .returned (tokV (tokB s a)) ∧ Below w.heap.size w w' := by
  have hi0 : (0 : Int) ≤ (a : Int) := by omega
  have hi1 : (a : Int) ≤ (s.size : Int) := by omega
  cases hP : decide (bt s a = 42 ∧ bt s (a + 1) = 42)
  · have HP := Lib.hid (prefix_two s a 42 rfl hP)
    have HV : Hid (Ending.returned (.tuple #[spZ, .bool false]) = .returned (tokV (tokB s a))) := by show _ = _; unfold tokB; rw [if_neg (by simpa using hP)]; rfl
    clear hP
    go_enter Tryz.func288, Tryz.ntmps288
    go_wp2_with fail
    refine (Tryz.strings_HasPrefix _ _ _).mono ?_
    rintro e w1 ⟨rfl, rfl⟩
    rw [show (⟨#[42, 42]⟩ : ByteArray).data.toList = [42, 42] from rfl, HP.out]
    go_wp2
    refine bodyPost_ret (v := .tuple #[spZ, .bool false]) (by simp [results, Tryz.results288, go_sem, spZ]) rfl ⟨HV.out, (Below.refl _ _).alloc (Nat.le_refl _) _⟩
  · have HP := Lib.hid (prefix_two s a 42 rfl hP)
    have hb : bt s a = 42 ∧ bt s (a + 1) = 42 := by simpa using hP
    have ha2 : a + 2 ≤ s.size := by have := bt_in (s := s) (i := a + 1) (by omega); omega
    have HV : Hid (Ending.returned (.tuple #[.agg #[.int .i64 7, .int .i64 a, .int .i64 (a + 2), .string ⟨#[42, 42]⟩, .string ⟨#[]⟩, .int .i64 0, .bool false], .bool true]) = .returned (tokV (tokB s a))) := by show _ = _; unfold tokB; rw [if_pos (by simpa using hP)]; rfl
    clear hP hb
    go_enter Tryz.func288, Tryz.ntmps288
    go_wp2_with fail
    refine (Tryz.strings_HasPrefix _ _ _).mono ?_
    rintro e w1 ⟨rfl, rfl⟩
    rw [show (⟨#[42, 42]⟩ : ByteArray).data.toList = [42, 42] from rfl, HP.out]
    go_wp2
    refine bodyPost_ret (v := (.tuple #[.agg #[.int .i64 7, .int .i64 a, .int .i64 (a + 2), .string ⟨#[42, 42]⟩, .string ⟨#[]⟩, .int .i64 0, .bool false], .bool true])) (by simp [results, Tryz.results288, go_sem]) rfl ⟨HV.out, (Below.refl _ _).alloc (Nat.le_refl _) _⟩

theorem token_any (s : ByteArray) (a k : Nat) (w : World) (hs : s.size ≤ 4294967280) (ha : a < s.size) (hk : k < 6) :
    Calls Tryz.prog 288 #[.int .i64 k, .string s, .int .i64 a] w fun e w' => e = .returned (tokV (tokK k s a)) ∧ Below w.heap.size w w' := by
  match k, hk with
  | 0, _ => exact token_0 s a w hs ha
  | 1, _ => exact token_1 s a w hs ha
  | 2, _ => exact token_2 s a w hs ha
  | 3, _ => exact token_3 s a w hs ha
  | 4, _ => exact token_4 s a w hs ha
  | 5, _ => exact token_5 s a w hs ha
end Go.Proofs.YtnlonleljbbgoaaGreatDoor
