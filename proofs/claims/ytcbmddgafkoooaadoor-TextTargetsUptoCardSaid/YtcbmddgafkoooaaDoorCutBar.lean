/-
  DERIVED. strings.Cut at a bar. Conditions: a length in reach. By an AI agent (IndexByte after the shelf's own proof, turned to this program).
-/
import Derived.Test.YtcbmddgafkoooaaDoorRefTok
import Derived.Test.YtcbmddgafkoooaaDoorRefTarget
import Derived.Test.YtcbmddgafkoooaaDoorRefIsTag
import Derived.Laws.Externs
namespace Go.Proofs.YtcbmddgafkoooaaDoor
open Go.RowKit

set_option maxHeartbeats 1000000 in
set_option maxRecDepth 100000 in
theorem sliteIndexByte_any (s : ByteArray) (c : Int) (w : World) :
    Calls Tryd.prog 93 #[.string s, .int .u8 c] w fun e w' => e = .returned (.int .i64 (Lib.indexByte s.data.toList c.toNat.toUInt8)) ∧ w' = w := by
  go_enter Tryd.func93, Tryd.ntmps93
  go_wp2
  rw [run_callFunc_extern Tryd.func104 (by kernel_rfl) (by kernel_rfl) (by kernel_rfl) (e := Extern.BytealgIndexByte.indexByte) (by kernel_rfl), Lib.run_indexByteString]
  simp only [Result.andThen]
  rw [Oper.upon_value]
  go_wp2
  go_ret
  exact ⟨rfl, rfl⟩

def barS : ByteArray := ⟨#[124]⟩
set_option maxHeartbeats 1000000 in
set_option maxRecDepth 100000 in
theorem indexBar_any (Q : ByteArray) (w : World) :
    Calls Tryd.prog 105 #[.string Q, .string ⟨#[124]⟩] w fun e w' => e = .returned (.int .i64 (Lib.indexByte Q.data.toList 124)) ∧ w' = w := by
  by_cases hq : Q = ⟨#[124]⟩
  · subst hq
    go_enter Tryd.func105, Tryd.ntmps105
    go_wp2_with fail
    go_ret
    exact ⟨rfl, rfl⟩
  · have hne : (([124] : List UInt8) == Q.toList) = false := by
      rw [Lib.toList_data]
      simp only [beq_eq_false_iff_ne, ne_eq]
      intro e
      exact hq (ba_ext e.symm)
    clear hq
    go_enter Tryd.func105, Tryd.ntmps105
    go_wp2_with fail
    refine (sliteIndexByte_any Q _ _).mono ?_
    rintro e w1 ⟨rfl, rfl⟩
    go_wp2_with fail
    go_ret
    exact ⟨rfl, rfl⟩

def cutV (Q : ByteArray) : Value :=
  if upto (isC 124) Q 0 < Q.size then .tuple #[.string (Q.extract 0 (upto (isC 124) Q 0)), .string (Q.extract (upto (isC 124) Q 0 + 1) Q.size), .bool true] else .tuple #[.string Q, .string ⟨#[]⟩, .bool false]
theorem indexBar_upto (Q : ByteArray) : Lib.indexByte Q.data.toList 124 = if upto (isC 124) Q 0 < Q.size then (upto (isC 124) Q 0 : Int) else -1 := by
  have := indexByte_upto Q 124 _ 0 rfl
  rw [List.drop_zero] at this
  rw [this]
  show (if upto (isC 124) Q 0 < Q.size then (upto (isC 124) Q 0 : Int) - 0 else -1) = _
  simp
set_option maxHeartbeats 1000000 in
set_option maxRecDepth 100000 in
theorem sliteCut_any (Q : ByteArray) (w : World) (hs : Q.size ≤ 4294967280) :
    Calls Tryd.prog 94 #[.string Q, .string ⟨#[124]⟩] w fun e w' => e = .returned (cutV Q) ∧ Below w.heap.size w w' := by
  have hx := indexBar_upto Q
  by_cases h : upto (isC 124) Q 0 < Q.size
  · rw [if_pos h] at hx
    have HV : Hid (cutV Q = .tuple #[.string (Q.extract 0 (upto (isC 124) Q 0)), .string (Q.extract (upto (isC 124) Q 0 + 1) Q.size), .bool true]) := by show _ = _; unfold cutV; rw [if_pos h]
    obtain ⟨u, hu⟩ : ∃ u, u = upto (isC 124) Q 0 := ⟨_, rfl⟩
    rw [← hu] at hx h HV
    have HX := Lib.hid hx
    have i0 : (0 : Int) ≤ (u : Int) := by omega
    have i1 : (u : Int) < (Q.size : Int) := by omega
    have z1 : IntKind.i64.wrap ((u : Int) + 1) = (u : Int) + 1 := IntWalk.i64_in _ (by omega)
    have z2 : (0 : Int) ≤ (u : Int) + 1 := by omega
    have z3 : (u : Int) + 1 ≤ (Q.size : Int) := by omega
    have z4 : ((u : Int) + 1).toNat = u + 1 := by omega
    clear hx hu
    go_enter Tryd.func94, Tryd.ntmps94
    go_wp2_with fail
    refine (indexBar_any Q _).mono ?_
    rintro e w1 ⟨rfl, rfl⟩
    rw [HX.out]
    go_wp2_with fail
    go_quiet (fail)
    go_wp2
    go_ret3
    exact ⟨by rw [HV.out]; rfl, bdrew (Below.refl _ _) _⟩
  · rw [if_neg h] at hx
    have HV : Hid (cutV Q = .tuple #[.string Q, .string ⟨#[]⟩, .bool false]) := by show _ = _; unfold cutV; rw [if_neg h]
    have HX := Lib.hid hx
    clear hx h
    go_enter Tryd.func94, Tryd.ntmps94
    go_wp2_with fail
    refine (indexBar_any Q _).mono ?_
    rintro e w1 ⟨rfl, rfl⟩
    rw [HX.out]
    go_wp2_with fail
    go_ret3
    exact ⟨by rw [HV.out]; rfl, Below.refl _ _⟩
theorem cutV_shape (Q : ByteArray) : ∃ (a b : ByteArray) (c : Bool), cutV Q = .tuple #[.string a, .string b, .bool c] := by
  unfold cutV
  split
  · exact ⟨_, _, _, rfl⟩
  · exact ⟨_, _, _, rfl⟩
set_option maxHeartbeats 1000000 in
set_option maxRecDepth 100000 in
theorem cutBar_any (Q : ByteArray) (w : World) (hs : Q.size ≤ 4294967280) :
    Calls Tryd.prog 77 #[.string Q, .string ⟨#[124]⟩] w fun e w' => e = .returned (cutV Q) ∧ Below w.heap.size w w' := by
  obtain ⟨a, b, c, hv⟩ := cutV_shape Q
  have HV := Lib.hid hv
  clear hv
  go_enter Tryd.func77, Tryd.ntmps77
  go_wp2_with fail
  refine (sliteCut_any Q _ hs).mono ?_
  rintro e w1 ⟨rfl, hb⟩
  rw [HV.out]
  have HB := Lib.hid hb
  clear hb
  go_wp2
  go_ret3
  exact ⟨by rw [HV.out]; rfl, HB.out⟩
end Go.Proofs.YtcbmddgafkoooaaDoor
