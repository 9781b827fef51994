/-
  Proved: for every input of bulk at most 1048576 florilegium/florlaw1.TextSpans returns true and leaves its arguments as they were (its card, tied). Conditions: none beyond the row's own.
-/
import Derived.Test.YtcbmddgafkoooaaGreatDoorLawBase
import Derived.Test.YtcbmddgafkoooaaGreatDoorSpansRef3
import Derived.Test.YtcbmddgafkoooaaGreatDoorLaidWorld
import Derived.Deep.QuietTactic
import Derived.BigQuiet
namespace Go.Proofs.YtcbmddgafkoooaaGreatDoor
open Go.RowKit

theorem strs_of_texts (kd : Int) (l : List Sp) : ∀ v ∈ textsK kd l, ∃ b, v = Value.string b := by
  intro v hv
  obtain ⟨x, _, hx⟩ := List.mem_flatMap.1 hv
  split at hx
  · exact ⟨_, List.mem_singleton.1 hx⟩
  · cases hx
theorem strs_of_strV (l : List ByteArray) : ∀ v ∈ strV l, ∃ b, v = Value.string b := by
  intro v hv
  obtain ⟨b, _, rfl⟩ := List.mem_map.1 hv
  exact ⟨b, rfl⟩
theorem ints_of_refs (l : List Sp) : ∀ v ∈ refsK l, ∃ m, v = Value.int .i64 m := by
  intro v hv
  obtain ⟨x, _, hx⟩ := List.mem_flatMap.1 hv
  split at hx
  · exact ⟨_, List.mem_singleton.1 hx⟩
  · cases hx

set_option maxHeartbeats 1000000 in
theorem eqStrs_any (A A' : Option Addr) (len cap cap' : Nat) (vs : List Value) (w : World) (hr : Reads w w.heap.size 1 A len vs) (hr' : Reads w w.heap.size 1 A' len vs) (hv : ∀ v ∈ vs, ∃ b, v = Value.string b) (hl : len ≤ 140737488351232) :
    Calls Tryz.prog 12 #[.slice A len cap, .slice A' len cap'] w fun e w' => e = .returned (.bool true) ∧ Below w.heap.size w w' := by
  have HV := Lib.hid hv
  clear hv
  go_enter Tryz.func12, Tryz.ntmps12
  go_wp2
  go_loopw [13] (fun i wr => ∃ k : Nat, k ≤ len ∧ i = .int .i64 k ∧ Below w.heap.size w wr) (fun i _ => len - (intOf i).toNat)
  case atStart => exact ⟨0, Nat.zero_le _, rfl, Below.refl _ _⟩
  case round =>
    obtain ⟨k, hk, rfl, hbel⟩ := hrel
    by_cases hkl : k < len
    · obtain ⟨ad, u, rfl, hab, hx, hc⟩ := hr.at_ hkl
      obtain ⟨ad', u', rfl, hab', hx', hc'⟩ := hr'.at_ hkl
      obtain ⟨b, rfl⟩ := HV.out u (List.mem_of_getElem? hx)
      rw [hx] at hx'
      injection hx' with hx'
      subst hx'
      have hc1 := (hbel.cell (p := ad.add k) (by rw [block_of_add]; omega)).trans hc
      have hc2 := (hbel.cell (p := ad'.add k) (by rw [block_of_add]; omega)).trans hc'
      clear hc hc' hx
      have i1 : (k : Int) < (len : Int) := by omega
      have i0 : (0 : Int) ≤ (k : Int) := by omega
      go_wp2
      go_quiet (fail)
      go_wp2
      go_roundw
      case rel => exact ⟨k + 1, by omega, by go_num, bdrew hbel _⟩
      case measure => simp [intOf]; omega
    · go_wp2
      go_ret
      exact ⟨rfl, hbel⟩

set_option maxHeartbeats 1000000 in
theorem eqInts_any (A A' : Option Addr) (len cap cap' : Nat) (vs : List Value) (w : World) (hr : Reads w w.heap.size 1 A len vs) (hr' : Reads w w.heap.size 1 A' len vs) (hv : ∀ v ∈ vs, ∃ b, v = Value.int .i64 b) (hl : len ≤ 140737488351232) :
    Calls Tryz.prog 15 #[.slice A len cap, .slice A' len cap'] w fun e w' => e = .returned (.bool true) ∧ Below w.heap.size w w' := by
  have HV := Lib.hid hv
  clear hv
  go_enter Tryz.func15, Tryz.ntmps15
  go_wp2
  go_loopw [13] (fun i wr => ∃ k : Nat, k ≤ len ∧ i = .int .i64 k ∧ Below w.heap.size w wr) (fun i _ => len - (intOf i).toNat)
  case atStart => exact ⟨0, Nat.zero_le _, rfl, Below.refl _ _⟩
  case round =>
    obtain ⟨k, hk, rfl, hbel⟩ := hrel
    by_cases hkl : k < len
    · obtain ⟨ad, u, rfl, hab, hx, hc⟩ := hr.at_ hkl
      obtain ⟨ad', u', rfl, hab', hx', hc'⟩ := hr'.at_ hkl
      obtain ⟨b, rfl⟩ := HV.out u (List.mem_of_getElem? hx)
      rw [hx] at hx'
      injection hx' with hx'
      subst hx'
      have hc1 := (hbel.cell (p := ad.add k) (by rw [block_of_add]; omega)).trans hc
      have hc2 := (hbel.cell (p := ad'.add k) (by rw [block_of_add]; omega)).trans hc'
      clear hc hc' hx
      have i1 : (k : Int) < (len : Int) := by omega
      have i0 : (0 : Int) ≤ (k : Int) := by omega
      go_wp2
      go_quiet (fail)
      go_wp2
      go_roundw
      case rel => exact ⟨k + 1, by omega, by go_num, bdrew hbel _⟩
      case measure => simp [intOf]; omega
    · go_wp2
      go_ret
      exact ⟨rfl, hbel⟩

set_option maxHeartbeats 16000000 in
set_option maxRecDepth 100000 in
theorem textSpans_any (s : ByteArray) (w : World) (hs : s.size ≤ 1048576) :
    Calls Tryz.prog 3 #[.string s] w fun e w' => e = .returned (.bool true) ∧ Below w.heap.size w w' := by
  have k1 := (cont_le (spans_cont s)).2
  have k2 := textsK_len 4 (spans s)
  have k3 := textsK_len 6 (spans s)
  have k4 := refsK_len (spans s)
  have k5 : (strV (parts s)).length ≤ 2 * s.size + 1 := by have := parts_len s; unfold strV; rw [List.length_map]; exact this
  obtain ⟨E, hE⟩ : ∃ E, E = chkE s := ⟨_, rfl⟩
  have HE := Lib.hid hE
  clear hE
  go_enter Tryz.func3, Tryz.ntmps3
  go_wp2_with fail
  refine (check_any s _ (by omega)).mono ?_
  rintro e w1 ⟨rfl, hw1⟩
  rw [← HE.out, ← hw1]
  clear hw1
  go_wp2_with fail
  refine (textError_any s _ (by omega)).mono ?_
  rintro e w2 ⟨rfl, hw2⟩
  rw [← HE.out, ← hw2]
  clear hw2
  have HB0 := Lib.hid (Below.refl w.heap.size w)

  go_wp2_with fail
  refine (spans_any s _ (by omega)).mono ?_
  rintro e u1a ⟨va1, rfl, ha1, hba1⟩
  obtain ⟨Aa1, ca1, rfl, ra1⟩ := own_reads ha1
  have RA := Lib.hid ra1
  have HBA := Lib.hid hba1
  clear ha1 ra1 hba1
  go_wp2_with fail
  refine (rspans_any s _ (by omega)).mono ?_
  rintro e u1b ⟨vb1, rfl, hb1, hbb1⟩
  obtain ⟨Ab1, cb1, rfl, rb1⟩ := own_reads hb1
  have RB := Lib.hid rb1
  have HBB := Lib.hid hbb1
  have HC := Lib.hid (eqSpans_any u1b (spans s) Aa1 Ab1 (spans s).length ca1 cb1 ((RA.out.below HBB.out).more HBB.out.size) RB.out rfl (by omega))
  clear hb1 rb1 hbb1
  go_wp2_with fail
  refine (HC.out).mono ?_
  rintro e u1c ⟨rfl, hbc1⟩
  have HB1 : Hid (Below w.heap.size w u1c) := HB0.out.trans ((HBA.out.trans ((HBB.out.trans (hbc1.mono HBB.out.size)).mono HBA.out.size)).mono HB0.out.size)
  clear hbc1 HC RA RB HBA HBB

  go_wp2_with fail
  refine (plainOf_any s _ (by omega)).mono ?_
  rintro e u2a ⟨rfl, hba2⟩
  have HBA := Lib.hid hba2
  clear hba2
  go_wp2_with fail
  refine (rplain_any s _ (by omega)).mono ?_
  rintro e u2b ⟨rfl, hbb2⟩
  have HB2 : Hid (Below w.heap.size w u2b) := HB1.out.trans ((HBA.out.trans (hbb2.mono HBA.out.size)).mono HB1.out.size)
  clear hbb2 HBA

  go_wp2_with fail
  refine (links_any s _ (by omega)).mono ?_
  rintro e u3a ⟨va3, rfl, ha3, hba3⟩
  obtain ⟨Aa3, ca3, rfl, ra3⟩ := own_reads ha3
  have RA := Lib.hid ra3
  have HBA := Lib.hid hba3
  clear ha3 ra3 hba3
  go_wp2_with fail
  refine (rlinks_any s _ (by omega)).mono ?_
  rintro e u3b ⟨vb3, rfl, hb3, hbb3⟩
  obtain ⟨Ab3, cb3, rfl, rb3⟩ := own_reads hb3
  have RB := Lib.hid rb3
  have HBB := Lib.hid hbb3
  have HC := Lib.hid (eqStrs_any Aa3 Ab3 _ ca3 cb3 _ u3b ((RA.out.below HBB.out).more HBB.out.size) RB.out (strs_of_texts 4 _) (by omega))
  clear hb3 rb3 hbb3
  go_wp2_with fail
  refine (HC.out).mono ?_
  rintro e u3c ⟨rfl, hbc3⟩
  have HB3 : Hid (Below w.heap.size w u3c) := HB2.out.trans ((HBA.out.trans ((HBB.out.trans (hbc3.mono HBB.out.size)).mono HBA.out.size)).mono HB2.out.size)
  clear hbc3 HC RA RB HBA HBB

  go_wp2_with fail
  refine (refs_any s _ (by omega)).mono ?_
  rintro e u4a ⟨va4, rfl, ha4, hba4⟩
  obtain ⟨Aa4, ca4, rfl, ra4⟩ := own_reads ha4
  have RA := Lib.hid ra4
  have HBA := Lib.hid hba4
  clear ha4 ra4 hba4
  go_wp2_with fail
  refine (rrefs_any s _ (by omega)).mono ?_
  rintro e u4b ⟨vb4, rfl, hb4, hbb4⟩
  obtain ⟨Ab4, cb4, rfl, rb4⟩ := own_reads hb4
  have RB := Lib.hid rb4
  have HBB := Lib.hid hbb4
  have HC := Lib.hid (eqInts_any Aa4 Ab4 _ ca4 cb4 _ u4b ((RA.out.below HBB.out).more HBB.out.size) RB.out (ints_of_refs _) (by omega))
  clear hb4 rb4 hbb4
  go_wp2_with fail
  refine (HC.out).mono ?_
  rintro e u4c ⟨rfl, hbc4⟩
  have HB4 : Hid (Below w.heap.size w u4c) := HB3.out.trans ((HBA.out.trans ((HBB.out.trans (hbc4.mono HBB.out.size)).mono HBA.out.size)).mono HB3.out.size)
  clear hbc4 HC RA RB HBA HBB

  go_wp2_with fail
  refine (tags_any s _ (by omega)).mono ?_
  rintro e u5a ⟨va5, rfl, ha5, hba5⟩
  obtain ⟨Aa5, ca5, rfl, ra5⟩ := own_reads ha5
  have RA := Lib.hid ra5
  have HBA := Lib.hid hba5
  clear ha5 ra5 hba5
  go_wp2_with fail
  refine (rtags_any s _ (by omega)).mono ?_
  rintro e u5b ⟨vb5, rfl, hb5, hbb5⟩
  obtain ⟨Ab5, cb5, rfl, rb5⟩ := own_reads hb5
  have RB := Lib.hid rb5
  have HBB := Lib.hid hbb5
  have HC := Lib.hid (eqStrs_any Aa5 Ab5 _ ca5 cb5 _ u5b ((RA.out.below HBB.out).more HBB.out.size) RB.out (strs_of_texts 6 _) (by omega))
  clear hb5 rb5 hbb5
  go_wp2_with fail
  refine (HC.out).mono ?_
  rintro e u5c ⟨rfl, hbc5⟩
  have HB5 : Hid (Below w.heap.size w u5c) := HB4.out.trans ((HBA.out.trans ((HBB.out.trans (hbc5.mono HBB.out.size)).mono HBA.out.size)).mono HB4.out.size)
  clear hbc5 HC RA RB HBA HBB

  go_wp2_with fail
  refine (unmarked_any s _ (by omega)).mono ?_
  rintro e u6a ⟨rfl, hba6⟩
  have HBA := Lib.hid hba6
  clear hba6
  go_wp2_with fail
  refine (runmarked_any s _ (by omega)).mono ?_
  rintro e u6b ⟨rfl, hbb6⟩
  have HB6 : Hid (Below w.heap.size w u6b) := HB5.out.trans ((HBA.out.trans (hbb6.mono HBA.out.size)).mono HB5.out.size)
  clear hbb6 HBA

  go_wp2_with fail
  refine (parts_any s _ (by omega)).mono ?_
  rintro e u7a ⟨va7, rfl, ha7, hba7⟩
  obtain ⟨Aa7, ca7, rfl, ra7⟩ := own_reads ha7
  have RA := Lib.hid ra7
  have HBA := Lib.hid hba7
  clear ha7 ra7 hba7
  go_wp2_with fail
  refine (rparts_any s _ (by omega)).mono ?_
  rintro e u7b ⟨vb7, rfl, hb7, hbb7⟩
  obtain ⟨Ab7, cb7, rfl, rb7⟩ := own_reads hb7
  have RB := Lib.hid rb7
  have HBB := Lib.hid hbb7
  have HC := Lib.hid (eqStrs_any Aa7 Ab7 _ ca7 cb7 _ u7b ((RA.out.below HBB.out).more HBB.out.size) RB.out (strs_of_strV _) (by omega))
  clear hb7 rb7 hbb7
  go_wp2_with fail
  refine (HC.out).mono ?_
  rintro e u7c ⟨rfl, hbc7⟩
  have HB7 : Hid (Below w.heap.size w u7c) := HB6.out.trans ((HBA.out.trans ((HBB.out.trans (hbc7.mono HBB.out.size)).mono HBA.out.size)).mono HB6.out.size)
  clear hbc7 HC RA RB HBA HBB

  go_wp2_with fail
  refine (escaped_any s _ (by omega)).mono ?_
  rintro e u8a ⟨rfl, hba8⟩
  have HBA := Lib.hid hba8
  clear hba8
  go_wp2_with fail
  refine (rescaped_any s _ (by omega)).mono ?_
  rintro e u8b ⟨rfl, hbb8⟩
  rw [hbb8]
  have HB8 : Hid (Below w.heap.size w u8a) := HB7.out.trans (HBA.out.mono HB7.out.size)
  clear hbb8 HBA

  go_wp2_with fail
  go_ret
  exact ⟨rfl, HB8.out⟩

end Go.Proofs.YtcbmddgafkoooaaGreatDoor

namespace Go.Proofs.YtcbmddgafkoooaaGreatDoor.textSpans
open Go.ChangeShapes Go.WideShapes Go.ChangeAt Go.RowKit Go.Joins
open Go.ChangeMaps (open_string shut_string)

theorem readable : ∀ t ∈ [9], Tryz.prog.readableRec t = true ∧ t < Tryz.prog.types.size := by
  intro t ht
  simp only [List.mem_cons, List.not_mem_nil, or_false] at ht
  subst ht
  · exact ⟨by kernel_rfl, of_decide_eq_true (by kernel_rfl)⟩

set_option maxHeartbeats 1000000 in
set_option maxRecDepth 100000 in
theorem contract (H : Type) (enc : TypeId × Value → H) (W : World) (base : Nat) (args : Array Value) (ds gs : List (DataW H)) (before : List MemPlace)
    (hval : ∀ (j : Nat) t v, Tryz.f3.params[j]? = some t → args[j]? = some v → Value.okWide Tryz.prog W .any base t v)
    (hW : DataW.Whole enc Tryz.prog Tryz.f3.params.toList Rows.textSpansSpec.vars false W args.toList ds gs before)
    (hk : Rows.uptoSmall H (ds ++ gs) = true)
    (hsz : (DataW.weightsEach Tryz.prog (Tryz.f3.params.toList ++ Rows.textSpansSpec.plain.varTypes Tryz.prog) (ds ++ gs)).all (· ≤ reachBytes) = true) (_hL : laidMetH Tryz.prog Rows.textSpansUptoRow.laid W) :
    Calls Tryz.prog 3 args W fun e W' => ∃ v, e = .returned v ∧ Rows.textSpansSpec.post enc Tryz.prog Tryz.f3 false true false false W args v W' := by
  have hW' := hW
  obtain ⟨p, q, hA0, hV, rfl, _, _⟩ := hW
  have hA : DataW.TrodAll enc Tryz.prog W 0 (fun _ => true) true Tryz.f3.params.toList args.toList ds p := hA0
  rw [Tryz.params3] at hA hval hsz
  obtain ⟨v0, vs0, d0, ds0, p0, q0, hargs, rfl, rfl, h0, r0⟩ := trodAll_cons hA
  obtain ⟨rfl, rfl, rfl⟩ := trodAll_nil r0
  obtain rfl : args = #[v0] := Array.ext' hargs
  obtain ⟨rfl, rfl⟩ := trodVars_none hV
  clear hA0 hA
  have hsz1 : (DataW.weightsEach Tryz.prog [9] [d0]).all (· ≤ reachBytes) = true := hsz
  obtain ⟨a0, rfl, rfl, rfl, _⟩ := open_string Tryz.underlying9 (hval 0 9 v0 rfl rfl) h0
  have e0 : a0.data.toList.length = a0.size := rfl
  have hb := of_decide_eq_true hk
  simp only [List.cons_append, List.nil_append, Rows.uptoBulkAll, Rows.uptoBulk] at hb
  refine (textSpans_any a0 W (by omega)).mono fun e W' ⟨he, hbel⟩ => ?_
  subst he
  exact ⟨_, rfl, law_post Tryz.laidOut rfl Tryz.underlying4 rfl readable rfl hW' hbel⟩

theorem laid_met (os : Os) (args : Array Value) : laidMet Tryz.prog Rows.textSpansUptoRow.laid ((laidWorld os).forCall (fun _ _ => 0) ⟨#[], args, []⟩).memory :=
  laidMet_of_run' 8 (by kernel_rfl) (by kernel_rfl)
def wArgs : Array Value := #[.string ⟨#[]⟩]
theorem witness_row (os : Os) {H : Type} (enc : TypeId × Value → H) :
    (Rows.OpenSpec.upto Rows.textSpansSpec).preRow enc Tryz.prog Tryz.f3 Rows.textSpansUptoRow.domain false Rows.textSpansUptoRow.laid ((laidWorld os).forCall (fun _ _ => 0) ⟨#[], wArgs, []⟩).memory wArgs := by
  have hw : ((DataW.whole enc Tryz.prog ((laidWorld os).forCall (fun _ _ => 0) ⟨#[], wArgs, []⟩).memory Tryz.f3.params.toList Rows.textSpansSpec.vars false wArgs.toList 8).map (fun x => (x.1, x.2.1))) =
      some ([.lit (.string [])], []) := by kernel_rfl
  obtain ⟨⟨x1, x2, x3⟩, hx, hx1⟩ := Option.map_eq_some_iff.1 hw
  simp only [Prod.mk.injEq] at hx1
  obtain ⟨rfl, rfl⟩ := hx1
  exact OpenSpec.preRow_of_cond 8 hx (by kernel_rfl) (fun k hk => by cases hk; kernel_rfl) (by kernel_rfl) (laid_met os _)

set_option maxRecDepth 100000 in
set_option maxHeartbeats 2000000 in
theorem lifted (os : Os) (started : os.Started) (H : Type) (enc : TypeId × Value → H) (F : Stop.Interp) :
    ReturnsInHanded {} Tryz.checked os 3 .any ((Rows.OpenSpec.upto Rows.textSpansSpec).preRow enc Tryz.prog Tryz.f3 Rows.textSpansUptoRow.domain false Rows.textSpansUptoRow.laid) (((Rows.OpenSpec.upto Rows.textSpansSpec).at F).post enc Tryz.prog Tryz.f3 false true false false) := by
  refine returnsInHanded_of_row (C := Tryz.checked) (s := Rows.OpenSpec.upto Rows.textSpansSpec) Tryz.own started (by kernel_rfl) Tryz.func3
    (witness_row_atRef (enc := enc) (C := Tryz.checked) false (laidWorld os) wArgs rfl (by kernel_rfl) (by kernel_rfl) (by kernel_rfl) (witness_row os enc)) ?_
  intro W base args ds gs before hval hW _ hcond hsz hL _ _
  exact contract H enc W base args ds gs before hval hW (hcond _ rfl) hsz hL

theorem said : Rows.TextSpansUptoSaid :=
  OpenClaim.holds_of_cond 3 Tryz.f3 rfl rfl rfl rfl rfl rfl rfl ⟨rfl, rfl, rfl, rfl, rfl⟩ rfl rfl rfl rfl rfl (by kernel_rfl) Tryz.func3 (by kernel_rfl)
    (of_decide_eq_true (by kernel_rfl)) (by unfold Func.isWrapper; first | (rw [if_pos (by decide +kernel)]; kernel_rfl) | (rw [if_neg (by decide +kernel)]; exact ⟨rfl, rfl⟩))
    (fun os started H enc _ F => by rw [OpenClaim.pre_eq_preRow]; exact lifted os started H enc F)

theorem plain (f : FuncId) (fn : Func) (hf : Tryz.pinned.checked.prog.funcNamed "florilegium/florlaw1.TextSpans" = some f) (hfn : Tryz.pinned.checked.prog.funcs[f]? = some fn) :
    true = Tryz.pinned.checked.prog.looks [] ∧ ∀ (j : Nat) t, fn.params[j]? = some t → Tryz.pinned.checked.prog.wantsStandIn t = false := by
  obtain rfl : f = 3 := Option.some.inj ((show Tryz.prog.funcNamed "florilegium/florlaw1.TextSpans" = some 3 by kernel_rfl).symm.trans hf) |>.symm
  obtain rfl : fn = Tryz.f3 := (Option.some.inj (Tryz.func3.symm.trans hfn)).symm
  refine ⟨by kernel_rfl, fun j t ht => ?_⟩
  rw [Tryz.params3] at ht
  have hm : t ∈ [9] := by simpa using Array.mem_of_getElem? ht
  simp only [List.mem_cons, List.not_mem_nil, or_false] at hm
  subst hm
  · exact (show Tryz.prog.wantsStandIn 9 = false by kernel_rfl)

theorem card : Rows.TextSpansUptoCardSaid :=
  Claim7.holds_tied_plain_at .later [] _ _ _ _ said (fun _ h => by cases h) (by kernel_rfl) (fun _ h => by cases h) textSpansUpto_row_tie rfl ⟨rfl, rfl⟩ (by kernel_rfl) rfl plain (by kernel_rfl)
end Go.Proofs.YtcbmddgafkoooaaGreatDoor.textSpans
