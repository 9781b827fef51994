/-
  DERIVED. The contract of the iterator that find.wordsOf hands back: the words of a text, each with its place. Conditions: the text's size. By an AI agent.
-/
import Derived.RangeFuncNested
import Derived.RangeFuncBound
import Derived.RangeFuncCalls
import Derived.RangeFuncLeaves
import Derived.Shelf.Abstract
import Derived.Shelf.RegionOpen
import Derived.WalkKit
import Derived.OwnWalkIn
import Derived.TacticsInMore
import Derived.LoopNIn
import Derived.LoopIn
import Derived.Test.YtpkpnmfcjoheoaaQrSmall
namespace Go.Proofs.Ytpkpnmfcjoheoaa
open Go.RowKit Go.Shelf

def encW (x : Wd) : Array Value := #[.agg #[.string x.text, .int .i64 x.frm, .int .i64 x.to_]]
/-- block Bs is kept, and the heap does not shrink -/
structure KB (Bs : Nat) (W W' : World) : Prop where
  size : W.heap.size ≤ W'.heap.size
  block : W'.heap[Bs]? = W.heap[Bs]?
theorem KB.cell {Bs : Nat} {W W' : World} (h : KB Bs W W') (i : Nat) : W'.cell? ⟨Bs, i, none⟩ = W.cell? ⟨Bs, i, none⟩ := World.cell?_of_block (a := ⟨Bs, i, none⟩) h.block
theorem KB.trans {Bs : Nat} {A B C : World} (h : KB Bs A B) (k : KB Bs B C) : KB Bs A C := ⟨Nat.le_trans h.size k.size, k.block.trans h.block⟩
theorem KB.of_below {Bs B : Nat} {W W' : World} (h : Below B W W') (hB : Bs < B) : KB Bs W W' := ⟨h.size, h.block Bs hB⟩
theorem KB.put {Bs : Nat} {w : World} (hB : Bs < w.heap.size) (W : World) (l : Nat) (o o' : Obj) (hl : w.heap.size ≤ l) (_ : W.heap[l]? = some o) (_ : o.isCells = false) (_ : o.isWalk = false) : KB Bs W (W.putObj l o') :=
  ⟨by simp, World.putObj_heap_other (by omega)⟩
theorem grown_of {w w' : World} (hb : Below w.heap.size w w') : w.grownBy w' none := ⟨hb.os, hb.tape, hb.output, hb.size, fun k hk _ => hb.block k hk⟩

set_option maxRecDepth 100000 in
set_option maxHeartbeats 4000000 in
theorem words1_in (n : Nat) (hn : 1 ≤ n) (l Bs n₀ : Nat) (s : ByteArray) (hsz : s.size ≤ 4294967280) (J Jx : List Wd → World → Prop) (hB : Bs < n₀)
    (hY : ∀ pre x W, J pre W → pre.length < (wordsF s 0).length → YieldAt Fence.wide (n - 1) Try.prog l (encW x) W fun e W' =>
      (e = .returned (.bool true) ∧ J (pre ++ [x]) W' ∧ KB Bs W W') ∨ (e = .returned (.bool false) ∧ Jx (pre ++ [x]) W'))
    (W : World) (hn0 : n₀ ≤ W.heap.size) (hJA : AbidesFrom W.heap.size J) (hs : W.cell? ⟨Bs, 0, none⟩ = some (.string s)) (h0 : J [] W) :
    CallsIn Fence.wide n Try.prog 27 #[.func (.yield l) #[] #[], .pointer (some ⟨Bs, 0, none⟩)] W fun e W' => (∃ v, e = .returned v) ∧
      ((∃ ys, ys = wordsF s 0 ∧ J ys W') ∨ (∃ pre, pre <+: wordsF s 0 ∧ Jx pre W')) := by
  refine callsIn_of_wp Try.func27 rfl trivial ?_ rfl
  simp only [Try.ntmps27, List.size_toArray, List.length_cons, List.length_nil, Nat.reduceAdd, Nat.reduceSub, Array.replicate_succ, Array.replicate_zero, List.push_toArray, List.append_toArray, List.nil_append, List.cons_append]
  gi_wp2
  gi_loopw [3] (fun p wr => ∃ (f : Nat) (pre : List Wd), p = .int .i64 (f : Int) ∧ f ≤ s.size ∧ Hid (wordsF s 0 = pre ++ wordsF s f) ∧ J pre wr ∧ wr.cell? ⟨Bs, 0, none⟩ = some (.string s) ∧ W.heap.size ≤ wr.heap.size)
    (fun p _ => s.size - (intOf p).toNat)
  case atStart => exact ⟨0, [], rfl, Nat.zero_le _, rfl, h0, hs, Nat.le_refl _⟩
  case round =>
    obtain ⟨f, pre, rfl, hf, hw, hJ, hc, hwz⟩ := hrel
    have i0 : (0 : Int) ≤ (f : Int) := by omega
    by_cases hfs : f < s.size
    · have i1 : (f : Int) < (s.size : Int) := by omega
      have hc' := hc
      gi_wp2
      obtain ⟨wo, rfl⟩ : ∃ wo : World, wo = wr := ⟨_, rfl⟩
      gi_loopw [4] (fun q wx => ∃ t : Nat, q = .int .i64 (t : Int) ∧ f ≤ t ∧ t ≤ s.size ∧ Hid (upto notWB s t = upto notWB s f) ∧ wx = wo)
        (fun q _ => s.size - (intOf q).toNat)
      case atStart => exact ⟨f, rfl, Nat.le_refl _, hf, rfl, rfl⟩
      case round =>
        obtain ⟨t, rfl, hft, hts, hu, rfl⟩ := hrel
        have k0 : (0 : Int) ≤ (t : Int) := by omega
        have ways : (∃ h : t < s.size, isWB (s[t].toNat : Int) = true) ∨ (∃ h : t < s.size, isWB (s[t].toNat : Int) = false) ∨ t = s.size := by
          by_cases h : t < s.size
          · cases hq : isWB (s[t].toNat : Int)
            · exact .inr (.inl ⟨h, hq⟩)
            · exact .inl ⟨h, hq⟩
          · exact .inr (.inr (by omega))
        rcases ways with ⟨hlt, hq⟩ | ways
        · have k1 : (t : Int) < (s.size : Int) := by omega
          have hc0 : (0 : Int) ≤ (s[t].toNat : Int) := by omega
          have hc1 : (s[t].toNat : Int) ≤ 255 := by have := (s[t]).toNat_lt; omega
          have HU : Hid (upto notWB s (t + 1) = upto notWB s f) := (upto_go hlt (by rw [bt_at hlt]; unfold notWB; rw [hq]; rfl)).symm.trans hu.out
          gi_wp2
          refine ⟨trivial, (callsIn_wide.2 (isWB_any _ _ hc0 hc1)).mono ?_⟩
          rintro e w' ⟨rfl, rfl⟩
          rw [hq]
          gi_wp2
          go_roundw
          case rel => exact ⟨t + 1, by go_num, by omega, by omega, HU, trivial⟩
          case measure => simp [intOf]; omega
        · have hL : upto notWB s f = t := by
            rw [← hu.out]
            rcases ways with ⟨h, hq⟩ | h
            · exact upto_stop (by rw [bt_at h]; unfold notWB; rw [hq]; rfl)
            · exact upto_out (by omega)
          have hwi := wordsF_in hfs
          rw [hL] at hwi
          clear hL hu
          rcases ways with ⟨hlt, hq⟩ | hte
          · have k1 : (t : Int) < (s.size : Int) := by omega
            have hc0 : (0 : Int) ≤ (s[t].toNat : Int) := by omega
            have hc1 : (s[t].toNat : Int) ≤ 255 := by have := (s[t]).toNat_lt; omega
            have k2 : (t : Int) ≤ (s.size : Int) := by omega
            have k3 : (f : Int) ≤ (t : Int) := by omega
            by_cases hcnd : 0 < t - f ∧ t - f ≤ 30
            · rw [if_pos hcnd] at hwi
              have hxx : wordsF s 0 = (pre ++ [⟨low (s.extract f t), f, t⟩]) ++ wordsF s t := by rw [hw.out, hwi, show max t (f + 1) = t by omega]; simp
              have HXX := Lib.hid hxx
              have m1 : (0 : Int) < (t : Int) - (f : Int) := by omega
              have m2 : (t : Int) - (f : Int) ≤ 30 := by omega
              have hlen : pre.length < (wordsF s 0).length := by rw [hxx]; simp
              have hpx : (pre ++ [⟨low (s.extract f t), f, t⟩]) <+: wordsF s 0 := ⟨_, hxx.symm⟩
              have HPX := Lib.hid hpx
              have HLN := Lib.hid hlen
              clear hwi hxx hlen hpx hw
              gi_wp2
              refine ⟨trivial, (callsIn_wide.2 (isWB_any _ _ hc0 hc1)).mono ?_⟩
              rintro e w' ⟨rfl, rfl⟩
              rw [hq]
              gi_wp2
              refine ⟨trivial, (callsIn_wide.2 (lower_any (s.extract f t) _ (by rw [ByteArray.size_extract]; omega))).mono ?_⟩
              rintro e w5 ⟨rfl, hb5⟩
              have hJ5 : J pre w5 := hJA _ _ _ none hJ (grown_of hb5) (fun r e => by cases e)
              have hc5 := (hb5.cell (p := ⟨Bs, 0, none⟩) (by show Bs < _; omega)).trans hc
              have hz5 := hb5.size
              obtain ⟨fn, tmps, assign, body, hy, hR⟩ := hY pre ⟨low (s.extract f t), f, t⟩ w5 hJ5 HLN.out
              dsimp only [encW] at hy
              gi_wp2
              refine hR.mono ?_
              rintro e W3 (⟨rfl, hJ3, hk3⟩ | ⟨rfl, hJx3⟩)
              · have hc3 := (hk3.cell 0).trans hc5
                have hz3 := hk3.size
                gi_wp2
                go_roundw
                case rel => exact ⟨t, pre ++ [⟨low (s.extract f t), f, t⟩], rfl, by omega, HXX, hJ3, hc3, by omega⟩
                case measure => simp [intOf]; omega
              · gi_wp2
                refine bodyPost_ret (results_none rfl _ _ _) rfl ?_
                exact ⟨⟨_, rfl⟩, .inr ⟨_, HPX.out, hJx3⟩⟩
            · rw [if_neg hcnd, List.nil_append] at hwi
              have HXX : Hid (wordsF s 0 = pre ++ wordsF s (max t (f + 1))) := by show _ = _; rw [hw.out, hwi]
              clear hwi hw
              by_cases hz : 0 < t - f
              · have m1 : (0 : Int) < (t : Int) - (f : Int) := by omega
                have m2 : ¬ (t : Int) - (f : Int) ≤ 30 := by omega
                have hmx : max t (f + 1) = t := by omega
                rw [hmx] at HXX
                clear hmx
                gi_wp2
                refine ⟨trivial, (callsIn_wide.2 (isWB_any _ _ hc0 hc1)).mono ?_⟩
                rintro e w' ⟨rfl, rfl⟩
                rw [hq]
                gi_wp2
                refine ⟨trivial, ?_⟩
                gi_wp2
                refine ⟨fun _ h => (by cases h), ?_⟩
                gi_wp2
                go_roundw
                case rel => exact ⟨t, pre, rfl, by omega, HXX, hJ, hc, hwz⟩
                case measure => simp [intOf]; omega
              · have m1 : ¬ (0 : Int) < (t : Int) - (f : Int) := by omega
                obtain rfl : t = f := by omega
                rw [show max t (t + 1) = t + 1 by omega] at HXX
                gi_wp2
                refine ⟨trivial, (callsIn_wide.2 (isWB_any _ _ hc0 hc1)).mono ?_⟩
                rintro e w' ⟨rfl, rfl⟩
                rw [hq]
                gi_wp2
                refine ⟨trivial, ?_⟩
                gi_wp2
                refine ⟨fun _ h => (by cases h), ?_⟩
                gi_wp2
                go_roundw
                case rel => exact ⟨t + 1, pre, by go_num, by omega, HXX, hJ, hc, hwz⟩
                case measure => simp [intOf]; omega
          · have k1 : ¬ (t : Int) < (s.size : Int) := by omega
            have k2 : (t : Int) ≤ (s.size : Int) := by omega
            have k3 : (f : Int) ≤ (t : Int) := by omega
            have k4 : t ≤ s.size := by omega
            clear hte
            by_cases hcnd : 0 < t - f ∧ t - f ≤ 30
            · rw [if_pos hcnd] at hwi
              have hxx : wordsF s 0 = (pre ++ [⟨low (s.extract f t), f, t⟩]) ++ wordsF s t := by rw [hw.out, hwi, show max t (f + 1) = t by omega]; simp
              have HXX := Lib.hid hxx
              have m1 : (0 : Int) < (t : Int) - (f : Int) := by omega
              have m2 : (t : Int) - (f : Int) ≤ 30 := by omega
              have hlen : pre.length < (wordsF s 0).length := by rw [hxx]; simp
              have hpx : (pre ++ [⟨low (s.extract f t), f, t⟩]) <+: wordsF s 0 := ⟨_, hxx.symm⟩
              have HPX := Lib.hid hpx
              have HLN := Lib.hid hlen
              clear hwi hxx hlen hpx hw
              gi_wp2
              refine ⟨trivial, ?_⟩
              gi_wp2
              refine ⟨trivial, (callsIn_wide.2 (lower_any (s.extract f t) _ (by rw [ByteArray.size_extract]; omega))).mono ?_⟩
              rintro e w5 ⟨rfl, hb5⟩
              have hJ5 : J pre w5 := hJA _ _ _ none hJ (grown_of hb5) (fun r e => by cases e)
              have hc5 := (hb5.cell (p := ⟨Bs, 0, none⟩) (by show Bs < _; omega)).trans hc
              have hz5 := hb5.size
              obtain ⟨fn, tmps, assign, body, hy, hR⟩ := hY pre ⟨low (s.extract f t), f, t⟩ w5 hJ5 HLN.out
              dsimp only [encW] at hy
              gi_wp2
              refine hR.mono ?_
              rintro e W3 (⟨rfl, hJ3, hk3⟩ | ⟨rfl, hJx3⟩)
              · have hc3 := (hk3.cell 0).trans hc5
                have hz3 := hk3.size
                gi_wp2
                go_roundw
                case rel => exact ⟨t, pre ++ [⟨low (s.extract f t), f, t⟩], rfl, by omega, HXX, hJ3, hc3, by omega⟩
                case measure => simp [intOf]; omega
              · gi_wp2
                refine bodyPost_ret (results_none rfl _ _ _) rfl ?_
                exact ⟨⟨_, rfl⟩, .inr ⟨_, HPX.out, hJx3⟩⟩
            · rw [if_neg hcnd, List.nil_append] at hwi
              have HXX : Hid (wordsF s 0 = pre ++ wordsF s (max t (f + 1))) := by show _ = _; rw [hw.out, hwi]
              clear hwi hw
              by_cases hz : 0 < t - f
              · have m1 : (0 : Int) < (t : Int) - (f : Int) := by omega
                have m2 : ¬ (t : Int) - (f : Int) ≤ 30 := by omega
                have hmx : max t (f + 1) = t := by omega
                rw [hmx] at HXX
                clear hmx
                gi_wp2
                refine ⟨trivial, ?_⟩
                gi_wp2
                refine ⟨trivial, ?_⟩
                gi_wp2
                refine ⟨fun _ h => (by cases h), ?_⟩
                gi_wp2
                go_roundw
                case rel => exact ⟨t, pre, rfl, by omega, HXX, hJ, hc, hwz⟩
                case measure => simp [intOf]; omega
              · exfalso; omega
    · obtain rfl : f = s.size := by omega
      have hw2 := hw.out
      rw [wordsF_out (Nat.le_refl _), List.append_nil] at hw2
      have HW := Lib.hid hw2
      clear hw2 hw
      gi_wp2
      go_end0
      exact ⟨⟨_, rfl⟩, .inl ⟨pre, HW.out.symm, hJ⟩⟩
end Go.Proofs.Ytpkpnmfcjoheoaa
