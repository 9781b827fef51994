/-
  DERIVED. The walk of a byteStringReplacer's Replace: a text with a backslash ahead of each quotation mark and backslash. Conditions: the text's length.
  By an AI agent.
-/
import Derived.Test.YtnlonleljbbgoaaGreatDoorKe09
import Derived.Test.YtnlonleljbbgoaaGreatDoorKe02
import Derived.Lib.SlBuf
import Derived.Deep.LoopGhost
import Derived.Deep.DeepCutAuto
namespace Go.Proofs.YtnlonleljbbgoaaGreatDoor
open Go.RowKit

/-- what a byte is replaced by -/
def repV (ga ca gb cb : Nat) (c : UInt8) : Value := if c = 34 then .slice (some ⟨ga, 0, none⟩) 2 ca else if c = 92 then .slice (some ⟨gb, 0, none⟩) 2 cb else .slice none 0 0
/-- how many bytes are replaced -/
def rpN (l : List UInt8) : Nat := Lib.countByte l 34 + Lib.countByte l 92
theorem rpN_take {l : List UInt8} {k : Nat} (h : k < l.length) : rpN (l.take (k + 1)) = rpN (l.take k) + (if l[k] = 34 then 1 else 0) + (if l[k] = 92 then 1 else 0) := by
  unfold rpN
  rw [count_take 34 h, count_take 92 h]
  omega
theorem rpN_le (l : List UInt8) : rpN l ≤ l.length := by
  have h := escL_le l
  rw [escL_len] at h
  unfold rpN
  omega
theorem escL_rpN (l : List UInt8) : (escL l).length = l.length + rpN l := by rw [escL_len, rpN]; omega
theorem escL_zero {l : List UInt8} (h : rpN l = 0) : escL l = l := escL_same (by unfold rpN at h; omega) (by unfold rpN at h; omega)

theorem step_copy_run {P : Program} {ops : Array Oper} {o : Oper} {a : Act} {w : World} {K : Act → World → Prop} {Q : Exit → Act → World → Prop} {E : Prop} (hgd : o.guard = none) (d s : Operand) (t t' : TypeId)
    (ho : o.op = .call { callee := .builtin .copy, args := #[d, s], argTypes := #[t, t'] }) (v u : Value) (hd : a.eval d = v) (hs : a.eval s = u) {v' : Value} {w' : World}
    (hr : (Builtin.copy_ #[t, t'] o.type #[v, u]).run P w = .ok v' w') (h : K (a.put o.dst v') w') : if Region.wanted o (yielded ops a.tmps) = true then Oper.wp P o a w K Q else E := by
  have hw : Region.wanted o (yielded ops a.tmps) = true := by simp [Region.wanted, hgd]
  rw [if_pos hw]
  exact Lib.wp_copy_run w d s t t' ho v u hd hs hr h
theorem buf_push {w0 wr : World} {h N : Nat} {acc : List UInt8} (hb : Lib.Buf w0 wr h N acc) (c : UInt8) (hl : acc.length < N) : Lib.Buf w0 (wr.setCell ⟨h, acc.length, none⟩ (.int .u8 (c.toNat : Int))) h N (acc ++ [c]) where
  below := hb.below.setCell (p := ⟨h, acc.length, none⟩) (Nat.le_refl _) _
  there j hj := by
    obtain ⟨u, hu⟩ := Option.isSome_iff_exists.1 (hb.there acc.length hl)
    by_cases e : j = acc.length
    · subst e
      rw [World.cell?_setCell_same _ _ _ hu]; rfl
    · rw [World.cell?_setCell_other _ _ _ _ (by intro q; injection q with _ q; exact e q.symm)]
      exact hb.there j hj
  free j hj := (World.frozen?_setCell _ _ _ _).trans (hb.free j hj)
  holds j x hx := by
    obtain ⟨u, hu⟩ := Option.isSome_iff_exists.1 (hb.there acc.length hl)
    by_cases e : j = acc.length
    · subst e
      rw [List.getElem?_append_right (Nat.le_refl _), Nat.sub_self] at hx
      simp at hx
      subst hx
      exact World.cell?_setCell_same _ _ _ hu
    · rw [World.cell?_setCell_other _ _ _ _ (by intro q; injection q with _ q; exact e q.symm)]
      have hj : j < acc.length := by
        have := (List.getElem?_eq_some_iff.1 hx).1
        simp at this
        omega
      rw [List.getElem?_append_left hj] at hx
      exact hb.holds j x hx
  fits := by rw [List.length_append]; exact hl

set_option maxHeartbeats 4000000 in
set_option maxRecDepth 100000 in
theorem rep_any (rb B : Nat) (s : ByteArray) (w : World) (h : RepIs w B rb) (hs : s.size ≤ 4194304) :
    Calls Tryz.prog 346 #[.pointer (some ⟨rb, 0, none⟩), .string s] w fun e w' => e = .returned (.string (escS s)) ∧ Below w.heap.size w w' := by
  obtain ⟨z, ga, ca, gb, cb, _, h1, h2, h3, h4, h5, h6, h7, h8, h9, h10⟩ := h
  have HCT : Hid (∀ c W, Calls Tryz.prog 181 #[.string s, .string ⟨#[c]⟩] W fun e w' => e = .returned (.int .i64 (Lib.countByte s.data.toList c)) ∧ w' = W) := fun c W => Tryz.strings_Count_one s c W
  have qN : ∀ (w : World) (a : Option Addr) (n c n' c' : Nat), (binOp .neq 103 (.slice a n c) (.slice none n' c')).run Tryz.prog w = .ok (.bool (!a.isNone)) w := fun w a n c n' c' => run_neq_slice_nil_any w _ _ a n c n' c' Tryz.underlying103
  have HR : Hid (∀ c : UInt8, w.cell? ⟨rb, c.toNat, none⟩ = some (repV ga ca gb cb c)) := fun c => by
    unfold repV
    by_cases e : c = 34
    · subst e; exact h1
    · rw [if_neg e]
      by_cases e' : c = 92
      · subst e'; exact h2
      · rw [if_neg e']
        exact h3 _ (UInt8.toNat_lt c) (fun h => e (UInt8.toNat_inj.1 h)) (fun h => e' (UInt8.toNat_inj.1 h))
  have hlen : s.data.toList.length = s.size := by simp
  have HL := Lib.hid hlen
  clear hlen h3
  go_enter Tryz.func346, Tryz.ntmps346
  go_upto_if 26 with fail
  go_cut [5, 6] (fun s5 s6 wc => s5 = .int .i64 ((s.size + rpN s.data.toList : Nat) : Int) ∧ s6 = .bool (decide (0 < rpN s.data.toList)) ∧ ∃ q, wc = w.drewN q)
  case first =>
    by_cases hbig : (16 : Int) ≤ (s.size : Int)
    · have q92 : ∀ h : 0 < (⟨#[92]⟩ : ByteArray).size, ((⟨#[92]⟩ : ByteArray)[0]'h).toNat = 92 := fun _ => rfl
      have q34 : ∀ h : 0 < (⟨#[34]⟩ : ByteArray).size, ((⟨#[34]⟩ : ByteArray)[0]'h).toNat = 34 := fun _ => rfl
      have HN : Hid (rpN s.data.toList = Lib.countByte s.data.toList 34 + Lib.countByte s.data.toList 92) := rfl
      have hle := rpN_le s.data.toList
      rw [HL.out, HN.out] at hle
      have C92 : Hid (∀ W, Calls Tryz.prog 181 #[.string s, .string ⟨#[92]⟩] W fun e w' => e = .returned (.int .i64 (Lib.countByte s.data.toList 92)) ∧ w' = W) := fun W => HCT.out 92 W
      have C34 : Hid (∀ W, Calls Tryz.prog 181 #[.string s, .string ⟨#[34]⟩] W fun e w' => e = .returned (.int .i64 (Lib.countByte s.data.toList 34)) ∧ w' = W) := fun W => HCT.out 34 W
      obtain ⟨n1, hn1⟩ : ∃ n, n = Lib.countByte s.data.toList 92 := ⟨_, rfl⟩
      obtain ⟨n2, hn2⟩ : ∃ n, n = Lib.countByte s.data.toList 34 := ⟨_, rfl⟩
      rw [← hn1] at C92 HN hle
      rw [← hn2] at C34 HN hle
      clear hn1 hn2 HCT HR HL
      rcases Nat.eq_zero_or_pos n1 with z1 | z1 <;> rcases Nat.eq_zero_or_pos n2 with z2 | z2
      · subst z1
        subst z2
        have e1 : decide (0 < rpN s.data.toList) = false := by rw [HN.out]; simp
        go_wp2_with fail
        refine wp_loop_rounds 3 ?_
        rw [rounds_succ]
        go_wp2_with fail
        refine (C92.out _).mono ?_
        rintro e w1 ⟨rfl, rfl⟩
        go_wp2_with fail
        rw [rounds_succ]
        go_wp2_with fail
        refine (C34.out _).mono ?_
        rintro e w1 ⟨rfl, rfl⟩
        go_wp2_with fail
        rw [rounds_succ]
        go_wp2_with fail
        go_meet
        exact ⟨by rw [HN.out]; rfl, by rw [e1], 0, rfl⟩
      · subst z1
        have i2 : ((n2 : Int) != 0) = true := by simp; omega
        have e1 : decide (0 < rpN s.data.toList) = true := by rw [HN.out]; simp; omega
        go_wp2_with fail
        refine wp_loop_rounds 3 ?_
        rw [rounds_succ]
        go_wp2_with fail
        refine (C92.out _).mono ?_
        rintro e w1 ⟨rfl, rfl⟩
        go_wp2_with fail
        rw [rounds_succ]
        go_wp2_with fail
        refine (C34.out _).mono ?_
        rintro e w1 ⟨rfl, rfl⟩
        go_wp2_with fail
        go_quiet (fail)
        go_wp2_with fail
        rw [rounds_succ]
        go_wp2_with fail
        go_meet
        exact ⟨by first | (rw [HN.out, IntWalk.i64_in 1 (by decide), IntWalk.i64_in ((n2 : Int) * 1) (by omega), IntWalk.i64_in ((s.size : Int) + (n2 : Int) * 1) (by omega)] <;> (try (congr 1 <;> omega))) | (rw [HN.out] <;> (try (congr 1 <;> omega))), by rw [e1], _, rfl⟩
      · have i1 : ((n1 : Int) != 0) = true := by simp; omega
        have j1 : (0 : Int) < (n1 : Int) := by omega
        subst z2
        have e1 : decide (0 < rpN s.data.toList) = true := by rw [HN.out]; simp; omega
        go_wp2_with fail
        refine wp_loop_rounds 3 ?_
        rw [rounds_succ]
        go_wp2_with fail
        refine (C92.out _).mono ?_
        rintro e w1 ⟨rfl, rfl⟩
        go_wp2_with fail
        go_quiet (fail)
        go_wp2_with fail
        rw [rounds_succ]
        go_wp2_with fail
        refine (C34.out _).mono ?_
        rintro e w1 ⟨rfl, rfl⟩
        go_wp2_with fail
        rw [rounds_succ]
        go_wp2_with fail
        go_meet
        exact ⟨by first | (rw [HN.out, IntWalk.i64_in 1 (by decide), IntWalk.i64_in ((n1 : Int) * 1) (by omega), IntWalk.i64_in ((s.size : Int) + (n1 : Int) * 1) (by omega)] <;> (try (congr 1 <;> omega))) | (rw [HN.out] <;> (try (congr 1 <;> omega))), by rw [e1], _, rfl⟩
      · have i1 : ((n1 : Int) != 0) = true := by simp; omega
        have j1 : (0 : Int) < (n1 : Int) := by omega
        have i2 : ((n2 : Int) != 0) = true := by simp; omega
        have e1 : decide (0 < rpN s.data.toList) = true := by rw [HN.out]; simp; omega
        go_wp2_with fail
        refine wp_loop_rounds 3 ?_
        rw [rounds_succ]
        go_wp2_with fail
        refine (C92.out _).mono ?_
        rintro e w1 ⟨rfl, rfl⟩
        go_wp2_with fail
        go_quiet (fail)
        go_wp2_with fail
        rw [rounds_succ]
        go_wp2_with fail
        refine (C34.out _).mono ?_
        rintro e w1 ⟨rfl, rfl⟩
        go_wp2_with fail
        go_quiet (fail)
        go_wp2_with fail
        rw [rounds_succ]
        go_wp2_with fail
        go_meet
        exact ⟨by first | (rw [HN.out, IntWalk.i64_in 1 (by decide), IntWalk.i64_in ((n1 : Int) * 1) (by omega), IntWalk.i64_in ((s.size : Int) + (n1 : Int) * 1) (by omega), IntWalk.i64_in ((n2 : Int) * 1) (by omega), IntWalk.i64_in ((s.size : Int) + (n1 : Int) * 1 + (n2 : Int) * 1) (by omega)] <;> (try (congr 1 <;> omega))) | (rw [HN.out] <;> (try (congr 1 <;> omega))), by rw [e1], _, rfl⟩
    · have hT : ∀ k, k ≤ s.size → rpN (s.data.toList.take k) ≤ k := fun k hk => Nat.le_trans (rpN_le _) (by rw [List.length_take]; omega)
      have HT := Lib.hid hT
      clear HCT hT
      go_wp2_with fail
      go_loopg [5, 6, 10] s.size (fun gg s5 s6 s10 wr => ∃ k : Nat, k + gg = s.size ∧ s10 = .int .i64 (k : Int) ∧ s5 = .int .i64 ((s.size + rpN (s.data.toList.take k) : Nat) : Int) ∧ s6 = .bool (decide (0 < rpN (s.data.toList.take k))) ∧ wr = w)
      case atStart => exact ⟨0, by omega, rfl, rfl, rfl, rfl⟩
      case round =>
        obtain ⟨k, hkg, rfl, rfl, rfl, rfl⟩ := hrel
        by_cases hk : k < s.size
        · have hkl : k < s.data.toList.length := by rw [HL.out]; exact hk
          have hst := rpN_take hkl
          have hc := HR.out s.data.toList[k]
          have hsc : s[k] = s.data.toList[k] := rfl
          have hle := HT.out k (by omega)
          have j1 : (k : Int) < (s.size : Int) := by omega
          obtain ⟨c, hcc⟩ : ∃ c, c = s.data.toList[k] := ⟨_, rfl⟩
          rw [← hcc] at hst hc hsc
          clear hcc
          have HC := Lib.hid hc
          have HS := Lib.hid hst
          clear hst hc
          by_cases c34 : c = 34
          · subst c34
            have g := HC.out
            have hst := HS.out
            rw [if_pos rfl, if_neg (by decide), Nat.add_zero] at hst
            have HS2 : Hid (rpN (s.data.toList.take (k + 1)) = rpN (s.data.toList.take k) + 1) := hst
            have e2 : decide (0 < rpN (s.data.toList.take (k + 1))) = true := by rw [hst]; simp
            rw [show (34 : UInt8).toNat = 34 from rfl] at g
            rw [show repV ga ca gb cb 34 = .slice (some ⟨ga, 0, none⟩) 2 ca from rfl] at g
            have hsn : s[k].toNat = 34 := by rw [hsc]; rfl
            clear hst hsc
            obtain ⟨m, hm⟩ : ∃ m, m = rpN (s.data.toList.take k) := ⟨_, rfl⟩
            rw [← hm] at HS2 hle ⊢
            clear hm HS HC
            go_wp2_with fail
            go_roundg (s.size - (k + 1))
            case measure => omega
            case rel => exact ⟨k + 1, by omega, by go_num, by rw [HS2.out]; go_num, by rw [e2], rfl⟩
          by_cases c92 : c = 92
          · subst c92
            have g := HC.out
            have hst := HS.out
            rw [if_neg (by decide), if_pos rfl, Nat.add_zero] at hst
            have HS2 : Hid (rpN (s.data.toList.take (k + 1)) = rpN (s.data.toList.take k) + 1) := hst
            have e2 : decide (0 < rpN (s.data.toList.take (k + 1))) = true := by rw [hst]; simp
            rw [show (92 : UInt8).toNat = 92 from rfl] at g
            rw [show repV ga ca gb cb 92 = .slice (some ⟨gb, 0, none⟩) 2 cb from rfl] at g
            have hsn : s[k].toNat = 92 := by rw [hsc]; rfl
            clear hst hsc
            obtain ⟨m, hm⟩ : ∃ m, m = rpN (s.data.toList.take k) := ⟨_, rfl⟩
            rw [← hm] at HS2 hle ⊢
            clear hm HS HC
            go_wp2_with fail
            go_roundg (s.size - (k + 1))
            case measure => omega
            case rel => exact ⟨k + 1, by omega, by go_num, by rw [HS2.out]; go_num, by rw [e2], rfl⟩
          · have g := HC.out
            have HS2 : Hid (rpN (s.data.toList.take (k + 1)) = rpN (s.data.toList.take k)) := by show _ = _; rw [HS.out, if_neg c34, if_neg c92]; rfl
            rw [show repV ga ca gb cb c = .slice none 0 0 from by unfold repV; rw [if_neg c34, if_neg c92]] at g
            have hsn : s[k].toNat = c.toNat := by rw [hsc]
            have hcl : c.toNat < 256 := UInt8.toNat_lt c
            obtain ⟨y, hy⟩ : ∃ y, y = c.toNat := ⟨_, rfl⟩
            rw [← hy] at g hsn hcl
            clear hsc hy HS HC c34 c92
            obtain ⟨m, hm⟩ : ∃ m, m = rpN (s.data.toList.take k) := ⟨_, rfl⟩
            rw [← hm] at HS2 hle ⊢
            clear hm
            go_wp2_with fail
            go_roundg (s.size - (k + 1))
            case measure => omega
            case rel => exact ⟨k + 1, by omega, by go_num, by rw [HS2.out], by rw [HS2.out], rfl⟩
        · obtain rfl : k = s.size := by omega
          have ht : s.data.toList.take s.size = s.data.toList := List.take_of_length_le (by rw [HL.out]; exact Nat.le_refl _)
          rw [ht]
          go_wp2_with fail
          go_meet
          exact ⟨rfl, rfl, 0, rfl⟩
  case rest =>
  obtain ⟨rfl, rfl, q, rfl⟩ := hcut
  have hN : (escL s.data.toList).length = s.size + rpN s.data.toList := by rw [escL_rpN, HL.out]
  have hN2 : rpN s.data.toList ≤ s.size := Nat.le_trans (rpN_le _) (by rw [HL.out]; exact Nat.le_refl _)
  clear HCT
  rcases Nat.eq_zero_or_pos (rpN s.data.toList) with hz | hz
  · have HZ : Hid (escS s = s) := by
      show _ = _
      unfold escS
      rw [escL_zero hz]
    have e1 : decide (0 < rpN s.data.toList) = false := by rw [hz]; rfl
    rw [e1]
    clear e1 hN hN2 hz
    go_wp2_with fail
    go_ret
    exact ⟨by rw [HZ.out]; rfl, bdrew (Below.refl _ _) _⟩
  have e1 : decide (0 < rpN s.data.toList) = true := by simpa using hz
  rw [e1, ← hN]
  obtain ⟨N, hNN⟩ : ∃ N, N = (escL s.data.toList).length := ⟨_, rfl⟩
  rw [← hNN] at hN ⊢
  have HNN := Lib.hid hNN
  have hNb : N ≤ 8388608 := by omega
  obtain ⟨i0, hi, hi0, hi1, hi2⟩ := info_parts (show (Tryz.prog.info? 5).map (fun i => (i.zero, i.size, i.bytes)) = some (some (.int .u8 0), 1, 1) by kernel_rfl)
  have hmk : ∀ W : World, (Instr.makeSlice 103 (.int .i64 (N : Int)) (.int .i64 (N : Int))).run Tryz.prog W = .ok (.slice (some ⟨W.heap.size, 0, none⟩) N N) (W.alloc (.cells (madeCells (Value.int .u8 0).cells N) 5)) := fun W => by
    have := run_makeSlice (P := Tryz.prog) W 103 5 i0 (.int .u8 0) Tryz.underlying103 hi hi0 .i64 .i64 (N : Int) (N : Int) (by omega) (Int.le_refl _) (by rw [hi1]; omega) (by rw [hi2]; omega) (by omega)
    rw [hi1] at this
    simpa using this
  have hbf : Lib.Buf (w.drewN q) ((w.drewN q).alloc (.cells (madeCells (Value.int .u8 0).cells N) 5)) w.heap.size N [] := Lib.Buf.start (w.drewN q) _ _ N 0 (by rw [size_madeCells]; exact Nat.le_refl _)
  have HBF := Lib.hid hbf
  clear hbf hNN hN hN2 hz e1 hi hi0 hi1 hi2
  go_wp2_with fail
  have b1 := World.block_lt_of_cell? w _ h1
  have b2 := World.block_lt_of_cell? w _ h7
  have b3 := World.block_lt_of_cell? w _ h9
  have hu8 : (Tryz.prog.info? 5).map (·.size) = some 1 := by kernel_rfl
  have hG : ∀ k (h : k < s.data.toList.length), (escL (s.data.toList.take k)).length + (escB s.data.toList[k]).length ≤ N := fun k h => by rw [HNN.out]; exact escL_grows h
  have HG := Lib.hid hG
  clear hG h1 h2 h4 h5 h6
  go_loopg [13, 14] s.size (fun gg s13 s14 wr => ∃ k : Nat, k + gg = s.size ∧ s14 = .int .i64 (k : Int) ∧ s13 = .int .i64 ((escL (s.data.toList.take k)).length : Int) ∧ Hid (Lib.Buf (w.drewN q) wr w.heap.size N (escL (s.data.toList.take k))))
  case atStart => exact ⟨0, by omega, rfl, rfl, HBF⟩
  case round =>
    obtain ⟨k, hkg, rfl, rfl, HW⟩ := hrel
    by_cases hk : k < s.size
    · have hkl : k < s.data.toList.length := by rw [HL.out]; exact hk
      have HT2 := Lib.hid (escL_take hkl)
      have hc : wr.cell? ⟨rb, (s.data.toList[k]).toNat, none⟩ = _ := (HW.out.below.cell (p := ⟨rb, (s.data.toList[k]).toNat, none⟩) b1).trans (HR.out s.data.toList[k])
      have hgrow := HG.out k hkl
      have hsc : s[k] = s.data.toList[k] := rfl
      have j1 : (k : Int) < (s.size : Int) := by omega
      obtain ⟨c, hcc⟩ : ∃ c, c = s.data.toList[k] := ⟨_, rfl⟩
      rw [← hcc] at HT2 hc hsc hgrow
      obtain ⟨acc, hac⟩ : ∃ acc, acc = escL (s.data.toList.take k) := ⟨_, rfl⟩
      rw [← hac] at HT2 hgrow HW ⊢
      clear hcc hac
      obtain ⟨j, hacc⟩ : ∃ j, acc.length = j := ⟨_, rfl⟩
      rw [hacc] at hgrow ⊢
      have hjN : j ≤ N := by omega
      have HC := Lib.hid hc
      clear hc
      by_cases c34 : c = 34
      · subst c34
        rw [escB_34] at hgrow
        have hgrow : j + 2 ≤ N := hgrow
        have g := HC.out
        rw [show (34 : UInt8).toNat = 34 from rfl] at g
        rw [show repV ga ca gb cb 34 = .slice (some ⟨ga, 0, none⟩) 2 ca from rfl] at g
        have hsn : s[k].toNat = 34 := by rw [hsc]; rfl
        have HV : Lib.HoldsBytes (w.drewN q) (.slice (some ⟨ga, 0, none⟩) 2 ca) [92, 34] := ⟨_, ca, rfl, (fun h => by cases h), (fun a ha i x hx => by
          injection ha with ha
          subst ha
          rcases i with _ | _ | i
          · simp at hx; subst hx; exact h7
          · simp at hx; subst hx; exact h8
          · simp at hx)⟩
        obtain ⟨wn, hcp, hbn⟩ := Lib.copy_part (P := Tryz.prog) (w.drewN q) wr.drew w.heap.size N acc [92, 34] (.slice (some ⟨ga, 0, none⟩) 2 ca) 103 3 5 Tryz.underlying103 hu8 (Nat.le_refl _) ⟨HW.out.below.drew, HW.out.there, HW.out.free, HW.out.holds, HW.out.fits⟩ HV (by rw [hacc]; exact hgrow)
        rw [hacc] at hcp
        have HBN := Lib.hid hbn
        clear hbn HV hsc HC
        have hsl := fun W => Lib.run_slice_tailV (P := Tryz.prog) W 103 5 Tryz.underlying103 Tryz.sizeOf5 w.heap.size N j hjN
        rw [escB_34] at HT2
        go_wp2_with fail
        go_region_law (refine step_copy_run _ (by rfl) _ _ 103 103 (by rfl) _ _ (by rfl) (by rfl) hcp ?_)
        go_wp2_with fail
        go_roundg (s.size - (k + 1))
        case measure => omega
        case rel => exact ⟨k + 1, by omega, by go_num, by rw [HT2.out, List.length_append, hacc]; go_num, by rw [HT2.out]; exact HBN⟩
      by_cases c92 : c = 92
      · subst c92
        rw [escB_92] at hgrow
        have hgrow : j + 2 ≤ N := hgrow
        have g := HC.out
        rw [show (92 : UInt8).toNat = 92 from rfl] at g
        rw [show repV ga ca gb cb 92 = .slice (some ⟨gb, 0, none⟩) 2 cb from rfl] at g
        have hsn : s[k].toNat = 92 := by rw [hsc]; rfl
        have HV : Lib.HoldsBytes (w.drewN q) (.slice (some ⟨gb, 0, none⟩) 2 cb) [92, 92] := ⟨_, cb, rfl, (fun h => by cases h), (fun a ha i x hx => by
          injection ha with ha
          subst ha
          rcases i with _ | _ | i
          · simp at hx; subst hx; exact h9
          · simp at hx; subst hx; exact h10
          · simp at hx)⟩
        obtain ⟨wn, hcp, hbn⟩ := Lib.copy_part (P := Tryz.prog) (w.drewN q) wr.drew w.heap.size N acc [92, 92] (.slice (some ⟨gb, 0, none⟩) 2 cb) 103 3 5 Tryz.underlying103 hu8 (Nat.le_refl _) ⟨HW.out.below.drew, HW.out.there, HW.out.free, HW.out.holds, HW.out.fits⟩ HV (by rw [hacc]; exact hgrow)
        rw [hacc] at hcp
        have HBN := Lib.hid hbn
        clear hbn HV hsc HC
        have hsl := fun W => Lib.run_slice_tailV (P := Tryz.prog) W 103 5 Tryz.underlying103 Tryz.sizeOf5 w.heap.size N j hjN
        rw [escB_92] at HT2
        go_wp2_with fail
        go_region_law (refine step_copy_run _ (by rfl) _ _ 103 103 (by rfl) _ _ (by rfl) (by rfl) hcp ?_)
        go_wp2_with fail
        go_roundg (s.size - (k + 1))
        case measure => omega
        case rel => exact ⟨k + 1, by omega, by go_num, by rw [HT2.out, List.length_append, hacc]; go_num, by rw [HT2.out]; exact HBN⟩
      have g := HC.out
      rw [escB_other c34 c92] at hgrow HT2
      have hgrow : j + 1 ≤ N := hgrow
      rw [show repV ga ca gb cb c = .slice none 0 0 from by unfold repV; rw [if_neg c34, if_neg c92]] at g
      have hsn : s[k].toNat = c.toNat := by rw [hsc]
      have hcl : c.toNat < 256 := UInt8.toNat_lt c
      have HBN : Hid (Lib.Buf (w.drewN q) (wr.setCell ⟨w.heap.size, j, none⟩ (.int .u8 (c.toNat : Int))) w.heap.size N (acc ++ [c])) := by rw [← hacc]; exact buf_push HW.out c (by omega)
      obtain ⟨vj, hvj⟩ := Option.isSome_iff_exists.1 (HW.out.there j (by omega))
      have hfj := HW.out.free j (by omega)
      have jl : (j : Int) < (N : Int) := by omega
      obtain ⟨y, hy⟩ : ∃ y, y = c.toNat := ⟨_, rfl⟩
      rw [← hy] at g hsn hcl HBN
      clear hsc hy HC c34 c92
      go_wp2_with fail
      go_roundg (s.size - (k + 1))
      case measure => omega
      case rel => exact ⟨k + 1, by omega, by go_num, by rw [HT2.out, List.length_append, hacc]; go_num, by rw [HT2.out]; exact HBN⟩
    · obtain rfl : k = s.size := by omega
      have ht : s.data.toList.take s.size = s.data.toList := List.take_of_length_le (by rw [HL.out]; exact Nat.le_refl _)
      rw [ht] at HW ⊢
      have hcv := run_convert_bytes_back (P := Tryz.prog) wr 103 9 5 ⟨w.heap.size, 0, none⟩ N (escL s.data.toList) Tryz.underlying103 Tryz.underlying5 Tryz.underlying9 (fun i hi => by
        rw [Addr.add_lit, Nat.zero_add]
        exact HW.out.holds i _ (List.getElem?_eq_getElem hi))
      rw [← HNN.out] at hcv ⊢
      go_wp2_with fail
      go_ret
      exact ⟨rfl, (bdrew (Below.refl _ _) q).trans HW.out.below⟩
end Go.Proofs.YtnlonleljbbgoaaGreatDoor
