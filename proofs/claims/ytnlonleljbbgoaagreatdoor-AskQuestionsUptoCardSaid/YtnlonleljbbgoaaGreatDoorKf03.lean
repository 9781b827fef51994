/-
  DERIVED. The walk of ask.small: a condition's nodes counted. Conditions: sizes.
  The walks of the reference's told and quoted. Conditions: sizes.
  By an AI agent.
-/
import Derived.Test.YtnlonleljbbgoaaGreatDoorKe14
import Derived.StillTailTactics
import Derived.Deep.LoopGhost
import Derived.Deep.DeepCutAuto
import Derived.Test.YtnlonleljbbgoaaGreatDoorKe17
import Derived.Laws.IdiomStrings
namespace Go.Proofs.YtnlonleljbbgoaaGreatDoor
open Go.RowKit

theorem gr_tr {w w1 w2 : World} {r : Option Nat} (h : w.grownBy w1 r) (k : w1.grownBy w2 r) : w.grownBy w2 r :=
  ⟨k.os.trans h.os, k.tape.trans h.tape, k.output.trans h.output, Nat.le_trans h.size k.size, fun i hi hn => (k.block i (Nat.lt_of_lt_of_le hi h.size) hn).trans (h.block i hi hn)⟩
theorem gr_below0 {w w1 : World} (h : Below w.heap.size w w1) (r : Option Nat) : w.grownBy w1 r := ⟨h.os, h.tape, h.output, h.size, fun i hi _ => h.block i hi⟩
theorem gr_belowP {B g : Nat} {w w' : World} (hg : w.grownBy w' (some g)) (hB : B ≤ g) (hw : B ≤ w.heap.size) : Below B w w' := (Below.refl B w).grown hg hw (fun k hk => by injection hk with hk; omega)
theorem gr_set {w : World} {P i : Nat} (u : Value) : w.grownBy (w.setCell ⟨P, i, none⟩ u) (some P) := ⟨rfl, rfl, rfl, by simp [World.setCell], fun k _ hne => Below.heap_setCell w ⟨P, i, none⟩ _ k (fun e => hne (by rw [e]))⟩
/-- what counting leaves -/
def SmP (c : Cd) (lev n P : Nat) (w : World) (e : Ending) (w' : World) : Prop :=
  w.grownBy w' (some P) ∧ (n + cdN c ≤ 60 ∧ e = .returned (.tuple #[.bool true, .bool (decide (40 < lev + cdD c - 1))]) ∧ Blk w' P 3 #[.int .i64 ((n + cdN c : Nat) : Int)] ∨ 60 < n + cdN c ∧ e = .returned (.tuple #[.bool false, .bool false]))
set_option maxHeartbeats 8000000 in
set_option maxRecDepth 100000 in
/-- ask.small -/
theorem small_any : ∀ (d : Nat) (c : Cd) (Ai : Option Addr) (ni ci : Nat) (Ak : Option Addr) (nk ck : Nat) (lev n P B : Nat) (w : World), RCd w B d (.slice Ai ni ci) (.slice Ak nk ck) c → B ≤ P → Blk w P 3 #[.int .i64 (n : Int)] → n ≤ 60 → lev ≤ n + 1 →
    Calls Tryz.prog 66 #[ACd (c, .slice Ai ni ci, .slice Ak nk ck), .int .i64 (lev : Int), .pointer (some ⟨P, 0, none⟩)] w (SmP c lev n P w) := by
  intro d
  induction d using Nat.strongRecOn with
  | _ d ih =>
  intro c Ai ni ci Ak nk ck lev n P B w hc hBP hP hn60 hlev
  have HIH := Lib.hid ih
  have hPl := hP.lt
  obtain ⟨wb, hwb⟩ : ∃ wb, wb = w.alloc (.cells #[.int .i64 c.op, .string c.name, .string c.text, .int .i64 c.val.kind, .int .i64 c.val.int_, .int .i64 c.val.to_, .string c.val.text, .slice Ai ni ci, .int .i64 c.num, .slice Ak nk ck] 27) := ⟨_, rfl⟩
  have hbb : Below w.heap.size w wb := by rw [hwb]; exact (Below.refl _ _).alloc (Nat.le_refl _) _
  have kb : Blk wb w.heap.size 27 #[.int .i64 c.op, .string c.name, .string c.text, .int .i64 c.val.kind, .int .i64 c.val.int_, .int .i64 c.val.to_, .string c.val.text, .slice Ai ni ci, .int .i64 c.num, .slice Ak nk ck] := by rw [hwb]; exact Blk.new _ _ _
  have pb := hP.below hbb hPl
  have x0 : wb.cell? ⟨P, 0, none⟩ = some (.int .i64 (n : Int)) := pb.cell 0
  have x1 : wb.frozen? ⟨P, 0, none⟩ = false := pb.frozen 0
  obtain ⟨m, hm⟩ : ∃ m : Nat, m = n + 1 := ⟨_, rfl⟩
  obtain ⟨w1, hw1⟩ : ∃ w1, w1 = wb.setCell ⟨P, 0, none⟩ (.int .i64 (m : Int)) := ⟨_, rfl⟩
  have p1 : Blk w1 P 3 #[.int .i64 (m : Int)] := by rw [hw1]; exact pb.set_ 0 _
  have g1 : w.grownBy w1 (some P) := gr_tr (gr_below0 hbb _) (by rw [hw1]; exact gr_set _)
  have k1 : Blk w1 w.heap.size 27 #[.int .i64 c.op, .string c.name, .string c.text, .int .i64 c.val.kind, .int .i64 c.val.int_, .int .i64 c.val.to_, .string c.val.text, .slice Ai ni ci, .int .i64 c.num, .slice Ak nk ck] := by
    have g : wb.grownBy w1 (some P) := by rw [hw1]; exact gr_set _
    exact kb.grown g (fun e => by injection e with e; omega)
  have y0 : w1.cell? ⟨P, 0, none⟩ = some (.int .i64 (m : Int)) := p1.cell 0
  have y5 : w1.cell? ⟨w.heap.size, 9, none⟩ = some (.slice Ak nk ck) := k1.cell 9
  have hN := cdN_eq c
  have hD := cdD_eq c
  obtain ⟨hkl, hk136⟩ := hc.2.len
  have iw : IntKind.i64.wrap ((n : Int) + 1) = (m : Int) := by rw [IntWalk.i64_in _ (by omega)]; omega
  have HC := Lib.hid hc
  have HKL := Lib.hid hkl
  have HN := Lib.hid hN
  have HD := Lib.hid hD
  have HG1 := Lib.hid g1
  have HP1 := Lib.hid p1
  have HM := Lib.hid hm
  have HWB := Lib.hid hwb
  have HW1 := Lib.hid hw1
  have HBP := Lib.hid hBP
  have c60a : n = 60 → decide ((60 : Int) < (m : Int)) = true := fun h => decide_eq_true (by omega)
  have c60b : n ≠ 60 → decide ((60 : Int) < (m : Int)) = false := fun h => decide_eq_false (by omega)
  have HA := Lib.hid c60a
  have HBB := Lib.hid c60b
  clear hc hN hD hkl hm c60a c60b g1 p1 hwb hw1 hbb kb pb k1 ih hP
  unfold ACd
  dsimp only
  by_cases hn : n = 60
  · have HB60 : Hid (60 < n + cdN c) := by show _ < _; have := cdN_pos c; omega
    have c60 := HA.out hn
    clear hn
    go_enter Tryz.func66, Tryz.ntmps66
    go_upto_region 1 with fail
    rw [← HWB.out]
    go_upto_region 2 with fail
    rw [← HW1.out]
    go_wp2_with fail
    go_ret2
    exact ⟨HG1.out, .inr ⟨HB60.out, rfl⟩⟩
  have c60 := HBB.out hn
  obtain ⟨q0, hq0⟩ : ∃ q, decide ((40 : Int) < (lev : Int)) = q := ⟨_, rfl⟩
  have HQ0 : Hid (decide (40 < lev + cdDs (c.kids.take 0)) = q0) := by
    show _ = _
    rw [← hq0, List.take_zero, cdDs]
    simp only [decide_eq_decide]
    omega
  go_enter Tryz.func66, Tryz.ntmps66
  go_upto_region 1 with fail
  rw [← HWB.out]
  go_upto_region 2 with fail
  rw [← HW1.out]
  go_wp2_with fail
  clear x0 x1 y0 y5 hq0
  go_loopg [7, 26] nk (fun gg s7 s26 wr => ∃ (j : Nat) (q : Bool), j + gg = nk ∧ s26 = .int .i64 (j : Int) ∧ s7 = .bool q ∧ Hid (decide (40 < lev + cdDs (c.kids.take j)) = q) ∧ Hid (w.grownBy wr (some P)) ∧ Hid (m + cdNs (c.kids.take j) ≤ 60) ∧ Hid (Blk wr P 3 #[.int .i64 ((m + cdNs (c.kids.take j) : Nat) : Int)]))
  case atStart => exact ⟨0, q0, by omega, rfl, rfl, HQ0, HG1, by show m + cdNs (c.kids.take 0) ≤ 60; have hm := HM.out; rw [List.take_zero, cdNs]; omega, by rw [List.take_zero, cdNs]; exact HP1⟩
  case round =>
    obtain ⟨j, q, hjg, rfl, rfl, hq, hgr, hle, hblk⟩ := hrel
    obtain ⟨W1, rfl⟩ : ∃ W1, W1 = wr := ⟨_, rfl⟩
    by_cases hj : j < nk
    · obtain ⟨x, hx⟩ : ∃ x, c.kids[j]? = some x := ⟨_, List.getElem?_eq_getElem (by have := HKL.out; omega)⟩
      have hbel : Below B w W1 := gr_belowP hgr.out HBP.out (by have := HBP.out; omega)
      obtain ⟨d', b, off, Bi, mi, di, Bk, mk, dk, hdd, rfl, hbb, hcl, hrx⟩ := (HC.out.2.below hbel).at_ hx
      have e0 : W1.cell? ⟨b, off + j * 10, none⟩ = some (.int .i64 x.op) := hcl 0 _ rfl
      have e1 : W1.cell? ⟨b, off + j * 10 + 1, none⟩ = some (.string x.name) := hcl 1 _ rfl
      have e2 : W1.cell? ⟨b, off + j * 10 + 2, none⟩ = some (.string x.text) := hcl 2 _ rfl
      have e3 : W1.cell? ⟨b, off + j * 10 + 3, none⟩ = some (.int .i64 x.val.kind) := hcl 3 _ rfl
      have e4 : W1.cell? ⟨b, off + j * 10 + 4, none⟩ = some (.int .i64 x.val.int_) := hcl 4 _ rfl
      have e5 : W1.cell? ⟨b, off + j * 10 + 5, none⟩ = some (.int .i64 x.val.to_) := hcl 5 _ rfl
      have e6 : W1.cell? ⟨b, off + j * 10 + 6, none⟩ = some (.string x.val.text) := hcl 6 _ rfl
      have e7 : W1.cell? ⟨b, off + j * 10 + 7, none⟩ = some (.slice Bi mi di) := hcl 7 _ rfl
      have e8 : W1.cell? ⟨b, off + j * 10 + 8, none⟩ = some (.int .i64 x.num) := hcl 8 _ rfl
      have e9 : W1.cell? ⟨b, off + j * 10 + 9, none⟩ = some (.slice Bk mk dk) := hcl 9 _ rfl
      obtain ⟨wa, hwa⟩ : ∃ wa, wa = W1.alloc (.cells #[.int .i64 x.op, .string x.name, .string x.text, .int .i64 x.val.kind, .int .i64 x.val.int_, .int .i64 x.val.to_, .string x.val.text, .slice Bi mi di, .int .i64 x.num, .slice Bk mk dk] 27) := ⟨_, rfl⟩
      have hal : Below W1.heap.size W1 wa := by rw [hwa]; exact (Below.refl _ _).alloc (Nat.le_refl _) _
      have q9 : Blk wa W1.heap.size 27 #[.int .i64 x.op, .string x.name, .string x.text, .int .i64 x.val.kind, .int .i64 x.val.int_, .int .i64 x.val.to_, .string x.val.text, .slice Bi mi di, .int .i64 x.num, .slice Bk mk dk] := by rw [hwa]; exact Blk.new _ _ _
      have m0 := q9.cell 0
      have m1 := q9.cell 1
      have m2 := q9.cell 2
      have m3 := q9.cell 3
      have m4 := q9.cell 4
      have m5 := q9.cell 5
      have m6 := q9.cell 6
      have m7 := q9.cell 7
      have m8 := q9.cell 8
      have m9 := q9.cell 9
      have hPa : Blk wa P 3 #[.int .i64 ((m + cdNs (c.kids.take j) : Nat) : Int)] := hblk.out.below hal hblk.out.lt
      have hB1 : B ≤ W1.heap.size := Nat.le_trans (Nat.le_trans HBP.out (Nat.le_of_lt hPl)) hgr.out.size
      obtain ⟨l1, hl1⟩ : ∃ l1 : Nat, l1 = lev + 1 := ⟨_, rfl⟩
      have HCX := Lib.hid (HIH.out d' (by omega) x Bi mi di Bk mk dk l1 (m + cdNs (c.kids.take j)) P B wa (hrx.below (hal.mono hB1)) HBP.out hPa hle.out (by have := HM.out; omega))
      unfold ACd at HCX
      dsimp only at HCX
      have HTN := Lib.hid (cdNs_take hx)
      have HTD := Lib.hid (cdDs_take hx)
      have HGA : Hid (w.grownBy wa (some P)) := gr_tr hgr.out (gr_below0 hal _)
      have HWA := Lib.hid hwa
      have iwl : IntKind.i64.wrap ((lev : Int) + 1) = (l1 : Int) := by rw [IntWalk.i64_in _ (by omega)]; omega
      have HL1 := Lib.hid hl1
      have j0 : (0 : Int) ≤ (j : Int) := by omega
      have j1 : (j : Int) < (nk : Int) := by omega
      have HLE := cdNs_le c.kids (j + 1)
      have HLE2 := Lib.hid HLE
      clear hx hbel hbb hcl hrx hwa hal q9 hPa hgr hblk HLE hl1
      go_upto_region 8 with fail
      rw [← HWA.out]
      clear e0 e1 e2 e3 e4 e5 e6 e7 e8 e9
      go_wp2_with fail
      refine HCX.out.mono ?_
      rintro e w2 ⟨hg2, hw2⟩
      have HG2 : Hid (w.grownBy w2 (some P)) := gr_tr HGA.out hg2
      clear hg2 m0 m1 m2 m3 m4 m5 m6 m7 m8 m9
      rcases hw2 with ⟨hs, rfl, hb2⟩ | ⟨hs, rfl⟩
      · obtain ⟨q2, hq2⟩ : ∃ q2, decide (40 < l1 + cdD x - 1) = q2 := ⟨_, rfl⟩
        have HQN : Hid (decide (40 < lev + cdDs (c.kids.take (j + 1))) = (q || q2)) := by
          show _ = _
          have hl1 := HL1.out
          rw [HTD.out, ← hq.out, ← hq2, Bool.eq_iff_iff, decide_eq_true_iff, Bool.or_eq_true, decide_eq_true_iff, decide_eq_true_iff]
          omega
        rw [hq2]
        have HS : Hid (m + cdNs (c.kids.take (j + 1)) ≤ 60) := by show _ ≤ _; rw [HTN.out]; omega
        have HB2 : Hid (Blk w2 P 3 #[.int .i64 ((m + cdNs (c.kids.take (j + 1)) : Nat) : Int)]) := by
          show Blk _ _ _ _
          rw [HTN.out, show m + (cdNs (c.kids.take j) + cdN x) = m + cdNs (c.kids.take j) + cdN x by omega]
          exact hb2
        clear hs hb2 hq2
        cases q
        · go_wp2_with fail
          go_roundg (nk - (j + 1))
          case measure => omega
          case rel => exact ⟨j + 1, _, by omega, by go_num, rfl, HQN, HG2, HS, HB2⟩
        · go_wp2_with fail
          go_roundg (nk - (j + 1))
          case measure => omega
          case rel => exact ⟨j + 1, _, by omega, by go_num, rfl, HQN, HG2, HS, HB2⟩
      · have HS : Hid (60 < n + cdN c) := by
          show _ < _
          rw [HN.out]
          have := HLE2.out
          have hm := HM.out
          rw [HTN.out] at this
          omega
        clear hs
        go_wp2_with fail
        go_ret2
        exact ⟨HG2.out, .inr ⟨HS.out, rfl⟩⟩
    · obtain rfl : nk = j := by omega
      have ht : c.kids.take nk = c.kids := List.take_of_length_le (by rw [← HKL.out]; exact Nat.le_refl _)
      rw [ht] at hq hle hblk
      have HF : Hid (n + cdN c = m + cdNs c.kids) := by show _ = _; rw [HN.out, HM.out]; omega
      have HDF : Hid (decide (40 < lev + cdD c - 1) = q) := by
        show _ = _
        rw [← hq.out, HD.out]
        simp only [decide_eq_decide]
        omega
      clear ht
      go_wp2_with fail
      go_ret2
      refine ⟨hgr.out, .inl ⟨by rw [HF.out]; exact hle.out, by rw [HDF.out]; rfl, by rw [HF.out]; exact hblk.out⟩⟩
end Go.Proofs.YtnlonleljbbgoaaGreatDoor
namespace Go.Proofs.YtnlonleljbbgoaaGreatDoor
open Go.RowKit

def decS (n : Nat) : ByteArray := ⟨(Lib.decDigits n).toArray⟩
theorem decS_small {n : Nat} (h : n < 10) : decS n = ⟨#[UInt8.ofNat (48 + n)]⟩ := by
  unfold decS; rw [Lib.decDigits_one h]
theorem decS_big {n : Nat} (h : ¬ n < 10) : decS n = decS (n / 10) ++ decS (n % 10) := by
  apply ByteArray.ext
  unfold decS
  rw [Lib.decDigits, dif_neg h, Lib.decDigits_one (i := n % 10) (by omega)]
  simp

theorem decS_len (n : Nat) (h : n < 18446744073709551616) : (decS n).size ≤ 20 := by
  have := dd_len 19 n (by omega)
  show (Lib.decDigits n).toArray.size ≤ 20
  simpa using this
theorem decS_itoa (n : Nat) : (⟨(Lib.itoa (n : Int)).toArray⟩ : ByteArray) = decS n := by rw [Lib.itoa_nonneg]; rfl

set_option maxHeartbeats 4000000 in
set_option maxRecDepth 100000 in
theorem told_small (n : Nat) (hn : n < 10) (w : World) :
    Calls Tryz.prog 32 #[.int .i64 n] w fun e w' => e = .returned (.string (decS n)) ∧ Below w.heap.size w w' := by
  rw [decS_small hn]
  have kc : ∀ (w : World) (x : Value) (t : TypeId) (fr : Nat × Nat), x = .int .u8 (48 + n : Nat) → (convert 103 9 (.slice (some ⟨w.heap.size, 0, none⟩) 1 1)).run Tryz.prog (w.alloc (.cells #[x] t fr)) = .ok (.string ⟨#[UInt8.ofNat (48 + n)]⟩) (w.alloc (.cells #[x] t fr)) := by
    intro w x t fr hx
    have := run_convert_bytes_back (P := Tryz.prog) (w.alloc (.cells #[x] t fr)) 103 9 5 ⟨w.heap.size, 0, none⟩ 1 [UInt8.ofNat (48 + n)] (by kernel_rfl) (by kernel_rfl) (by kernel_rfl) (by
      intro j hj
      have : j = 0 := by simp at hj; exact hj
      subst this
      rw [show (⟨w.heap.size, 0, none⟩ : Addr).add 0 = ⟨w.heap.size, 0, none⟩ from rfl, World.cell?_alloc_mark, hx]
      simp
      omega)
    exact this
  go_enter Tryz.func32, Tryz.ntmps32
  go_wp2_with fail
  go_ret
  refine ⟨?_, (Below.refl _ w).alloc (Nat.le_refl _) _⟩
  rw [UInt8.ofNat_add]; rfl

set_option maxHeartbeats 4000000 in
set_option maxRecDepth 100000 in
theorem told_any : ∀ n : Nat, n ≤ 4294967296 → ∀ w : World,
    Calls Tryz.prog 32 #[.int .i64 n] w fun e w' => e = .returned (.string (decS n)) ∧ Below w.heap.size w w' := by
  intro n
  induction n using Nat.strongRecOn with
  | _ n ih =>
    intro hb w
    by_cases hn : n < 10
    · exact told_small n hn w
    · rw [decS_big hn]
      have h1 := ih (n / 10) (by omega) (by omega)
      have h2 := fun w => told_small (n % 10) (by omega) w
      have e1 : ((n / 10 : Nat) : Int) = (n : Int) / 10 := rfl
      have e2 : ((n % 10 : Nat) : Int) = (n : Int) % 10 := rfl
      have z1 := decS_len (n / 10) (by omega)
      have z2 := decS_len (n % 10) (by omega)
      rw [e1] at h1
      rw [e2] at h2
      clear ih
      go_enter Tryz.func32, Tryz.ntmps32
      go_wp2_with fail
      refine (h1 _).mono ?_
      rintro e w1 ⟨rfl, hb1⟩
      go_wp2_with fail
      refine (h2 _).mono ?_
      rintro e w2 ⟨rfl, hb2⟩
      go_wp2_with fail
      go_ret
      exact ⟨rfl, hb1.trans (hb2.mono hb1.size)⟩

theorem wd_decS {n : Int} (h : 0 ≤ n) : wd n = decS n.toNat := by
  obtain ⟨k, rfl⟩ : ∃ k : Nat, n = (k : Int) := ⟨n.toNat, by omega⟩
  exact decS_itoa k
theorem told_wd (n : Int) (h0 : 0 ≤ n) (h1 : n ≤ 4294967296) (w : World) :
    Calls Tryz.prog 32 #[.int .i64 n] w fun e w' => e = .returned (.string (wd n)) ∧ Below w.heap.size w w' := by
  obtain ⟨k, rfl⟩ : ∃ k : Nat, n = (k : Int) := ⟨n.toNat, by omega⟩
  rw [wd_decS h0]
  exact told_any k (by omega) w
set_option maxHeartbeats 4000000 in
set_option maxRecDepth 100000 in
theorem quotedR_any (s : ByteArray) (w : World) (hs : s.size ≤ 4194304) :
    Calls Tryz.prog 72 #[.string s] w fun e w' => e = .returned (.string (quoS s)) ∧ Below w.heap.size w w' := by
  have HL : Hid (s.data.toList.length = s.size) := by show _ = _; simp
  have hq := quoS_eq s
  obtain ⟨Q, hQ⟩ : ∃ Q, Q = quoS s := ⟨_, rfl⟩
  rw [← hQ]
  rw [← hQ] at hq
  have HQ := Lib.hid hq
  clear hq hQ
  go_enter Tryz.func72, Tryz.ntmps72
  go_wp2_with fail
  go_loopg [3, 4] s.size (fun gg s3 s4 wr => ∃ k : Nat, ∃ T : ByteArray, k + gg = s.size ∧ s4 = .int .i64 (k : Int) ∧ s3 = .string T ∧ Hid (T = ⟨#[34]⟩ ++ ⟨(escL (s.data.toList.take k)).toArray⟩) ∧ T.size ≤ 2 * k + 1 ∧ Hid (Below w.heap.size w wr))
  case atStart => exact ⟨0, _, by omega, rfl, rfl, rfl, by show 1 ≤ 1; omega, Below.refl _ _⟩
  case round =>
    obtain ⟨k, T, hkg, rfl, rfl, hT, hTs, hbel⟩ := hrel
    by_cases hk : k < s.size
    · have hkl : k < s.data.toList.length := by rw [HL.out]; exact hk
      have hst := escL_take hkl
      have hsc : s[k] = s.data.toList[k] := rfl
      have j1 : (k : Int) < (s.size : Int) := by omega
      have j0 : (0 : Int) ≤ (k : Int) := by omega
      have j2 : (k : Int) ≤ (k : Int) + 1 := by omega
      have j3 : (k : Int) + 1 ≤ (s.size : Int) := by omega
      obtain ⟨c, hcc⟩ : ∃ c, c = s.data.toList[k] := ⟨_, rfl⟩
      rw [← hcc] at hst hsc
      have HX : Hid (s.extract k (k + 1) = ⟨#[c]⟩) := by
        show _ = _
        apply ByteArray.ext
        apply Array.ext'
        rw [hcc]
        rw [ByteArray.data_extract, Array.toList_extract]
        simp only [List.extract_eq_take_drop]
        rw [Nat.add_sub_cancel_left]
        rw [List.drop_eq_getElem_cons hkl]
        rfl
      obtain ⟨X, hX⟩ : ∃ X, X = s.extract k (k + 1) := ⟨_, rfl⟩
      have HX2 : Hid (X = ⟨#[c]⟩) := hX.trans HX.out
      have hXs : X.size = 1 := by rw [HX2.out]; rfl
      have HST := Lib.hid hst
      clear hst hcc
      have hX' := hX.symm
      clear hX
      by_cases c34 : c = 34
      · subst c34
        have hsn : s[k].toNat = 34 := by rw [hsc]; rfl
        have HT2 : Hid (T ++ ⟨#[92]⟩ ++ X = ⟨#[34]⟩ ++ ⟨(escL (s.data.toList.take (k + 1))).toArray⟩) := by
          show _ = _
          rw [HST.out, hT.out, HX2.out]
          apply ByteArray.ext
          simp [escB]
        clear hsc HST
        go_wp2_with fail
        go_roundg (s.size - (k + 1))
        case measure => omega
        case rel => exact ⟨k + 1, T ++ ⟨#[92]⟩ ++ X, by omega, by go_num, rfl, HT2, by simp only [ByteArray.size_append, hXs]; show _ + 1 + 1 ≤ _; omega, hbel⟩
      by_cases c92 : c = 92
      · subst c92
        have hsn : s[k].toNat = 92 := by rw [hsc]; rfl
        have HT2 : Hid (T ++ ⟨#[92]⟩ ++ X = ⟨#[34]⟩ ++ ⟨(escL (s.data.toList.take (k + 1))).toArray⟩) := by
          show _ = _
          rw [HST.out, hT.out, HX2.out]
          apply ByteArray.ext
          simp [escB]
        clear hsc HST
        go_wp2_with fail
        go_roundg (s.size - (k + 1))
        case measure => omega
        case rel => exact ⟨k + 1, T ++ ⟨#[92]⟩ ++ X, by omega, by go_num, rfl, HT2, by simp only [ByteArray.size_append, hXs]; show _ + 1 + 1 ≤ _; omega, hbel⟩
      have n34 : ((c.toNat : Int) == 34) = false := by
        rw [beq_eq_false_iff_ne]
        intro h
        exact c34 (UInt8.toNat_inj.1 (by show c.toNat = 34; omega))
      have n92 : ((c.toNat : Int) == 92) = false := by
        rw [beq_eq_false_iff_ne]
        intro h
        exact c92 (UInt8.toNat_inj.1 (by show c.toNat = 92; omega))
      have hsn : s[k].toNat = c.toNat := by rw [hsc]
      have HT2 : Hid (T ++ X = ⟨#[34]⟩ ++ ⟨(escL (s.data.toList.take (k + 1))).toArray⟩) := by
        show _ = _
        rw [HST.out, hT.out, HX2.out, escB_other c34 c92]
        apply ByteArray.ext
        simp
      clear hsc HST c34 c92
      go_wp2_with fail
      go_roundg (s.size - (k + 1))
      case measure => omega
      case rel => exact ⟨k + 1, T ++ X, by omega, by go_num, rfl, HT2, by simp only [ByteArray.size_append, hXs]; omega, hbel⟩
    · obtain rfl : k = s.size := by omega
      have ht : s.data.toList.take s.size = s.data.toList := List.take_of_length_le (by rw [HL.out]; exact Nat.le_refl _)
      rw [ht] at hT
      have HR : Hid (T ++ ⟨#[34]⟩ = Q) := by
        show _ = _
        rw [hT.out, ← HQ.out]
        rfl
      clear ht
      go_wp2_with fail
      go_ret
      exact ⟨by rw [← HR.out]; rfl, hbel.out⟩

end Go.Proofs.YtnlonleljbbgoaaGreatDoor
