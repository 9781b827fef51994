/-
  DERIVED. How many nodes, how deep, no value: the walks of the reference's condNodes, condDepth, zero. Conditions: sizes.
  By an AI agent.
-/
import Derived.Test.YtnlonleljbbgoaaGreatDoorKe14
import Derived.Test.YtnlonleljbbgoaaGreatDoorKf02
import Derived.StillTailTactics
import Derived.Deep.LoopGhost
import Derived.Deep.DeepCutAuto
namespace Go.Proofs.YtnlonleljbbgoaaGreatDoor
open Go.RowKit

set_option maxHeartbeats 8000000 in
set_option maxRecDepth 100000 in
/-- the reference's condNodes -/
theorem condNodes_any : ∀ (d : Nat) (c : Cd) (Ai : Option Addr) (ni ci : Nat) (Ak : Option Addr) (nk ck : Nat) (B : Nat) (w : World), B ≤ w.heap.size → RCd w B d (.slice Ai ni ci) (.slice Ak nk ck) c → cdN c ≤ 1048576 →
    Calls Tryz.prog 44 #[ACd (c, .slice Ai ni ci, .slice Ak nk ck)] w fun e w' => e = .returned (.int .i64 (cdN c : Int)) ∧ Below w.heap.size w w' := by
  intro d
  induction d using Nat.strongRecOn with
  | _ d ih =>
  intro c Ai ni ci Ak nk ck B w hB hc hcn
  have HIH := Lib.hid ih
  obtain ⟨hkl, hk136⟩ := hc.2.len
  have HC := Lib.hid hc
  have HKL := Lib.hid hkl
  have HNE := Lib.hid (cdN_eq c)
  have HBN : Hid (∀ k : Nat, 1 + cdNs (c.kids.take k) ≤ 1048576) := fun k => by have := cdNs_le c.kids k; have := cdN_eq c; omega
  have HBK : Hid (∀ (k : Nat) (x : Cd), c.kids[k]? = some x → cdN x ≤ 1048576) := fun k x hx => by have := cdNs_take hx; have := cdNs_le c.kids (k + 1); have := cdN_eq c; omega
  clear ih hc hkl
  unfold ACd
  dsimp only
  obtain ⟨wb, hwb⟩ : ∃ wb, wb = w.alloc (.cells #[.int .i64 c.op, .string c.name, .string c.text, .int .i64 c.val.kind, .int .i64 c.val.int_, .int .i64 c.val.to_, .string c.val.text, .slice Ai ni ci, .int .i64 c.num, .slice Ak nk ck] 27) := ⟨_, rfl⟩
  have hbwb : Below w.heap.size w wb := by rw [hwb]; exact (Below.refl _ _).alloc (Nat.le_refl _) _
  have kwb : Blk wb w.heap.size 27 #[.int .i64 c.op, .string c.name, .string c.text, .int .i64 c.val.kind, .int .i64 c.val.int_, .int .i64 c.val.to_, .string c.val.text, .slice Ai ni ci, .int .i64 c.num, .slice Ak nk ck] := by rw [hwb]; exact Blk.new _ _ _
  have x0 := kwb.cell 0
  have x1 := kwb.cell 1
  have x2 := kwb.cell 2
  have x3 := kwb.cell 3
  have x4 := kwb.cell 4
  have x5 := kwb.cell 5
  have x6 := kwb.cell 6
  have x7 := kwb.cell 7
  have x8 := kwb.cell 8
  have x9 := kwb.cell 9
  have HBwb := Lib.hid hbwb
  have HKwb := Lib.hid kwb
  have HEwb := Lib.hid hwb
  clear hwb hbwb kwb
  go_enter Tryz.func44, Tryz.ntmps44
  go_upto_region 1 with fail
  rw [← HEwb.out]
  go_wp2_with fail
  clear x0 x1 x2 x3 x4 x5 x6 x7 x8 x9
  go_loopg [3, 9] nk (fun gg s3 s9 wr => ∃ j : Nat, j + gg = nk ∧ s9 = .int .i64 (j : Int) ∧ s3 = .int .i64 ((1 + cdNs (c.kids.take j) : Nat) : Int) ∧ Hid (Below w.heap.size w wr))
  case atStart => exact ⟨0, by omega, rfl, by rw [List.take_zero, cdNs]; rfl, HBwb⟩
  case round =>
    obtain ⟨j, hjg, rfl, rfl, hbel⟩ := hrel
    obtain ⟨W1, rfl⟩ : ∃ W1, W1 = wr := ⟨_, rfl⟩
    by_cases hj : j < nk
    · obtain ⟨x, hx⟩ : ∃ x, c.kids[j]? = some x := ⟨_, List.getElem?_eq_getElem (by have := HKL.out; omega)⟩
      have hb1 : B ≤ W1.heap.size := Nat.le_trans hB hbel.out.size
      obtain ⟨d', b, off, Bi, mi, di, Bk, mk, dk, hdd, rfl, hbb, hcl, hrx⟩ := (HC.out.2.below (hbel.out.mono hB)).at_ hx
      have e0 : W1.cell? ⟨b, off + j * 10, none⟩ = some (.int .i64 x.op) := hcl 0 _ rfl
      have e1 : W1.cell? ⟨b, off + j * 10 + 1, none⟩ = some (.string x.name) := hcl 1 _ rfl
      have e2 : W1.cell? ⟨b, off + j * 10 + 2, none⟩ = some (.string x.text) := hcl 2 _ rfl
      have e3 : W1.cell? ⟨b, off + j * 10 + 3, none⟩ = some (.int .i64 x.val.kind) := hcl 3 _ rfl
      have e4 : W1.cell? ⟨b, off + j * 10 + 4, none⟩ = some (.int .i64 x.val.int_) := hcl 4 _ rfl
      have e5 : W1.cell? ⟨b, off + j * 10 + 5, none⟩ = some (.int .i64 x.val.to_) := hcl 5 _ rfl
      have e6 : W1.cell? ⟨b, off + j * 10 + 6, none⟩ = some (.string x.val.text) := hcl 6 _ rfl
      have e7 : W1.cell? ⟨b, off + j * 10 + 7, none⟩ = some (.slice Bi mi di) := hcl 7 _ rfl
      have e8 : W1.cell? ⟨b, off + j * 10 + 8, none⟩ = some (.int .i64 x.num) := hcl 8 _ rfl
      have e9 : W1.cell? ⟨b, off + j * 10 + 9, none⟩ = some (.slice Bk mk dk) := hcl 9 _ rfl
      obtain ⟨wa, hwa⟩ : ∃ wa, wa = W1.alloc (.cells #[.int .i64 x.op, .string x.name, .string x.text, .int .i64 x.val.kind, .int .i64 x.val.int_, .int .i64 x.val.to_, .string x.val.text, .slice Bi mi di, .int .i64 x.num, .slice Bk mk dk] 27) := ⟨_, rfl⟩
      have hal : Below W1.heap.size W1 wa := by rw [hwa]; exact (Below.refl _ _).alloc (Nat.le_refl _) _
      have q9 : Blk wa W1.heap.size 27 #[.int .i64 x.op, .string x.name, .string x.text, .int .i64 x.val.kind, .int .i64 x.val.int_, .int .i64 x.val.to_, .string x.val.text, .slice Bi mi di, .int .i64 x.num, .slice Bk mk dk] := by rw [hwa]; exact Blk.new _ _ _
      have m0 := q9.cell 0
      have m1 := q9.cell 1
      have m2 := q9.cell 2
      have m3 := q9.cell 3
      have m4 := q9.cell 4
      have m5 := q9.cell 5
      have m6 := q9.cell 6
      have m7 := q9.cell 7
      have m8 := q9.cell 8
      have m9 := q9.cell 9
      have HWA := Lib.hid hwa
      have HAL := Lib.hid hal
      have HCX := Lib.hid (HIH.out d' (by omega) x Bi mi di Bk mk dk B wa (Nat.le_trans hb1 hal.size) (hrx.below (hal.mono hb1)) (HBK.out j x hx))
      unfold ACd at HCX
      dsimp only at HCX
      have HXJ := Lib.hid hx
      have HBA : Hid (Below w.heap.size w wa) := hbel.out.trans (hal.mono hbel.out.size)
      have j0 : (0 : Int) ≤ (j : Int) := by omega
      have j1 : (j : Int) < (nk : Int) := by omega
      clear hx hrx hcl hbb hwa hal q9
      obtain ⟨a0, ha0⟩ : ∃ q, 1 + cdNs (c.kids.take j) = q := ⟨_, rfl⟩
      obtain ⟨a1, ha1⟩ : ∃ q, cdN x = q := ⟨_, rfl⟩
      obtain ⟨a2, ha2⟩ : ∃ q, 1 + cdNs (c.kids.take (j + 1)) = q := ⟨_, rfl⟩
      have hsum : a2 = a0 + a1 := by rw [← ha2, ← ha0, ← ha1, cdNs_take HXJ.out]; omega
      have hle2 := HBN.out (j + 1)
      rw [ha2] at hle2
      have iw : IntKind.i64.wrap ((a0 : Int) + (a1 : Int)) = (a2 : Int) := by rw [IntWalk.i64_in _ (by omega)]; omega
      rw [ha1] at HCX
      rw [ha0]
      have HA2 := Lib.hid ha2
      clear ha0 ha1 ha2 hsum hle2
      go_upto_region 5 with fail
      rw [← HWA.out]
      clear e0 e1 e2 e3 e4 e5 e6 e7 e8 e9
      go_wp2_with fail
      refine HCX.out.mono ?_
      rintro e w2 ⟨rfl, hb⟩
      have HB2 : Hid (Below w.heap.size w w2) := HBA.out.trans (hb.mono HBA.out.size)
      clear hb m0 m1 m2 m3 m4 m5 m6 m7 m8 m9
      go_wp2_with fail
      go_roundg (nk - (j + 1))
      case measure => omega
      case rel => exact ⟨j + 1, by omega, by go_num, by rw [HA2.out], HB2⟩
    · obtain rfl : nk = j := by omega
      have ht : c.kids.take nk = c.kids := List.take_of_length_le (by rw [← HKL.out]; exact Nat.le_refl _)
      have HE : Hid (cdN c = 1 + cdNs (c.kids.take nk)) := by show _ = _; rw [HNE.out, ht]
      obtain ⟨a0, ha0⟩ : ∃ q, 1 + cdNs (c.kids.take nk) = q := ⟨_, rfl⟩
      rw [ha0] at HE ⊢
      clear ht ha0
      go_wp2_with fail
      go_ret
      exact ⟨by rw [HE.out]; rfl, hbel.out⟩
set_option maxHeartbeats 8000000 in
set_option maxRecDepth 100000 in
/-- the reference's condDepth -/
theorem condDepth_any : ∀ (d : Nat) (c : Cd) (Ai : Option Addr) (ni ci : Nat) (Ak : Option Addr) (nk ck : Nat) (B : Nat) (w : World), B ≤ w.heap.size → RCd w B d (.slice Ai ni ci) (.slice Ak nk ck) c → cdN c ≤ 1048576 →
    Calls Tryz.prog 45 #[ACd (c, .slice Ai ni ci, .slice Ak nk ck)] w fun e w' => e = .returned (.int .i64 (cdD c : Int)) ∧ Below w.heap.size w w' := by
  intro d
  induction d using Nat.strongRecOn with
  | _ d ih =>
  intro c Ai ni ci Ak nk ck B w hB hc hcn
  have HIH := Lib.hid ih
  obtain ⟨hkl, hk136⟩ := hc.2.len
  have HC := Lib.hid hc
  have HKL := Lib.hid hkl
  have HDE := Lib.hid (cdD_eq c)
  have HBD : Hid (∀ k : Nat, cdDs (c.kids.take k) ≤ 1048576) := fun k => by have := cdDs_le (c.kids.take k); have := cdNs_le c.kids k; have := cdN_eq c; omega
  have HBK : Hid (∀ (k : Nat) (x : Cd), c.kids[k]? = some x → cdN x ≤ 1048576) := fun k x hx => by have := cdNs_take hx; have := cdNs_le c.kids (k + 1); have := cdN_eq c; omega
  clear ih hc hkl
  unfold ACd
  dsimp only
  obtain ⟨wb, hwb⟩ : ∃ wb, wb = w.alloc (.cells #[.int .i64 c.op, .string c.name, .string c.text, .int .i64 c.val.kind, .int .i64 c.val.int_, .int .i64 c.val.to_, .string c.val.text, .slice Ai ni ci, .int .i64 c.num, .slice Ak nk ck] 27) := ⟨_, rfl⟩
  have hbwb : Below w.heap.size w wb := by rw [hwb]; exact (Below.refl _ _).alloc (Nat.le_refl _) _
  have kwb : Blk wb w.heap.size 27 #[.int .i64 c.op, .string c.name, .string c.text, .int .i64 c.val.kind, .int .i64 c.val.int_, .int .i64 c.val.to_, .string c.val.text, .slice Ai ni ci, .int .i64 c.num, .slice Ak nk ck] := by rw [hwb]; exact Blk.new _ _ _
  have x0 := kwb.cell 0
  have x1 := kwb.cell 1
  have x2 := kwb.cell 2
  have x3 := kwb.cell 3
  have x4 := kwb.cell 4
  have x5 := kwb.cell 5
  have x6 := kwb.cell 6
  have x7 := kwb.cell 7
  have x8 := kwb.cell 8
  have x9 := kwb.cell 9
  have HBwb := Lib.hid hbwb
  have HKwb := Lib.hid kwb
  have HEwb := Lib.hid hwb
  clear hwb hbwb kwb
  go_enter Tryz.func45, Tryz.ntmps45
  go_upto_region 1 with fail
  rw [← HEwb.out]
  go_wp2_with fail
  clear x0 x1 x2 x3 x4 x5 x6 x7 x8 x9
  go_loopg [3, 9] nk (fun gg s3 s9 wr => ∃ j : Nat, j + gg = nk ∧ s9 = .int .i64 (j : Int) ∧ s3 = .int .i64 (cdDs (c.kids.take j) : Int) ∧ Hid (Below w.heap.size w wr))
  case atStart => exact ⟨0, by omega, rfl, by rw [List.take_zero, cdDs]; rfl, HBwb⟩
  case round =>
    obtain ⟨j, hjg, rfl, rfl, hbel⟩ := hrel
    obtain ⟨W1, rfl⟩ : ∃ W1, W1 = wr := ⟨_, rfl⟩
    by_cases hj : j < nk
    · obtain ⟨x, hx⟩ : ∃ x, c.kids[j]? = some x := ⟨_, List.getElem?_eq_getElem (by have := HKL.out; omega)⟩
      have hb1 : B ≤ W1.heap.size := Nat.le_trans hB hbel.out.size
      obtain ⟨d', b, off, Bi, mi, di, Bk, mk, dk, hdd, rfl, hbb, hcl, hrx⟩ := (HC.out.2.below (hbel.out.mono hB)).at_ hx
      have e0 : W1.cell? ⟨b, off + j * 10, none⟩ = some (.int .i64 x.op) := hcl 0 _ rfl
      have e1 : W1.cell? ⟨b, off + j * 10 + 1, none⟩ = some (.string x.name) := hcl 1 _ rfl
      have e2 : W1.cell? ⟨b, off + j * 10 + 2, none⟩ = some (.string x.text) := hcl 2 _ rfl
      have e3 : W1.cell? ⟨b, off + j * 10 + 3, none⟩ = some (.int .i64 x.val.kind) := hcl 3 _ rfl
      have e4 : W1.cell? ⟨b, off + j * 10 + 4, none⟩ = some (.int .i64 x.val.int_) := hcl 4 _ rfl
      have e5 : W1.cell? ⟨b, off + j * 10 + 5, none⟩ = some (.int .i64 x.val.to_) := hcl 5 _ rfl
      have e6 : W1.cell? ⟨b, off + j * 10 + 6, none⟩ = some (.string x.val.text) := hcl 6 _ rfl
      have e7 : W1.cell? ⟨b, off + j * 10 + 7, none⟩ = some (.slice Bi mi di) := hcl 7 _ rfl
      have e8 : W1.cell? ⟨b, off + j * 10 + 8, none⟩ = some (.int .i64 x.num) := hcl 8 _ rfl
      have e9 : W1.cell? ⟨b, off + j * 10 + 9, none⟩ = some (.slice Bk mk dk) := hcl 9 _ rfl
      obtain ⟨wa, hwa⟩ : ∃ wa, wa = W1.alloc (.cells #[.int .i64 x.op, .string x.name, .string x.text, .int .i64 x.val.kind, .int .i64 x.val.int_, .int .i64 x.val.to_, .string x.val.text, .slice Bi mi di, .int .i64 x.num, .slice Bk mk dk] 27) := ⟨_, rfl⟩
      have hal : Below W1.heap.size W1 wa := by rw [hwa]; exact (Below.refl _ _).alloc (Nat.le_refl _) _
      have q9 : Blk wa W1.heap.size 27 #[.int .i64 x.op, .string x.name, .string x.text, .int .i64 x.val.kind, .int .i64 x.val.int_, .int .i64 x.val.to_, .string x.val.text, .slice Bi mi di, .int .i64 x.num, .slice Bk mk dk] := by rw [hwa]; exact Blk.new _ _ _
      have m0 := q9.cell 0
      have m1 := q9.cell 1
      have m2 := q9.cell 2
      have m3 := q9.cell 3
      have m4 := q9.cell 4
      have m5 := q9.cell 5
      have m6 := q9.cell 6
      have m7 := q9.cell 7
      have m8 := q9.cell 8
      have m9 := q9.cell 9
      have HWA := Lib.hid hwa
      have HAL := Lib.hid hal
      have HCX := Lib.hid (HIH.out d' (by omega) x Bi mi di Bk mk dk B wa (Nat.le_trans hb1 hal.size) (hrx.below (hal.mono hb1)) (HBK.out j x hx))
      unfold ACd at HCX
      dsimp only at HCX
      have HXJ := Lib.hid hx
      have HBA : Hid (Below w.heap.size w wa) := hbel.out.trans (hal.mono hbel.out.size)
      have j0 : (0 : Int) ≤ (j : Int) := by omega
      have j1 : (j : Int) < (nk : Int) := by omega
      clear hx hrx hcl hbb hwa hal q9
      obtain ⟨a0, ha0⟩ : ∃ q, cdDs (c.kids.take j) = q := ⟨_, rfl⟩
      obtain ⟨a1, ha1⟩ : ∃ q, cdD x = q := ⟨_, rfl⟩
      have HA2 : Hid (cdDs (c.kids.take (j + 1)) = max a0 a1) := by show _ = _; rw [cdDs_take HXJ.out, ha0, ha1]
      rw [ha1] at HCX
      rw [ha0]
      clear ha0 ha1
      go_upto_region 5 with fail
      rw [← HWA.out]
      clear e0 e1 e2 e3 e4 e5 e6 e7 e8 e9
      go_wp2_with fail
      refine HCX.out.mono ?_
      rintro e w2 ⟨rfl, hb⟩
      have HB2 : Hid (Below w.heap.size w w2) := HBA.out.trans (hb.mono HBA.out.size)
      clear hb m0 m1 m2 m3 m4 m5 m6 m7 m8 m9
      go_wp2_with fail
      all_goals
        go_roundg (nk - (j + 1))
        case measure => omega
        case rel => exact ⟨j + 1, by omega, by go_num, by rw [HA2.out]; first | (congr 1; omega; done) | (rw [Nat.max_eq_right (by omega)]; done) | (rw [Nat.max_eq_left (by omega)]; done), HB2⟩
    · obtain rfl : nk = j := by omega
      have ht : c.kids.take nk = c.kids := List.take_of_length_le (by rw [← HKL.out]; exact Nat.le_refl _)
      have HE : Hid (cdD c = cdDs (c.kids.take nk) + 1) := by show _ = _; rw [HDE.out, ht]; omega
      have hbd := HBD.out nk
      obtain ⟨a0, ha0⟩ : ∃ q, cdDs (c.kids.take nk) = q := ⟨_, rfl⟩
      rw [ha0] at HE hbd ⊢
      obtain ⟨a1, ha1⟩ : ∃ q, cdD c = q := ⟨_, rfl⟩
      have iw : IntKind.i64.wrap ((a0 : Int) + 1) = (a1 : Int) := by rw [IntWalk.i64_in _ (by omega), ← ha1, HE.out]; omega
      have HA := Lib.hid ha1
      clear ht ha0 hbd ha1
      go_wp2_with fail
      go_ret
      exact ⟨by rw [HA.out]; rfl, hbel.out⟩
end Go.Proofs.YtnlonleljbbgoaaGreatDoor
