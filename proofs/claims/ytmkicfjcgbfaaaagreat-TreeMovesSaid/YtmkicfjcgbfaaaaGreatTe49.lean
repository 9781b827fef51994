/-
  DERIVED. The walk of the reference's JoinOf. Conditions: sizes.
  By an AI agent.
-/
import Derived.Test.YtmkicfjcgbfaaaaGreatTe45
namespace Go.Proofs.YtmkicfjcgbfaaaaGreat
open Go.RowKit

set_option maxRecDepth 100000 in
set_option maxHeartbeats 16000000 in
theorem joinR_core (n c : Nat) (id : Int) (b off p r i : Nat) (xid xpar zid zpar : Int) (xtx ztx : ByteArray) (Kx Px Kz Pz : Option Addr) (nkx ckx npx cpx nkz ckz npz cpz : Nat) (ks : List Int) (ps : List Pr) (nys cky q kb ko : Nat) (w : World)
    (hbb : b < w.heap.size) (hkb : kb < w.heap.size) (gy2 : w.cell? ⟨b, off + q * 5 + 2, none⟩ = some (.slice (some ⟨kb, ko, none⟩) nys cky)) (gk : w.cell? ⟨kb, ko + (i + 1), none⟩ = some (.int .i64 zid)) (hq : q < n)
    (gx0 : w.cell? ⟨b, off + p * 5, none⟩ = some (.int .i64 xid))
    (gx1 : w.cell? ⟨b, off + p * 5 + 1, none⟩ = some (.int .i64 xpar))
    (gx2 : w.cell? ⟨b, off + p * 5 + 2, none⟩ = some (.slice Kx nkx ckx))
    (gx3 : w.cell? ⟨b, off + p * 5 + 3, none⟩ = some (.string xtx))
    (gx4 : w.cell? ⟨b, off + p * 5 + 4, none⟩ = some (.slice Px npx cpx))
    (gz0 : w.cell? ⟨b, off + r * 5, none⟩ = some (.int .i64 zid))
    (gz1 : w.cell? ⟨b, off + r * 5 + 1, none⟩ = some (.int .i64 zpar))
    (gz2 : w.cell? ⟨b, off + r * 5 + 2, none⟩ = some (.slice Kz nkz ckz))
    (gz3 : w.cell? ⟨b, off + r * 5 + 3, none⟩ = some (.string ztx))
    (gz4 : w.cell? ⟨b, off + r * 5 + 4, none⟩ = some (.slice Pz npz cpz))
    (hK : RIn w w.heap.size (.slice Kz nkz ckz) ks) (hP : RPr w w.heap.size (.slice Pz npz cpz) ps)
    (hp : p < n) (hr : r < n) (hi : i + 1 < nys) (hys : nys ≤ 500) (hkz : nkz ≤ 500) (hkx : nkx ≤ 500) (hpz : npz ≤ 20)
    (hC : Calls Tryz.prog 109 #[.slice (some ⟨b, off, none⟩) n c, .int .i64 id] w fun e w' => e = .returned (.int .i64 0) ∧ Below w.heap.size w w')
    (hIX : ∀ W, Below w.heap.size w W → Calls Tryz.prog 71 #[.slice (some ⟨b, off, none⟩) n c, .int .i64 id] W fun e w' => e = .returned (.int .i64 (p : Int)) ∧ Below W.heap.size W w')
    (hIY : ∀ W, Below w.heap.size w W → Calls Tryz.prog 71 #[.slice (some ⟨b, off, none⟩) n c, .int .i64 xpar] W fun e w' => e = .returned (.int .i64 (q : Int)) ∧ Below W.heap.size W w')
    (hIZ : ∀ W, Below w.heap.size w W → Calls Tryz.prog 71 #[.slice (some ⟨b, off, none⟩) n c, .int .i64 zid] W fun e w' => e = .returned (.int .i64 (r : Int)) ∧ Below W.heap.size W w')
    (hPO : ∀ W, Below w.heap.size w W → Calls Tryz.prog 110 #[.slice (some ⟨b, off, none⟩) n c, .int .i64 id] W fun e w' => e = .returned (.int .i64 (i : Int)) ∧ Below W.heap.size W w')
    (os : List Opn) (hos : os = joA id zid xtx.size nkx ztx ks ps nkz npz ++ [rmO zid]) (hO : ∀ o ∈ os, OI o ∧ o.val.items = []) (Q : Ending → World → Prop)
    (hTR : ∀ W Aq cq, Below w.heap.size w W → ROs W W.heap.size (.slice Aq os.length cq) os → (Aq = none → os.length = 0 ∧ cq = 0) → Calls Tryz.prog 112 #[.slice (some ⟨b, off, none⟩) n c, .slice Aq os.length cq] W fun e w' => ∃ A' n' c' er, e = .returned (.tuple #[.slice A' n' c', .int .i64 er]) ∧ Q (.returned (.tuple #[.slice A' n' c', .int .i64 er])) w') :
    Calls Tryz.prog 45 #[.slice (some ⟨b, off, none⟩) n c, .int .i64 id] w Q := by
  have HOS := Lib.hid hos
  have HOO := Lib.hid hO
  have HTR := Lib.hid hTR
  have HC := Lib.hid hC
  have HIX := Lib.hid hIX
  have HIY := Lib.hid hIY
  have HIZ := Lib.hid hIZ
  have HPO := Lib.hid hPO
  have HK := Lib.hid hK
  have HP := Lib.hid hP
  have GY2 := Lib.hid gy2
  have GK := Lib.hid gk
  have GX0 := Lib.hid gx0
  have GX1 := Lib.hid gx1
  have GX2 := Lib.hid gx2
  have GX3 := Lib.hid gx3
  have GX4 := Lib.hid gx4
  have GZ0 := Lib.hid gz0
  have GZ1 := Lib.hid gz1
  have GZ2 := Lib.hid gz2
  have GZ3 := Lib.hid gz3
  have GZ4 := Lib.hid gz4
  have ww1 : IntKind.i64.wrap ((i : Int) + 1) = (i : Int) + 1 := IntWalk.i64_in _ (by omega)
  have hqq : (((i : Int) + 1) == (nys : Int)) = false := by
    have : (i : Int) + 1 ≠ (nys : Int) := by omega
    simpa using this
  have y0 : (0 : Int) ≤ (i : Int) + 1 := by omega
  have y1 : (i : Int) + 1 < (nys : Int) := by omega
  have p0 : (0 : Int) ≤ (p : Int) := by omega
  have p1 : (p : Int) < (n : Int) := by omega
  have r0 : (0 : Int) ≤ (r : Int) := by omega
  have r1 : (r : Int) < (n : Int) := by omega
  have u0 : (0 : Int) ≤ (q : Int) := by omega
  have u1 : (q : Int) < (n : Int) := by omega
  clear hos hO hTR hC hIX hIY hIZ hPO hK hP gy2 gk gx0 gx1 gx2 gx3 gx4 gz0 gz1 gz2 gz3 gz4
  go_enter Tryz.func45, Tryz.ntmps45
  go_wp2_with fail
  refine HC.out.mono ?_
  rintro e w1 ⟨rfl, hb1⟩
  have HB1 := Lib.hid hb1
  clear hb1
  go_wp2_with fail
  refine (HIX.out w1 HB1.out).mono ?_
  rintro e w2 ⟨rfl, hb2⟩
  have HB2 : Hid (Below w.heap.size w w2) := HB1.out.trans (hb2.mono HB1.out.size)
  clear hb2
  have c0 : w2.cell? ⟨b, off + p * 5, none⟩ = _ := (HB2.out.cell (p := ⟨b, off + p * 5, none⟩) (by show b < _; omega)).trans GX0.out
  have c1 : w2.cell? ⟨b, off + p * 5 + 1, none⟩ = _ := (HB2.out.cell (p := ⟨b, off + p * 5 + 1, none⟩) (by show b < _; omega)).trans GX1.out
  have c2 : w2.cell? ⟨b, off + p * 5 + 2, none⟩ = _ := (HB2.out.cell (p := ⟨b, off + p * 5 + 2, none⟩) (by show b < _; omega)).trans GX2.out
  have c3 : w2.cell? ⟨b, off + p * 5 + 3, none⟩ = _ := (HB2.out.cell (p := ⟨b, off + p * 5 + 3, none⟩) (by show b < _; omega)).trans GX3.out
  have c4 : w2.cell? ⟨b, off + p * 5 + 4, none⟩ = _ := (HB2.out.cell (p := ⟨b, off + p * 5 + 4, none⟩) (by show b < _; omega)).trans GX4.out
  obtain ⟨w3, hw3⟩ : ∃ w3, w3 = w2.alloc (.cells #[.int .i64 xid, .int .i64 xpar, .slice Kx nkx ckx, .string xtx, .slice Px npx cpx] 38) := ⟨_, rfl⟩
  have HB3 : Hid (Below w.heap.size w w3) := by rw [hw3]; exact HB2.out.alloc HB2.out.size _
  have X3 : Hid (Blk w3 w2.heap.size 38 #[.int .i64 xid, .int .i64 xpar, .slice Kx nkx ckx, .string xtx, .slice Px npx cpx]) := by rw [hw3]; exact Blk.new _ _ _
  have HW3 := Lib.hid hw3
  clear hw3
  go_upto_region 5 with fail
  rw [← HW3.out]
  clear c0 c1 c2 c3 c4
  obtain ⟨g1, hg1⟩ : ∃ g1, g1 = w2.heap.size := ⟨_, rfl⟩
  rw [← hg1] at X3 ⊢
  clear hg1
  have ex := fun j => X3.out.cell j
  go_wp2_with fail
  refine (HIY.out w3 HB3.out).mono ?_
  rintro e w4 ⟨rfl, hb4⟩
  have HB4 : Hid (Below w.heap.size w w4) := HB3.out.trans (hb4.mono HB3.out.size)
  have X4 := Lib.hid (X3.out.below hb4 X3.out.lt)
  clear hb4 ex
  have d2 : w4.cell? ⟨b, off + q * 5 + 2, none⟩ = _ := (HB4.out.cell (p := ⟨b, off + q * 5 + 2, none⟩) (by show b < _; omega)).trans GY2.out
  go_wp2_with fail
  refine (HPO.out w4 HB4.out).mono ?_
  rintro e w5a ⟨rfl, hb5⟩
  have HB5a : Hid (Below w.heap.size w w5a) := HB4.out.trans (hb5.mono HB4.out.size)
  have X5 := Lib.hid (X4.out.below hb5 X4.out.lt)
  clear hb5 d2
  have dk : w5a.cell? ⟨kb, ko + (i + 1), none⟩ = _ := (HB5a.out.cell (p := ⟨kb, ko + (i + 1), none⟩) (by show kb < _; omega)).trans GK.out
  go_wp2_with fail
  refine (HIZ.out w5a HB5a.out).mono ?_
  rintro e w6a ⟨rfl, hb6⟩
  have HB6a : Hid (Below w.heap.size w w6a) := HB5a.out.trans (hb6.mono HB5a.out.size)
  have X6 := Lib.hid (X5.out.below hb6 X5.out.lt)
  clear hb6 dk
  have c0 : w6a.cell? ⟨b, off + r * 5, none⟩ = _ := (HB6a.out.cell (p := ⟨b, off + r * 5, none⟩) (by show b < _; omega)).trans GZ0.out
  have c1 : w6a.cell? ⟨b, off + r * 5 + 1, none⟩ = _ := (HB6a.out.cell (p := ⟨b, off + r * 5 + 1, none⟩) (by show b < _; omega)).trans GZ1.out
  have c2 : w6a.cell? ⟨b, off + r * 5 + 2, none⟩ = _ := (HB6a.out.cell (p := ⟨b, off + r * 5 + 2, none⟩) (by show b < _; omega)).trans GZ2.out
  have c3 : w6a.cell? ⟨b, off + r * 5 + 3, none⟩ = _ := (HB6a.out.cell (p := ⟨b, off + r * 5 + 3, none⟩) (by show b < _; omega)).trans GZ3.out
  have c4 : w6a.cell? ⟨b, off + r * 5 + 4, none⟩ = _ := (HB6a.out.cell (p := ⟨b, off + r * 5 + 4, none⟩) (by show b < _; omega)).trans GZ4.out
  obtain ⟨w5, hw5⟩ : ∃ w5, w5 = w6a.alloc (.cells #[.int .i64 zid, .int .i64 zpar, .slice Kz nkz ckz, .string ztx, .slice Pz npz cpz] 38) := ⟨_, rfl⟩
  have hbw : Hid (Below w.heap.size w w5) := by show Below _ _ _; rw [hw5]; exact HB6a.out.alloc HB6a.out.size _
  have hX : Hid (Blk w5 g1 38 #[.int .i64 xid, .int .i64 xpar, .slice Kx nkx ckx, .string xtx, .slice Px npx cpx]) := by show Blk _ _ _ _; rw [hw5]; exact X6.out.alloc _
  have hZ : Hid (Blk w5 w6a.heap.size 38 #[.int .i64 zid, .int .i64 zpar, .slice Kz nkz ckz, .string ztx, .slice Pz npz cpz]) := by show Blk _ _ _ _; rw [hw5]; exact Blk.new _ _ _
  have hg2 : w.heap.size ≤ w6a.heap.size := HB6a.out.size
  have HW5 := Lib.hid hw5
  clear hw5
  go_upto_region 10 with fail
  rw [← HW5.out]
  clear c0 c1 c2 c3 c4
  obtain ⟨g2, hgg⟩ : ∃ g2, g2 = w6a.heap.size := ⟨_, rfl⟩
  rw [← hgg] at hZ hg2 ⊢
  clear hgg
  obtain ⟨m0, mhi, mz0, mz1, mz2⟩ := info_parts op_info
  have HNK : Hid (nkz = ks.length) := HK.out.len.1
  have HNP : Hid (npz = ps.length) := HP.out.len.1
  have hal : Below w5.heap.size w5 (w5.alloc (.cells #[.int .i64 4, .int .i64 id, .int .i64 0, .int .i64 0, .int .i64 (xtx.size : Int), .int .i64 (xtx.size : Int), .string ztx, .string ⟨#[]⟩, .int .i64 0, .int .i64 0, .int .i64 0, .string ⟨#[]⟩, .slice none 0 0] 31)) := (Below.refl _ _).alloc (Nat.le_refl _) _
  have hn6 : Blk (w5.alloc (.cells #[.int .i64 4, .int .i64 id, .int .i64 0, .int .i64 0, .int .i64 (xtx.size : Int), .int .i64 (xtx.size : Int), .string ztx, .string ⟨#[]⟩, .int .i64 0, .int .i64 0, .int .i64 0, .string ⟨#[]⟩, .slice none 0 0] 31)) w5.heap.size 31 #[.int .i64 4, .int .i64 id, .int .i64 0, .int .i64 0, .int .i64 (xtx.size : Int), .int .i64 (xtx.size : Int), .string ztx, .string ⟨#[]⟩, .int .i64 0, .int .i64 0, .int .i64 0, .string ⟨#[]⟩, .slice none 0 0] := Blk.new _ _ _
  obtain ⟨w6, hw6⟩ : ∃ w6, w6 = w5.alloc (.cells #[.int .i64 4, .int .i64 id, .int .i64 0, .int .i64 0, .int .i64 (xtx.size : Int), .int .i64 (xtx.size : Int), .string ztx, .string ⟨#[]⟩, .int .i64 0, .int .i64 0, .int .i64 0, .string ⟨#[]⟩, .slice none 0 0] 31) := ⟨_, rfl⟩
  rw [← hw6] at hal hn6
  have HB56 := Lib.hid hal
  have HX6 := Lib.hid (hX.out.below hal hX.out.lt)
  have HZ6 := Lib.hid (hZ.out.below hal hZ.out.lt)
  have HO6 : Hid (w6.ownsRow w5.heap.size 31 13 (.slice (some ⟨w5.heap.size, 0, none⟩) 1 1) (joA id zid xtx.size nkx ztx ks ps 0 0).length (rowsO (joA id zid xtx.size nkx ztx ks ps 0 0))) := ⟨rfl, .inr ⟨w5.heap.size, 1, #[.int .i64 4, .int .i64 id, .int .i64 0, .int .i64 0, .int .i64 (xtx.size : Int), .int .i64 (xtx.size : Int), .string ztx, .string ⟨#[]⟩, .int .i64 0, .int .i64 0, .int .i64 0, .string ⟨#[]⟩, .slice none 0 0], rfl, Nat.le_refl _, hn6, Nat.le_refl _, by unfold maxLen; omega, rfl, rfl⟩⟩
  have HW6 := Lib.hid hw6
  clear hal hn6 hw6
  have ex := fun j => hX.out.cell j
  have ez := fun j => hZ.out.cell j
  go_upto_region 11 with fail
  rw [← HW6.out]
  clear ex ez
  have ez := fun j => HZ6.out.cell j
  go_wp2_with fail
  clear ez
  go_loopg [11, 67] nkz (fun gg s11 s64 wr => ∃ k : Nat, k + gg = nkz ∧ s64 = .int .i64 (k : Int) ∧ Hid (wr.ownsRow w5.heap.size 31 13 s11 (joA id zid xtx.size nkx ztx ks ps k 0).length (rowsO (joA id zid xtx.size nkx ztx ks ps k 0))) ∧ Hid (Below w5.heap.size w5 wr))
  case atStart => exact ⟨0, by omega, rfl, HO6, HB56⟩
  case round =>
    obtain ⟨k, hkg, rfl, hrow, hb⟩ := hrel
    obtain ⟨W1, rfl⟩ : ∃ W1, W1 = wr := ⟨_, rfl⟩
    have hz1 : w5.heap.size ≤ W1.heap.size := hb.out.size
    have HBW1 : Hid (Below w.heap.size w W1) := hbw.out.trans (hb.out.mono hbw.out.size)
    have PX := Lib.hid (hX.out.below hb.out hX.out.lt)
    have PZ := Lib.hid (hZ.out.below hb.out hZ.out.lt)
    by_cases hk : k < nkz
    · have hlen : (joA id zid xtx.size nkx ztx ks ps k 0).length ≤ 600 := by have := joA_len id zid xtx.size nkx ztx ks ps k 0; omega
      obtain ⟨x, hx⟩ : ∃ x, ks[k]? = some x := ⟨_, List.getElem?_eq_getElem (by have := HNK.out; omega)⟩
      obtain ⟨kb2, ko2, rfl, hkb2, hkc2⟩ := (HK.out.below HBW1.out).at_ hx
      have HSN : Hid (joA id zid xtx.size nkx ztx ks ps (k + 1) 0 = joA id zid xtx.size nkx ztx ks ps k 0 ++ [mvO x id ((nkx : Int) + (k : Int))]) := joA_move hx
      obtain ⟨os1, hos1⟩ : ∃ os1, os1 = joA id zid xtx.size nkx ztx ks ps k 0 := ⟨_, rfl⟩
      rw [← hos1] at HSN hlen hrow
      have k0 : (0 : Int) ≤ (k : Int) := by omega
      have k1 : (k : Int) < (nkz : Int) := by omega
      have ww3 : IntKind.i64.wrap ((nkx : Int) + (k : Int)) = (nkx : Int) + (k : Int) := IntWalk.i64_in _ (by omega)
      have HRD : Hid (Reads (W1.alloc (.cells #[.int .i64 3, .int .i64 x, .int .i64 id, .int .i64 ((nkx : Int) + (k : Int)), .int .i64 0, .int .i64 0, .string ⟨#[]⟩, .string ⟨#[]⟩, .int .i64 0, .int .i64 0, .int .i64 0, .string ⟨#[]⟩, .slice none 0 0] 31)) (W1.heap.size + 1) 13 (some ⟨W1.heap.size, 0, none⟩) 1 [.int .i64 3, .int .i64 x, .int .i64 id, .int .i64 ((nkx : Int) + (k : Int)), .int .i64 0, .int .i64 0, .string ⟨#[]⟩, .string ⟨#[]⟩, .int .i64 0, .int .i64 0, .int .i64 0, .string ⟨#[]⟩, .slice none 0 0]) :=
        ⟨rfl, fun _ => ⟨_, rfl, by simp, row_new _ _ [.int .i64 3, .int .i64 x, .int .i64 id, .int .i64 ((nkx : Int) + (k : Int)), .int .i64 0, .int .i64 0, .string ⟨#[]⟩, .string ⟨#[]⟩, .int .i64 0, .int .i64 0, .int .i64 0, .string ⟨#[]⟩, .slice none 0 0] _ rfl⟩⟩
      have HO7 := Lib.hid (hrow.out.alloc (.cells #[.int .i64 3, .int .i64 x, .int .i64 id, .int .i64 ((nkx : Int) + (k : Int)), .int .i64 0, .int .i64 0, .string ⟨#[]⟩, .string ⟨#[]⟩, .int .i64 0, .int .i64 0, .int .i64 0, .string ⟨#[]⟩, .slice none 0 0] 31))
      have hblk := Lib.hid (own_block_lt HO7.out)
      clear hx hos1
      have ex := fun j => PX.out.cell j
      go_wp2_with (at_builtin; refine wpList_append_any _ rfl _ _ 23 rfl w5.heap.size 31 m0 opZ 13 144 Tryz.underlying23 mhi mz0 mz1 mz2 rfl (by decide) _ os1.length _ rfl HO7.out (W1.heap.size + 1) (some ⟨W1.heap.size, 0, none⟩) 1 1 [.int .i64 3, .int .i64 x, .int .i64 id, .int .i64 ((nkx : Int) + (k : Int)), .int .i64 0, .int .i64 0, .string ⟨#[]⟩, .string ⟨#[]⟩, .int .i64 0, .int .i64 0, .int .i64 0, .string ⟨#[]⟩, .slice none 0 0] rfl HRD.out (opV_one ((mvO x id ((nkx : Int) + (k : Int)) : Opn), .slice none 0 0) ⟨_, _, _, rfl⟩) (by unfold maxLen; omega) (by omega) (by simp; omega) ?_; intro v7 w7 hown7 hg7 hat7)
      have HB7 : Hid (Below w5.heap.size w5 w7) := (hb.out.alloc hz1 _).grown hg7 (by simp; omega) (fun g h => (hblk.out g h).1)
      have HR7 : Hid (w7.ownsRow w5.heap.size 31 13 v7 (joA id zid xtx.size nkx ztx ks ps (k + 1) 0).length (rowsO (joA id zid xtx.size nkx ztx ks ps (k + 1) 0))) := by
        show World.ownsRow _ _ _ _ _ _ _
        rw [HSN.out, rowsO_snoc, List.length_append]; exact hown7
      clear hown7 hg7 hat7 ex
      go_wp2_with fail
      go_roundg (nkz - (k + 1))
      case measure => omega
      case rel => exact ⟨k + 1, by omega, by go_num, HR7, HB7⟩
    · obtain rfl : k = nkz := by omega
      obtain ⟨WA, hWA⟩ : ∃ WA, WA = W1.setCell ⟨g2, 2, none⟩ (.slice none 0 0) := ⟨_, rfl⟩
      have PA : Hid (Blk WA g2 38 #[.int .i64 zid, .int .i64 zpar, .slice none 0 0, .string ztx, .slice Pz npz cpz]) := by rw [hWA]; exact PZ.out.set_ 2 (.slice none 0 0)
      have HOA := Lib.hid (ownsRow_setCell_below hrow.out (a := ⟨g2, 2, none⟩) hZ.out.lt (.slice none 0 0))
      rw [← hWA] at HOA
      have HVA := Lib.hid fun g hg => (Nat.ne_of_gt (Nat.lt_of_lt_of_le hZ.out.lt (own_block_lt hrow.out g hg).1) : g ≠ g2)
      have HBA : Hid (Below w.heap.size w WA) := by
        show Below _ _ _
        rw [hWA]
        exact HBW1.out.setCell (p := ⟨g2, 2, none⟩) hg2 (.slice none 0 0)
      have HZA : Hid (w5.heap.size ≤ WA.heap.size) := by
        show _ ≤ _
        rw [hWA]; simp [World.setCell]; exact hz1
      have HWA := Lib.hid hWA
      clear hWA
      have ez := fun j => PZ.out.cell j
      have fz := fun j => PZ.out.frozen j
      go_upto_region 17 with fail
      rw [← HWA.out]
      clear ez fz
      obtain ⟨ga, hga⟩ : ∃ ga, ga = g2 := ⟨_, rfl⟩
      rw [← hga] at PA HVA ⊢
      clear hga
      have ea := fun j => PA.out.cell j
      go_wp2_with fail
      clear ea
      go_loopg [11, 88] npz (fun gg s11 s89 wr => ∃ q : Nat, q + gg = npz ∧ s89 = .int .i64 (q : Int) ∧ Hid (wr.ownsRow w5.heap.size 31 13 s11 (joA id zid xtx.size nkx ztx ks ps k q).length (rowsO (joA id zid xtx.size nkx ztx ks ps k q))) ∧ Hid (Below w.heap.size w wr) ∧ Hid (w5.heap.size ≤ wr.heap.size) ∧ Hid (Blk wr ga 38 #[.int .i64 zid, .int .i64 zpar, .slice none 0 0, .string ztx, .slice Pz npz cpz]) ∧ Hid (∀ g, s11.ownBlock = some g → g ≠ ga))
      case atStart => exact ⟨0, by omega, rfl, HOA, HBA, HZA, PA, HVA⟩
      case round =>
        obtain ⟨q, hqg, rfl, hrow2, hb2, hz2, hpa, hva⟩ := hrel
        obtain ⟨W2, rfl⟩ : ∃ W2, W2 = wr := ⟨_, rfl⟩
        have hlen : (joA id zid xtx.size nkx ztx ks ps k q).length ≤ 600 := by have := joA_len id zid xtx.size nkx ztx ks ps k q; omega
        have hz2' : w5.heap.size ≤ W2.heap.size := hz2.out
        have hbz : w.heap.size ≤ W2.heap.size := hb2.out.size
        by_cases hq2 : q < npz
        · obtain ⟨pr, hpr⟩ : ∃ pr, ps[q]? = some pr := ⟨_, List.getElem?_eq_getElem (by have := HNP.out; omega)⟩
          obtain ⟨pb, poff, Pv, nv, cv, rfl, hpb, h0, h1, h2, h3, h4, h5, _⟩ := (HP.out.below hb2.out).at_ hpr
          have q0 : W2.cell? ⟨pb, poff + q * 6, none⟩ = some (.string pr.name) := h0
          have q1 : W2.cell? ⟨pb, poff + q * 6 + 1, none⟩ = some (.int .i64 pr.val.kind) := h1
          have q2 : W2.cell? ⟨pb, poff + q * 6 + 2, none⟩ = some (.int .i64 pr.val.int_) := h2
          have q3 : W2.cell? ⟨pb, poff + q * 6 + 3, none⟩ = some (.int .i64 pr.val.to_) := h3
          have q4 : W2.cell? ⟨pb, poff + q * 6 + 4, none⟩ = some (.string pr.val.text) := h4
          have q5 : W2.cell? ⟨pb, poff + q * 6 + 5, none⟩ = some (.slice Pv nv cv) := h5
          have k0 : (0 : Int) ≤ (q : Int) := by omega
          have k1 : (q : Int) < (npz : Int) := by omega
          have HSN : Hid (joA id zid xtx.size nkx ztx ks ps k (q + 1) = joA id zid xtx.size nkx ztx ks ps k q ++ [seO zid pr.name]) := joA_prop hpr
          obtain ⟨os1, hos1⟩ : ∃ os1, os1 = joA id zid xtx.size nkx ztx ks ps k q := ⟨_, rfl⟩
          rw [← hos1] at HSN hlen hrow2
          have HRD : Hid (Reads ((W2.alloc (.cells #[.string pr.name, .int .i64 pr.val.kind, .int .i64 pr.val.int_, .int .i64 pr.val.to_, .string pr.val.text, .slice Pv nv cv] 116)).alloc (.cells #[.int .i64 5, .int .i64 zid, .int .i64 0, .int .i64 0, .int .i64 0, .int .i64 0, .string ⟨#[]⟩, .string pr.name, .int .i64 0, .int .i64 0, .int .i64 0, .string ⟨#[]⟩, .slice none 0 0] 31)) (W2.heap.size + 2) 13 (some ⟨W2.heap.size + 1, 0, none⟩) 1 [.int .i64 5, .int .i64 zid, .int .i64 0, .int .i64 0, .int .i64 0, .int .i64 0, .string ⟨#[]⟩, .string pr.name, .int .i64 0, .int .i64 0, .int .i64 0, .string ⟨#[]⟩, .slice none 0 0]) :=
            ⟨rfl, fun _ => ⟨_, rfl, by simp, row_new _ _ [.int .i64 5, .int .i64 zid, .int .i64 0, .int .i64 0, .int .i64 0, .int .i64 0, .string ⟨#[]⟩, .string pr.name, .int .i64 0, .int .i64 0, .int .i64 0, .string ⟨#[]⟩, .slice none 0 0] _ (by simp)⟩⟩
          have HO7 := Lib.hid ((hrow2.out.alloc (.cells #[.string pr.name, .int .i64 pr.val.kind, .int .i64 pr.val.int_, .int .i64 pr.val.to_, .string pr.val.text, .slice Pv nv cv] 116)).alloc (.cells #[.int .i64 5, .int .i64 zid, .int .i64 0, .int .i64 0, .int .i64 0, .int .i64 0, .string ⟨#[]⟩, .string pr.name, .int .i64 0, .int .i64 0, .int .i64 0, .string ⟨#[]⟩, .slice none 0 0] 31))
          have hblk := Lib.hid (own_block_lt hrow2.out)
          have hgl : ga < W2.heap.size := hpa.out.lt
          clear hpr hos1 h0 h1 h2 h3 h4 h5
          have ea := fun j => hpa.out.cell j
          have eaa := fun o j => (hpa.out.alloc o).cell j
          go_wp2_with (at_builtin; refine wpList_append_any _ rfl _ _ 23 rfl w5.heap.size 31 m0 opZ 13 144 Tryz.underlying23 mhi mz0 mz1 mz2 rfl (by decide) _ os1.length _ rfl HO7.out (W2.heap.size + 2) (some ⟨W2.heap.size + 1, 0, none⟩) 1 1 [.int .i64 5, .int .i64 zid, .int .i64 0, .int .i64 0, .int .i64 0, .int .i64 0, .string ⟨#[]⟩, .string pr.name, .int .i64 0, .int .i64 0, .int .i64 0, .string ⟨#[]⟩, .slice none 0 0] rfl HRD.out (opV_one ((seO zid pr.name : Opn), .slice none 0 0) ⟨_, _, _, rfl⟩) (by unfold maxLen; omega) (by omega) (by simp; omega) ?_; intro v7 w7 hown7 hg7 hat7)
          have HBN : Hid (Below w.heap.size w w7) := ((hb2.out.alloc hbz _).alloc (by simp; omega) _).grown hg7 (by simp; omega) (fun g h => by have := (hblk.out g h).1; have := hbw.out.size; omega)
          have HZN : Hid (w5.heap.size ≤ w7.heap.size) := Nat.le_trans (by simp; omega) hg7.size
          have PN : Hid (Blk w7 ga 38 #[.int .i64 zid, .int .i64 zpar, .slice none 0 0, .string ztx, .slice (some ⟨pb, poff, none⟩) npz cpz]) := ((hpa.out.alloc _).alloc _).grown hg7 (fun e => hva.out ga e.symm rfl)
          have HR7 : Hid (w7.ownsRow w5.heap.size 31 13 v7 (joA id zid xtx.size nkx ztx ks ps k (q + 1)).length (rowsO (joA id zid xtx.size nkx ztx ks ps k (q + 1)))) := by
            show World.ownsRow _ _ _ _ _ _ _
            rw [HSN.out, rowsO_snoc, List.length_append]; exact hown7
          have HV7 : Hid (∀ g, v7.ownBlock = some g → g ≠ ga) := fun g hg => by
            rcases hat7 with e | e
            · exact hva.out g (e ▸ hg)
            · rw [e] at hg
              have e : _ = g := Option.some.inj hg
              simp at e
              omega
          clear hown7 hg7 hat7 ea eaa
          go_wp2_with fail
          go_roundg (npz - (q + 1))
          case measure => omega
          case rel => exact ⟨q + 1, by omega, by go_num, HR7, HBN, HZN, PN, HV7⟩
        · obtain rfl : q = npz := by omega
          have HSN : Hid (os = joA id zid xtx.size nkx ztx ks ps k q ++ [rmO zid]) := HOS.out
          obtain ⟨os1, hos1⟩ : ∃ os1, os1 = joA id zid xtx.size nkx ztx ks ps k q := ⟨_, rfl⟩
          rw [← hos1] at HSN hlen hrow2
          have HRD : Hid (Reads (W2.alloc (.cells #[.int .i64 2, .int .i64 zid, .int .i64 0, .int .i64 0, .int .i64 0, .int .i64 0, .string ⟨#[]⟩, .string ⟨#[]⟩, .int .i64 0, .int .i64 0, .int .i64 0, .string ⟨#[]⟩, .slice none 0 0] 31)) (W2.heap.size + 1) 13 (some ⟨W2.heap.size, 0, none⟩) 1 [.int .i64 2, .int .i64 zid, .int .i64 0, .int .i64 0, .int .i64 0, .int .i64 0, .string ⟨#[]⟩, .string ⟨#[]⟩, .int .i64 0, .int .i64 0, .int .i64 0, .string ⟨#[]⟩, .slice none 0 0]) :=
            ⟨rfl, fun _ => ⟨_, rfl, by simp, row_new _ _ [.int .i64 2, .int .i64 zid, .int .i64 0, .int .i64 0, .int .i64 0, .int .i64 0, .string ⟨#[]⟩, .string ⟨#[]⟩, .int .i64 0, .int .i64 0, .int .i64 0, .string ⟨#[]⟩, .slice none 0 0] _ rfl⟩⟩
          have HO7 := Lib.hid (hrow2.out.alloc (.cells #[.int .i64 2, .int .i64 zid, .int .i64 0, .int .i64 0, .int .i64 0, .int .i64 0, .string ⟨#[]⟩, .string ⟨#[]⟩, .int .i64 0, .int .i64 0, .int .i64 0, .string ⟨#[]⟩, .slice none 0 0] 31))
          have hblk := Lib.hid (own_block_lt hrow2.out)
          clear hos1
          have ea := fun j => hpa.out.cell j
          go_wp2_with (at_builtin; refine wpList_append_any _ rfl _ _ 23 rfl w5.heap.size 31 m0 opZ 13 144 Tryz.underlying23 mhi mz0 mz1 mz2 rfl (by decide) _ os1.length _ rfl HO7.out (W2.heap.size + 1) (some ⟨W2.heap.size, 0, none⟩) 1 1 [.int .i64 2, .int .i64 zid, .int .i64 0, .int .i64 0, .int .i64 0, .int .i64 0, .string ⟨#[]⟩, .string ⟨#[]⟩, .int .i64 0, .int .i64 0, .int .i64 0, .string ⟨#[]⟩, .slice none 0 0] rfl HRD.out (opV_one ((rmO zid : Opn), .slice none 0 0) ⟨_, _, _, rfl⟩) (by unfold maxLen; omega) (by omega) (by simp; omega) ?_; intro v7 w7 hown7 hg7 hat7)
          have HBN : Hid (Below w.heap.size w w7) := (hb2.out.alloc hbz _).grown hg7 (by simp; omega) (fun g h => by have := (hblk.out g h).1; have := hbw.out.size; omega)
          have hle : os.length ≤ 601 := by rw [HSN.out, List.length_append]; show _ + 1 ≤ _; omega
          have HR7 : w7.ownsRow w5.heap.size 31 13 v7 os.length (rowsO os) := by
            rw [HSN.out, rowsO_snoc, List.length_append]; exact hown7
          obtain ⟨Aq, cq, rfl, hros, hlq, hnone⟩ := ros_own HR7 (by omega) HOO.out
          have HTT := Lib.hid (HTR.out w7 Aq cq HBN.out (hros.recap hlq) hnone)
          clear hown7 hg7 hat7 ea hros hnone HR7 hlq hle
          go_wp2_with fail
          refine HTT.out.mono ?_
          rintro e w8 ⟨A8, n8, c8, er, rfl, hQ⟩
          go_wp2_with fail
          exact hQ
end Go.Proofs.YtmkicfjcgbfaaaaGreat
