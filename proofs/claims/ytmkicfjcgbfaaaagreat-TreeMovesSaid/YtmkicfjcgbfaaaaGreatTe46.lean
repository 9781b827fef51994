/-
  DERIVED. The walk of tree.Join. Conditions: sizes.
  By an AI agent.
-/
import Derived.Test.YtmkicfjcgbfaaaaGreatTe06
import Derived.Test.YtmkicfjcgbfaaaaGreatTe45
import Derived.Deep.RegionHeld3
import Derived.BigQuiet
namespace Go.Proofs.YtmkicfjcgbfaaaaGreat
open Go.RowKit

theorem Below.allocS {a W : World} {o : Obj} (h : Below a.heap.size a W) : Below a.heap.size a (W.alloc o) := h.alloc h.size o
theorem Below.setS {a W : World} {g k : Nat} {v : Value} (h : Below a.heap.size a W) (hg : a.heap.size ≤ g) : Below a.heap.size a (W.setCell ⟨g, k, none⟩ v) := h.setCell (p := ⟨g, k, none⟩) hg v
theorem Blk.new2 (w : World) (t : TypeId) (o : Obj) (cs : Array Value) : Blk ((w.alloc o).alloc (.cells cs t)) (w.heap.size + 1) t cs := by
  have h := Blk.new (w.alloc o) t cs
  simpa using h
theorem Blk.put5 {W : World} {g : Nat} {t : TypeId} {a0 a1 a2 a3 a4 : Value} (h : Blk W g t #[.int .i64 0, .int .i64 0, .slice none 0 0, .string ⟨#[]⟩, .slice none 0 0]) : Blk (((((W.setCell ⟨g, 0, none⟩ a0).setCell ⟨g, 1, none⟩ a1).setCell ⟨g, 2, none⟩ a2).setCell ⟨g, 3, none⟩ a3).setCell ⟨g, 4, none⟩ a4) g t #[a0, a1, a2, a3, a4] := ((((h.set_ 0 a0).set_ 1 a1).set_ 2 a2).set_ 3 a3).set_ 4 a4
theorem Blk.skip1 {W : World} {g g' k : Nat} {t : TypeId} {cs : Array Value} {a : Value} (h : Blk W g t cs) (hg : g ≠ g') : Blk (W.setCell ⟨g', k, none⟩ a) g t cs := h.far (p := ⟨g', k, none⟩) hg a

set_option maxRecDepth 100000 in
set_option maxHeartbeats 16000000 in
theorem join_core (n c : Nat) (id : Int) (b off p r i : Nat) (xid xpar zid zpar : Int) (xtx ztx : ByteArray) (Kx Px Kz Pz : Option Addr) (nkx ckx npx cpx nkz ckz npz cpz : Nat) (ks : List Int) (ps : List Pr) (nys : Nat) (w : World)
    (hbb : b < w.heap.size)
    (gx0 : w.cell? ⟨b, off + p * 5, none⟩ = some (.int .i64 xid))
    (gx1 : w.cell? ⟨b, off + p * 5 + 1, none⟩ = some (.int .i64 xpar))
    (gx2 : w.cell? ⟨b, off + p * 5 + 2, none⟩ = some (.slice Kx nkx ckx))
    (gx3 : w.cell? ⟨b, off + p * 5 + 3, none⟩ = some (.string xtx))
    (gx4 : w.cell? ⟨b, off + p * 5 + 4, none⟩ = some (.slice Px npx cpx))
    (gz0 : w.cell? ⟨b, off + r * 5, none⟩ = some (.int .i64 zid))
    (gz1 : w.cell? ⟨b, off + r * 5 + 1, none⟩ = some (.int .i64 zpar))
    (gz2 : w.cell? ⟨b, off + r * 5 + 2, none⟩ = some (.slice Kz nkz ckz))
    (gz3 : w.cell? ⟨b, off + r * 5 + 3, none⟩ = some (.string ztx))
    (gz4 : w.cell? ⟨b, off + r * 5 + 4, none⟩ = some (.slice Pz npz cpz))
    (hK : RIn w w.heap.size (.slice Kz nkz ckz) ks) (hP : RPr w w.heap.size (.slice Pz npz cpz) ps)
    (hp : p < n) (hr : r < n) (hi : i + 1 < nys) (hys : nys ≤ 500) (hkz : nkz ≤ 500) (hkx : nkx ≤ 500) (hpz : npz ≤ 20)
    (hC : Calls Tryz.prog 101 #[.slice (some ⟨b, off, none⟩) n c, .int .i64 id] w fun e w' => e = .returned (.int .i64 0) ∧ Below w.heap.size w w')
    (hAM : ∀ W, Below w.heap.size w W → Calls Tryz.prog 103 #[.slice (some ⟨b, off, none⟩) n c, .int .i64 id] W fun e w' => (∃ kb ko ck, e = .returned (.tuple #[.slice (some ⟨kb, ko, none⟩) nys ck, .int .i64 i]) ∧ kb < w'.heap.size ∧ w'.cell? ⟨kb, ko + (i + 1), none⟩ = some (.int .i64 zid)) ∧ Below W.heap.size W w')
    (hIX : ∀ W, Below w.heap.size w W → Calls Tryz.prog 105 #[.slice (some ⟨b, off, none⟩) n c, .int .i64 id] W fun e w' => e = .returned (.int .i64 (p : Int)) ∧ Below W.heap.size W w')
    (hIZ : ∀ W, Below w.heap.size w W → Calls Tryz.prog 105 #[.slice (some ⟨b, off, none⟩) n c, .int .i64 zid] W fun e w' => e = .returned (.int .i64 (r : Int)) ∧ Below W.heap.size W w')
    (os : List Opn) (hos : os = joA id zid xtx.size nkx ztx ks ps nkz npz ++ [rmO zid]) (hO : ∀ o ∈ os, OI o ∧ o.val.items = []) (Q : Ending → World → Prop)
    (hTR : ∀ W Aq cq, Below w.heap.size w W → ROs W W.heap.size (.slice Aq os.length cq) os → (Aq = none → os.length = 0 ∧ cq = 0) → Calls Tryz.prog 107 #[.slice (some ⟨b, off, none⟩) n c, .slice Aq os.length cq] W fun e w' => ∃ A' n' c' er, e = .returned (.tuple #[.slice A' n' c', .int .i64 er]) ∧ Q (.returned (.tuple #[.slice A' n' c', .int .i64 er])) w') :
    Calls Tryz.prog 40 #[.slice (some ⟨b, off, none⟩) n c, .int .i64 id] w Q := by
  have HOS := Lib.hid hos
  have HOO := Lib.hid hO
  have HTR := Lib.hid hTR
  have HC := Lib.hid hC
  have HAM := Lib.hid hAM
  have HIX := Lib.hid hIX
  have HIZ := Lib.hid hIZ
  have HK := Lib.hid hK
  have HP := Lib.hid hP
  have GX0 := Lib.hid gx0
  have GX1 := Lib.hid gx1
  have GX2 := Lib.hid gx2
  have GX3 := Lib.hid gx3
  have GX4 := Lib.hid gx4
  have GZ0 := Lib.hid gz0
  have GZ1 := Lib.hid gz1
  have GZ2 := Lib.hid gz2
  have GZ3 := Lib.hid gz3
  have GZ4 := Lib.hid gz4
  have ww1 : IntKind.i64.wrap ((i : Int) + 1) = (i : Int) + 1 := IntWalk.i64_in _ (by omega)
  have ww2 : IntKind.i64.wrap ((nys : Int) - 1) = (nys : Int) - 1 := IntWalk.i64_in _ (by omega)
  have hq : ((i : Int) == (nys : Int) - 1) = false := by
    have : (i : Int) ≠ (nys : Int) - 1 := by omega
    simpa using this
  have y0 : (0 : Int) ≤ (i : Int) + 1 := by omega
  have y1 : (i : Int) + 1 < (nys : Int) := by omega
  have p0 : (0 : Int) ≤ (p : Int) := by omega
  have p1 : (p : Int) < (n : Int) := by omega
  have r0 : (0 : Int) ≤ (r : Int) := by omega
  have r1 : (r : Int) < (n : Int) := by omega
  clear hos hO hTR hC hAM hIX hIZ hK hP gx0 gx1 gx2 gx3 gx4 gz0 gz1 gz2 gz3 gz4
  go_enter Tryz.func40, Tryz.ntmps40
  go_wp2_with fail
  refine HC.out.mono ?_
  rintro e w1 ⟨rfl, hb1⟩
  have HB1 := Lib.hid hb1
  clear hb1
  go_wp2_with fail
  refine (HAM.out w1 HB1.out).mono ?_
  rintro e w2 ⟨⟨kb, ko, ck, rfl, hkb, hkc⟩, hb2⟩
  have HB2 : Hid (Below w.heap.size w w2) := HB1.out.trans (hb2.mono HB1.out.size)
  have HKC : Hid (∀ W, Below w2.heap.size w2 W → W.cell? ⟨kb, ko + (i + 1), none⟩ = some (.int .i64 zid)) := fun W hW => (hW.cell (p := ⟨kb, ko + (i + 1), none⟩) hkb).trans hkc
  clear hb2 hkc
  have HS : Hid (∀ W, Below w2.heap.size w2 W → W.cell? ⟨kb, ko + (i + 1), none⟩ = some (.int .i64 zid) ∧ W.cell? ⟨b, off + p * 5, none⟩ = some (.int .i64 xid) ∧ W.cell? ⟨b, off + p * 5 + 1, none⟩ = some (.int .i64 xpar) ∧ W.cell? ⟨b, off + p * 5 + 2, none⟩ = some (.slice Kx nkx ckx) ∧ W.cell? ⟨b, off + p * 5 + 3, none⟩ = some (.string xtx) ∧ W.cell? ⟨b, off + p * 5 + 4, none⟩ = some (.slice Px npx cpx) ∧ W.cell? ⟨b, off + r * 5, none⟩ = some (.int .i64 zid) ∧ W.cell? ⟨b, off + r * 5 + 1, none⟩ = some (.int .i64 zpar) ∧ W.cell? ⟨b, off + r * 5 + 2, none⟩ = some (.slice Kz nkz ckz) ∧ W.cell? ⟨b, off + r * 5 + 3, none⟩ = some (.string ztx) ∧ W.cell? ⟨b, off + r * 5 + 4, none⟩ = some (.slice Pz npz cpz)) := fun W hW => by
    have h := HB2.out.trans (hW.mono HB2.out.size)
    refine ⟨HKC.out W hW, ?_, ?_, ?_, ?_, ?_, ?_, ?_, ?_, ?_, ?_⟩
    · exact (h.cell (p := ⟨b, off + p * 5, none⟩) (by show b < _; omega)).trans GX0.out
    · exact (h.cell (p := ⟨b, off + p * 5 + 1, none⟩) (by show b < _; omega)).trans GX1.out
    · exact (h.cell (p := ⟨b, off + p * 5 + 2, none⟩) (by show b < _; omega)).trans GX2.out
    · exact (h.cell (p := ⟨b, off + p * 5 + 3, none⟩) (by show b < _; omega)).trans GX3.out
    · exact (h.cell (p := ⟨b, off + p * 5 + 4, none⟩) (by show b < _; omega)).trans GX4.out
    · exact (h.cell (p := ⟨b, off + r * 5, none⟩) (by show b < _; omega)).trans GZ0.out
    · exact (h.cell (p := ⟨b, off + r * 5 + 1, none⟩) (by show b < _; omega)).trans GZ1.out
    · exact (h.cell (p := ⟨b, off + r * 5 + 2, none⟩) (by show b < _; omega)).trans GZ2.out
    · exact (h.cell (p := ⟨b, off + r * 5 + 3, none⟩) (by show b < _; omega)).trans GZ3.out
    · exact (h.cell (p := ⟨b, off + r * 5 + 4, none⟩) (by show b < _; omega)).trans GZ4.out
  have HX0 : Hid (Below w2.heap.size w2 w2.drew) := (Below.refl _ _).drew
  have HX1 : Hid (Below w2.heap.size w2 ((w2.alloc (.cells #[.int .i64 0, .int .i64 0, .slice none 0 0, .string ⟨#[]⟩, .slice none 0 0] 38)).drew)) := ((Below.refl _ _).alloc (Nat.le_refl _) _).drew
  have HX2 : Hid (Below w2.heap.size w2 (((w2.alloc (.cells #[.int .i64 0, .int .i64 0, .slice none 0 0, .string ⟨#[]⟩, .slice none 0 0] 38)).alloc (.cells #[.int .i64 0, .int .i64 0, .slice none 0 0, .string ⟨#[]⟩, .slice none 0 0] 38)).drew)) := (((Below.refl _ _).alloc (Nat.le_refl _) _).alloc (by simp) _).drew
  have HIX2 : Hid (∀ W, Below w2.heap.size w2 W → Calls Tryz.prog 105 #[.slice (some ⟨b, off, none⟩) n c, .int .i64 id] W fun e w' => e = .returned (.int .i64 (p : Int)) ∧ Below W.heap.size W w') := fun W hW => HIX.out W (HB2.out.trans (hW.mono HB2.out.size))
  have HIZ2 : Hid (∀ W, Below w2.heap.size w2 W → Calls Tryz.prog 105 #[.slice (some ⟨b, off, none⟩) n c, .int .i64 zid] W fun e w' => e = .returned (.int .i64 (r : Int)) ∧ Below W.heap.size W w') := fun W hW => HIZ.out W (HB2.out.trans (hW.mono HB2.out.size))
  go_upto_region 7 with fail
  go_cut [9, 10] (fun s9 s10 wc => ∃ g1 g2, s9 = .pointer (some ⟨g1, 0, none⟩) ∧ s10 = .pointer (some ⟨g2, 0, none⟩) ∧ Hid (Below w.heap.size w wc) ∧ Hid (Blk wc g1 38 #[.int .i64 xid, .int .i64 xpar, .slice Kx nkx ckx, .string xtx, .slice Px npx cpx]) ∧ Hid (Blk wc g2 38 #[.int .i64 zid, .int .i64 zpar, .slice Kz nkz ckz, .string ztx, .slice Pz npz cpz]))
  case first =>
    go_region_held3 (fun W => W.cell? ⟨kb, ko + (i + 1), none⟩ = some (.int .i64 zid) ∧ W.cell? ⟨b, off + p * 5, none⟩ = some (.int .i64 xid) ∧ W.cell? ⟨b, off + p * 5 + 1, none⟩ = some (.int .i64 xpar) ∧ W.cell? ⟨b, off + p * 5 + 2, none⟩ = some (.slice Kx nkx ckx) ∧ W.cell? ⟨b, off + p * 5 + 3, none⟩ = some (.string xtx) ∧ W.cell? ⟨b, off + p * 5 + 4, none⟩ = some (.slice Px npx cpx) ∧ W.cell? ⟨b, off + r * 5, none⟩ = some (.int .i64 zid) ∧ W.cell? ⟨b, off + r * 5 + 1, none⟩ = some (.int .i64 zpar) ∧ W.cell? ⟨b, off + r * 5 + 2, none⟩ = some (.slice Kz nkz ckz) ∧ W.cell? ⟨b, off + r * 5 + 3, none⟩ = some (.string ztx) ∧ W.cell? ⟨b, off + r * 5 + 4, none⟩ = some (.slice Pz npz cpz))
      (((with_reducible refine HS.out _ ?_); (repeat (first | with_reducible exact HB4.out | with_reducible exact HB3.out | with_reducible exact HX0.out | with_reducible exact Below.refl _ _ | with_reducible refine Below.allocS ?_ | with_reducible refine Below.drew ?_ | (with_reducible refine Below.setS ?_ ?_; rotate_left; (first | exact Nat.le_refl _ | (have := HB3.out.size; have := HB4.out.size; omega)))))))
      (first
        | (go_at_call 105; (with_reducible refine Calls.mono (HIX2.out _ ?hb) ?_); (case hb => with_reducible exact HX0.out); rintro e w3 ⟨rfl, hb⟩; have HB3 : Hid (Below w2.heap.size w2 w3) := HX0.out.trans (hb.mono HX0.out.size); have HB3a : Hid (Below w2.heap.size w2 (w3.alloc (.cells #[.int .i64 0, .int .i64 0, .slice none 0 0, .string ⟨#[]⟩, .slice none 0 0] 38))) := HB3.out.alloc HB3.out.size _; have HB3b : Hid (Below w2.heap.size w2 ((w3.alloc (.cells #[.int .i64 0, .int .i64 0, .slice none 0 0, .string ⟨#[]⟩, .slice none 0 0] 38)).alloc (.cells #[.int .i64 0, .int .i64 0, .slice none 0 0, .string ⟨#[]⟩, .slice none 0 0] 38))) := HB3a.out.alloc HB3a.out.size _; clear hb)
        | (go_at_call 105; (with_reducible refine Calls.mono (HIX2.out _ ?hb) ?_); (case hb => with_reducible exact HX1.out); rintro e w3 ⟨rfl, hb⟩; have HB3 : Hid (Below w2.heap.size w2 w3) := HX1.out.trans (hb.mono HX1.out.size); have HB3a : Hid (Below w2.heap.size w2 (w3.alloc (.cells #[.int .i64 0, .int .i64 0, .slice none 0 0, .string ⟨#[]⟩, .slice none 0 0] 38))) := HB3.out.alloc HB3.out.size _; have HB3b : Hid (Below w2.heap.size w2 ((w3.alloc (.cells #[.int .i64 0, .int .i64 0, .slice none 0 0, .string ⟨#[]⟩, .slice none 0 0] 38)).alloc (.cells #[.int .i64 0, .int .i64 0, .slice none 0 0, .string ⟨#[]⟩, .slice none 0 0] 38))) := HB3a.out.alloc HB3a.out.size _; have E1 : Hid (Blk w3 w2.heap.size 38 #[.int .i64 0, .int .i64 0, .slice none 0 0, .string ⟨#[]⟩, .slice none 0 0]) := ((Blk.new w2 _ _).drew.below hb (by simp)); clear hb)
        | (go_at_call 105; (with_reducible refine Calls.mono (HIX2.out _ ?hb) ?_); (case hb => with_reducible exact HX2.out); rintro e w3 ⟨rfl, hb⟩; have HB3 : Hid (Below w2.heap.size w2 w3) := HX2.out.trans (hb.mono HX2.out.size); have HB3a : Hid (Below w2.heap.size w2 (w3.alloc (.cells #[.int .i64 0, .int .i64 0, .slice none 0 0, .string ⟨#[]⟩, .slice none 0 0] 38))) := HB3.out.alloc HB3.out.size _; have HB3b : Hid (Below w2.heap.size w2 ((w3.alloc (.cells #[.int .i64 0, .int .i64 0, .slice none 0 0, .string ⟨#[]⟩, .slice none 0 0] 38)).alloc (.cells #[.int .i64 0, .int .i64 0, .slice none 0 0, .string ⟨#[]⟩, .slice none 0 0] 38))) := HB3a.out.alloc HB3a.out.size _; have E1 : Hid (Blk w3 w2.heap.size 38 #[.int .i64 0, .int .i64 0, .slice none 0 0, .string ⟨#[]⟩, .slice none 0 0]) := (((Blk.new w2 _ _).alloc _).drew.below hb (by simp; omega)); have E2 : Hid (Blk w3 (w2.heap.size + 1) 38 #[.int .i64 0, .int .i64 0, .slice none 0 0, .string ⟨#[]⟩, .slice none 0 0]) := ((show Blk _ _ _ _ from (Blk.new2 w2 _ _ #[.int .i64 0, .int .i64 0, .slice none 0 0, .string ⟨#[]⟩, .slice none 0 0])).drew.below hb (by simp)); clear hb)
        | (go_at_call 105; (with_reducible refine Calls.mono (HIZ2.out _ ?hb) ?_); (case hb => with_reducible exact HB3.out); rintro e w4 ⟨rfl, hb⟩; have HB4 : Hid (Below w2.heap.size w2 w4) := HB3.out.trans (hb.mono HB3.out.size); have HB4a : Hid (Below w2.heap.size w2 (w4.alloc (.cells #[.int .i64 0, .int .i64 0, .slice none 0 0, .string ⟨#[]⟩, .slice none 0 0] 38))) := HB4.out.alloc HB4.out.size _; have HB4b : Hid (Below w2.heap.size w2 ((w4.alloc (.cells #[.int .i64 0, .int .i64 0, .slice none 0 0, .string ⟨#[]⟩, .slice none 0 0] 38)).alloc (.cells #[.int .i64 0, .int .i64 0, .slice none 0 0, .string ⟨#[]⟩, .slice none 0 0] 38))) := HB4a.out.alloc HB4a.out.size _; (try (have F1 := Lib.hid (E1.out.below hb E1.out.lt))); (try (have F2 := Lib.hid (E2.out.below hb E2.out.lt))); (try (have qF1 := fun j => F1.out.cell j; have fF1 := fun j => F1.out.frozen j; have qaF1 := fun o j => (F1.out.alloc o).cell j; have faF1 := fun o j => (F1.out.alloc o).frozen j)); (try (have qF2 := fun j => F2.out.cell j; have fF2 := fun j => F2.out.frozen j; have qaF2 := fun o j => (F2.out.alloc o).cell j; have faF2 := fun o j => (F2.out.alloc o).frozen j)); (try (have qF3 := fun j => F3.out.cell j; have fF3 := fun j => F3.out.frozen j; have qaF3 := fun o j => (F3.out.alloc o).cell j; have faF3 := fun o j => (F3.out.alloc o).frozen j)); (try (have qF4 := fun j => F4.out.cell j; have fF4 := fun j => F4.out.frozen j; have qaF4 := fun o j => (F4.out.alloc o).cell j; have faF4 := fun o j => (F4.out.alloc o).frozen j)); (try (have ne1 : ¬ (w2.heap.size = w3.heap.size) := by (have := HB3.out.size; have := HB4.out.size; (try have := F1.out.lt); (try have := F2.out.lt); (try have := F3.out.lt); (try have := F4.out.lt); (try have := E1.out.lt); (try have := E2.out.lt); omega))); (try (have ne2 : ¬ (w2.heap.size = w3.heap.size + 1) := by (have := HB3.out.size; have := HB4.out.size; (try have := F1.out.lt); (try have := F2.out.lt); (try have := F3.out.lt); (try have := F4.out.lt); (try have := E1.out.lt); (try have := E2.out.lt); omega))); (try (have ne3 : ¬ (w2.heap.size = w4.heap.size) := by (have := HB3.out.size; have := HB4.out.size; (try have := F1.out.lt); (try have := F2.out.lt); (try have := F3.out.lt); (try have := F4.out.lt); (try have := E1.out.lt); (try have := E2.out.lt); omega))); (try (have ne4 : ¬ (w2.heap.size = w4.heap.size + 1) := by (have := HB3.out.size; have := HB4.out.size; (try have := F1.out.lt); (try have := F2.out.lt); (try have := F3.out.lt); (try have := F4.out.lt); (try have := E1.out.lt); (try have := E2.out.lt); omega))); (try (have ne5 : ¬ (w2.heap.size + 1 = w3.heap.size) := by (have := HB3.out.size; have := HB4.out.size; (try have := F1.out.lt); (try have := F2.out.lt); (try have := F3.out.lt); (try have := F4.out.lt); (try have := E1.out.lt); (try have := E2.out.lt); omega))); (try (have ne6 : ¬ (w2.heap.size + 1 = w3.heap.size + 1) := by (have := HB3.out.size; have := HB4.out.size; (try have := F1.out.lt); (try have := F2.out.lt); (try have := F3.out.lt); (try have := F4.out.lt); (try have := E1.out.lt); (try have := E2.out.lt); omega))); (try (have ne7 : ¬ (w2.heap.size + 1 = w4.heap.size) := by (have := HB3.out.size; have := HB4.out.size; (try have := F1.out.lt); (try have := F2.out.lt); (try have := F3.out.lt); (try have := F4.out.lt); (try have := E1.out.lt); (try have := E2.out.lt); omega))); (try (have ne8 : ¬ (w2.heap.size + 1 = w4.heap.size + 1) := by (have := HB3.out.size; have := HB4.out.size; (try have := F1.out.lt); (try have := F2.out.lt); (try have := F3.out.lt); (try have := F4.out.lt); (try have := E1.out.lt); (try have := E2.out.lt); omega))); (try (have ne9 : ¬ (w3.heap.size = w2.heap.size) := by (have := HB3.out.size; have := HB4.out.size; (try have := F1.out.lt); (try have := F2.out.lt); (try have := F3.out.lt); (try have := F4.out.lt); (try have := E1.out.lt); (try have := E2.out.lt); omega))); (try (have ne10 : ¬ (w3.heap.size = w2.heap.size + 1) := by (have := HB3.out.size; have := HB4.out.size; (try have := F1.out.lt); (try have := F2.out.lt); (try have := F3.out.lt); (try have := F4.out.lt); (try have := E1.out.lt); (try have := E2.out.lt); omega))); (try (have ne11 : ¬ (w3.heap.size = w4.heap.size) := by (have := HB3.out.size; have := HB4.out.size; (try have := F1.out.lt); (try have := F2.out.lt); (try have := F3.out.lt); (try have := F4.out.lt); (try have := E1.out.lt); (try have := E2.out.lt); omega))); (try (have ne12 : ¬ (w3.heap.size = w4.heap.size + 1) := by (have := HB3.out.size; have := HB4.out.size; (try have := F1.out.lt); (try have := F2.out.lt); (try have := F3.out.lt); (try have := F4.out.lt); (try have := E1.out.lt); (try have := E2.out.lt); omega))); (try (have ne13 : ¬ (w3.heap.size + 1 = w2.heap.size) := by (have := HB3.out.size; have := HB4.out.size; (try have := F1.out.lt); (try have := F2.out.lt); (try have := F3.out.lt); (try have := F4.out.lt); (try have := E1.out.lt); (try have := E2.out.lt); omega))); (try (have ne14 : ¬ (w3.heap.size + 1 = w2.heap.size + 1) := by (have := HB3.out.size; have := HB4.out.size; (try have := F1.out.lt); (try have := F2.out.lt); (try have := F3.out.lt); (try have := F4.out.lt); (try have := E1.out.lt); (try have := E2.out.lt); omega))); (try (have ne15 : ¬ (w3.heap.size + 1 = w4.heap.size) := by (have := HB3.out.size; have := HB4.out.size; (try have := F1.out.lt); (try have := F2.out.lt); (try have := F3.out.lt); (try have := F4.out.lt); (try have := E1.out.lt); (try have := E2.out.lt); omega))); (try (have ne16 : ¬ (w3.heap.size + 1 = w4.heap.size + 1) := by (have := HB3.out.size; have := HB4.out.size; (try have := F1.out.lt); (try have := F2.out.lt); (try have := F3.out.lt); (try have := F4.out.lt); (try have := E1.out.lt); (try have := E2.out.lt); omega))); (try (have ne17 : ¬ (w4.heap.size = w2.heap.size) := by (have := HB3.out.size; have := HB4.out.size; (try have := F1.out.lt); (try have := F2.out.lt); (try have := F3.out.lt); (try have := F4.out.lt); (try have := E1.out.lt); (try have := E2.out.lt); omega))); (try (have ne18 : ¬ (w4.heap.size = w2.heap.size + 1) := by (have := HB3.out.size; have := HB4.out.size; (try have := F1.out.lt); (try have := F2.out.lt); (try have := F3.out.lt); (try have := F4.out.lt); (try have := E1.out.lt); (try have := E2.out.lt); omega))); (try (have ne19 : ¬ (w4.heap.size = w3.heap.size) := by (have := HB3.out.size; have := HB4.out.size; (try have := F1.out.lt); (try have := F2.out.lt); (try have := F3.out.lt); (try have := F4.out.lt); (try have := E1.out.lt); (try have := E2.out.lt); omega))); (try (have ne20 : ¬ (w4.heap.size = w3.heap.size + 1) := by (have := HB3.out.size; have := HB4.out.size; (try have := F1.out.lt); (try have := F2.out.lt); (try have := F3.out.lt); (try have := F4.out.lt); (try have := E1.out.lt); (try have := E2.out.lt); omega))); (try (have ne21 : ¬ (w4.heap.size + 1 = w2.heap.size) := by (have := HB3.out.size; have := HB4.out.size; (try have := F1.out.lt); (try have := F2.out.lt); (try have := F3.out.lt); (try have := F4.out.lt); (try have := E1.out.lt); (try have := E2.out.lt); omega))); (try (have ne22 : ¬ (w4.heap.size + 1 = w2.heap.size + 1) := by (have := HB3.out.size; have := HB4.out.size; (try have := F1.out.lt); (try have := F2.out.lt); (try have := F3.out.lt); (try have := F4.out.lt); (try have := E1.out.lt); (try have := E2.out.lt); omega))); (try (have ne23 : ¬ (w4.heap.size + 1 = w3.heap.size) := by (have := HB3.out.size; have := HB4.out.size; (try have := F1.out.lt); (try have := F2.out.lt); (try have := F3.out.lt); (try have := F4.out.lt); (try have := E1.out.lt); (try have := E2.out.lt); omega))); (try (have ne24 : ¬ (w4.heap.size + 1 = w3.heap.size + 1) := by (have := HB3.out.size; have := HB4.out.size; (try have := F1.out.lt); (try have := F2.out.lt); (try have := F3.out.lt); (try have := F4.out.lt); (try have := E1.out.lt); (try have := E2.out.lt); omega))); clear hb)
        | (go_at_call 105; (with_reducible refine Calls.mono (HIZ2.out _ ?hb) ?_); (case hb => with_reducible exact HB3a.out); rintro e w4 ⟨rfl, hb⟩; have HB4 : Hid (Below w2.heap.size w2 w4) := HB3a.out.trans (hb.mono HB3a.out.size); have HB4a : Hid (Below w2.heap.size w2 (w4.alloc (.cells #[.int .i64 0, .int .i64 0, .slice none 0 0, .string ⟨#[]⟩, .slice none 0 0] 38))) := HB4.out.alloc HB4.out.size _; have HB4b : Hid (Below w2.heap.size w2 ((w4.alloc (.cells #[.int .i64 0, .int .i64 0, .slice none 0 0, .string ⟨#[]⟩, .slice none 0 0] 38)).alloc (.cells #[.int .i64 0, .int .i64 0, .slice none 0 0, .string ⟨#[]⟩, .slice none 0 0] 38))) := HB4a.out.alloc HB4a.out.size _; (try (have F1 := Lib.hid ((E1.out.alloc _).below hb (by have := E1.out.lt; simp; omega)))); (try (have F2 := Lib.hid ((E2.out.alloc _).below hb (by have := E2.out.lt; simp; omega)))); have F3 : Hid (Blk w4 w3.heap.size 38 #[.int .i64 0, .int .i64 0, .slice none 0 0, .string ⟨#[]⟩, .slice none 0 0]) := ((Blk.new w3 _ _).below hb (by simp)); (try (have qF1 := fun j => F1.out.cell j; have fF1 := fun j => F1.out.frozen j; have qaF1 := fun o j => (F1.out.alloc o).cell j; have faF1 := fun o j => (F1.out.alloc o).frozen j)); (try (have qF2 := fun j => F2.out.cell j; have fF2 := fun j => F2.out.frozen j; have qaF2 := fun o j => (F2.out.alloc o).cell j; have faF2 := fun o j => (F2.out.alloc o).frozen j)); (try (have qF3 := fun j => F3.out.cell j; have fF3 := fun j => F3.out.frozen j; have qaF3 := fun o j => (F3.out.alloc o).cell j; have faF3 := fun o j => (F3.out.alloc o).frozen j)); (try (have qF4 := fun j => F4.out.cell j; have fF4 := fun j => F4.out.frozen j; have qaF4 := fun o j => (F4.out.alloc o).cell j; have faF4 := fun o j => (F4.out.alloc o).frozen j)); (try (have ne1 : ¬ (w2.heap.size = w3.heap.size) := by (have := HB3.out.size; have := HB4.out.size; (try have := F1.out.lt); (try have := F2.out.lt); (try have := F3.out.lt); (try have := F4.out.lt); (try have := E1.out.lt); (try have := E2.out.lt); omega))); (try (have ne2 : ¬ (w2.heap.size = w3.heap.size + 1) := by (have := HB3.out.size; have := HB4.out.size; (try have := F1.out.lt); (try have := F2.out.lt); (try have := F3.out.lt); (try have := F4.out.lt); (try have := E1.out.lt); (try have := E2.out.lt); omega))); (try (have ne3 : ¬ (w2.heap.size = w4.heap.size) := by (have := HB3.out.size; have := HB4.out.size; (try have := F1.out.lt); (try have := F2.out.lt); (try have := F3.out.lt); (try have := F4.out.lt); (try have := E1.out.lt); (try have := E2.out.lt); omega))); (try (have ne4 : ¬ (w2.heap.size = w4.heap.size + 1) := by (have := HB3.out.size; have := HB4.out.size; (try have := F1.out.lt); (try have := F2.out.lt); (try have := F3.out.lt); (try have := F4.out.lt); (try have := E1.out.lt); (try have := E2.out.lt); omega))); (try (have ne5 : ¬ (w2.heap.size + 1 = w3.heap.size) := by (have := HB3.out.size; have := HB4.out.size; (try have := F1.out.lt); (try have := F2.out.lt); (try have := F3.out.lt); (try have := F4.out.lt); (try have := E1.out.lt); (try have := E2.out.lt); omega))); (try (have ne6 : ¬ (w2.heap.size + 1 = w3.heap.size + 1) := by (have := HB3.out.size; have := HB4.out.size; (try have := F1.out.lt); (try have := F2.out.lt); (try have := F3.out.lt); (try have := F4.out.lt); (try have := E1.out.lt); (try have := E2.out.lt); omega))); (try (have ne7 : ¬ (w2.heap.size + 1 = w4.heap.size) := by (have := HB3.out.size; have := HB4.out.size; (try have := F1.out.lt); (try have := F2.out.lt); (try have := F3.out.lt); (try have := F4.out.lt); (try have := E1.out.lt); (try have := E2.out.lt); omega))); (try (have ne8 : ¬ (w2.heap.size + 1 = w4.heap.size + 1) := by (have := HB3.out.size; have := HB4.out.size; (try have := F1.out.lt); (try have := F2.out.lt); (try have := F3.out.lt); (try have := F4.out.lt); (try have := E1.out.lt); (try have := E2.out.lt); omega))); (try (have ne9 : ¬ (w3.heap.size = w2.heap.size) := by (have := HB3.out.size; have := HB4.out.size; (try have := F1.out.lt); (try have := F2.out.lt); (try have := F3.out.lt); (try have := F4.out.lt); (try have := E1.out.lt); (try have := E2.out.lt); omega))); (try (have ne10 : ¬ (w3.heap.size = w2.heap.size + 1) := by (have := HB3.out.size; have := HB4.out.size; (try have := F1.out.lt); (try have := F2.out.lt); (try have := F3.out.lt); (try have := F4.out.lt); (try have := E1.out.lt); (try have := E2.out.lt); omega))); (try (have ne11 : ¬ (w3.heap.size = w4.heap.size) := by (have := HB3.out.size; have := HB4.out.size; (try have := F1.out.lt); (try have := F2.out.lt); (try have := F3.out.lt); (try have := F4.out.lt); (try have := E1.out.lt); (try have := E2.out.lt); omega))); (try (have ne12 : ¬ (w3.heap.size = w4.heap.size + 1) := by (have := HB3.out.size; have := HB4.out.size; (try have := F1.out.lt); (try have := F2.out.lt); (try have := F3.out.lt); (try have := F4.out.lt); (try have := E1.out.lt); (try have := E2.out.lt); omega))); (try (have ne13 : ¬ (w3.heap.size + 1 = w2.heap.size) := by (have := HB3.out.size; have := HB4.out.size; (try have := F1.out.lt); (try have := F2.out.lt); (try have := F3.out.lt); (try have := F4.out.lt); (try have := E1.out.lt); (try have := E2.out.lt); omega))); (try (have ne14 : ¬ (w3.heap.size + 1 = w2.heap.size + 1) := by (have := HB3.out.size; have := HB4.out.size; (try have := F1.out.lt); (try have := F2.out.lt); (try have := F3.out.lt); (try have := F4.out.lt); (try have := E1.out.lt); (try have := E2.out.lt); omega))); (try (have ne15 : ¬ (w3.heap.size + 1 = w4.heap.size) := by (have := HB3.out.size; have := HB4.out.size; (try have := F1.out.lt); (try have := F2.out.lt); (try have := F3.out.lt); (try have := F4.out.lt); (try have := E1.out.lt); (try have := E2.out.lt); omega))); (try (have ne16 : ¬ (w3.heap.size + 1 = w4.heap.size + 1) := by (have := HB3.out.size; have := HB4.out.size; (try have := F1.out.lt); (try have := F2.out.lt); (try have := F3.out.lt); (try have := F4.out.lt); (try have := E1.out.lt); (try have := E2.out.lt); omega))); (try (have ne17 : ¬ (w4.heap.size = w2.heap.size) := by (have := HB3.out.size; have := HB4.out.size; (try have := F1.out.lt); (try have := F2.out.lt); (try have := F3.out.lt); (try have := F4.out.lt); (try have := E1.out.lt); (try have := E2.out.lt); omega))); (try (have ne18 : ¬ (w4.heap.size = w2.heap.size + 1) := by (have := HB3.out.size; have := HB4.out.size; (try have := F1.out.lt); (try have := F2.out.lt); (try have := F3.out.lt); (try have := F4.out.lt); (try have := E1.out.lt); (try have := E2.out.lt); omega))); (try (have ne19 : ¬ (w4.heap.size = w3.heap.size) := by (have := HB3.out.size; have := HB4.out.size; (try have := F1.out.lt); (try have := F2.out.lt); (try have := F3.out.lt); (try have := F4.out.lt); (try have := E1.out.lt); (try have := E2.out.lt); omega))); (try (have ne20 : ¬ (w4.heap.size = w3.heap.size + 1) := by (have := HB3.out.size; have := HB4.out.size; (try have := F1.out.lt); (try have := F2.out.lt); (try have := F3.out.lt); (try have := F4.out.lt); (try have := E1.out.lt); (try have := E2.out.lt); omega))); (try (have ne21 : ¬ (w4.heap.size + 1 = w2.heap.size) := by (have := HB3.out.size; have := HB4.out.size; (try have := F1.out.lt); (try have := F2.out.lt); (try have := F3.out.lt); (try have := F4.out.lt); (try have := E1.out.lt); (try have := E2.out.lt); omega))); (try (have ne22 : ¬ (w4.heap.size + 1 = w2.heap.size + 1) := by (have := HB3.out.size; have := HB4.out.size; (try have := F1.out.lt); (try have := F2.out.lt); (try have := F3.out.lt); (try have := F4.out.lt); (try have := E1.out.lt); (try have := E2.out.lt); omega))); (try (have ne23 : ¬ (w4.heap.size + 1 = w3.heap.size) := by (have := HB3.out.size; have := HB4.out.size; (try have := F1.out.lt); (try have := F2.out.lt); (try have := F3.out.lt); (try have := F4.out.lt); (try have := E1.out.lt); (try have := E2.out.lt); omega))); (try (have ne24 : ¬ (w4.heap.size + 1 = w3.heap.size + 1) := by (have := HB3.out.size; have := HB4.out.size; (try have := F1.out.lt); (try have := F2.out.lt); (try have := F3.out.lt); (try have := F4.out.lt); (try have := E1.out.lt); (try have := E2.out.lt); omega))); clear hb)
        | (go_at_call 105; (with_reducible refine Calls.mono (HIZ2.out _ ?hb) ?_); (case hb => with_reducible exact HB3b.out); rintro e w4 ⟨rfl, hb⟩; have HB4 : Hid (Below w2.heap.size w2 w4) := HB3b.out.trans (hb.mono HB3b.out.size); have HB4a : Hid (Below w2.heap.size w2 (w4.alloc (.cells #[.int .i64 0, .int .i64 0, .slice none 0 0, .string ⟨#[]⟩, .slice none 0 0] 38))) := HB4.out.alloc HB4.out.size _; have HB4b : Hid (Below w2.heap.size w2 ((w4.alloc (.cells #[.int .i64 0, .int .i64 0, .slice none 0 0, .string ⟨#[]⟩, .slice none 0 0] 38)).alloc (.cells #[.int .i64 0, .int .i64 0, .slice none 0 0, .string ⟨#[]⟩, .slice none 0 0] 38))) := HB4a.out.alloc HB4a.out.size _; (try (have F1 := Lib.hid (((E1.out.alloc _).alloc _).below hb (by have := E1.out.lt; simp; omega)))); (try (have F2 := Lib.hid (((E2.out.alloc _).alloc _).below hb (by have := E2.out.lt; simp; omega)))); have F3 : Hid (Blk w4 w3.heap.size 38 #[.int .i64 0, .int .i64 0, .slice none 0 0, .string ⟨#[]⟩, .slice none 0 0]) := (((Blk.new w3 _ _).alloc _).below hb (by simp; omega)); have F4 : Hid (Blk w4 (w3.heap.size + 1) 38 #[.int .i64 0, .int .i64 0, .slice none 0 0, .string ⟨#[]⟩, .slice none 0 0]) := ((show Blk _ _ _ _ from (by have h := Blk.new (w3.alloc (.cells #[.int .i64 0, .int .i64 0, .slice none 0 0, .string ⟨#[]⟩, .slice none 0 0] 38)) 38 #[.int .i64 0, .int .i64 0, .slice none 0 0, .string ⟨#[]⟩, .slice none 0 0]; simpa using h)).below hb (by simp)); (try (have qF1 := fun j => F1.out.cell j; have fF1 := fun j => F1.out.frozen j; have qaF1 := fun o j => (F1.out.alloc o).cell j; have faF1 := fun o j => (F1.out.alloc o).frozen j)); (try (have qF2 := fun j => F2.out.cell j; have fF2 := fun j => F2.out.frozen j; have qaF2 := fun o j => (F2.out.alloc o).cell j; have faF2 := fun o j => (F2.out.alloc o).frozen j)); (try (have qF3 := fun j => F3.out.cell j; have fF3 := fun j => F3.out.frozen j; have qaF3 := fun o j => (F3.out.alloc o).cell j; have faF3 := fun o j => (F3.out.alloc o).frozen j)); (try (have qF4 := fun j => F4.out.cell j; have fF4 := fun j => F4.out.frozen j; have qaF4 := fun o j => (F4.out.alloc o).cell j; have faF4 := fun o j => (F4.out.alloc o).frozen j)); (try (have ne1 : ¬ (w2.heap.size = w3.heap.size) := by (have := HB3.out.size; have := HB4.out.size; (try have := F1.out.lt); (try have := F2.out.lt); (try have := F3.out.lt); (try have := F4.out.lt); (try have := E1.out.lt); (try have := E2.out.lt); omega))); (try (have ne2 : ¬ (w2.heap.size = w3.heap.size + 1) := by (have := HB3.out.size; have := HB4.out.size; (try have := F1.out.lt); (try have := F2.out.lt); (try have := F3.out.lt); (try have := F4.out.lt); (try have := E1.out.lt); (try have := E2.out.lt); omega))); (try (have ne3 : ¬ (w2.heap.size = w4.heap.size) := by (have := HB3.out.size; have := HB4.out.size; (try have := F1.out.lt); (try have := F2.out.lt); (try have := F3.out.lt); (try have := F4.out.lt); (try have := E1.out.lt); (try have := E2.out.lt); omega))); (try (have ne4 : ¬ (w2.heap.size = w4.heap.size + 1) := by (have := HB3.out.size; have := HB4.out.size; (try have := F1.out.lt); (try have := F2.out.lt); (try have := F3.out.lt); (try have := F4.out.lt); (try have := E1.out.lt); (try have := E2.out.lt); omega))); (try (have ne5 : ¬ (w2.heap.size + 1 = w3.heap.size) := by (have := HB3.out.size; have := HB4.out.size; (try have := F1.out.lt); (try have := F2.out.lt); (try have := F3.out.lt); (try have := F4.out.lt); (try have := E1.out.lt); (try have := E2.out.lt); omega))); (try (have ne6 : ¬ (w2.heap.size + 1 = w3.heap.size + 1) := by (have := HB3.out.size; have := HB4.out.size; (try have := F1.out.lt); (try have := F2.out.lt); (try have := F3.out.lt); (try have := F4.out.lt); (try have := E1.out.lt); (try have := E2.out.lt); omega))); (try (have ne7 : ¬ (w2.heap.size + 1 = w4.heap.size) := by (have := HB3.out.size; have := HB4.out.size; (try have := F1.out.lt); (try have := F2.out.lt); (try have := F3.out.lt); (try have := F4.out.lt); (try have := E1.out.lt); (try have := E2.out.lt); omega))); (try (have ne8 : ¬ (w2.heap.size + 1 = w4.heap.size + 1) := by (have := HB3.out.size; have := HB4.out.size; (try have := F1.out.lt); (try have := F2.out.lt); (try have := F3.out.lt); (try have := F4.out.lt); (try have := E1.out.lt); (try have := E2.out.lt); omega))); (try (have ne9 : ¬ (w3.heap.size = w2.heap.size) := by (have := HB3.out.size; have := HB4.out.size; (try have := F1.out.lt); (try have := F2.out.lt); (try have := F3.out.lt); (try have := F4.out.lt); (try have := E1.out.lt); (try have := E2.out.lt); omega))); (try (have ne10 : ¬ (w3.heap.size = w2.heap.size + 1) := by (have := HB3.out.size; have := HB4.out.size; (try have := F1.out.lt); (try have := F2.out.lt); (try have := F3.out.lt); (try have := F4.out.lt); (try have := E1.out.lt); (try have := E2.out.lt); omega))); (try (have ne11 : ¬ (w3.heap.size = w4.heap.size) := by (have := HB3.out.size; have := HB4.out.size; (try have := F1.out.lt); (try have := F2.out.lt); (try have := F3.out.lt); (try have := F4.out.lt); (try have := E1.out.lt); (try have := E2.out.lt); omega))); (try (have ne12 : ¬ (w3.heap.size = w4.heap.size + 1) := by (have := HB3.out.size; have := HB4.out.size; (try have := F1.out.lt); (try have := F2.out.lt); (try have := F3.out.lt); (try have := F4.out.lt); (try have := E1.out.lt); (try have := E2.out.lt); omega))); (try (have ne13 : ¬ (w3.heap.size + 1 = w2.heap.size) := by (have := HB3.out.size; have := HB4.out.size; (try have := F1.out.lt); (try have := F2.out.lt); (try have := F3.out.lt); (try have := F4.out.lt); (try have := E1.out.lt); (try have := E2.out.lt); omega))); (try (have ne14 : ¬ (w3.heap.size + 1 = w2.heap.size + 1) := by (have := HB3.out.size; have := HB4.out.size; (try have := F1.out.lt); (try have := F2.out.lt); (try have := F3.out.lt); (try have := F4.out.lt); (try have := E1.out.lt); (try have := E2.out.lt); omega))); (try (have ne15 : ¬ (w3.heap.size + 1 = w4.heap.size) := by (have := HB3.out.size; have := HB4.out.size; (try have := F1.out.lt); (try have := F2.out.lt); (try have := F3.out.lt); (try have := F4.out.lt); (try have := E1.out.lt); (try have := E2.out.lt); omega))); (try (have ne16 : ¬ (w3.heap.size + 1 = w4.heap.size + 1) := by (have := HB3.out.size; have := HB4.out.size; (try have := F1.out.lt); (try have := F2.out.lt); (try have := F3.out.lt); (try have := F4.out.lt); (try have := E1.out.lt); (try have := E2.out.lt); omega))); (try (have ne17 : ¬ (w4.heap.size = w2.heap.size) := by (have := HB3.out.size; have := HB4.out.size; (try have := F1.out.lt); (try have := F2.out.lt); (try have := F3.out.lt); (try have := F4.out.lt); (try have := E1.out.lt); (try have := E2.out.lt); omega))); (try (have ne18 : ¬ (w4.heap.size = w2.heap.size + 1) := by (have := HB3.out.size; have := HB4.out.size; (try have := F1.out.lt); (try have := F2.out.lt); (try have := F3.out.lt); (try have := F4.out.lt); (try have := E1.out.lt); (try have := E2.out.lt); omega))); (try (have ne19 : ¬ (w4.heap.size = w3.heap.size) := by (have := HB3.out.size; have := HB4.out.size; (try have := F1.out.lt); (try have := F2.out.lt); (try have := F3.out.lt); (try have := F4.out.lt); (try have := E1.out.lt); (try have := E2.out.lt); omega))); (try (have ne20 : ¬ (w4.heap.size = w3.heap.size + 1) := by (have := HB3.out.size; have := HB4.out.size; (try have := F1.out.lt); (try have := F2.out.lt); (try have := F3.out.lt); (try have := F4.out.lt); (try have := E1.out.lt); (try have := E2.out.lt); omega))); (try (have ne21 : ¬ (w4.heap.size + 1 = w2.heap.size) := by (have := HB3.out.size; have := HB4.out.size; (try have := F1.out.lt); (try have := F2.out.lt); (try have := F3.out.lt); (try have := F4.out.lt); (try have := E1.out.lt); (try have := E2.out.lt); omega))); (try (have ne22 : ¬ (w4.heap.size + 1 = w2.heap.size + 1) := by (have := HB3.out.size; have := HB4.out.size; (try have := F1.out.lt); (try have := F2.out.lt); (try have := F3.out.lt); (try have := F4.out.lt); (try have := E1.out.lt); (try have := E2.out.lt); omega))); (try (have ne23 : ¬ (w4.heap.size + 1 = w3.heap.size) := by (have := HB3.out.size; have := HB4.out.size; (try have := F1.out.lt); (try have := F2.out.lt); (try have := F3.out.lt); (try have := F4.out.lt); (try have := E1.out.lt); (try have := E2.out.lt); omega))); (try (have ne24 : ¬ (w4.heap.size + 1 = w3.heap.size + 1) := by (have := HB3.out.size; have := HB4.out.size; (try have := F1.out.lt); (try have := F2.out.lt); (try have := F3.out.lt); (try have := F4.out.lt); (try have := E1.out.lt); (try have := E2.out.lt); omega))); clear hb))
    all_goals
      go_wp2_with fail
      go_meet
      refine ⟨_, _, rfl, rfl, Lib.hid (HB2.out.trans (Below.mono (B := w2.heap.size) ?_ HB2.out.size)), ?_, ?_⟩
      · (repeat (first | with_reducible exact HB4.out | with_reducible exact HB3.out | with_reducible exact HX0.out | with_reducible exact Below.refl _ _ | with_reducible refine Below.allocS ?_ | with_reducible refine Below.drew ?_ | (with_reducible refine Below.setS ?_ ?_; rotate_left; (first | exact Nat.le_refl _ | (have := HB3.out.size; have := HB4.out.size; omega)))))
      · show Blk _ _ _ _
        (repeat (first | with_reducible exact Blk.new _ _ _ | with_reducible exact Blk.new2 _ _ _ _ | with_reducible exact F1.out | with_reducible exact F2.out | with_reducible exact F3.out | with_reducible exact F4.out | with_reducible refine Blk.put5 ?_ | (with_reducible refine Blk.skip1 ?_ ?_; rotate_left; (have := HB3.out.size; have := HB4.out.size; (try have := F1.out.lt); (try have := F2.out.lt); (try have := F3.out.lt); (try have := F4.out.lt); (try have := E1.out.lt); (try have := E2.out.lt); (try have := F12.out); (try have := F34.out); omega)) | with_reducible refine Blk.alloc ?_ _))
      · show Blk _ _ _ _
        (repeat (first | with_reducible exact Blk.new _ _ _ | with_reducible exact Blk.new2 _ _ _ _ | with_reducible exact F1.out | with_reducible exact F2.out | with_reducible exact F3.out | with_reducible exact F4.out | with_reducible refine Blk.put5 ?_ | (with_reducible refine Blk.skip1 ?_ ?_; rotate_left; (have := HB3.out.size; have := HB4.out.size; (try have := F1.out.lt); (try have := F2.out.lt); (try have := F3.out.lt); (try have := F4.out.lt); (try have := E1.out.lt); (try have := E2.out.lt); (try have := F12.out); (try have := F34.out); omega)) | with_reducible refine Blk.alloc ?_ _))
  case rest =>
  obtain ⟨g1, g2, rfl, rfl, hbw, hX, hZ⟩ := hcut
  obtain ⟨w5, hw5⟩ : ∃ w5, w5 = wc := ⟨_, rfl⟩
  rw [← hw5] at hbw hX hZ ⊢
  clear hw5
  obtain ⟨m0, mhi, mz0, mz1, mz2⟩ := info_parts op_info
  have HNK : Hid (nkz = ks.length) := HK.out.len.1
  have HNP : Hid (npz = ps.length) := HP.out.len.1
  have hal : Below w5.heap.size w5 (w5.alloc (.cells #[.int .i64 4, .int .i64 id, .int .i64 0, .int .i64 0, .int .i64 (xtx.size : Int), .int .i64 (xtx.size : Int), .string ztx, .string ⟨#[]⟩, .int .i64 0, .int .i64 0, .int .i64 0, .string ⟨#[]⟩, .slice none 0 0] 31)) := (Below.refl _ _).alloc (Nat.le_refl _) _
  have hn6 : Blk (w5.alloc (.cells #[.int .i64 4, .int .i64 id, .int .i64 0, .int .i64 0, .int .i64 (xtx.size : Int), .int .i64 (xtx.size : Int), .string ztx, .string ⟨#[]⟩, .int .i64 0, .int .i64 0, .int .i64 0, .string ⟨#[]⟩, .slice none 0 0] 31)) w5.heap.size 31 #[.int .i64 4, .int .i64 id, .int .i64 0, .int .i64 0, .int .i64 (xtx.size : Int), .int .i64 (xtx.size : Int), .string ztx, .string ⟨#[]⟩, .int .i64 0, .int .i64 0, .int .i64 0, .string ⟨#[]⟩, .slice none 0 0] := Blk.new _ _ _
  obtain ⟨w6, hw6⟩ : ∃ w6, w6 = w5.alloc (.cells #[.int .i64 4, .int .i64 id, .int .i64 0, .int .i64 0, .int .i64 (xtx.size : Int), .int .i64 (xtx.size : Int), .string ztx, .string ⟨#[]⟩, .int .i64 0, .int .i64 0, .int .i64 0, .string ⟨#[]⟩, .slice none 0 0] 31) := ⟨_, rfl⟩
  rw [← hw6] at hal hn6
  have HB56 := Lib.hid hal
  have HX6 := Lib.hid (hX.out.below hal hX.out.lt)
  have HZ6 := Lib.hid (hZ.out.below hal hZ.out.lt)
  have HO6 : Hid (w6.ownsRow w5.heap.size 31 13 (.slice (some ⟨w5.heap.size, 0, none⟩) 1 1) (joA id zid xtx.size nkx ztx ks ps 0 0).length (rowsO (joA id zid xtx.size nkx ztx ks ps 0 0))) := ⟨rfl, .inr ⟨w5.heap.size, 1, #[.int .i64 4, .int .i64 id, .int .i64 0, .int .i64 0, .int .i64 (xtx.size : Int), .int .i64 (xtx.size : Int), .string ztx, .string ⟨#[]⟩, .int .i64 0, .int .i64 0, .int .i64 0, .string ⟨#[]⟩, .slice none 0 0], rfl, Nat.le_refl _, hn6, Nat.le_refl _, by unfold maxLen; omega, rfl, rfl⟩⟩
  have HW6 := Lib.hid hw6
  clear hal hn6 hw6
  have ex := fun j => hX.out.cell j
  have ez := fun j => hZ.out.cell j
  go_upto_region 9 with fail
  rw [← HW6.out]
  clear ex ez
  have ez := fun j => HZ6.out.cell j
  go_wp2_with fail
  clear ez
  go_loopg [11, 64] nkz (fun gg s11 s64 wr => ∃ k : Nat, k + gg = nkz ∧ s64 = .int .i64 (k : Int) ∧ Hid (wr.ownsRow w5.heap.size 31 13 s11 (joA id zid xtx.size nkx ztx ks ps k 0).length (rowsO (joA id zid xtx.size nkx ztx ks ps k 0))) ∧ Hid (Below w5.heap.size w5 wr))
  case atStart => exact ⟨0, by omega, rfl, HO6, HB56⟩
  case round =>
    obtain ⟨k, hkg, rfl, hrow, hb⟩ := hrel
    obtain ⟨W1, rfl⟩ : ∃ W1, W1 = wr := ⟨_, rfl⟩
    have hz1 : w5.heap.size ≤ W1.heap.size := hb.out.size
    have HBW1 : Hid (Below w.heap.size w W1) := hbw.out.trans (hb.out.mono hbw.out.size)
    have PX := Lib.hid (hX.out.below hb.out hX.out.lt)
    have PZ := Lib.hid (hZ.out.below hb.out hZ.out.lt)
    by_cases hk : k < nkz
    · have hlen : (joA id zid xtx.size nkx ztx ks ps k 0).length ≤ 600 := by have := joA_len id zid xtx.size nkx ztx ks ps k 0; omega
      obtain ⟨x, hx⟩ : ∃ x, ks[k]? = some x := ⟨_, List.getElem?_eq_getElem (by have := HNK.out; omega)⟩
      obtain ⟨kb2, ko2, rfl, hkb2, hkc2⟩ := (HK.out.below HBW1.out).at_ hx
      have HSN : Hid (joA id zid xtx.size nkx ztx ks ps (k + 1) 0 = joA id zid xtx.size nkx ztx ks ps k 0 ++ [mvO x id ((nkx : Int) + (k : Int))]) := joA_move hx
      obtain ⟨os1, hos1⟩ : ∃ os1, os1 = joA id zid xtx.size nkx ztx ks ps k 0 := ⟨_, rfl⟩
      rw [← hos1] at HSN hlen hrow
      have k0 : (0 : Int) ≤ (k : Int) := by omega
      have k1 : (k : Int) < (nkz : Int) := by omega
      have ww3 : IntKind.i64.wrap ((nkx : Int) + (k : Int)) = (nkx : Int) + (k : Int) := IntWalk.i64_in _ (by omega)
      have HRD : Hid (Reads (W1.alloc (.cells #[.int .i64 3, .int .i64 x, .int .i64 id, .int .i64 ((nkx : Int) + (k : Int)), .int .i64 0, .int .i64 0, .string ⟨#[]⟩, .string ⟨#[]⟩, .int .i64 0, .int .i64 0, .int .i64 0, .string ⟨#[]⟩, .slice none 0 0] 31)) (W1.heap.size + 1) 13 (some ⟨W1.heap.size, 0, none⟩) 1 [.int .i64 3, .int .i64 x, .int .i64 id, .int .i64 ((nkx : Int) + (k : Int)), .int .i64 0, .int .i64 0, .string ⟨#[]⟩, .string ⟨#[]⟩, .int .i64 0, .int .i64 0, .int .i64 0, .string ⟨#[]⟩, .slice none 0 0]) :=
        ⟨rfl, fun _ => ⟨_, rfl, by simp, row_new _ _ [.int .i64 3, .int .i64 x, .int .i64 id, .int .i64 ((nkx : Int) + (k : Int)), .int .i64 0, .int .i64 0, .string ⟨#[]⟩, .string ⟨#[]⟩, .int .i64 0, .int .i64 0, .int .i64 0, .string ⟨#[]⟩, .slice none 0 0] _ rfl⟩⟩
      have HO7 := Lib.hid (hrow.out.alloc (.cells #[.int .i64 3, .int .i64 x, .int .i64 id, .int .i64 ((nkx : Int) + (k : Int)), .int .i64 0, .int .i64 0, .string ⟨#[]⟩, .string ⟨#[]⟩, .int .i64 0, .int .i64 0, .int .i64 0, .string ⟨#[]⟩, .slice none 0 0] 31))
      have hblk := Lib.hid (own_block_lt HO7.out)
      clear hx hos1
      have ex := fun j => PX.out.cell j
      go_wp2_with (at_builtin; refine wpList_append_any _ rfl _ _ 23 rfl w5.heap.size 31 m0 opZ 13 144 Tryz.underlying23 mhi mz0 mz1 mz2 rfl (by decide) _ os1.length _ rfl HO7.out (W1.heap.size + 1) (some ⟨W1.heap.size, 0, none⟩) 1 1 [.int .i64 3, .int .i64 x, .int .i64 id, .int .i64 ((nkx : Int) + (k : Int)), .int .i64 0, .int .i64 0, .string ⟨#[]⟩, .string ⟨#[]⟩, .int .i64 0, .int .i64 0, .int .i64 0, .string ⟨#[]⟩, .slice none 0 0] rfl HRD.out (opV_one ((mvO x id ((nkx : Int) + (k : Int)) : Opn), .slice none 0 0) ⟨_, _, _, rfl⟩) (by unfold maxLen; omega) (by omega) (by simp; omega) ?_; intro v7 w7 hown7 hg7 hat7)
      have HB7 : Hid (Below w5.heap.size w5 w7) := (hb.out.alloc hz1 _).grown hg7 (by simp; omega) (fun g h => (hblk.out g h).1)
      have HR7 : Hid (w7.ownsRow w5.heap.size 31 13 v7 (joA id zid xtx.size nkx ztx ks ps (k + 1) 0).length (rowsO (joA id zid xtx.size nkx ztx ks ps (k + 1) 0))) := by
        show World.ownsRow _ _ _ _ _ _ _
        rw [HSN.out, rowsO_snoc, List.length_append]; exact hown7
      clear hown7 hg7 hat7 ex
      go_wp2_with fail
      go_roundg (nkz - (k + 1))
      case measure => omega
      case rel => exact ⟨k + 1, by omega, by go_num, HR7, HB7⟩
    · obtain rfl : k = nkz := by omega
      obtain ⟨WA, hWA⟩ : ∃ WA, WA = W1.alloc (.cells #[.int .i64 zid, .int .i64 0, .slice none 0 0, .string ⟨#[]⟩, .slice Pz npz cpz] 38) := ⟨_, rfl⟩
      have hal : Below W1.heap.size W1 WA := by rw [hWA]; exact (Below.refl _ _).alloc (Nat.le_refl _) _
      have PA : Hid (Blk WA W1.heap.size 38 #[.int .i64 zid, .int .i64 0, .slice none 0 0, .string ⟨#[]⟩, .slice Pz npz cpz]) := by rw [hWA]; exact Blk.new _ _ _
      have HOA := Lib.hid (own_below hrow.out hal)
      have HVA := Lib.hid fun g hg => (Nat.ne_of_lt (own_block_lt hrow.out g hg).2)
      have HBA : Hid (Below w.heap.size w WA) := HBW1.out.trans (hal.mono HBW1.out.size)
      have HZA : Hid (w5.heap.size ≤ WA.heap.size) := Nat.le_trans hz1 hal.size
      have HWA := Lib.hid hWA
      clear hWA hal
      have ez := fun j => PZ.out.cell j
      go_upto_region 15 with fail
      rw [← HWA.out]
      clear ez
      obtain ⟨ga, hga⟩ : ∃ ga, ga = W1.heap.size := ⟨_, rfl⟩
      rw [← hga] at PA HVA ⊢
      clear hga
      have ea := fun j => PA.out.cell j
      go_wp2_with fail
      clear ea
      go_loopg [11, 89] npz (fun gg s11 s89 wr => ∃ q : Nat, q + gg = npz ∧ s89 = .int .i64 (q : Int) ∧ Hid (wr.ownsRow w5.heap.size 31 13 s11 (joA id zid xtx.size nkx ztx ks ps k q).length (rowsO (joA id zid xtx.size nkx ztx ks ps k q))) ∧ Hid (Below w.heap.size w wr) ∧ Hid (w5.heap.size ≤ wr.heap.size) ∧ Hid (Blk wr ga 38 #[.int .i64 zid, .int .i64 0, .slice none 0 0, .string ⟨#[]⟩, .slice Pz npz cpz]) ∧ Hid (∀ g, s11.ownBlock = some g → g ≠ ga))
      case atStart => exact ⟨0, by omega, rfl, HOA, HBA, HZA, PA, HVA⟩
      case round =>
        obtain ⟨q, hqg, rfl, hrow2, hb2, hz2, hpa, hva⟩ := hrel
        obtain ⟨W2, rfl⟩ : ∃ W2, W2 = wr := ⟨_, rfl⟩
        have hlen : (joA id zid xtx.size nkx ztx ks ps k q).length ≤ 600 := by have := joA_len id zid xtx.size nkx ztx ks ps k q; omega
        have hz2' : w5.heap.size ≤ W2.heap.size := hz2.out
        have hbz : w.heap.size ≤ W2.heap.size := hb2.out.size
        by_cases hq2 : q < npz
        · obtain ⟨pr, hpr⟩ : ∃ pr, ps[q]? = some pr := ⟨_, List.getElem?_eq_getElem (by have := HNP.out; omega)⟩
          obtain ⟨pb, poff, Pv, nv, cv, rfl, hpb, h0, h1, h2, h3, h4, h5, _⟩ := (HP.out.below hb2.out).at_ hpr
          have q0 : W2.cell? ⟨pb, poff + q * 6, none⟩ = some (.string pr.name) := h0
          have q1 : W2.cell? ⟨pb, poff + q * 6 + 1, none⟩ = some (.int .i64 pr.val.kind) := h1
          have q2 : W2.cell? ⟨pb, poff + q * 6 + 2, none⟩ = some (.int .i64 pr.val.int_) := h2
          have q3 : W2.cell? ⟨pb, poff + q * 6 + 3, none⟩ = some (.int .i64 pr.val.to_) := h3
          have q4 : W2.cell? ⟨pb, poff + q * 6 + 4, none⟩ = some (.string pr.val.text) := h4
          have q5 : W2.cell? ⟨pb, poff + q * 6 + 5, none⟩ = some (.slice Pv nv cv) := h5
          have k0 : (0 : Int) ≤ (q : Int) := by omega
          have k1 : (q : Int) < (npz : Int) := by omega
          have HSN : Hid (joA id zid xtx.size nkx ztx ks ps k (q + 1) = joA id zid xtx.size nkx ztx ks ps k q ++ [seO zid pr.name]) := joA_prop hpr
          obtain ⟨os1, hos1⟩ : ∃ os1, os1 = joA id zid xtx.size nkx ztx ks ps k q := ⟨_, rfl⟩
          rw [← hos1] at HSN hlen hrow2
          have HRD : Hid (Reads ((W2.alloc (.cells #[.string pr.name, .int .i64 pr.val.kind, .int .i64 pr.val.int_, .int .i64 pr.val.to_, .string pr.val.text, .slice Pv nv cv] 116)).alloc (.cells #[.int .i64 5, .int .i64 zid, .int .i64 0, .int .i64 0, .int .i64 0, .int .i64 0, .string ⟨#[]⟩, .string pr.name, .int .i64 0, .int .i64 0, .int .i64 0, .string ⟨#[]⟩, .slice none 0 0] 31)) (W2.heap.size + 2) 13 (some ⟨W2.heap.size + 1, 0, none⟩) 1 [.int .i64 5, .int .i64 zid, .int .i64 0, .int .i64 0, .int .i64 0, .int .i64 0, .string ⟨#[]⟩, .string pr.name, .int .i64 0, .int .i64 0, .int .i64 0, .string ⟨#[]⟩, .slice none 0 0]) :=
            ⟨rfl, fun _ => ⟨_, rfl, by simp, row_new _ _ [.int .i64 5, .int .i64 zid, .int .i64 0, .int .i64 0, .int .i64 0, .int .i64 0, .string ⟨#[]⟩, .string pr.name, .int .i64 0, .int .i64 0, .int .i64 0, .string ⟨#[]⟩, .slice none 0 0] _ (by simp)⟩⟩
          have HO7 := Lib.hid ((hrow2.out.alloc (.cells #[.string pr.name, .int .i64 pr.val.kind, .int .i64 pr.val.int_, .int .i64 pr.val.to_, .string pr.val.text, .slice Pv nv cv] 116)).alloc (.cells #[.int .i64 5, .int .i64 zid, .int .i64 0, .int .i64 0, .int .i64 0, .int .i64 0, .string ⟨#[]⟩, .string pr.name, .int .i64 0, .int .i64 0, .int .i64 0, .string ⟨#[]⟩, .slice none 0 0] 31))
          have hblk := Lib.hid (own_block_lt hrow2.out)
          have hgl : ga < W2.heap.size := hpa.out.lt
          clear hpr hos1 h0 h1 h2 h3 h4 h5
          have ea := fun j => hpa.out.cell j
          have eaa := fun o j => (hpa.out.alloc o).cell j
          go_wp2_with (at_builtin; refine wpList_append_any _ rfl _ _ 23 rfl w5.heap.size 31 m0 opZ 13 144 Tryz.underlying23 mhi mz0 mz1 mz2 rfl (by decide) _ os1.length _ rfl HO7.out (W2.heap.size + 2) (some ⟨W2.heap.size + 1, 0, none⟩) 1 1 [.int .i64 5, .int .i64 zid, .int .i64 0, .int .i64 0, .int .i64 0, .int .i64 0, .string ⟨#[]⟩, .string pr.name, .int .i64 0, .int .i64 0, .int .i64 0, .string ⟨#[]⟩, .slice none 0 0] rfl HRD.out (opV_one ((seO zid pr.name : Opn), .slice none 0 0) ⟨_, _, _, rfl⟩) (by unfold maxLen; omega) (by omega) (by simp; omega) ?_; intro v7 w7 hown7 hg7 hat7)
          have HBN : Hid (Below w.heap.size w w7) := ((hb2.out.alloc hbz _).alloc (by simp; omega) _).grown hg7 (by simp; omega) (fun g h => by have := (hblk.out g h).1; have := hbw.out.size; omega)
          have HZN : Hid (w5.heap.size ≤ w7.heap.size) := Nat.le_trans (by simp; omega) hg7.size
          have PN : Hid (Blk w7 ga 38 #[.int .i64 zid, .int .i64 0, .slice none 0 0, .string ⟨#[]⟩, .slice (some ⟨pb, poff, none⟩) npz cpz]) := ((hpa.out.alloc _).alloc _).grown hg7 (fun e => hva.out ga e.symm rfl)
          have HR7 : Hid (w7.ownsRow w5.heap.size 31 13 v7 (joA id zid xtx.size nkx ztx ks ps k (q + 1)).length (rowsO (joA id zid xtx.size nkx ztx ks ps k (q + 1)))) := by
            show World.ownsRow _ _ _ _ _ _ _
            rw [HSN.out, rowsO_snoc, List.length_append]; exact hown7
          have HV7 : Hid (∀ g, v7.ownBlock = some g → g ≠ ga) := fun g hg => by
            rcases hat7 with e | e
            · exact hva.out g (e ▸ hg)
            · rw [e] at hg
              have e : _ = g := Option.some.inj hg
              simp at e
              omega
          clear hown7 hg7 hat7 ea eaa
          go_wp2_with fail
          go_roundg (npz - (q + 1))
          case measure => omega
          case rel => exact ⟨q + 1, by omega, by go_num, HR7, HBN, HZN, PN, HV7⟩
        · obtain rfl : q = npz := by omega
          have HSN : Hid (os = joA id zid xtx.size nkx ztx ks ps k q ++ [rmO zid]) := HOS.out
          obtain ⟨os1, hos1⟩ : ∃ os1, os1 = joA id zid xtx.size nkx ztx ks ps k q := ⟨_, rfl⟩
          rw [← hos1] at HSN hlen hrow2
          have HRD : Hid (Reads (W2.alloc (.cells #[.int .i64 2, .int .i64 zid, .int .i64 0, .int .i64 0, .int .i64 0, .int .i64 0, .string ⟨#[]⟩, .string ⟨#[]⟩, .int .i64 0, .int .i64 0, .int .i64 0, .string ⟨#[]⟩, .slice none 0 0] 31)) (W2.heap.size + 1) 13 (some ⟨W2.heap.size, 0, none⟩) 1 [.int .i64 2, .int .i64 zid, .int .i64 0, .int .i64 0, .int .i64 0, .int .i64 0, .string ⟨#[]⟩, .string ⟨#[]⟩, .int .i64 0, .int .i64 0, .int .i64 0, .string ⟨#[]⟩, .slice none 0 0]) :=
            ⟨rfl, fun _ => ⟨_, rfl, by simp, row_new _ _ [.int .i64 2, .int .i64 zid, .int .i64 0, .int .i64 0, .int .i64 0, .int .i64 0, .string ⟨#[]⟩, .string ⟨#[]⟩, .int .i64 0, .int .i64 0, .int .i64 0, .string ⟨#[]⟩, .slice none 0 0] _ rfl⟩⟩
          have HO7 := Lib.hid (hrow2.out.alloc (.cells #[.int .i64 2, .int .i64 zid, .int .i64 0, .int .i64 0, .int .i64 0, .int .i64 0, .string ⟨#[]⟩, .string ⟨#[]⟩, .int .i64 0, .int .i64 0, .int .i64 0, .string ⟨#[]⟩, .slice none 0 0] 31))
          have hblk := Lib.hid (own_block_lt hrow2.out)
          clear hos1
          have ea := fun j => hpa.out.cell j
          go_wp2_with (at_builtin; refine wpList_append_any _ rfl _ _ 23 rfl w5.heap.size 31 m0 opZ 13 144 Tryz.underlying23 mhi mz0 mz1 mz2 rfl (by decide) _ os1.length _ rfl HO7.out (W2.heap.size + 1) (some ⟨W2.heap.size, 0, none⟩) 1 1 [.int .i64 2, .int .i64 zid, .int .i64 0, .int .i64 0, .int .i64 0, .int .i64 0, .string ⟨#[]⟩, .string ⟨#[]⟩, .int .i64 0, .int .i64 0, .int .i64 0, .string ⟨#[]⟩, .slice none 0 0] rfl HRD.out (opV_one ((rmO zid : Opn), .slice none 0 0) ⟨_, _, _, rfl⟩) (by unfold maxLen; omega) (by omega) (by simp; omega) ?_; intro v7 w7 hown7 hg7 hat7)
          have HBN : Hid (Below w.heap.size w w7) := (hb2.out.alloc hbz _).grown hg7 (by simp; omega) (fun g h => by have := (hblk.out g h).1; have := hbw.out.size; omega)
          have hle : os.length ≤ 601 := by rw [HSN.out, List.length_append]; show _ + 1 ≤ _; omega
          have HR7 : w7.ownsRow w5.heap.size 31 13 v7 os.length (rowsO os) := by
            rw [HSN.out, rowsO_snoc, List.length_append]; exact hown7
          obtain ⟨Aq, cq, rfl, hros, hlq, hnone⟩ := ros_own HR7 (by omega) HOO.out
          have HTT := Lib.hid (HTR.out w7 Aq cq HBN.out (hros.recap hlq) hnone)
          clear hown7 hg7 hat7 ea hros hnone HR7 hlq hle
          go_wp2_with fail
          refine HTT.out.mono ?_
          rintro e w8 ⟨A8, n8, c8, er, rfl, hQ⟩
          go_wp2_with fail
          exact hQ
end Go.Proofs.YtmkicfjcgbfaaaaGreat
