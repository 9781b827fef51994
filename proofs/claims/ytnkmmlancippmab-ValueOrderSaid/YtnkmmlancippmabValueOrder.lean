/-
  DERIVED. The walk of florkeep2.ValueOrder: it returns true. Conditions: the values lie in memory that was there. By an AI agent.
-/
import Derived.Test.YtnkmmlancippmabCompare
import Derived.Test.YtnkmmlancippmabDayOf
namespace Go.Proofs.Ytnkmmlancippmab
open Go.RowKit

/-- three values in three boxes -/
def Boxes (w' : World) (g : Nat) (x y z : List Value) : Prop := Blk w' g 33 x.toArray ∧ Blk w' (g + 1) 33 y.toArray ∧ Blk w' (g + 1 + 1) 33 z.toArray

set_option maxHeartbeats 4000000 in
set_option maxRecDepth 100000 in
theorem order_any (d : Nat) (a b c : V) (x0 x1 x2 y0 y1 y2 z0 z1 z2 : Int) (x3 y3 z3 : ByteArray) (x4 y4 z4 : Option Addr) (x5 x6 y5 y6 z5 z6 : Nat) (w : World) (B : Nat) (hB : B ≤ w.heap.size)
    (ha : IsVal w B d a [.int .i64 x0, .int .i64 x1, .int .i64 x2, .string x3, .slice x4 x5 x6]) (hb : IsVal w B d b [.int .i64 y0, .int .i64 y1, .int .i64 y2, .string y3, .slice y4 y5 y6]) (hc : IsVal w B d c [.int .i64 z0, .int .i64 z1, .int .i64 z2, .string z3, .slice z4 z5 z6]) :
    Calls Try.prog 4 #[(.agg #[.int .i64 x0, .int .i64 x1, .int .i64 x2, .string x3, .slice x4 x5 x6]), (.agg #[.int .i64 y0, .int .i64 y1, .int .i64 y2, .string y3, .slice y4 y5 y6]), (.agg #[.int .i64 z0, .int .i64 z1, .int .i64 z2, .string z3, .slice z4 z5 z6])] w fun e w' => e = .returned (.bool true) ∧ Below w.heap.size w w' := by
  have HA : Hid (∀ w', Below B w w' → IsVal w' B d a [.int .i64 x0, .int .i64 x1, .int .i64 x2, .string x3, .slice x4 x5 x6]) := fun w' h => ha.below h
  have HB : Hid (∀ w', Below B w w' → IsVal w' B d b [.int .i64 y0, .int .i64 y1, .int .i64 y2, .string y3, .slice y4 y5 y6]) := fun w' h => hb.below h
  have HC : Hid (∀ w', Below B w w' → IsVal w' B d c [.int .i64 z0, .int .i64 z1, .int .i64 z2, .string z3, .slice z4 z5 z6]) := fun w' h => hc.below h
  clear ha hb hc
  have tok1 : True := trivial
  have tok2 : True := trivial
  have tok3 : True := trivial
  go_enter Try.func4, Try.ntmps4
  go_wp2_with fail
  refine (awakeProp_any _).mono ?_
  rintro e w0 ⟨rfl, hw0⟩
  rw [← hw0]
  clear hw0
  go_wp2_with fail
  obtain ⟨X, hX⟩ : ∃ X, X = (((w.alloc (.cells #[.int .i64 x0, .int .i64 x1, .int .i64 x2, .string x3, .slice x4 x5 x6] 33)).alloc (.cells #[.int .i64 y0, .int .i64 y1, .int .i64 y2, .string y3, .slice y4 y5 y6] 33)).alloc (.cells #[.int .i64 z0, .int .i64 z1, .int .i64 z2, .string z3, .slice z4 z5 z6] 33)) := ⟨_, rfl⟩
  have k0 : Blk X w.heap.size 33 #[.int .i64 x0, .int .i64 x1, .int .i64 x2, .string x3, .slice x4 x5 x6] := by rw [hX]; exact ((Blk.new w _ _).alloc _).alloc _
  have k1 : Blk X (w.heap.size + 1) 33 #[.int .i64 y0, .int .i64 y1, .int .i64 y2, .string y3, .slice y4 y5 y6] := by
    rw [hX]
    have h := (Blk.new (w.alloc (.cells #[.int .i64 x0, .int .i64 x1, .int .i64 x2, .string x3, .slice x4 x5 x6] 33)) 33 #[.int .i64 y0, .int .i64 y1, .int .i64 y2, .string y3, .slice y4 y5 y6]).alloc (.cells #[.int .i64 z0, .int .i64 z1, .int .i64 z2, .string z3, .slice z4 z5 z6] 33)
    simpa only [World.size_alloc] using h
  have k2 : Blk X (w.heap.size + 1 + 1) 33 #[.int .i64 z0, .int .i64 z1, .int .i64 z2, .string z3, .slice z4 z5 z6] := by
    rw [hX]
    have h := Blk.new ((w.alloc (.cells #[.int .i64 x0, .int .i64 x1, .int .i64 x2, .string x3, .slice x4 x5 x6] 33)).alloc (.cells #[.int .i64 y0, .int .i64 y1, .int .i64 y2, .string y3, .slice y4 y5 y6] 33)) 33 #[.int .i64 z0, .int .i64 z1, .int .i64 z2, .string z3, .slice z4 z5 z6]
    simpa only [World.size_alloc] using h
  have hbX : Below w.heap.size w X := by rw [hX]; exact (((Below.refl _ _).alloc (Nat.le_refl _) _).alloc (by simp <;> omega) _).alloc (by simp <;> omega) _
  have hzX : w.heap.size + 1 + 1 < X.heap.size := k2.lt
  rw [← hX]
  clear hX
  go_region_held3 (fun w' => w'.cell? ⟨w.heap.size, 0, none⟩ = some (.int .i64 x0) ∧ w'.cell? ⟨w.heap.size, 1, none⟩ = some (.int .i64 x1) ∧ w'.cell? ⟨w.heap.size, 2, none⟩ = some (.int .i64 x2) ∧ w'.cell? ⟨w.heap.size, 3, none⟩ = some (.string x3) ∧ w'.cell? ⟨w.heap.size, 4, none⟩ = some (.slice x4 x5 x6) ∧ w'.cell? ⟨w.heap.size + 1, 0, none⟩ = some (.int .i64 y0) ∧ w'.cell? ⟨w.heap.size + 1, 1, none⟩ = some (.int .i64 y1) ∧ w'.cell? ⟨w.heap.size + 1, 2, none⟩ = some (.int .i64 y2) ∧ w'.cell? ⟨w.heap.size + 1, 3, none⟩ = some (.string y3) ∧ w'.cell? ⟨w.heap.size + 1, 4, none⟩ = some (.slice y4 y5 y6) ∧ w'.cell? ⟨w.heap.size + 1 + 1, 0, none⟩ = some (.int .i64 z0) ∧ w'.cell? ⟨w.heap.size + 1 + 1, 1, none⟩ = some (.int .i64 z1) ∧ w'.cell? ⟨w.heap.size + 1 + 1, 2, none⟩ = some (.int .i64 z2) ∧ w'.cell? ⟨w.heap.size + 1 + 1, 3, none⟩ = some (.string z3) ∧ w'.cell? ⟨w.heap.size + 1 + 1, 4, none⟩ = some (.slice z4 z5 z6))
    (first | exact ⟨k0.cell 0, k0.cell 1, k0.cell 2, k0.cell 3, k0.cell 4, k1.cell 0, k1.cell 1, k1.cell 2, k1.cell 3, k1.cell 4, k2.cell 0, k2.cell 1, k2.cell 2, k2.cell 3, k2.cell 4⟩ | (obtain ⟨a0, a1, a2, a3, a4, a5, a6, a7, a8, a9, a10, a11, a12, a13, a14⟩ := ‹_ ∧ _ ∧ _ ∧ _ ∧ _ ∧ _ ∧ _ ∧ _ ∧ _ ∧ _ ∧ _ ∧ _ ∧ _ ∧ _ ∧ _›; exact ⟨(hb3.cell (by simp <;> omega)).trans a0, (hb3.cell (by simp <;> omega)).trans a1, (hb3.cell (by simp <;> omega)).trans a2, (hb3.cell (by simp <;> omega)).trans a3, (hb3.cell (by simp <;> omega)).trans a4, (hb3.cell (by simp <;> omega)).trans a5, (hb3.cell (by simp <;> omega)).trans a6, (hb3.cell (by simp <;> omega)).trans a7, (hb3.cell (by simp <;> omega)).trans a8, (hb3.cell (by simp <;> omega)).trans a9, (hb3.cell (by simp <;> omega)).trans a10, (hb3.cell (by simp <;> omega)).trans a11, (hb3.cell (by simp <;> omega)).trans a12, (hb3.cell (by simp <;> omega)).trans a13, (hb3.cell (by simp <;> omega)).trans a14⟩) | (obtain ⟨a0, a1, a2, a3, a4, a5, a6, a7, a8, a9, a10, a11, a12, a13, a14⟩ := ‹_ ∧ _ ∧ _ ∧ _ ∧ _ ∧ _ ∧ _ ∧ _ ∧ _ ∧ _ ∧ _ ∧ _ ∧ _ ∧ _ ∧ _›; exact ⟨(hb2.cell (by simp <;> omega)).trans a0, (hb2.cell (by simp <;> omega)).trans a1, (hb2.cell (by simp <;> omega)).trans a2, (hb2.cell (by simp <;> omega)).trans a3, (hb2.cell (by simp <;> omega)).trans a4, (hb2.cell (by simp <;> omega)).trans a5, (hb2.cell (by simp <;> omega)).trans a6, (hb2.cell (by simp <;> omega)).trans a7, (hb2.cell (by simp <;> omega)).trans a8, (hb2.cell (by simp <;> omega)).trans a9, (hb2.cell (by simp <;> omega)).trans a10, (hb2.cell (by simp <;> omega)).trans a11, (hb2.cell (by simp <;> omega)).trans a12, (hb2.cell (by simp <;> omega)).trans a13, (hb2.cell (by simp <;> omega)).trans a14⟩) | (obtain ⟨a0, a1, a2, a3, a4, a5, a6, a7, a8, a9, a10, a11, a12, a13, a14⟩ := ‹_ ∧ _ ∧ _ ∧ _ ∧ _ ∧ _ ∧ _ ∧ _ ∧ _ ∧ _ ∧ _ ∧ _ ∧ _ ∧ _ ∧ _›; exact ⟨(hb1.cell (by show _ < X.heap.size; simp <;> omega)).trans a0, (hb1.cell (by show _ < X.heap.size; simp <;> omega)).trans a1, (hb1.cell (by show _ < X.heap.size; simp <;> omega)).trans a2, (hb1.cell (by show _ < X.heap.size; simp <;> omega)).trans a3, (hb1.cell (by show _ < X.heap.size; simp <;> omega)).trans a4, (hb1.cell (by show _ < X.heap.size; simp <;> omega)).trans a5, (hb1.cell (by show _ < X.heap.size; simp <;> omega)).trans a6, (hb1.cell (by show _ < X.heap.size; simp <;> omega)).trans a7, (hb1.cell (by show _ < X.heap.size; simp <;> omega)).trans a8, (hb1.cell (by show _ < X.heap.size; simp <;> omega)).trans a9, (hb1.cell (by show _ < X.heap.size; simp <;> omega)).trans a10, (hb1.cell (by show _ < X.heap.size; simp <;> omega)).trans a11, (hb1.cell (by show _ < X.heap.size; simp <;> omega)).trans a12, (hb1.cell (by show _ < X.heap.size; simp <;> omega)).trans a13, (hb1.cell (by show _ < X.heap.size; simp <;> omega)).trans a14⟩))
    (first
      | (go_at_call 9; have _t := tok1; refine (compareAt d a b _ _ X.drew B (by show B ≤ X.heap.size; omega) (HA.out _ (hbX.mono hB).drew) (HB.out _ (hbX.mono hB).drew)).mono ?_; rintro e w1 ⟨rfl, hb1⟩; have g1 := hbX.drew.trans (hb1.mono (B' := w.heap.size) (by show w.heap.size ≤ X.heap.size; omega)); have hz1 : X.heap.size ≤ w1.heap.size := hb1.size; clear tok1)
      | (go_at_call 9; have _t := tok2; refine (compareAt d b c _ _ _ B (by omega) (HB.out _ (g1.mono hB)) (HC.out _ (g1.mono hB))).mono ?_; rintro e w2 ⟨rfl, hb2⟩; have g2 := g1.trans (hb2.mono (B' := w.heap.size) (by omega)); have hz2 : w1.heap.size ≤ w2.heap.size := hb2.size; clear tok2)
      | (go_at_call 9; have _t := tok3; refine (compareAt d a c _ _ _ B (by omega) (HA.out _ (g2.mono hB)) (HC.out _ (g2.mono hB))).mono ?_; rintro e w3 ⟨rfl, hb3⟩; have g3 := g2.trans (hb3.mono (B' := w.heap.size) (by omega)); have hz3 : w2.heap.size ≤ w3.heap.size := hb3.size; clear tok3))
  have m0 := ((k0.drew.below hb1 (by show _ < X.heap.size; omega)).below hb2 (by omega)).below hb3 (by omega)
  have m1 := ((k1.drew.below hb1 (by show _ < X.heap.size; omega)).below hb2 (by omega)).below hb3 (by omega)
  have e0 := m0.cell 0
  have e1 := m0.cell 1
  have e2 := m0.cell 2
  have e3 := m0.cell 3
  have e4 := m0.cell 4
  have f0 := m1.cell 0
  have f1 := m1.cell 1
  have f2 := m1.cell 2
  have f3 := m1.cell 3
  have f4 := m1.cell 4
  have ht := tot_cmpV d
  have HN := Lib.hid (ht.anti a b)
  have HR := Lib.hid (ht.refl a)
  have HT := Lib.hid (ht.trans a b c)
  have bx := cmpV_bd d a b
  have by_ := cmpV_bd d b c
  have bz := cmpV_bd d a c
  obtain ⟨x, hx⟩ : ∃ x, x = cmpV d a b := ⟨_, rfl⟩
  obtain ⟨y, hy⟩ : ∃ y, y = cmpV d b c := ⟨_, rfl⟩
  obtain ⟨z, hz⟩ : ∃ z, z = cmpV d a c := ⟨_, rfl⟩
  have HT' : Hid (x ≤ 0 → y ≤ 0 → z ≤ 0 ∧ (z < 0 ∨ (x = 0 ∧ y = 0))) := by rw [hx, hy, hz]; exact HT.out
  have HN' : Hid (cmpV d b a = -x) := by rw [hx]; exact HN.out
  rw [← hx, ← hy, ← hz]
  rw [← hx] at bx
  rw [← hy] at by_
  rw [← hz] at bz
  obtain ⟨bx0, bx1⟩ := bx
  obtain ⟨by0, by1⟩ := by_
  obtain ⟨bz0, bz1⟩ := bz
  clear hx hy hz ht HT HN k0 k1 k2 hb1 hb2 hb3 g1 g2 m0 m1 hbX
  go_wp2_with fail
  refine (compareAt d b a _ _ _ B (by omega) (HB.out _ (g3.mono hB)) (HA.out _ (g3.mono hB))).mono ?_
  rintro e w4 ⟨rfl, hb4⟩
  rw [HN'.out]
  have g4 := g3.trans (hb4.mono (B' := w.heap.size) (by omega))
  have hz4 : w3.heap.size ≤ w4.heap.size := hb4.size
  have e0' := (hb4.cell (p := ⟨w.heap.size, 0, none⟩) (by simp; omega)).trans e0
  have e1' := (hb4.cell (p := ⟨w.heap.size, 1, none⟩) (by simp; omega)).trans e1
  have e2' := (hb4.cell (p := ⟨w.heap.size, 2, none⟩) (by simp; omega)).trans e2
  have e3' := (hb4.cell (p := ⟨w.heap.size, 3, none⟩) (by simp; omega)).trans e3
  have e4' := (hb4.cell (p := ⟨w.heap.size, 4, none⟩) (by simp; omega)).trans e4
  clear e0 e1 e2 e3 e4 f0 f1 f2 f3 f4
  go_wp2_with fail
  refine (compareAt d a a _ _ _ B (by omega) (HA.out _ (g4.mono hB)) (HA.out _ (g4.mono hB))).mono ?_
  rintro e w5 ⟨rfl, hb5⟩
  rw [HR.out]
  have g5 := g4.trans (hb5.mono (B' := w.heap.size) (by omega))
  clear e0' e1' e2' e3' e4' hb4 hb5 HA HB HC
  have ways : 0 < x ∨ (x ≤ 0 ∧ 0 < y) ∨ (x ≤ 0 ∧ y ≤ 0 ∧ z < 0) ∨ (x = 0 ∧ y = 0 ∧ z = 0) := by
    have := HT'.out
    by_cases h1 : 0 < x
    · exact .inl h1
    · by_cases h2 : 0 < y
      · exact .inr (.inl ⟨by omega, h2⟩)
      · have := this (by omega) (by omega)
        omega
  rcases ways with h1 | ⟨h1, h2⟩ | ⟨h1, h2, h3⟩ | ⟨rfl, rfl, rfl⟩
  all_goals
    go_wp2
    go_ret
    exact ⟨rfl, g5⟩
end Go.Proofs.Ytnkmmlancippmab
