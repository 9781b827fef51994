/-
  DERIVED. The walk of florkeep1.TextBack where the edit is made and taken back. Conditions: lengths in reach. By an AI agent.
-/
import Derived.Test.YtcbmddgafkoooaaDoorTextBackErr
namespace Go.Proofs.YtcbmddgafkoooaaDoor
open Go.RowKit

theorem four_reads (w : World) (a b c d : Int) (t : TypeId) : Reads (w.alloc (.cells #[.int .i64 a, .int .i64 b, .int .i64 c, .int .i64 d] t)) (w.heap.size + 1) 1 (some ⟨w.heap.size, 0, none⟩) 4 ([a, b, c, d].map (.int .i64)) :=
  ⟨rfl, fun _ => ⟨_, rfl, by simp, fun j u hu => cells_new w w.heap.size [.int .i64 a, .int .i64 b, .int .i64 c, .int .i64 d] t rfl j u hu⟩⟩

set_option maxHeartbeats 4000000 in
set_option maxRecDepth 100000 in
theorem textBack_ok (s x b : ByteArray) (f t : Int) (w : World) (hs : s.size ≤ 140737488351232) (hx : x.size ≤ 140737488351232) (hb : b.size ≤ 140737488351232) (hE : edErr s x f t = 0) (h3 : edErr (edS s x f t) (s.extract f.toNat t.toNat) f (f + x.size) = 0) :
    Calls Tryd.prog 4 #[.string s, .agg #[.int .i64 f, .int .i64 t, .string x], .string b] w fun e w' => e = .returned (.bool true) ∧ Below w.heap.size w w' := by
  obtain ⟨g0, g1, g2, g3, g4⟩ := edErr_ok hE
  have hT := edS_size g0 g1 g2 (x := x)
  have hX2 := ext_le s f.toNat t.toNat
  have hback : edS (edS s x f t) (s.extract f.toNat t.toNat) f (f + x.size) = s := by
    obtain ⟨F, rfl⟩ := Int.eq_ofNat_of_zero_le g0
    obtain ⟨U, rfl⟩ := Int.eq_ofNat_of_zero_le (Int.le_trans g0 g1)
    exact edS_back (by omega) (by omega)
  have hshf : Hid (s.size ≤ 2000 → ∀ m, m = 0 ∨ m = f ∨ m = t ∨ m = (s.size : Int) → 0 ≤ shf m f t x.size false ∧ shf m f t x.size false ≤ ((edS s x f t).size : Int)) := fun h m hm => shf_in_text g0 g1 g2 h hm
  have hcr : compR s [⟨f, t, x⟩, ⟨f, f + x.size, s.extract f.toNat t.toNat⟩] = .tuple #[.agg #[.int .i64 s.size, .int .i64 s.size, .string ⟨#[]⟩], .int .i64 0] := by
    unfold compR
    simp only [compE, compS, errOf, madeOf, hE, h3, if_true, hback, diffV_self]
  obtain ⟨T, hTd⟩ : ∃ T, T = edS s x f t := ⟨_, rfl⟩
  obtain ⟨X2, hXd⟩ : ∃ X2, X2 = s.extract f.toNat t.toNat := ⟨_, rfl⟩
  rw [← hTd] at h3 hT hback hshf
  rw [← hXd] at h3 hX2 hcr hback
  have HT := Lib.hid hTd
  have HX := Lib.hid hXd
  have H3 := Lib.hid h3
  have HBK := Lib.hid hback
  have HCR := Lib.hid hcr
  have HE := Lib.hid hE
  have hTs : T.size ≤ 140737488351232 := by omega
  have hXs : X2.size ≤ 140737488351232 := by omega
  have hc := cp_le s b
  have hl := sf_le s b
  have hmk := diff_makes s b
  have hdv : Hid (diffV s b = .agg #[.int .i64 (cp s b : Nat), .int .i64 ((s.size - sf s b : Nat) : Int), .string (b.extract (cp s b) (b.size - sf s b))]) := rfl
  obtain ⟨p, hp⟩ : ∃ p, p = cp s b := ⟨_, rfl⟩
  obtain ⟨q, hq⟩ : ∃ q, q = s.size - sf s b := ⟨_, rfl⟩
  obtain ⟨W, hW⟩ : ∃ W, W = b.extract (cp s b) (b.size - sf s b) := ⟨_, rfl⟩
  have hWs : W.size ≤ 140737488351232 := by rw [hW, ByteArray.size_extract]; omega
  rw [← hW, ← hq, ← hp] at hdv hmk
  have hpq : (p : Int) ≤ (q : Int) := by omega
  have hqs : (q : Int) ≤ (s.size : Int) := by omega
  have hp0 : (0 : Int) ≤ (p : Int) := by omega
  have hq0 : (0 : Int) ≤ (q : Int) := by omega
  have g0 : decide ((p : Int) < 0) = false := by simp
  have g1 : decide ((q : Int) < (p : Int)) = false := by simp; omega
  have g2 : decide ((s.size : Int) < (q : Int)) = false := by simp; omega
  have g1n : decide (q < p) = false := by simp; omega
  have g2n : decide (s.size < q) = false := by simp; omega
  have hps : (p : Int) ≤ (s.size : Int) := by omega
  have hpsn : p ≤ s.size := by omega
  have hqsn : q ≤ s.size := by omega
  have hne : ((s.extract 0 p ++ W ++ s.extract q s.size).toList == b.toList) = true := by rw [hmk]; simp
  clear hc hl hp hq hW hmk
  clear hTd hXd h3 hcr hE hT hX2 hback g3 g4
  go_enter Tryd.func4, Tryd.ntmps4
  go_wp2_with fail
  refine (awakeText_any _).mono ?_
  rintro e w1 ⟨rfl, hb1⟩
  simp only [World.size_alloc] at hb1
  have hz1 := hb1.size
  simp only [World.size_alloc] at hz1
  have K1 : Blk w1 w.heap.size 32 #[.int .i64 f, .int .i64 t, .string x] := (Blk.new _ _ _).below hb1 (by omega)
  have hbel1 : Below w.heap.size w w1 := ((Below.refl _ _).alloc (Nat.le_refl _) _).trans (hb1.mono (by omega))
  have q0 := K1.cell 0
  have q1 := K1.cell 1
  have q2 := K1.cell 2
  clear hb1
  go_wp2_with fail
  refine (apply_ok s x f t _ hs hx HE.out).mono ?_
  rintro e w2 ⟨rfl, hb2⟩
  have K2 := ed_kept K1 hb2
  have hz2 := hb2.size
  have hbel2 : Below w.heap.size w w2 := hbel1.trans (hb2.mono (by omega))
  clear q0 q1 q2 K1 hbel1 hb2
  have q0 := K2.cell 0
  have q1 := K2.cell 1
  have q2 := K2.cell 2
  rw [← HT.out]
  go_wp2_with fail
  refine (inverse_ok s x f t _ hs hx HE.out).mono ?_
  rintro e w3 ⟨rfl, hb3⟩
  have K3 := ed_kept K2 hb3
  have hz3 := hb3.size
  have hbel3 : Below w.heap.size w w3 := hbel2.trans (hb3.mono (by omega))
  clear q0 q1 q2 K2 hbel2 hb3
  rw [← HX.out]
  go_wp2_with fail
  refine (apply_ok T X2 f (f + x.size) _ hTs hXs H3.out).mono ?_
  rintro e w4 ⟨rfl, hb4⟩
  rw [HBK.out]
  simp only [World.size_alloc] at hb4
  have hz4 := hb4.size
  simp only [World.size_alloc] at hz4
  have KB : Blk w4 w3.heap.size 32 #[.int .i64 f, .int .i64 (f + x.size), .string X2] := (Blk.new _ _ _).below hb4 (by omega)
  have K4 : Blk w4 w.heap.size 32 #[.int .i64 f, .int .i64 t, .string x] := (K3.alloc (.cells #[.int .i64 f, .int .i64 (f + x.size), .string X2] 32)).below hb4 (by omega)
  have hbel4 : Below w.heap.size w w4 := (hbel3.alloc (by omega) (.cells #[.int .i64 f, .int .i64 (f + x.size), .string X2] 32)).trans (hb4.mono (by omega))
  have q0 := K4.cell 0
  have q1 := K4.cell 1
  have q2 := K4.cell 2
  have b0 := KB.cell 0
  have b1 := KB.cell 1
  have b2 := KB.cell 2
  clear K3 KB hbel3 hb4
  go_wp2_with fail
  refine (compose_any s (some ⟨w4.heap.size, 0, none⟩) 2 2 [⟨f, t, x⟩, ⟨f, f + x.size, X2⟩] _ (w4.heap.size + 1) (two_reads w4 ⟨f, t, x⟩ ⟨f, f + x.size, X2⟩ _) (by simp) hs (by intro e he; simp at he; rcases he with rfl | rfl; exact hx; exact hXs) (by decide)).mono ?_
  rintro e w5 ⟨rfl, hb5⟩
  rw [HCR.out]
  simp only [World.size_alloc] at hb5
  have hz5 := hb5.size
  simp only [World.size_alloc] at hz5
  have hbel5 : Below w.heap.size w w5 := (hbel4.alloc (by omega) _).trans (hb5.mono (by omega))
  have K5 := (K4.alloc (.cells #[.int .i64 f, .int .i64 t, .string x, .int .i64 f, .int .i64 (f + x.size), .string X2] 32)).below hb5 (by omega)
  clear q0 q1 q2 b0 b1 b2 hbel4 hb5 K4
  have qa0 := fun o => (K5.alloc o).cell 0
  have qa1 := fun o => (K5.alloc o).cell 1
  have qa2 := fun o => (K5.alloc o).cell 2
  have qb0 := fun o o' => ((K5.alloc o).alloc o').cell 0
  have qb1 := fun o o' => ((K5.alloc o).alloc o').cell 1
  have qb2 := fun o o' => ((K5.alloc o).alloc o').cell 2
  have hemp : (⟨#[]⟩ : ByteArray).toList.isEmpty = true := by rw [Lib.toList_data]; rfl
  go_wp2_with fail
  refine (shift_any (some ⟨w5.heap.size + 1, 0, none⟩) 4 4 [0, f, t, s.size] f t x false _ (w5.heap.size + 2) ?_ ?_ (by decide) hx (by omega)).mono ?_
  · have := four_reads (w5.alloc (.cells #[.int .i64 s.size, .int .i64 s.size, .string ⟨#[]⟩] 32)) 0 f t s.size 3
    simpa using this
  · simp
  rintro e w6 ⟨v6, rfl, hown6, hb6⟩
  simp only [World.size_alloc] at hown6 hb6
  have hz6 := hb6.size
  have hbelZ : Below w.heap.size w w6 := ((hbel5.alloc (by omega) _).alloc (by simp; omega) _).trans (hb6.mono (by omega))
  obtain ⟨g6, c6, rfl⟩ : ∃ g6 c6, v6 = .slice (some ⟨g6, 0, none⟩) 4 c6 := by
    rcases hown6.2 with ⟨_, h⟩ | ⟨g, cap, cur, hv, _⟩
    · omega
    · exact ⟨_, _, hv⟩
  have HCELL : Hid (∀ k : Nat, k < 4 → ∃ m : Int, w6.cell? ⟨g6, k, none⟩ = some (.int .i64 m) ∧ (s.size ≤ 2000 → 0 ≤ m ∧ m ≤ (T.size : Int))) := fun k hk => by
    obtain ⟨z, hz, hzm⟩ : ∃ z, ([0, f, t, (s.size : Int)] : List Int)[k]? = some z ∧ (z = 0 ∨ z = f ∨ z = t ∨ z = (s.size : Int)) := by
      match k, hk with
      | 0, _ => exact ⟨_, rfl, .inl rfl⟩
      | 1, _ => exact ⟨_, rfl, .inr (.inl rfl)⟩
      | 2, _ => exact ⟨_, rfl, .inr (.inr (.inl rfl))⟩
      | 3, _ => exact ⟨_, rfl, .inr (.inr (.inr rfl))⟩
    refine ⟨shf z f t x.size false, ?_, fun h => hshf.out h z hzm⟩
    have := hown6.cells (g := g6) rfl k (.int .i64 (shf z f t x.size false)) (by rw [List.getElem?_map]; unfold shfs; rw [List.getElem?_map, hz]; rfl)
    rw [Addr.add_lit] at this
    simpa using this
  clear qa0 qa1 qa2 qb0 qb1 qb2 K5 hown6 hb6 hbel5
  go_wp2_with fail
  go_loopg [94] 4 (fun gg s94 wr => ∃ k : Nat, k + gg = 4 ∧ s94 = .int .i64 k ∧ wr = w6)
  case atStart => exact ⟨0, by omega, rfl, rfl⟩
  case round =>
    obtain ⟨k, hkg, rfl, rfl⟩ := hrel
    by_cases hk : k < 4
    · obtain ⟨m, hm, hmr⟩ := HCELL.out k hk
      have ik : (k : Int) < 4 := by omega
      have ik0 : (0 : Int) ≤ (k : Int) := by omega
      by_cases hs2 : s.size ≤ 2000
      · obtain ⟨m0, m1⟩ := hmr hs2
        have hs2' : (s.size : Int) ≤ 2000 := by omega
        clear hmr
        go_wp2
        go_roundg (4 - (k + 1))
        case measure => omega
        case rel => exact ⟨k + 1, by omega, by go_num, rfl⟩
      · have hs2' : ¬ (s.size : Int) ≤ 2000 := by omega
        clear hmr
        go_wp2
        go_roundg (4 - (k + 1))
        case measure => omega
        case rel => exact ⟨k + 1, by omega, by go_num, rfl⟩
    · obtain rfl : k = 4 := by omega
      go_wp2_with fail
      refine (diff_any s b _ hs hb).mono ?_
      rintro e w7 ⟨rfl, hb7⟩
      rw [hdv.out]
      have hbelY : Hid (Below w.heap.size w w7) := hbelZ.trans (hb7.mono (by have := hbelZ.size; omega))
      clear hb7 hdv
      go_upto_region 19 with (fail)
      go_quiet (fail)
      go_wp2
      go_ret
      exact ⟨rfl, bdrew (hbelY.out.alloc (by have := hbelY.out.size; omega) _) _⟩

end Go.Proofs.YtcbmddgafkoooaaDoor
