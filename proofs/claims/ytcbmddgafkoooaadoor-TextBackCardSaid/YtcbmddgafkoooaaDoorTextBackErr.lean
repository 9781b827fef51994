/-
  DERIVED. The walk of florkeep1.TextBack where the way back is refused. Conditions: lengths in reach. By an AI agent.
-/
import Derived.Test.YtcbmddgafkoooaaDoorTextBack
namespace Go.Proofs.YtcbmddgafkoooaaDoor
open Go.RowKit

theorem ed_kept {w w' : World} {g : Nat} {f t : Int} {x : ByteArray} (K : Blk w g 32 #[.int .i64 f, .int .i64 t, .string x]) (hb : Below w.heap.size w w') : Blk w' g 32 #[.int .i64 f, .int .i64 t, .string x] := K.below hb K.lt
theorem two_reads (w : World) (e1 e2 : Ed) (t : TypeId) : Reads (w.alloc (.cells #[.int .i64 e1.from_, .int .i64 e1.to_, .string e1.with_, .int .i64 e2.from_, .int .i64 e2.to_, .string e2.with_] t)) (w.heap.size + 1) 3 (some ⟨w.heap.size, 0, none⟩) 2 (edCells [e1, e2]) :=
  ⟨rfl, fun _ => ⟨_, rfl, by simp, fun j u hu => cells_new w w.heap.size (edCells [e1, e2]) t rfl j u hu⟩⟩

set_option maxHeartbeats 2000000 in
set_option maxRecDepth 100000 in
theorem textBack_err (s x b : ByteArray) (f t : Int) (w : World) (hs : s.size ≤ 140737488351232) (hx : x.size ≤ 140737488351232) (hE : edErr s x f t = 0) (E3 : Int) (h3 : edErr (edS s x f t) (s.extract f.toNat t.toNat) f (f + x.size) = E3) (hE3 : E3 = 9 ∨ E3 = 4) :
    Calls Tryd.prog 4 #[.string s, .agg #[.int .i64 f, .int .i64 t, .string x], .string b] w fun e w' => e = .returned (.bool true) ∧ Below w.heap.size w w' := by
  obtain ⟨g0, g1, g2, g3, g4⟩ := edErr_ok hE
  have hT := edS_size g0 g1 g2 (x := x)
  have hX2 := ext_le s f.toNat t.toNat
  have hchk : chkE s ≠ 0 := by
    unfold chkE
    by_cases h : 2000 < s.size
    · rw [if_pos h]; decide
    · rw [if_neg h]
      rcases edErr_ways (edS s x f t) (s.extract f.toNat t.toNat) f (f + x.size) with ⟨a, _⟩ | ⟨a, _⟩ | ⟨a, _⟩ | ⟨_, a, _⟩ | ⟨_, _, a, _⟩ | ⟨_, _, _, a⟩
      · omega
      · omega
      · omega
      · rw [if_pos (ctl_ext a)]; decide
      · rw [hT, ByteArray.size_extract] at a; omega
      · omega
  have hcomp : compE s [⟨f, t, x⟩, ⟨f, f + x.size, s.extract f.toNat t.toNat⟩] = E3 := by
    simp only [compE, errOf, madeOf, hE, h3, if_true]
    split <;> omega
  have hcr : compR s [⟨f, t, x⟩, ⟨f, f + x.size, s.extract f.toNat t.toNat⟩] = .tuple #[.agg #[.int .i64 0, .int .i64 0, .string ⟨#[]⟩], .int .i64 E3] := by
    unfold compR; rw [hcomp, if_neg (by omega)]; rfl
  obtain ⟨T, hTd⟩ : ∃ T, T = edS s x f t := ⟨_, rfl⟩
  obtain ⟨X2, hXd⟩ : ∃ X2, X2 = s.extract f.toNat t.toNat := ⟨_, rfl⟩
  rw [← hTd] at h3 hT
  rw [← hXd] at h3 hX2 hcr
  have HT := Lib.hid hTd
  have HX := Lib.hid hXd
  have H3 := Lib.hid h3
  have HCR := Lib.hid hcr
  have HE := Lib.hid hE
  have hcb : (chkE s != 0) = true := by simpa using hchk
  have hTs : T.size ≤ 140737488351232 := by omega
  have hXs : X2.size ≤ 140737488351232 := by omega
  have hne : E3 ≠ 0 := by omega
  have HNE := Lib.hid hne
  have HE3 := Lib.hid hE3
  clear hTd hXd h3 hcr hE hchk hT hX2 hcomp hne hE3 g3 g4
  go_enter Tryd.func4, Tryd.ntmps4
  go_wp2_with fail
  refine (awakeText_any _).mono ?_
  rintro e w1 ⟨rfl, hb1⟩
  simp only [World.size_alloc] at hb1
  have hz1 := hb1.size
  simp only [World.size_alloc] at hz1
  have K1 : Blk w1 w.heap.size 32 #[.int .i64 f, .int .i64 t, .string x] := (Blk.new _ _ _).below hb1 (by omega)
  have hbel1 : Below w.heap.size w w1 := ((Below.refl _ _).alloc (Nat.le_refl _) _).trans (hb1.mono (by omega))
  have q0 := K1.cell 0
  have q1 := K1.cell 1
  have q2 := K1.cell 2
  clear hb1
  go_wp2_with fail
  refine (apply_ok s x f t _ hs hx HE.out).mono ?_
  rintro e w2 ⟨rfl, hb2⟩
  have K2 := ed_kept K1 hb2
  have hz2 := hb2.size
  have hbel2 : Below w.heap.size w w2 := hbel1.trans (hb2.mono (by omega))
  clear q0 q1 q2 K1 hbel1 hb2
  have q0 := K2.cell 0
  have q1 := K2.cell 1
  have q2 := K2.cell 2
  rw [← HT.out]
  go_wp2_with fail
  refine (inverse_ok s x f t _ hs hx HE.out).mono ?_
  rintro e w3 ⟨rfl, hb3⟩
  have K3 := ed_kept K2 hb3
  have hz3 := hb3.size
  have hbel3 : Below w.heap.size w w3 := hbel2.trans (hb3.mono (by omega))
  clear q0 q1 q2 K2 hbel2 hb3
  rw [← HX.out]
  go_wp2_with fail
  refine (apply_bad T X2 f (f + x.size) _ hTs hXs (by rw [H3.out]; exact HNE.out)).mono ?_
  rintro e w4 ⟨rfl, hb4⟩
  rw [H3.out]
  simp only [World.size_alloc] at hb4
  have hz4 := hb4.size
  simp only [World.size_alloc] at hz4
  have KB : Blk w4 w3.heap.size 32 #[.int .i64 f, .int .i64 (f + x.size), .string X2] := (Blk.new _ _ _).below hb4 (by omega)
  have K4 : Blk w4 w.heap.size 32 #[.int .i64 f, .int .i64 t, .string x] := (K3.alloc (.cells #[.int .i64 f, .int .i64 (f + x.size), .string X2] 32)).below hb4 (by omega)
  have hbel4 : Below w.heap.size w w4 := (hbel3.alloc (by omega) (.cells #[.int .i64 f, .int .i64 (f + x.size), .string X2] 32)).trans (hb4.mono (by omega))
  have q0 := K4.cell 0
  have q1 := K4.cell 1
  have q2 := K4.cell 2
  have b0 := KB.cell 0
  have b1 := KB.cell 1
  have b2 := KB.cell 2
  clear K3 KB K4 hbel3 hb4
  go_wp2_with fail
  refine (compose_any s (some ⟨w4.heap.size, 0, none⟩) 2 2 [⟨f, t, x⟩, ⟨f, f + x.size, X2⟩] _ (w4.heap.size + 1) (two_reads w4 ⟨f, t, x⟩ ⟨f, f + x.size, X2⟩ _) (by simp) hs (by intro e he; simp at he; rcases he with rfl | rfl; exact hx; exact hXs) (by decide)).mono ?_
  rintro e w5 ⟨rfl, hb5⟩
  rw [HCR.out]
  simp only [World.size_alloc] at hb5
  have hz5 := hb5.size
  simp only [World.size_alloc] at hz5
  have hbel5 : Below w.heap.size w w5 := (hbel4.alloc (by omega) _).trans (hb5.mono (by omega))
  clear q0 q1 q2 b0 b1 b2 hbel4 hb5
  rcases HE3.out with rfl | rfl
  all_goals
    go_wp2_with fail
    refine (check_any s _ hs).mono ?_
    rintro e w6 ⟨rfl, hw6⟩
    rw [← hw6]
    clear hw6
    go_wp2
    go_ret
    exact ⟨rfl, hbel5.alloc (by omega) _⟩
end Go.Proofs.YtcbmddgafkoooaaDoor
