/-
  DERIVED. What a reading method asks of the world; the walks of prop.reader's link and quoted. Conditions: sizes; the library's own bound holds some number. By an AI agent.
-/
import Derived.Test.YtbdcimakdiegnaaGreatDoorRvNumW
import Derived.Test.YtbdcimakdiegnaaGreatDoorVa11
namespace Go.Proofs.YtbdcimakdiegnaaGreatDoor
open Go.RowKit

/-- the library's own bound holds a number -/
def ML (m : Int) (w : World) : Prop := w.cell? ⟨0, 0, none⟩ = some (.int .i64 m)
theorem ML.gr {w w' : World} {rb a : Nat} {s : ByteArray} {bad far : Bool} {m : Int} (h : ML m w) (hr : RdM w rb s a bad far) (hg : w.grownBy w' (some rb)) : ML m w' := by
  have hne : 0 ≠ rb := fun e => by
    have h2 := hr.at_.1.1
    rw [← e] at h2
    have h3 := h2.symm.trans h
    cases h3
  exact (hg.cell_far ⟨0, 0, none⟩ (World.block_lt_of_cell? w _ h) (fun e => hne (by injection e))).trans h
theorem ML.below {w w' : World} {m : Int} (h : ML m w) (hb : Below w.heap.size w w') : ML m w' := (hb.cell (World.block_lt_of_cell? w _ h)).trans h
theorem index_room {sub : List UInt8} : ∀ {l : List UInt8}, 0 ≤ Lib.index l sub → Lib.index l sub + sub.length ≤ l.length
  | [], h => by
    unfold Lib.index at h ⊢
    cases hs : sub.isEmpty
    · rw [hs] at h; cases h
    · rw [if_pos rfl]
      rw [List.isEmpty_iff] at hs
      subst hs
      simp
  | b :: l, h => by
    have hge := Lib.index_ge l sub
    rw [Lib.index] at h ⊢
    by_cases hp : sub.isPrefixOf (b :: l) = true
    · rw [if_pos hp]
      rw [List.isPrefixOf_iff_prefix] at hp
      have := hp.length_le
      omega
    · rw [if_neg hp] at h ⊢
      by_cases e : Lib.index l sub = -1
      · rw [if_pos (by simpa using e)] at h
        cases h
      · rw [if_neg (by simpa using e)]
        have ih := index_room (sub := sub) (l := l) (by omega)
        rw [List.length_cons]
        omega

set_option maxHeartbeats 4000000 in
set_option maxRecDepth 100000 in
theorem link_any (rb : Nat) (s : ByteArray) (a : Nat) (far : Bool) (m : Int) (w : World) (h : RdM w rb s a false far) (ha : a ≤ s.size) (hs : s.size ≤ 400000) (hm : ML m w) :
    Calls Tryz.prog 91 #[.pointer (some ⟨rb, 0, none⟩)] w fun e w' => ∃ x, e = .returned (vN x) ∧ RdOut1 (rdLink (rs s a)) rb s far w x w' := by
  have hlt := Blk.lt h
  obtain ⟨X, hX, hr, hK, hg, hz⟩ := start5 h
  have hmX : ML m X := hm.gr h hg
  have hlt1 := Blk.lt hr
  have IX : Hid (∀ W, ML m W → Calls Tryz.prog 57 #[.string (s.extract a s.size), .string ⟨#[93, 93]⟩] W fun e w' => e = .returned (.int .i64 (Lib.index (rs s a) [93, 93])) ∧ w' = W) := fun W hW => by
    have := Tryz.strings_Index (s.extract a s.size) ⟨#[93, 93]⟩ m W (by rw [ext_size s a s.size ha (Nat.le_refl _)]; omega) hW
    rw [rs_ext s a ha] at this
    exact this
  obtain ⟨k, hk⟩ : ∃ k, k = Lib.index (rs s a) [93, 93] := ⟨_, rfl⟩
  rw [← hk] at IX
  have hne : w.heap.size ≠ rb := by omega
  have HX := Lib.hid hX
  have HR := Lib.hid hr
  have HK := Lib.hid hK
  have HG := Lib.hid hg
  have HM := Lib.hid fun q => hmX.below (w' := X.drewN q) (bl_drewN X q _)
  have i1 : (a : Int) ≤ (s.size : Int) := by omega
  have i0 : (0 : Int) ≤ (a : Int) := by omega
  obtain ⟨⟨c0, c1, _, _⟩, _⟩ := hr.at_
  unfold rdLink
  rw [← hk]
  by_cases hk2 : k < 2
  · rw [if_pos hk2]
    clear h hX hr hK hg hm hmX hk
    go_enter Tryz.func91, Tryz.ntmps91
    go_upto_region 1 with fail
    rw [← HX.out]
    go_quiet (refine (IX.out _ (HM.out _)).mono (fun _ _ h => ⟨h.1, _, h.2⟩))
    have HR2 : Hid (RdM (X.drewN nq) rb s a false far) := HR.out
    have HK2 : Hid (Blk (X.drewN nq) w.heap.size 24 zV5) := HK.out
    have HG2 := Lib.hid (gr_trans HG.out (gr_drewN X nq _))
    generalize X.drewN nq = w1 at HR2 HK2 HG2 ⊢
    clear c0 c1
    obtain ⟨_, _, f2, _⟩ := HR2.out.at_
    have HK3 := Lib.hid (HK2.out.far (p := ⟨rb, 2, none⟩) hne (.bool true))
    have HR3 := Lib.hid (HR2.out.bads true)
    have HG3 := Lib.hid (gr_set HG2.out 2 (.bool true))
    have e3 := fun i => HK3.out.cell i
    have f3 := fun i => HK3.out.frozen i
    have b2 := Blk.cell HR2.out 2
    go_wp2_with fail
    obtain ⟨⟨r0, r1, r2, r3, r4⟩, gF, kF, _, _⟩ := fin5 HG3.out hlt HK3.out (.int .i64 0) (.int .i64 0) (.int .i64 0) (.string ⟨#[]⟩) (.slice none 0 0) _ rfl
    exact bodyPost_ret (v := vN (vI 0 0 0)) (by simp [results, Tryz.results91, go_sem, r0, r1, r2, r3, r4, vN, vI, Vl.kind, Vl.int_, Vl.to_, Vl.text]) rfl ⟨_, rfl, gF, rfl, a, true, far, kF _ _ HR3.out, ha, rfl⟩
  · rw [if_neg hk2]
    have hroom := index_room (l := rs s a) (sub := [93, 93]) (by rw [← hk]; omega)
    rw [← hk, rs_len] at hroom
    obtain ⟨n, rfl⟩ : ∃ n : Nat, k = (n : Int) := ⟨k.toNat, by omega⟩
    rw [Int.toNat_natCast, rs_drop]
    have hroom2 : a + (n + 2) ≤ s.size := by
      simp only [List.length_cons, List.length_nil] at hroom
      omega
    have hn2 : 2 ≤ n := by omega
    obtain ⟨a2, ha2⟩ : ∃ x, x = a + 2 := ⟨_, rfl⟩
    obtain ⟨p, hp⟩ : ∃ x, x = a + n := ⟨_, rfl⟩
    have hT : s.extract a2 p = ⟨(((rs s a).take n).drop 2).toArray⟩ := by
      apply ByteArray.ext
      apply Array.toList_inj.1
      rw [ext_toL, ha2, hp]
      show (s.data.toList.drop (a + 2)).take _ = ((s.data.toList.drop a).take n).drop 2
      rw [List.drop_take, List.drop_drop, show a + n - (a + 2) = n - 2 by omega]
    have HT := Lib.hid hT
    obtain ⟨T, hTe⟩ : ∃ T, T = s.extract a2 p := ⟨_, rfl⟩
    have HTE := Lib.hid hTe
    have w2 : IntKind.i64.wrap ((a : Int) + 2) = (a2 : Int) := by rw [ha2]; exact IntWalk.i64_in _ (by omega)
    have w3 : IntKind.i64.wrap ((a : Int) + (n : Int)) = (p : Int) := by rw [hp]; exact (IntWalk.i64_in _ (by omega)).trans (by omega)
    have j0 : (0 : Int) ≤ (a2 : Int) := by omega
    have j1 : (a2 : Int) ≤ (p : Int) := by omega
    have j2 : (p : Int) ≤ (s.size : Int) := by omega
    have j3 : (0 : Int) ≤ (p : Int) := by omega
    have hk3 : ¬ (n : Int) < 2 := by omega
    clear h hX hr hK hg hm hmX hk hk2 hroom hT ha2 hp hTe
    go_enter Tryz.func91, Tryz.ntmps91
    go_upto_region 1 with fail
    rw [← HX.out]
    go_quiet (refine (IX.out _ (HM.out _)).mono (fun _ _ h => ⟨h.1, _, h.2⟩))
    have HR2 : Hid (RdM (X.drewN nq) rb s a false far) := HR.out
    have HK2 : Hid (Blk (X.drewN nq) w.heap.size 24 zV5) := HK.out
    have HG2 := Lib.hid (gr_trans HG.out (gr_drewN X nq _))
    generalize X.drewN nq = w1 at HR2 HK2 HG2 ⊢
    clear c0 c1
    obtain ⟨⟨c0, c1, _, _⟩, f1, _, _⟩ := HR2.out.at_
    go_wp2_with fail
    go_quiet (fail)
    have HR3 : Hid (RdM (w1.drewN nq) rb s a false far) := HR2.out
    have HK3 : Hid (Blk (w1.drewN nq) w.heap.size 24 zV5) := HK2.out
    have HG3 := Lib.hid (gr_trans HG2.out (gr_drewN w1 nq _))
    generalize w1.drewN nq = w4 at HR3 HK3 HG3 ⊢
    rw [← HTE.out]
    clear c0 c1 f1
    obtain ⟨⟨c0, c1, _, _⟩, f1, _, _⟩ := HR3.out.at_
    have HR4 := Lib.hid (HR3.out.go (a + (n + 2)))
    rw [show ((a + (n + 2) : Nat) : Int) = (a : Int) + ((n : Int) + 2) by omega] at HR4
    have HK4 := Lib.hid (HK3.out.far (p := ⟨rb, 1, none⟩) hne (.int .i64 ((a : Int) + ((n : Int) + 2))))
    have HG4 := Lib.hid (gr_set HG3.out 1 (.int .i64 ((a : Int) + ((n : Int) + 2))))
    have e4 := fun i => HK4.out.cell i
    have f4 := fun i => HK4.out.frozen i
    go_wp2_with fail
    obtain ⟨⟨r0, r1, r2, r3, r4⟩, gF, kF, _, _⟩ := fin5 HG4.out hlt HK4.out (.int .i64 6) (.int .i64 0) (.int .i64 0) (.string T) (.slice none 0 0) _ rfl
    refine bodyPost_ret (v := vN (.mk 6 0 0 T [])) (by simp [results, Tryz.results91, go_sem, r0, r1, r2, r3, r4, vN, Vl.kind, Vl.int_, Vl.to_, Vl.text]) rfl ⟨_, rfl, gF, rfl, a + (n + 2), false, far, kF _ _ HR4.out, hroom2, rfl, by simp, rfl, ?_⟩
    rw [HTE.out, HT.out]
    rfl
end Go.Proofs.YtbdcimakdiegnaaGreatDoor
