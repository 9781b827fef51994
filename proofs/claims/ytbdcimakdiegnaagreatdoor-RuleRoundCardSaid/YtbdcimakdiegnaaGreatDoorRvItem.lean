/-
  DERIVED. The walks of prop.reader's value where no list is read, and of item. Conditions: sizes; tables are laid. By an AI agent.
-/
import Derived.Test.YtbdcimakdiegnaaGreatDoorRvQuoW
namespace Go.Proofs.YtbdcimakdiegnaaGreatDoor
open Go.RowKit

/-- what the reading methods ask of the world -/
structure En (m : Int) (w : World) : Prop where
  pow : Pow w
  ml : ML m w
theorem En.gr {m : Int} {w w' : World} {rb a : Nat} {s : ByteArray} {bad far : Bool} (h : En m w) (hr : RdM w rb s a bad far) (hg : w.grownBy w' (some rb)) : En m w' := ⟨h.pow.gr hr hg, h.ml.gr hr hg⟩
theorem En.below {m : Int} {w w' : World} (h : En m w) (hb : Below w.heap.size w w') : En m w' := ⟨h.pow.below hb, h.ml.below hb⟩
/-- a method's result is handed on -/
theorem RdOut1.via {o : RdR} {rb : Nat} {s : ByteArray} {far : Bool} {w w1 w2 : World} {x : Vl} (h : RdOut1 o rb s far w1 x w2) (hg : w.grownBy w1 (some rb)) (hrb : rb < w.heap.size) {z0 z1 z2 z3 z4 : Value} {t : TypeId} (hP : Blk w1 w.heap.size t #[z0, z1, z2, z3, z4]) (WF : World)
    (hWF : WF = ((((w2.setCell ⟨w.heap.size, 0, none⟩ (.int .i64 x.kind)).setCell ⟨w.heap.size, 1, none⟩ (.int .i64 x.int_)).setCell ⟨w.heap.size, 2, none⟩ (.int .i64 x.to_)).setCell ⟨w.heap.size, 3, none⟩ (.string x.text)).setCell ⟨w.heap.size, 4, none⟩ (.slice none 0 0)) :
    (WF.cell? ⟨w.heap.size, 0, none⟩ = some (.int .i64 x.kind) ∧ WF.cell? ⟨w.heap.size, 1, none⟩ = some (.int .i64 x.int_) ∧ WF.cell? ⟨w.heap.size, 2, none⟩ = some (.int .i64 x.to_) ∧ WF.cell? ⟨w.heap.size, 3, none⟩ = some (.string x.text) ∧ WF.cell? ⟨w.heap.size, 4, none⟩ = some (.slice none 0 0)) ∧ RdOut1 o rb s far w x WF := by
  obtain ⟨h1, h2, a', bad', far', h3, h4, h5⟩ := h
  obtain ⟨hc, gF, kF, _, _⟩ := fin5 (gr_trans hg h1) hrb (blk_gr hP h1 (by omega)) _ _ _ _ _ WF hWF
  exact ⟨hc, gF, h2, a', bad', far', kF _ _ h3, h4, h5⟩
theorem RdOut1.below {o : RdR} {rb : Nat} {s : ByteArray} {far : Bool} {w w1 w2 : World} {x : Vl} (h : RdOut1 o rb s far w x w1) (hb : Below w1.heap.size w1 w2) : RdOut1 o rb s far w x w2 := by
  obtain ⟨h1, h2, a', bad', far', h3, h4, h5⟩ := h
  exact ⟨gr_below h1 hb, h2, a', bad', far', h3.below hb, h4, h5⟩
/-- the reader, the result's block, what the methods ask -/
structure VR (m : Int) (w : World) (rb : Nat) (s : ByteArray) (a : Nat) (far : Bool) (wr : World) : Prop where
  rd : RdM wr rb s a false far
  bk : Blk wr w.heap.size 24 zV5
  gr : w.grownBy wr (some rb)
  en : En m wr
section
variable {m : Int} {w wr w2 : World} {rb a b : Nat} {s : ByteArray} {far far2 : Bool}
theorem VR.drewN (h : VR m w rb s a far wr) (n : Nat) : VR m w rb s a far (wr.drewN n) := ⟨h.rd, h.bk, gr_trans h.gr (gr_drewN wr n _), h.en.below (bl_drewN wr n _)⟩
theorem VR.step (h : VR m w rb s a far wr) (hrb : rb < w.heap.size) (hg : wr.grownBy w2 (some rb)) (hr : RdM w2 rb s b false far2) : VR m w rb s b far2 w2 := ⟨hr, blk_gr h.bk hg (by omega), gr_trans h.gr hg, h.en.gr h.rd hg⟩
theorem VR.below (h : VR m w rb s a far wr) (hb : Below wr.heap.size wr w2) : VR m w rb s a far w2 := ⟨h.rd.below hb, h.bk.below hb h.bk.lt, gr_below h.gr hb, h.en.below hb⟩
end
theorem pre_less {t : List UInt8} (h : pre [91] t = false) : pre [91, 91] t = false := by
  cases t with
  | nil => rfl
  | cons c t =>
    rw [pre_cons, pre_nil, Bool.and_true] at h
    rw [pre_cons, h]
    rfl
/-- is a minus alone -/
theorem lone_ways {s : ByteArray} {a : Nat} (ha : a ≤ s.size) : (pre [45] (rs s a) = false ∧ loneM (rs s a) = false)
    ∨ (pre [45] (rs s a) = true ∧ loneM (rs s a) = true ∧ a + 1 = s.size) ∨ (pre [45] (rs s a) = true ∧ loneM (rs s a) = true ∧ ∃ h : a + 1 < s.size, ((s[a + 1]'h).toNat : Int) < 48)
    ∨ (pre [45] (rs s a) = true ∧ loneM (rs s a) = true ∧ ∃ h : a + 1 < s.size, ¬ ((s[a + 1]'h).toNat : Int) < 48 ∧ (57 : Int) < ((s[a + 1]'h).toNat : Int))
    ∨ (pre [45] (rs s a) = true ∧ loneM (rs s a) = false ∧ ∃ h : a + 1 < s.size, ¬ ((s[a + 1]'h).toNat : Int) < 48 ∧ ¬ (57 : Int) < ((s[a + 1]'h).toNat : Int)) := by
  unfold loneM
  rw [rs_drop]
  cases hp : pre [45] (rs s a)
  · exact .inl ⟨rfl, rfl⟩
  · have h1 := rs_pre hp ha
    have h1 : a + 1 ≤ s.size := h1
    rcases Nat.lt_or_ge (a + 1) s.size with h2 | h2
    · rw [rs_at h2]
      have hd := isDg_iff (s[a + 1]'h2)
      by_cases h3 : ((s[a + 1]'h2).toNat : Int) < 48
      · refine .inr (.inr (.inl ⟨rfl, ?_, h2, h3⟩))
        have : isDg (s[a + 1]'h2) = false := by
          cases e : isDg (s[a + 1]'h2)
          · rfl
          · have := hd.1 e; omega
        show (true && !isDg (s[a + 1]'h2)) = true
        rw [this]; rfl
      · by_cases h4 : (57 : Int) < ((s[a + 1]'h2).toNat : Int)
        · refine .inr (.inr (.inr (.inl ⟨rfl, ?_, h2, h3, h4⟩)))
          have : isDg (s[a + 1]'h2) = false := by
            cases e : isDg (s[a + 1]'h2)
            · rfl
            · have := hd.1 e; omega
          show (true && !isDg (s[a + 1]'h2)) = true
          rw [this]; rfl
        · refine .inr (.inr (.inr (.inr ⟨rfl, ?_, h2, h3, h4⟩)))
          have : isDg (s[a + 1]'h2) = true := hd.2 ⟨by omega, by omega⟩
          show (true && !isDg (s[a + 1]'h2)) = false
          rw [this]; rfl
    · rw [rs_end h2]
      exact .inr (.inl ⟨rfl, rfl, by omega⟩)

set_option maxHeartbeats 4000000 in
set_option maxRecDepth 100000 in
/-- a value that begins with no bracket -/
theorem value_one (rb : Nat) (s : ByteArray) (a : Nat) (far : Bool) (m : Int) (w : World) (h : RdM w rb s a false far) (ha : a ≤ s.size) (hs : s.size ≤ 400000) (hm : En m w) (hq : pre [91] (rs s a) = false) :
    Calls Tryz.prog 50 #[.pointer (some ⟨rb, 0, none⟩)] w fun e w' => ∃ x, e = .returned (vN x) ∧ RdOut1 (rdOne (rs s a)) rb s far w x w' := by
  have hrb := Blk.lt h
  obtain ⟨X, hX, hr, hK, hg, hz⟩ := start5 h
  have HV := Lib.hid (show VR m w rb s a far X from ⟨hr, hK, hg, hm.gr h hg⟩)
  have HX := Lib.hid hX
  have Q91 : Hid (pre (⟨#[91]⟩ : ByteArray).data.toList (rs s a) = false) := hq
  have Q9191 : Hid (pre (⟨#[91, 91]⟩ : ByteArray).data.toList (rs s a) = false) := pre_less hq
  obtain ⟨o, ho⟩ : ∃ o, o = rdOne (rs s a) := ⟨_, rfl⟩
  rw [← ho]
  unfold rdOne at ho
  clear h hX hr hK hg hm hq
  cases q1 : pre [121, 101, 115] (rs s a)
  case true =>
    have Q1 : Hid (pre (⟨#[121, 101, 115]⟩ : ByteArray).data.toList (rs s a) = true) := q1
    rw [q1, if_pos rfl, rs_drop] at ho
    have HO := Lib.hid ho
    have hat : a + 3 ≤ s.size := rs_pre q1 ha
    clear ho q1
    go_enter Tryz.func50, Tryz.ntmps50
    go_upto_region 1 with fail
    rw [← HX.out]
    go_wp2_with fail
    refine (take_yes rb s ⟨#[121, 101, 115]⟩ a false far X HV.out.rd ha hs Q1.out).mono ?_
    rintro e w1 ⟨rfl, hry, hgy⟩
    have HV1 : Hid (VR m w rb s (a + 3) far w1) := HV.out.step hrb hgy hry
    clear hry hgy
    have e5 := fun i => HV1.out.bk.cell i
    have f5 := fun i => HV1.out.bk.frozen i
    go_wp2_with fail
    obtain ⟨⟨r0, r1, r2, r3, r4⟩, gF, kF, _, _⟩ := fin5 HV1.out.gr hrb HV1.out.bk (.int .i64 1) (.int .i64 1) (.int .i64 0) (.string ⟨#[]⟩) (.slice none 0 0) _ rfl
    refine bodyPost_ret (v := vN (vI 1 1 0)) (by simp [results, Tryz.results50, go_sem, r0, r1, r2, r3, r4, vN, vI, Vl.kind, Vl.int_, Vl.to_, Vl.text]) rfl ⟨_, rfl, gF, rfl, a + 3, false, far, kF _ _ HV1.out.rd, hat, ?_⟩
    rw [HO.out]
    exact ⟨rfl, by simp, rfl, rfl⟩
  case false =>
  have Q1 : Hid (pre (⟨#[121, 101, 115]⟩ : ByteArray).data.toList (rs s a) = false) := q1
  rw [q1, if_neg (by decide)] at ho
  clear q1
  cases q2 : pre [110, 111] (rs s a)
  case true =>
    have Q2 : Hid (pre (⟨#[110, 111]⟩ : ByteArray).data.toList (rs s a) = true) := q2
    rw [q2, if_pos rfl, rs_drop] at ho
    have HO := Lib.hid ho
    have hat : a + 2 ≤ s.size := rs_pre q2 ha
    clear ho q2
    go_enter Tryz.func50, Tryz.ntmps50
    go_upto_region 1 with fail
    rw [← HX.out]
    go_wp2_with fail
    refine (take_no rb s ⟨#[121, 101, 115]⟩ a false far X HV.out.rd ha hs Q1.out).mono ?_
    rintro e wz ⟨rfl, nz, rfl⟩
    have HV1 := Lib.hid (HV.out.drewN nz)
    generalize X.drewN nz = w1 at HV1 ⊢
    go_wp2_with fail
    refine (take_yes rb s ⟨#[110, 111]⟩ a false far w1 HV1.out.rd ha hs Q2.out).mono ?_
    rintro e w2 ⟨rfl, hry, hgy⟩
    have HV2 : Hid (VR m w rb s (a + 2) far w2) := HV1.out.step hrb hgy hry
    clear hry hgy
    have e5 := fun i => HV2.out.bk.cell i
    have f5 := fun i => HV2.out.bk.frozen i
    go_wp2_with fail
    obtain ⟨⟨r0, r1, r2, r3, r4⟩, gF, kF, _, _⟩ := fin5 HV2.out.gr hrb HV2.out.bk (.int .i64 1) (.int .i64 0) (.int .i64 0) (.string ⟨#[]⟩) (.slice none 0 0) _ rfl
    refine bodyPost_ret (v := vN (vI 1 0 0)) (by simp [results, Tryz.results50, go_sem, r0, r1, r2, r3, r4, vN, vI, Vl.kind, Vl.int_, Vl.to_, Vl.text]) rfl ⟨_, rfl, gF, rfl, a + 2, false, far, kF _ _ HV2.out.rd, hat, ?_⟩
    rw [HO.out]
    exact ⟨rfl, by simp, rfl, rfl⟩
  case false =>
  have Q2 : Hid (pre (⟨#[110, 111]⟩ : ByteArray).data.toList (rs s a) = false) := q2
  rw [q2, if_neg (by decide)] at ho
  clear q2
  cases q3 : pre [34] (rs s a)
  case true =>
    have Q3 : Hid (pre (⟨#[34]⟩ : ByteArray).data.toList (rs s a) = true) := q3
    rw [q3, if_pos rfl, rs_drop] at ho
    have HO := Lib.hid ho
    have hat : a + 1 ≤ s.size := rs_pre q3 ha
    clear ho q3
    go_enter Tryz.func50, Tryz.ntmps50
    go_upto_region 1 with fail
    rw [← HX.out]
    go_wp2_with fail
    refine (take_no rb s ⟨#[121, 101, 115]⟩ a false far X HV.out.rd ha hs Q1.out).mono ?_
    rintro e wz ⟨rfl, nz, rfl⟩
    have HV1 := Lib.hid (HV.out.drewN nz)
    generalize X.drewN nz = w1 at HV1 ⊢
    go_wp2_with fail
    refine (take_no rb s ⟨#[110, 111]⟩ a false far w1 HV1.out.rd ha hs Q2.out).mono ?_
    rintro e wz ⟨rfl, nz, rfl⟩
    have HV2 := Lib.hid (HV1.out.drewN nz)
    generalize w1.drewN nz = w2 at HV2 ⊢
    go_wp2_with fail
    refine (take_yes rb s ⟨#[34]⟩ a false far w2 HV2.out.rd ha hs Q3.out).mono ?_
    rintro e w3 ⟨rfl, hry, hgy⟩
    have HV3 : Hid (VR m w rb s (a + 1) far w3) := HV2.out.step hrb hgy hry
    clear hry hgy
    go_wp2_with fail
    refine (quoted_any rb s (a + 1) far w3 HV3.out.rd hat hs).mono ?_
    rintro e w9 ⟨x, rfl, ho9⟩
    have HO9 := Lib.hid ho9
    have HK9 := Lib.hid (blk_gr HV3.out.bk ho9.gr (show w.heap.size ≠ rb by omega))
    have e9 := fun i => HK9.out.cell i
    have f9 := fun i => HK9.out.frozen i
    clear ho9
    unfold vN
    go_wp2_with fail
    obtain ⟨⟨r0, r1, r2, r3, r4⟩, hOut⟩ := HO9.out.via HV3.out.gr hrb HV3.out.bk _ rfl
    refine bodyPost_ret (v := vN x) (by simp [results, Tryz.results50, go_sem, r0, r1, r2, r3, r4, vN]) rfl ⟨_, rfl, ?_⟩
    rw [HO.out]
    exact hOut
  case false =>
  have Q3 : Hid (pre (⟨#[34]⟩ : ByteArray).data.toList (rs s a) = false) := q3
  rw [q3, if_neg (by decide)] at ho
  clear q3
  cases q4 : dateB (rs s a)
  case true =>
    rw [q4, if_pos rfl] at ho
    have HO := Lib.hid ho
    have HD := Lib.hid q4
    clear ho q4
    go_enter Tryz.func50, Tryz.ntmps50
    go_upto_region 1 with fail
    rw [← HX.out]
    go_wp2_with fail
    refine (take_no rb s ⟨#[121, 101, 115]⟩ a false far X HV.out.rd ha hs Q1.out).mono ?_
    rintro e wz ⟨rfl, nz, rfl⟩
    have HV1 := Lib.hid (HV.out.drewN nz)
    generalize X.drewN nz = w1 at HV1 ⊢
    go_wp2_with fail
    refine (take_no rb s ⟨#[110, 111]⟩ a false far w1 HV1.out.rd ha hs Q2.out).mono ?_
    rintro e wz ⟨rfl, nz, rfl⟩
    have HV2 := Lib.hid (HV1.out.drewN nz)
    generalize w1.drewN nz = w2 at HV2 ⊢
    go_wp2_with fail
    refine (take_no rb s ⟨#[34]⟩ a false far w2 HV2.out.rd ha hs Q3.out).mono ?_
    rintro e wz ⟨rfl, nz, rfl⟩
    have HV3 := Lib.hid (HV2.out.drewN nz)
    generalize w2.drewN nz = w3 at HV3 ⊢
    go_wp2_with fail
    refine (has_any rb s ⟨#[91, 91]⟩ a false far w3 HV3.out.rd ha hs false Q9191.out).mono ?_
    rintro e wz ⟨rfl, nz, rfl⟩
    have HV4 := Lib.hid (HV3.out.drewN nz)
    generalize w3.drewN nz = w4 at HV4 ⊢
    go_wp2_with fail
    refine (take_no rb s ⟨#[91]⟩ a false far w4 HV4.out.rd ha hs Q91.out).mono ?_
    rintro e wz ⟨rfl, nz, rfl⟩
    have HV5 := Lib.hid (HV4.out.drewN nz)
    generalize w4.drewN nz = w5 at HV5 ⊢
    go_wp2_with fail
    refine (days_yes rb s a far w5 HV5.out.rd ha hs HD.out).mono ?_
    rintro e w9 ⟨x, rfl, ho9⟩
    have HO9 := Lib.hid (ho9.below ((Below.refl w9.heap.size w9).alloc (Nat.le_refl _) (.cells #[.int .i64 x.kind, .int .i64 x.int_, .int .i64 x.to_, .string x.text, .slice none 0 0] 24)))
    have HK9 := Lib.hid ((blk_gr HV5.out.bk ho9.gr (show w.heap.size ≠ rb by omega)).alloc (.cells #[.int .i64 x.kind, .int .i64 x.int_, .int .i64 x.to_, .string x.text, .slice none 0 0] 24))
    have HB9 := Lib.hid (Blk.new w9 24 #[.int .i64 x.kind, .int .i64 x.int_, .int .i64 x.to_, .string x.text, .slice none 0 0])
    have e9 := fun i => HK9.out.cell i
    have f9 := fun i => HK9.out.frozen i
    have b9 := fun i => HB9.out.cell i
    clear ho9
    unfold vN
    go_wp2_with fail
    obtain ⟨⟨r0, r1, r2, r3, r4⟩, hOut⟩ := HO9.out.via HV5.out.gr hrb HV5.out.bk _ rfl
    refine bodyPost_ret (v := vN x) (by simp [results, Tryz.results50, go_sem, r0, r1, r2, r3, r4, vN]) rfl ⟨_, rfl, ?_⟩
    rw [HO.out]
    exact hOut
  case false =>
  rw [q4, if_neg (by decide)] at ho
  have HD := Lib.hid q4
  clear q4
  have HLM := Lib.hid (lone_ways (s := s) ha)
  have HH : Hid (∀ q : Bool, pre (⟨#[45]⟩ : ByteArray).data.toList (rs s a) = q → ∀ W, RdM W rb s a false far → Calls Tryz.prog 90 #[.pointer (some ⟨rb, 0, none⟩), .string ⟨#[45]⟩] W fun e w' => e = .returned (.bool q) ∧ ∃ n, w' = W.drewN n) := fun q hq W hW => has_any rb s ⟨#[45]⟩ a false far W hW ha hs q hq
  go_enter Tryz.func50, Tryz.ntmps50
  go_upto_region 1 with fail
  rw [← HX.out]
  go_wp2_with fail
  refine (take_no rb s ⟨#[121, 101, 115]⟩ a false far X HV.out.rd ha hs Q1.out).mono ?_
  rintro e wz ⟨rfl, nz, rfl⟩
  have HV1 := Lib.hid (HV.out.drewN nz)
  generalize X.drewN nz = w1 at HV1 ⊢
  go_wp2_with fail
  refine (take_no rb s ⟨#[110, 111]⟩ a false far w1 HV1.out.rd ha hs Q2.out).mono ?_
  rintro e wz ⟨rfl, nz, rfl⟩
  have HV2 := Lib.hid (HV1.out.drewN nz)
  generalize w1.drewN nz = w2 at HV2 ⊢
  go_wp2_with fail
  refine (take_no rb s ⟨#[34]⟩ a false far w2 HV2.out.rd ha hs Q3.out).mono ?_
  rintro e wz ⟨rfl, nz, rfl⟩
  have HV3 := Lib.hid (HV2.out.drewN nz)
  generalize w2.drewN nz = w3 at HV3 ⊢
  go_wp2_with fail
  refine (has_any rb s ⟨#[91, 91]⟩ a false far w3 HV3.out.rd ha hs false Q9191.out).mono ?_
  rintro e wz ⟨rfl, nz, rfl⟩
  have HV4 := Lib.hid (HV3.out.drewN nz)
  generalize w3.drewN nz = w4 at HV4 ⊢
  go_wp2_with fail
  refine (take_no rb s ⟨#[91]⟩ a false far w4 HV4.out.rd ha hs Q91.out).mono ?_
  rintro e wz ⟨rfl, nz, rfl⟩
  have HV5 := Lib.hid (HV4.out.drewN nz)
  generalize w4.drewN nz = w5 at HV5 ⊢
  go_wp2_with fail
  refine (days_no rb s a false far w5 HV5.out.rd ha hs HD.out).mono ?_
  rintro e w6 ⟨rfl, hr6, hg6⟩
  have HV6 : Hid (VR m w rb s a far (w6.alloc (.cells zV5 24))) := (HV5.out.step hrb hg6 hr6).below ((Below.refl w6.heap.size w6).alloc (Nat.le_refl _) _)
  clear hr6 hg6
  unfold vN vI
  dsimp only [Vl.kind, Vl.int_, Vl.to_, Vl.text]
  go_wp2_with fail
  generalize (w6.alloc (.cells #[.int .i64 0, .int .i64 0, .int .i64 0, .string ⟨#[]⟩, .slice none 0 0] 24)) = w7 at HV6 ⊢
  have HH7 : Hid (∀ q : Bool, pre [45] (rs s a) = q → ∀ W : World, W.heap = w7.heap → Calls Tryz.prog 90 #[.pointer (some ⟨rb, 0, none⟩), .string ⟨#[45]⟩] W fun e w' => e = .returned (.bool q) ∧ ∃ n, w' = W.drewN n) := fun q hq W hW => HH.out q hq W (by unfold RdM Blk; rw [hW]; exact HV6.out.rd)
  have ho := Lib.hid ho
  have c0 := Blk.cell HV6.out.rd 0
  have c1 := Blk.cell HV6.out.rd 1
  obtain ⟨a1, ha1⟩ : ∃ x, x = a + 1 := ⟨_, rfl⟩
  have ways := HLM.out
  rw [← ha1] at ways
  have w1w : IntKind.i64.wrap ((a : Int) + 1) = (a1 : Int) := by rw [ha1]; exact IntWalk.i64_in _ (by omega)
  have j0 : (0 : Int) ≤ (a1 : Int) := by omega
  have HA1 := Lib.hid ha1
  rcases ways with ⟨hp, hl⟩ | ⟨hp, hl, hz⟩ | ⟨hp, hl, hz, h48⟩ | ⟨hp, hl, hz, h48, h57⟩ | ⟨hp, hl, hz, h48, h57⟩
  · clear ha1
    have HT : Hid (∀ x : Nat, Calls Tryz.prog 90 #[.pointer (some ⟨rb, 0, none⟩), .string ⟨#[45]⟩] (w7.drewN x) fun e w'' => e = .returned (.bool false) ∧ ∃ n, w'' = w7.drewN n) := fun x => (HH7.out false hp (w7.drewN x) rfl).mono (fun _ _ h => ⟨h.1, h.2.elim fun n hn => ⟨_, hn.trans (World.drewN_drewN _ _ _)⟩⟩)
    go_quiet (exact HT.out _)
    have HV7 := Lib.hid (HV6.out.drewN nq)
    generalize w7.drewN nq = w8 at HV7 ⊢
    clear c0 c1
    have HO : Hid (o = rdNum (rs s a)) := by
      show _ = _
      rw [ho.out, hl, if_neg (by decide)]
    go_wp2_with fail
    refine (number_any rb s a far w8 HV7.out.rd ha hs HV7.out.en.pow).mono ?_
    rintro e w9 ⟨x, rfl, ho9⟩
    have HO9 := Lib.hid ho9
    have HK9 := Lib.hid (blk_gr HV7.out.bk ho9.gr (show w.heap.size ≠ rb by omega))
    have e9 := fun i => HK9.out.cell i
    have f9 := fun i => HK9.out.frozen i
    clear ho9
    unfold vN
    go_wp2_with fail
    obtain ⟨⟨r0, r1, r2, r3, r4⟩, hOut⟩ := HO9.out.via HV7.out.gr hrb HV7.out.bk _ rfl
    refine bodyPost_ret (v := vN x) (by simp [results, Tryz.results50, go_sem, r0, r1, r2, r3, r4, vN]) rfl ⟨_, rfl, ?_⟩
    rw [HO.out]
    exact hOut
  · have j1 : ((a1 : Int) == (s.size : Int)) = true := by rw [beq_iff_eq]; omega
    clear ha1 hz
    have HT : Hid (∀ x : Nat, Calls Tryz.prog 90 #[.pointer (some ⟨rb, 0, none⟩), .string ⟨#[45]⟩] (w7.drewN x) fun e w'' => e = .returned (.bool true) ∧ ∃ n, w'' = w7.drewN n) := fun x => (HH7.out true hp (w7.drewN x) rfl).mono (fun _ _ h => ⟨h.1, h.2.elim fun n hn => ⟨_, hn.trans (World.drewN_drewN _ _ _)⟩⟩)
    go_quiet (exact HT.out _)
    have HV7 := Lib.hid (HV6.out.drewN nq)
    generalize w7.drewN nq = w8 at HV7 ⊢
    clear c0 c1
    have hz : a + 1 = s.size := by have := HA1.out; have := beq_iff_eq.1 j1; omega
    have HO : Hid (o = some (vI 0 0 0, rs s (a + 1), false)) := by
      show _ = _
      rw [ho.out, hl, if_pos rfl, rs_drop]
    have hat : a + 1 ≤ s.size := by omega
    have c1 := Blk.cell HV7.out.rd 1
    have f1 := Blk.frozen HV7.out.rd 1
    have HV8 : Hid (VR m w rb s (a + 1) far (w8.setCell ⟨rb, 1, none⟩ (.int .i64 (a1 : Int)))) := by
      show VR _ _ _ _ _ _ _
      rw [HA1.out]
      exact HV7.out.step hrb (gr_set (World.grownBy.refl w8 (some rb)) 1 _) (HV7.out.rd.go (a + 1))
    have e5 := fun i => HV8.out.bk.cell i
    have f5 := fun i => HV8.out.bk.frozen i
    go_wp2_with fail
    obtain ⟨⟨r0, r1, r2, r3, r4⟩, gF, kF, _, _⟩ := fin5 HV8.out.gr hrb HV8.out.bk (.int .i64 0) (.int .i64 0) (.int .i64 0) (.string ⟨#[]⟩) (.slice none 0 0) _ rfl
    refine bodyPost_ret (v := vN (vI 0 0 0)) (by simp [results, Tryz.results50, go_sem, r0, r1, r2, r3, r4, vN, vI, Vl.kind, Vl.int_, Vl.to_, Vl.text]) rfl ⟨_, rfl, gF, rfl, a + 1, false, far, kF _ _ HV8.out.rd, hat, ?_⟩
    rw [HO.out]
    exact ⟨rfl, by simp, rfl, rfl⟩
  · have j1 : ((a1 : Int) == (s.size : Int)) = false := by rw [beq_eq_false_iff_ne]; omega
    have j2 : (a1 : Int) < (s.size : Int) := by omega
    have j3 : decide (((s[a1]'hz).toNat : Int) < 48) = true := decide_eq_true (by omega)
    clear ha1
    have HT : Hid (∀ x : Nat, Calls Tryz.prog 90 #[.pointer (some ⟨rb, 0, none⟩), .string ⟨#[45]⟩] (w7.drewN x) fun e w'' => e = .returned (.bool true) ∧ ∃ n, w'' = w7.drewN n) := fun x => (HH7.out true hp (w7.drewN x) rfl).mono (fun _ _ h => ⟨h.1, h.2.elim fun n hn => ⟨_, hn.trans (World.drewN_drewN _ _ _)⟩⟩)
    go_quiet (exact HT.out _)
    have HV7 := Lib.hid (HV6.out.drewN nq)
    generalize w7.drewN nq = w8 at HV7 ⊢
    clear c0 c1
    have hz2 : a + 1 < s.size := by have := HA1.out; omega
    have HO : Hid (o = some (vI 0 0 0, rs s (a + 1), false)) := by
      show _ = _
      rw [ho.out, hl, if_pos rfl, rs_drop]
    have hat : a + 1 ≤ s.size := by omega
    have c1 := Blk.cell HV7.out.rd 1
    have f1 := Blk.frozen HV7.out.rd 1
    have HV8 : Hid (VR m w rb s (a + 1) far (w8.setCell ⟨rb, 1, none⟩ (.int .i64 (a1 : Int)))) := by
      show VR _ _ _ _ _ _ _
      rw [HA1.out]
      exact HV7.out.step hrb (gr_set (World.grownBy.refl w8 (some rb)) 1 _) (HV7.out.rd.go (a + 1))
    have e5 := fun i => HV8.out.bk.cell i
    have f5 := fun i => HV8.out.bk.frozen i
    go_wp2_with fail
    obtain ⟨⟨r0, r1, r2, r3, r4⟩, gF, kF, _, _⟩ := fin5 HV8.out.gr hrb HV8.out.bk (.int .i64 0) (.int .i64 0) (.int .i64 0) (.string ⟨#[]⟩) (.slice none 0 0) _ rfl
    refine bodyPost_ret (v := vN (vI 0 0 0)) (by simp [results, Tryz.results50, go_sem, r0, r1, r2, r3, r4, vN, vI, Vl.kind, Vl.int_, Vl.to_, Vl.text]) rfl ⟨_, rfl, gF, rfl, a + 1, false, far, kF _ _ HV8.out.rd, hat, ?_⟩
    rw [HO.out]
    exact ⟨rfl, by simp, rfl, rfl⟩
  · have j1 : ((a1 : Int) == (s.size : Int)) = false := by rw [beq_eq_false_iff_ne]; omega
    have j2 : (a1 : Int) < (s.size : Int) := by omega
    have j3 : decide (((s[a1]'hz).toNat : Int) < 48) = false := decide_eq_false (by omega)
    have j4 : decide ((57 : Int) < ((s[a1]'hz).toNat : Int)) = true := decide_eq_true (by omega)
    clear ha1
    have HT : Hid (∀ x : Nat, Calls Tryz.prog 90 #[.pointer (some ⟨rb, 0, none⟩), .string ⟨#[45]⟩] (w7.drewN x) fun e w'' => e = .returned (.bool true) ∧ ∃ n, w'' = w7.drewN n) := fun x => (HH7.out true hp (w7.drewN x) rfl).mono (fun _ _ h => ⟨h.1, h.2.elim fun n hn => ⟨_, hn.trans (World.drewN_drewN _ _ _)⟩⟩)
    go_quiet (exact HT.out _)
    have HV7 := Lib.hid (HV6.out.drewN nq)
    generalize w7.drewN nq = w8 at HV7 ⊢
    clear c0 c1
    have hz2 : a + 1 < s.size := by have := HA1.out; omega
    have HO : Hid (o = some (vI 0 0 0, rs s (a + 1), false)) := by
      show _ = _
      rw [ho.out, hl, if_pos rfl, rs_drop]
    have hat : a + 1 ≤ s.size := by omega
    have c1 := Blk.cell HV7.out.rd 1
    have f1 := Blk.frozen HV7.out.rd 1
    have HV8 : Hid (VR m w rb s (a + 1) far (w8.setCell ⟨rb, 1, none⟩ (.int .i64 (a1 : Int)))) := by
      show VR _ _ _ _ _ _ _
      rw [HA1.out]
      exact HV7.out.step hrb (gr_set (World.grownBy.refl w8 (some rb)) 1 _) (HV7.out.rd.go (a + 1))
    have e5 := fun i => HV8.out.bk.cell i
    have f5 := fun i => HV8.out.bk.frozen i
    go_wp2_with fail
    obtain ⟨⟨r0, r1, r2, r3, r4⟩, gF, kF, _, _⟩ := fin5 HV8.out.gr hrb HV8.out.bk (.int .i64 0) (.int .i64 0) (.int .i64 0) (.string ⟨#[]⟩) (.slice none 0 0) _ rfl
    refine bodyPost_ret (v := vN (vI 0 0 0)) (by simp [results, Tryz.results50, go_sem, r0, r1, r2, r3, r4, vN, vI, Vl.kind, Vl.int_, Vl.to_, Vl.text]) rfl ⟨_, rfl, gF, rfl, a + 1, false, far, kF _ _ HV8.out.rd, hat, ?_⟩
    rw [HO.out]
    exact ⟨rfl, by simp, rfl, rfl⟩
  · have j1 : ((a1 : Int) == (s.size : Int)) = false := by rw [beq_eq_false_iff_ne]; omega
    have j2 : (a1 : Int) < (s.size : Int) := by omega
    have j3 : decide (((s[a1]'hz).toNat : Int) < 48) = false := decide_eq_false (by omega)
    have j4 : decide ((57 : Int) < ((s[a1]'hz).toNat : Int)) = false := decide_eq_false (by omega)
    clear ha1
    have HT : Hid (∀ x : Nat, Calls Tryz.prog 90 #[.pointer (some ⟨rb, 0, none⟩), .string ⟨#[45]⟩] (w7.drewN x) fun e w'' => e = .returned (.bool true) ∧ ∃ n, w'' = w7.drewN n) := fun x => (HH7.out true hp (w7.drewN x) rfl).mono (fun _ _ h => ⟨h.1, h.2.elim fun n hn => ⟨_, hn.trans (World.drewN_drewN _ _ _)⟩⟩)
    go_quiet (exact HT.out _)
    have HV7 := Lib.hid (HV6.out.drewN nq)
    generalize w7.drewN nq = w8 at HV7 ⊢
    clear c0 c1
    have HO : Hid (o = rdNum (rs s a)) := by
      show _ = _
      rw [ho.out, hl, if_neg (by decide)]
    go_wp2_with fail
    refine (number_any rb s a far w8 HV7.out.rd ha hs HV7.out.en.pow).mono ?_
    rintro e w9 ⟨x, rfl, ho9⟩
    have HO9 := Lib.hid ho9
    have HK9 := Lib.hid (blk_gr HV7.out.bk ho9.gr (show w.heap.size ≠ rb by omega))
    have e9 := fun i => HK9.out.cell i
    have f9 := fun i => HK9.out.frozen i
    clear ho9
    unfold vN
    go_wp2_with fail
    obtain ⟨⟨r0, r1, r2, r3, r4⟩, hOut⟩ := HO9.out.via HV7.out.gr hrb HV7.out.bk _ rfl
    refine bodyPost_ret (v := vN x) (by simp [results, Tryz.results50, go_sem, r0, r1, r2, r3, r4, vN]) rfl ⟨_, rfl, ?_⟩
    rw [HO.out]
    exact hOut
end Go.Proofs.YtbdcimakdiegnaaGreatDoor
