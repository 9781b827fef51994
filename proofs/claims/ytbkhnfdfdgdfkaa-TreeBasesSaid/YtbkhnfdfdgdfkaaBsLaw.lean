/-
  DERIVED. The walk of florlaw1.TreeBases. Conditions: sizes. By an AI agent.
-/
import Derived.Test.YtbkhnfdfdgdfkaaBsTop3
import Derived.Test.YtbkhnfdfdgdfkaaBsEqB
import Derived.Test.YtbkhnfdfdgdfkaaBsEqR
import Derived.Test.YtbkhnfdfdgdfkaaBsBaseR
namespace Go.Proofs.Ytbkhnfdfdgdfkaa
open Go.RowKit

set_option maxHeartbeats 400000 in
theorem law1_any : IdCl 11 := fun x Kx Px nx cx mx ex P id w hP hc => by
  have hc' : ∀ o, (w.alloc o).cell? ⟨P, 0, none⟩ = some (.int .i64 id) := fun o => (World.cell?_alloc_lt _ _ _ hP).trans hc
  dsimp only [AB]
  go_enter Try.func11, Try.ntmps11
  go_wp2_with fail
  go_ret
  exact ⟨rfl, (Below.refl _ _).alloc (Nat.le_refl _) _⟩
section
variable {l : List Bl} {f : Int → Option Int} {id : Int}
theorem ciE_bad (h : baseE l f ≠ 0) : ciE l f id = baseE l f := if_pos h
theorem cinE_bad (h : baseE l f ≠ 0) : cinE l f id = baseE l f := by unfold cinE; rw [ciE_bad h, if_pos h]
end

/-- a region's operation taken first, its slot named -/
theorem take_at {P : Program} {md : Region.Mode} {ops : Array Oper} {Q : Exit → Act → World → Prop} {S : World → Prop} {i d : Nat} {oi : Oper} {v : Value} {fuel : Nat} {listed : Array Bool} {a : Act} {w : World} (hi : ops[i]? = some oi) (hd : oi.dst = some d)
    (hs : Region.noSelect ops = true) (hf : Region.free md ops listed i = true) (hr : (Region.ready md ops listed).contains i = true)
    (hQ : ∀ c a w, Q (.panic c) (a.put oi.dst v) w → Q (.panic c) a w) (hy : YieldsIf P ops S oi v a) (hS : S w)
    (h : wpAnyH P md ops Q S fuel (listed.setIfInBounds i true) { a with tmps := a.tmps.setIfInBounds d v } w) : wpAnyH P md ops Q S (fuel + 1) listed a w :=
  wpAnyH_take hi hs hf hr hQ hy hS (by rw [hd]; exact h)

set_option maxRecDepth 200000 in
set_option maxHeartbeats 16000000 in
/-- the law -/
theorem law_any (l m : List Bl) (f : Int → Option Int) (A A' : Option Addr) (n c n' c' : Nat) (id : Int) (hid : I64 id) (w : World) (B : Nat) (hB : B ≤ w.heap.size) (h1 : RB w B (.slice A n c) l) (h2 : RB w B (.slice A' n' c') m) (hf : DepOk l f) :
    Calls Try.prog 3 #[.slice A n c, .slice A' n' c', .int .i64 id] w fun e w' => e = .returned (.bool true) ∧ Below w.heap.size w w' := by
  obtain ⟨wb, hwb⟩ : ∃ wb, wb = w.alloc (.cells #[.int .i64 id] 3) := ⟨_, rfl⟩
  have hbb : Below w.heap.size w wb := by rw [hwb]; exact (Below.refl _ _).alloc (Nat.le_refl _) _
  have pid : Blk wb w.heap.size 3 #[.int .i64 id] := by rw [hwb]; exact Blk.new _ _ _
  have hzb : w.heap.size < wb.heap.size := pid.lt
  have H1 := Lib.hid ((h1.below (hbb.mono hB)).more (Nat.le_trans hB hbb.size))
  have H2 := Lib.hid ((h2.below (hbb.mono hB)).more (Nat.le_trans hB hbb.size))
  have HID := Lib.hid (show wb.cell? ⟨w.heap.size, 0, none⟩ = some (.int .i64 id) from pid.cell 0)
  have HBB := Lib.hid hbb
  have HWB := Lib.hid hwb
  have HF := Lib.hid hf
  clear h1 h2 hbb pid hwb hf
  -- the contracts, at whatever later world
  have C1 := Lib.hid fun W (hW : Below wb.heap.size wb W) => baseError_any l f A n c W wb.heap.size hW.size (H1.out.below hW) HF.out
  have C2 := Lib.hid fun W (hW : Below wb.heap.size wb W) => treeCheck_any l f A n c W wb.heap.size hW.size (H1.out.below hW) HF.out
  have C3 := Lib.hid fun W (hW : Below wb.heap.size wb W) => same_any l m A A' n c n' c' W wb.heap.size hW.size (H1.out.below hW) (H2.out.below hW)
  have C4 := Lib.hid fun W (hW : Below wb.heap.size wb W) => sameBase_any l m A A' n c n' c' W wb.heap.size hW.size (H1.out.below hW) (H2.out.below hW)
  have C5 := fun W (hW : Below wb.heap.size wb W) => same_any l l A A n c n c W wb.heap.size hW.size (H1.out.below hW) (H1.out.below hW)
  rw [sameBs_refl] at C5
  have C5 := Lib.hid C5
  have C6 := Lib.hid fun W (hW : Below wb.heap.size wb W) => get_any l A n c id W wb.heap.size hW.size (H1.out.below hW)
  have C7 := Lib.hid fun W (hW : Below wb.heap.size wb W) => indexF_any 11 law1_any (enters_of Try.func11 (by kernel_rfl) rfl) l A n c w.heap.size id W wb.heap.size hW.size (Nat.lt_of_lt_of_le hzb hW.size) ((hW.cell (p := ⟨w.heap.size, 0, none⟩) hzb).trans HID.out) (H1.out.below hW)
  have C8 := Lib.hid fun W (hW : Below wb.heap.size wb W) => depth_any l f A n c id hid W wb.heap.size hW.size (H1.out.below hW) HF.out
  have C9 := Lib.hid fun W (hW : Below wb.heap.size wb W) => treePath_any l f A n c id hid W wb.heap.size hW.size (H1.out.below hW) HF.out
  have C10 := Lib.hid fun W (hW : Below wb.heap.size wb W) => treeBel_any l f A n c id hid W wb.heap.size hW.size (H1.out.below hW) HF.out
  have C11 := Lib.hid fun W (hW : Below wb.heap.size wb W) => pageOf_any l f A n c id hid W wb.heap.size hW.size (H1.out.below hW) HF.out
  have C12 := Lib.hid fun W (hW : Below wb.heap.size wb W) => pages_any l f A n c W wb.heap.size hW.size (H1.out.below hW) HF.out
  have C13 := Lib.hid fun W (hW : Below wb.heap.size wb W) => order_any l f A n c W wb.heap.size hW.size (H1.out.below hW) HF.out
  have C14 := Lib.hid fun W (hW : Below wb.heap.size wb W) => nextId2_any l f A n c W wb.heap.size hW.size (H1.out.below hW) HF.out
  obtain ⟨E, hE⟩ : ∃ E, E = baseE l f := ⟨_, rfl⟩
  rw [← hE] at C1 C2
  have HE := Lib.hid hE
  clear hE
  obtain ⟨sm, hsm⟩ : ∃ sm, sm = sameBs l m := ⟨_, rfl⟩
  rw [← hsm] at C3 C4
  clear hsm
  go_enter Try.func3, Try.ntmps3
  go_upto_region 1 with fail
  rw [← HWB.out]
  have X1 := Lib.hid (C1.out wb (Below.refl _ _))
  go_wp2_with fail
  refine X1.out.mono ?_
  rintro e w1 ⟨rfl, hb1⟩
  have B1 := Lib.hid hb1
  have X2 := Lib.hid (C2.out w1 B1.out)
  clear hb1
  go_wp2_with fail
  refine X2.out.mono ?_
  rintro e w2 ⟨rfl, hb⟩
  have B2 : Hid (Below wb.heap.size wb w2) := B1.out.trans (hb.mono B1.out.size)
  have X3 := Lib.hid (C3.out w2 B2.out)
  clear hb
  go_wp2_with fail
  refine X3.out.mono ?_
  rintro e w3 ⟨rfl, hb⟩
  have B3 : Hid (Below wb.heap.size wb w3) := B2.out.trans (hb.mono B2.out.size)
  have X4 := Lib.hid (C4.out w3 B3.out)
  clear hb
  go_wp2_with fail
  refine X4.out.mono ?_
  rintro e w4 ⟨rfl, hb⟩
  have B4 : Hid (Below wb.heap.size wb w4) := B3.out.trans (hb.mono B3.out.size)
  have X5 := Lib.hid (C5.out w4 B4.out)
  clear hb
  have hne : (sm != sm) = false := by cases sm <;> rfl
  go_wp2_with fail
  refine X5.out.mono ?_
  rintro e w5 ⟨rfl, hb⟩
  have B5 : Hid (Below wb.heap.size wb w5) := B4.out.trans (hb.mono B4.out.size)
  have X6 := Lib.hid (empty_any w5)
  clear hb
  go_wp2_with fail
  refine X6.out.mono ?_
  rintro e w6 ⟨rfl, hw6⟩
  have B6 : Hid (Below wb.heap.size wb w6) := by rw [hw6]; exact B5.out.alloc B5.out.size _
  have R6 : Hid (RB w6 (w5.heap.size + 1) (.slice (some ⟨w5.heap.size, 0, none⟩) 1 1) [zB]) := by rw [hw6]; exact empty_row w5
  have z6 : w6.heap.size = w5.heap.size + 1 := by rw [hw6]; simp
  have Z6 := Lib.hid z6
  clear hw6 z6
  have X7 := Lib.hid (same_any [zB] [zB] (some ⟨w5.heap.size, 0, none⟩) (some ⟨w6.heap.size, 0, none⟩) 1 1 1 1 (w6.alloc (.cells #[.int .i64 0, .int .i64 0, .slice none 0 0, .string ⟨#[]⟩, .slice none 0 0] 30)) (w6.heap.size + 1) (by simp) ((R6.out.below (((Below.refl _ w6).alloc (by have := Z6.out; omega) _))).more (by have := Z6.out; omega)) (empty_row w6))
  rw [sameBs_refl] at X7
  go_wp2_with fail
  refine X7.out.mono ?_
  rintro e w7 ⟨rfl, hb⟩
  have B7 : Hid (Below wb.heap.size wb w7) := (B6.out.alloc B6.out.size (.cells #[.int .i64 0, .int .i64 0, .slice none 0 0, .string ⟨#[]⟩, .slice none 0 0] 30)).trans (hb.mono (by have := B6.out.size; simp; omega))
  have c7 := (B7.out.cell (p := ⟨w.heap.size, 0, none⟩) hzb).trans HID.out
  have X8 := Lib.hid (C6.out w7 B7.out)
  clear hb
  go_wp2_with fail
  refine X8.out.mono ?_
  rintro e w8 ⟨⟨Kx, nx, cx, Px, mx, ex, rfl, hrk, hrp⟩, hb⟩
  obtain ⟨gb, hgb⟩ : ∃ gb, gb = getB l id := ⟨_, rfl⟩
  rw [← hgb] at hrk hrp ⊢
  have HGB := Lib.hid hgb
  dsimp only [AB]
  have B8 : Hid (Below wb.heap.size wb w8) := B7.out.trans (hb.mono B7.out.size)
  have RK8 := Lib.hid (hrk.reads (B := w8.heap.size) fun b hb => hb.2)
  have RP8 := Lib.hid (hrp.reads (B := w8.heap.size) fun b hb => hb.2)
  obtain ⟨wk, hwk⟩ : ∃ wk, wk = w8.alloc (.cells #[.int .i64 gb.id, .int .i64 gb.parent, .slice Kx nx cx, .string gb.text, .slice Px mx ex] 30) := ⟨_, rfl⟩
  have hbk : Below w8.heap.size w8 wk := by rw [hwk]; exact (Below.refl _ _).alloc (Nat.le_refl _) _
  have pbk : Blk wk w8.heap.size 30 #[.int .i64 gb.id, .int .i64 gb.parent, .slice Kx nx cx, .string gb.text, .slice Px mx ex] := by rw [hwk]; exact Blk.new _ _ _
  have B9 : Hid (Below wb.heap.size wb wk) := B8.out.trans (hbk.mono B8.out.size)
  have BK9 := Lib.hid pbk
  have RK9 := Lib.hid (RK8.out.below hbk)
  have RP9 := Lib.hid (RP8.out.below hbk)
  have zk : w8.heap.size < wk.heap.size := pbk.lt
  have ZK := Lib.hid zk
  have HWK := Lib.hid hwk
  have X9 := C7.out wk B9.out
  obtain ⟨k, hk⟩ : ∃ k, k = posOf l id := ⟨_, rfl⟩
  rw [← hk] at X9 ⊢
  have X9 := Lib.hid X9
  have HK := Lib.hid hk
  clear hb hrk hrp hgb hwk hbk pbk zk hk c7
  go_upto_region 5 with fail
  rw [← HWK.out]
  go_wp2_with fail
  refine X9.out.mono ?_
  rintro e w9 ⟨rfl, hb⟩
  have B10 : Hid (Below wb.heap.size wb w9) := B9.out.trans (hb.mono B9.out.size)
  have BK10 := Lib.hid (BK9.out.below hb ZK.out)
  have RK10 := Lib.hid (RK9.out.below (hb.mono (Nat.le_of_lt ZK.out)))
  have RP10 := Lib.hid (RP9.out.below (hb.mono (Nat.le_of_lt ZK.out)))
  have z9 : w8.heap.size < w9.heap.size := Nat.lt_of_lt_of_le ZK.out hb.size
  have e0 : w9.cell? ⟨w8.heap.size, 0, none⟩ = some (.int .i64 gb.id) := BK10.out.cell 0
  have e1 : w9.cell? ⟨w8.heap.size, 1, none⟩ = some (.int .i64 gb.parent) := BK10.out.cell 1
  have e2 : w9.cell? ⟨w8.heap.size, 2, none⟩ = some (.slice Kx nx cx) := BK10.out.cell 2
  have e3 : w9.cell? ⟨w8.heap.size, 3, none⟩ = some (.string gb.text) := BK10.out.cell 3
  have e4 : w9.cell? ⟨w8.heap.size, 4, none⟩ = some (.slice Px mx ex) := BK10.out.cell 4
  have HL1 := Lib.hid H1.out.len
  clear hb
  go_upto_region 6 with fail
  go_cut [82] (fun s82 wc => s82 = .bool false ∧ Hid (Below w9.heap.size w9 wc))
  case first =>
    rcases posOf_spec l id with ⟨hp, hq1⟩ | ⟨p, x, hp, hlp, hq1, hq2⟩
    · clear hq1
      have hkp : k = -1 := HK.out.trans hp
      have hg : gb = zB := by rw [HGB.out]; exact if_pos (by omega)
      subst hkp hg
      have HS := Lib.hid fun W (hW : Below w9.heap.size w9 W) => sameBlock_any zB zB Kx Px none none nx cx mx ex 0 0 0 0 W w8.heap.size (Nat.le_trans (Nat.le_of_lt z9) hW.size) (RK10.out.below (hW.mono (Nat.le_of_lt z9))) (RP10.out.below (hW.mono (Nat.le_of_lt z9))) ((RInX.nil W (fun _ => False)).reads (fun _ h => h.elim)) ((RPrX.nil W (fun _ => False)).reads (fun _ h => h.elim))
      rw [sameB_refl] at HS
      clear hp
      dsimp only [AB, zB] at HS e0 e1 e2 e3 e4 ⊢
      rw [show decide ((0 : Int) ≤ -1) = false from by decide]
      refine wp_region_held_drew (S := (fun w' => w'.cell? ⟨w8.heap.size, 0, none⟩ = some (.int .i64 0) ∧ w'.cell? ⟨w8.heap.size, 1, none⟩ = some (.int .i64 0) ∧ w'.cell? ⟨w8.heap.size, 2, none⟩ = some (.slice Kx nx cx) ∧ w'.cell? ⟨w8.heap.size, 3, none⟩ = some (.string ⟨#[]⟩) ∧ w'.cell? ⟨w8.heap.size, 4, none⟩ = some (.slice Px mx ex))) (by kernel_rfl) ?_ (fun hHeld => ?_)
      · (try dsimp only); exact ⟨e0, e1, e2, e3, e4⟩
      refine take_at (i := 0) (v := ?v0) (d := 57) rfl (by kernel_rfl) (by kernel_rfl) (by kernel_rfl) (by kernel_rfl) (fun _ _ _ h => h) (Or.inl ⟨by kernel_rfl, ?y0⟩) (by assumption) ?z0
      case y0 => intro w hSw; (try dsimp only at hSw); go_simp; try with_reducible rfl
      try simp only [Act.put, List.setIfInBounds_toArray, List.set_cons_zero, List.set_cons_succ]
      refine take_at (i := 1) (v := ?v1) (d := 58) rfl (by kernel_rfl) (by kernel_rfl) (by kernel_rfl) (by kernel_rfl) (fun _ _ _ h => h) (Or.inl ⟨by kernel_rfl, ?y1⟩) (by assumption) ?z1
      case y1 => intro w hSw; (try dsimp only at hSw); go_simp; try with_reducible rfl
      try simp only [Act.put, List.setIfInBounds_toArray, List.set_cons_zero, List.set_cons_succ]
      refine take_at (i := 2) (v := ?v2) (d := 59) rfl (by kernel_rfl) (by kernel_rfl) (by kernel_rfl) (by kernel_rfl) (fun _ _ _ h => h) (Or.inl ⟨by kernel_rfl, ?y2⟩) (by assumption) ?z2
      case y2 => intro w hSw; (try dsimp only at hSw); go_simp; try with_reducible rfl
      try simp only [Act.put, List.setIfInBounds_toArray, List.set_cons_zero, List.set_cons_succ]
      refine take_at (i := 3) (v := ?v3) (d := 60) rfl (by kernel_rfl) (by kernel_rfl) (by kernel_rfl) (by kernel_rfl) (fun _ _ _ h => h) (Or.inl ⟨by kernel_rfl, ?y3⟩) (by assumption) ?z3
      case y3 => intro w hSw; (try dsimp only at hSw); go_simp; try with_reducible rfl
      try simp only [Act.put, List.setIfInBounds_toArray, List.set_cons_zero, List.set_cons_succ]
      refine take_at (i := 4) (v := ?v4) (d := 61) rfl (by kernel_rfl) (by kernel_rfl) (by kernel_rfl) (by kernel_rfl) (fun _ _ _ h => h) (Or.inl ⟨by kernel_rfl, ?y4⟩) (by assumption) ?z4
      case y4 => intro w hSw; (try dsimp only at hSw); go_simp; try with_reducible rfl
      try simp only [Act.put, List.setIfInBounds_toArray, List.set_cons_zero, List.set_cons_succ]
      refine take_at (i := 5) (v := ?v5) (d := 62) rfl (by kernel_rfl) (by kernel_rfl) (by kernel_rfl) (by kernel_rfl) (fun _ _ _ h => h) (Or.inl ⟨by kernel_rfl, ?y5⟩) (by assumption) ?z5
      case y5 => intro w hSw; (try dsimp only at hSw); go_simp; try with_reducible rfl
      try simp only [Act.put, List.setIfInBounds_toArray, List.set_cons_zero, List.set_cons_succ]
      refine take_at (i := 6) (v := ?v6) (d := 63) rfl (by kernel_rfl) (by kernel_rfl) (by kernel_rfl) (by kernel_rfl) (fun _ _ _ h => h) (Or.inl ⟨by kernel_rfl, ?y6⟩) (by assumption) ?z6
      case y6 => intro w hSw; (try dsimp only at hSw); go_simp; try with_reducible rfl
      try simp only [Act.put, List.setIfInBounds_toArray, List.set_cons_zero, List.set_cons_succ]
      refine take_at (i := 7) (v := undef) (d := 64) rfl (by kernel_rfl) (by kernel_rfl) (by kernel_rfl) (by kernel_rfl) (fun _ _ _ h => h) (Or.inr ⟨by kernel_rfl, rfl⟩) (by assumption) ?_
      try simp only [Act.put, List.setIfInBounds_toArray, List.set_cons_zero, List.set_cons_succ]
      refine take_at (i := 8) (v := undef) (d := 65) rfl (by kernel_rfl) (by kernel_rfl) (by kernel_rfl) (by kernel_rfl) (fun _ _ _ h => h) (Or.inr ⟨by kernel_rfl, rfl⟩) (by assumption) ?_
      try simp only [Act.put, List.setIfInBounds_toArray, List.set_cons_zero, List.set_cons_succ]
      refine take_at (i := 9) (v := undef) (d := 66) rfl (by kernel_rfl) (by kernel_rfl) (by kernel_rfl) (by kernel_rfl) (fun _ _ _ h => h) (Or.inr ⟨by kernel_rfl, rfl⟩) (by assumption) ?_
      try simp only [Act.put, List.setIfInBounds_toArray, List.set_cons_zero, List.set_cons_succ]
      refine take_at (i := 10) (v := undef) (d := 67) rfl (by kernel_rfl) (by kernel_rfl) (by kernel_rfl) (by kernel_rfl) (fun _ _ _ h => h) (Or.inr ⟨by kernel_rfl, rfl⟩) (by assumption) ?_
      try simp only [Act.put, List.setIfInBounds_toArray, List.set_cons_zero, List.set_cons_succ]
      refine take_at (i := 11) (v := undef) (d := 68) rfl (by kernel_rfl) (by kernel_rfl) (by kernel_rfl) (by kernel_rfl) (fun _ _ _ h => h) (Or.inr ⟨by kernel_rfl, rfl⟩) (by assumption) ?_
      try simp only [Act.put, List.setIfInBounds_toArray, List.set_cons_zero, List.set_cons_succ]
      refine take_at (i := 12) (v := undef) (d := 69) rfl (by kernel_rfl) (by kernel_rfl) (by kernel_rfl) (by kernel_rfl) (fun _ _ _ h => h) (Or.inr ⟨by kernel_rfl, rfl⟩) (by assumption) ?_
      try simp only [Act.put, List.setIfInBounds_toArray, List.set_cons_zero, List.set_cons_succ]
      refine take_at (i := 13) (v := undef) (d := 70) rfl (by kernel_rfl) (by kernel_rfl) (by kernel_rfl) (by kernel_rfl) (fun _ _ _ h => h) (Or.inr ⟨by kernel_rfl, rfl⟩) (by assumption) ?_
      try simp only [Act.put, List.setIfInBounds_toArray, List.set_cons_zero, List.set_cons_succ]
      refine take_at (i := 14) (v := ?v14) (d := 71) rfl (by kernel_rfl) (by kernel_rfl) (by kernel_rfl) (by kernel_rfl) (fun _ _ _ h => h) (Or.inl ⟨by kernel_rfl, ?y14⟩) (by assumption) ?z14
      case y14 => intro w hSw; (try dsimp only at hSw); go_simp; try with_reducible rfl
      try simp only [Act.put, List.setIfInBounds_toArray, List.set_cons_zero, List.set_cons_succ]
      refine take_at (i := 15) (v := ?v15) (d := 72) rfl (by kernel_rfl) (by kernel_rfl) (by kernel_rfl) (by kernel_rfl) (fun _ _ _ h => h) (Or.inl ⟨by kernel_rfl, ?y15⟩) (by assumption) ?z15
      case y15 => intro w hSw; (try dsimp only at hSw); go_simp; try with_reducible rfl
      try simp only [Act.put, List.setIfInBounds_toArray, List.set_cons_zero, List.set_cons_succ]
      refine take_at (i := 16) (v := ?v16) (d := 73) rfl (by kernel_rfl) (by kernel_rfl) (by kernel_rfl) (by kernel_rfl) (fun _ _ _ h => h) (Or.inl ⟨by kernel_rfl, ?y16⟩) (by assumption) ?z16
      case y16 => intro w hSw; (try dsimp only at hSw); go_simp; try with_reducible rfl
      try simp only [Act.put, List.setIfInBounds_toArray, List.set_cons_zero, List.set_cons_succ]
      refine take_at (i := 17) (v := ?v17) (d := 74) rfl (by kernel_rfl) (by kernel_rfl) (by kernel_rfl) (by kernel_rfl) (fun _ _ _ h => h) (Or.inl ⟨by kernel_rfl, ?y17⟩) (by assumption) ?z17
      case y17 => intro w hSw; (try dsimp only at hSw); go_simp; try with_reducible rfl
      try simp only [Act.put, List.setIfInBounds_toArray, List.set_cons_zero, List.set_cons_succ]
      refine take_at (i := 18) (v := ?v18) (d := 75) rfl (by kernel_rfl) (by kernel_rfl) (by kernel_rfl) (by kernel_rfl) (fun _ _ _ h => h) (Or.inl ⟨by kernel_rfl, ?y18⟩) (by assumption) ?z18
      case y18 => intro w hSw; (try dsimp only at hSw); go_simp; try with_reducible rfl
      try simp only [Act.put, List.setIfInBounds_toArray, List.set_cons_zero, List.set_cons_succ]
      refine take_at (i := 19) (v := ?v19) (d := 76) rfl (by kernel_rfl) (by kernel_rfl) (by kernel_rfl) (by kernel_rfl) (fun _ _ _ h => h) (Or.inl ⟨by kernel_rfl, ?y19⟩) (by assumption) ?z19
      case y19 => intro w hSw; (try dsimp only at hSw); go_simp; try with_reducible rfl
      try simp only [Act.put, List.setIfInBounds_toArray, List.set_cons_zero, List.set_cons_succ]
      refine take_at (i := 20) (v := ?v20) (d := 77) rfl (by kernel_rfl) (by kernel_rfl) (by kernel_rfl) (by kernel_rfl) (fun _ _ _ h => h) (Or.inl ⟨by kernel_rfl, ?y20⟩) (by assumption) ?z20
      case y20 => intro w hSw; (try dsimp only at hSw); go_simp; try with_reducible rfl
      try simp only [Act.put, List.setIfInBounds_toArray, List.set_cons_zero, List.set_cons_succ]
      refine take_at (i := 21) (v := ?v21) (d := 78) rfl (by kernel_rfl) (by kernel_rfl) (by kernel_rfl) (by kernel_rfl) (fun _ _ _ h => h) (Or.inl ⟨by kernel_rfl, ?y21⟩) (by assumption) ?z21
      case y21 => intro w hSw; (try dsimp only at hSw); go_simp; try with_reducible rfl
      try simp only [Act.put, List.setIfInBounds_toArray, List.set_cons_zero, List.set_cons_succ]
      refine wpAnyH_ready (rs := [22]) (by kernel_rfl) (by simp) ?_
      refine AllReadyH.cons rfl (fun K hK => ?_) AllReadyH.nil
      go_simp
      refine (HS.out _ (Below.refl _ _).drew).mono ?_
      rintro e wz ⟨rfl, hbz⟩
      have hbz : Below w9.heap.size w9 wz := (Below.refl w9.heap.size w9).drew.trans hbz
      have kp : ∀ (bb oo : Nat) (u : Value), bb < w9.heap.size → w9.cell? ⟨bb, oo, none⟩ = some u → wz.cell? ⟨bb, oo, none⟩ = some u := fun bb oo u h1 h2 => (hbz.cell (p := ⟨bb, oo, none⟩) h1).trans h2
      have HBZ := Lib.hid hbz
      clear hbz
      try go_simp
      refine hK.out _ _ (⟨kp _ _ _ z9 e0, kp _ _ _ z9 e1, kp _ _ _ z9 e2, kp _ _ _ z9 e3, kp _ _ _ z9 e4⟩) (fun hHeld2 => ?_)
      clear hK K hHeld
      try simp only [Act.put, List.setIfInBounds_toArray, List.set_cons_zero, List.set_cons_succ]
      refine take_at (i := 23) (v := ?v23) (d := 80) rfl (by kernel_rfl) (by kernel_rfl) (by kernel_rfl) (by kernel_rfl) (fun _ _ _ h => h) (Or.inl ⟨by kernel_rfl, ?y23⟩) (by assumption) ?z23
      case y23 => intro w hSw; (try dsimp only at hSw); go_simp; try with_reducible rfl
      try simp only [Act.put, List.setIfInBounds_toArray, List.set_cons_zero, List.set_cons_succ]
      refine take_at (i := 24) (v := ?v24) (d := 81) rfl (by kernel_rfl) (by kernel_rfl) (by kernel_rfl) (by kernel_rfl) (fun _ _ _ h => h) (Or.inl ⟨by kernel_rfl, ?y24⟩) (by assumption) ?z24
      case y24 => intro w hSw; (try dsimp only at hSw); go_simp; try with_reducible rfl
      try simp only [Act.put, List.setIfInBounds_toArray, List.set_cons_zero, List.set_cons_succ]
      refine take_at (i := 25) (v := ?v25) (d := 82) rfl (by kernel_rfl) (by kernel_rfl) (by kernel_rfl) (by kernel_rfl) (fun _ _ _ h => h) (Or.inl ⟨by kernel_rfl, ?y25⟩) (by assumption) ?z25
      case y25 => intro w hSw; (try dsimp only at hSw); go_simp; try with_reducible rfl
      try simp only [Act.put, List.setIfInBounds_toArray, List.set_cons_zero, List.set_cons_succ]
      refine wpAnyH_done (by kernel_rfl) ?_ _
      clear kp
      go_wp2_with fail
      go_meet
      exact ⟨rfl, HBZ⟩
    · clear hq1 hq2
      have hkp : k = (p : Int) := HK.out.trans hp
      have hg : gb = x := by rw [HGB.out]; unfold getB; rw [if_neg (by omega), hp, Int.toNat_natCast, hlp]; rfl
      subst hkp hg
      have hpn : p < n := by have := (List.getElem?_eq_some_iff.1 hlp).1; have := HL1.out.1; omega
      obtain ⟨b, off, Ak, nk, ck, Ap, np, cp, rfl, hbb, g0, g1, g2, g3, g4, hKi, hPr⟩ := (H1.out.below B10.out).at_ hlp
      have HS := fun W (hW : Below w9.heap.size w9 W) => sameBlock_any gb gb Kx Px Ak Ap nx cx mx ex nk ck np cp W w9.heap.size hW.size ((RK10.out.below (hW.mono (Nat.le_of_lt z9))).more (Nat.le_of_lt z9)) ((RP10.out.below (hW.mono (Nat.le_of_lt z9))).more (Nat.le_of_lt z9)) ((hKi.below (hW.mono B10.out.size)).more B10.out.size) ((hPr.below (hW.mono B10.out.size)).more B10.out.size)
      rw [sameB_refl] at HS
      have HS := Lib.hid HS
      have y0 : (0 : Int) ≤ (p : Int) := by omega
      have y1 : (p : Int) < (n : Int) := by omega
      have hb9 : b < w9.heap.size := Nat.lt_of_lt_of_le hbb B10.out.size
      clear hp hlp hKi hPr
      dsimp only [AB] at HS
      rw [decide_eq_true y0]
      refine wp_region_held_drew (S := (fun w' => w'.cell? ⟨w8.heap.size, 0, none⟩ = some (.int .i64 gb.id) ∧ w'.cell? ⟨w8.heap.size, 1, none⟩ = some (.int .i64 gb.parent) ∧ w'.cell? ⟨w8.heap.size, 2, none⟩ = some (.slice Kx nx cx) ∧ w'.cell? ⟨w8.heap.size, 3, none⟩ = some (.string gb.text) ∧ w'.cell? ⟨w8.heap.size, 4, none⟩ = some (.slice Px mx ex) ∧ w'.cell? ⟨b, off + p * 5, none⟩ = some (.int .i64 gb.id) ∧ w'.cell? ⟨b, off + p * 5 + 1, none⟩ = some (.int .i64 gb.parent) ∧ w'.cell? ⟨b, off + p * 5 + 2, none⟩ = some (.slice Ak nk ck) ∧ w'.cell? ⟨b, off + p * 5 + 3, none⟩ = some (.string gb.text) ∧ w'.cell? ⟨b, off + p * 5 + 4, none⟩ = some (.slice Ap np cp))) (by kernel_rfl) ?_ (fun hHeld => ?_)
      · (try dsimp only); exact ⟨e0, e1, e2, e3, e4, g0, g1, g2, g3, g4⟩
      refine take_at (i := 0) (v := ?vp0) (d := 57) rfl (by kernel_rfl) (by kernel_rfl) (by kernel_rfl) (by kernel_rfl) (fun _ _ _ h => h) (Or.inl ⟨by kernel_rfl, ?yp0⟩) (by assumption) ?zp0
      case yp0 => intro w hSw; (try dsimp only at hSw); go_simp; try with_reducible rfl
      try simp only [Act.put, List.setIfInBounds_toArray, List.set_cons_zero, List.set_cons_succ]
      refine take_at (i := 1) (v := ?vp1) (d := 58) rfl (by kernel_rfl) (by kernel_rfl) (by kernel_rfl) (by kernel_rfl) (fun _ _ _ h => h) (Or.inl ⟨by kernel_rfl, ?yp1⟩) (by assumption) ?zp1
      case yp1 => intro w hSw; (try dsimp only at hSw); go_simp; try with_reducible rfl
      try simp only [Act.put, List.setIfInBounds_toArray, List.set_cons_zero, List.set_cons_succ]
      refine take_at (i := 2) (v := ?vp2) (d := 59) rfl (by kernel_rfl) (by kernel_rfl) (by kernel_rfl) (by kernel_rfl) (fun _ _ _ h => h) (Or.inl ⟨by kernel_rfl, ?yp2⟩) (by assumption) ?zp2
      case yp2 => intro w hSw; (try dsimp only at hSw); go_simp; try with_reducible rfl
      try simp only [Act.put, List.setIfInBounds_toArray, List.set_cons_zero, List.set_cons_succ]
      refine take_at (i := 3) (v := ?vp3) (d := 60) rfl (by kernel_rfl) (by kernel_rfl) (by kernel_rfl) (by kernel_rfl) (fun _ _ _ h => h) (Or.inl ⟨by kernel_rfl, ?yp3⟩) (by assumption) ?zp3
      case yp3 => intro w hSw; (try dsimp only at hSw); go_simp; try with_reducible rfl
      try simp only [Act.put, List.setIfInBounds_toArray, List.set_cons_zero, List.set_cons_succ]
      refine take_at (i := 4) (v := ?vp4) (d := 61) rfl (by kernel_rfl) (by kernel_rfl) (by kernel_rfl) (by kernel_rfl) (fun _ _ _ h => h) (Or.inl ⟨by kernel_rfl, ?yp4⟩) (by assumption) ?zp4
      case yp4 => intro w hSw; (try dsimp only at hSw); go_simp; try with_reducible rfl
      try simp only [Act.put, List.setIfInBounds_toArray, List.set_cons_zero, List.set_cons_succ]
      refine take_at (i := 5) (v := ?vp5) (d := 62) rfl (by kernel_rfl) (by kernel_rfl) (by kernel_rfl) (by kernel_rfl) (fun _ _ _ h => h) (Or.inl ⟨by kernel_rfl, ?yp5⟩) (by assumption) ?zp5
      case yp5 => intro w hSw; (try dsimp only at hSw); go_simp; try with_reducible rfl
      try simp only [Act.put, List.setIfInBounds_toArray, List.set_cons_zero, List.set_cons_succ]
      refine take_at (i := 6) (v := ?vp6) (d := 63) rfl (by kernel_rfl) (by kernel_rfl) (by kernel_rfl) (by kernel_rfl) (fun _ _ _ h => h) (Or.inl ⟨by kernel_rfl, ?yp6⟩) (by assumption) ?zp6
      case yp6 => intro w hSw; (try dsimp only at hSw); go_simp; try with_reducible rfl
      try simp only [Act.put, List.setIfInBounds_toArray, List.set_cons_zero, List.set_cons_succ]
      refine take_at (i := 7) (v := ?vp7) (d := 64) rfl (by kernel_rfl) (by kernel_rfl) (by kernel_rfl) (by kernel_rfl) (fun _ _ _ h => h) (Or.inl ⟨by kernel_rfl, ?yp7⟩) (by assumption) ?zp7
      case yp7 => intro w hSw; (try dsimp only at hSw); go_simp; try with_reducible rfl
      try simp only [Act.put, List.setIfInBounds_toArray, List.set_cons_zero, List.set_cons_succ]
      refine take_at (i := 8) (v := ?vp8) (d := 65) rfl (by kernel_rfl) (by kernel_rfl) (by kernel_rfl) (by kernel_rfl) (fun _ _ _ h => h) (Or.inl ⟨by kernel_rfl, ?yp8⟩) (by assumption) ?zp8
      case yp8 => intro w hSw; (try dsimp only at hSw); go_simp; try with_reducible rfl
      try simp only [Act.put, List.setIfInBounds_toArray, List.set_cons_zero, List.set_cons_succ]
      refine take_at (i := 9) (v := ?vp9) (d := 66) rfl (by kernel_rfl) (by kernel_rfl) (by kernel_rfl) (by kernel_rfl) (fun _ _ _ h => h) (Or.inl ⟨by kernel_rfl, ?yp9⟩) (by assumption) ?zp9
      case yp9 => intro w hSw; (try dsimp only at hSw); go_simp; try with_reducible rfl
      try simp only [Act.put, List.setIfInBounds_toArray, List.set_cons_zero, List.set_cons_succ]
      refine take_at (i := 10) (v := ?vp10) (d := 67) rfl (by kernel_rfl) (by kernel_rfl) (by kernel_rfl) (by kernel_rfl) (fun _ _ _ h => h) (Or.inl ⟨by kernel_rfl, ?yp10⟩) (by assumption) ?zp10
      case yp10 => intro w hSw; (try dsimp only at hSw); go_simp; try with_reducible rfl
      try simp only [Act.put, List.setIfInBounds_toArray, List.set_cons_zero, List.set_cons_succ]
      refine take_at (i := 11) (v := ?vp11) (d := 68) rfl (by kernel_rfl) (by kernel_rfl) (by kernel_rfl) (by kernel_rfl) (fun _ _ _ h => h) (Or.inl ⟨by kernel_rfl, ?yp11⟩) (by assumption) ?zp11
      case yp11 => intro w hSw; (try dsimp only at hSw); go_simp; try with_reducible rfl
      try simp only [Act.put, List.setIfInBounds_toArray, List.set_cons_zero, List.set_cons_succ]
      refine wpAnyH_ready (rs := [12]) (by kernel_rfl) (by simp) ?_
      refine AllReadyH.cons rfl (fun K hK => ?_) AllReadyH.nil
      go_simp
      refine (HS.out _ (Below.refl _ _).drew).mono ?_
      rintro e wz ⟨rfl, hbz⟩
      have hbz : Below w9.heap.size w9 wz := (Below.refl w9.heap.size w9).drew.trans hbz
      have kp : ∀ (bb oo : Nat) (u : Value), bb < w9.heap.size → w9.cell? ⟨bb, oo, none⟩ = some u → wz.cell? ⟨bb, oo, none⟩ = some u := fun bb oo u h1 h2 => (hbz.cell (p := ⟨bb, oo, none⟩) h1).trans h2
      have HBZ := Lib.hid hbz
      clear hbz
      try go_simp
      refine hK.out _ _ (⟨kp _ _ _ z9 e0, kp _ _ _ z9 e1, kp _ _ _ z9 e2, kp _ _ _ z9 e3, kp _ _ _ z9 e4, kp _ _ _ hb9 g0, kp _ _ _ hb9 g1, kp _ _ _ hb9 g2, kp _ _ _ hb9 g3, kp _ _ _ hb9 g4⟩) (fun hHeld2 => ?_)
      clear hK K hHeld
      try simp only [Act.put, List.setIfInBounds_toArray, List.set_cons_zero, List.set_cons_succ]
      refine take_at (i := 13) (v := ?vp13) (d := 70) rfl (by kernel_rfl) (by kernel_rfl) (by kernel_rfl) (by kernel_rfl) (fun _ _ _ h => h) (Or.inl ⟨by kernel_rfl, ?yp13⟩) (by assumption) ?zp13
      case yp13 => intro w hSw; (try dsimp only at hSw); go_simp; try with_reducible rfl
      try simp only [Act.put, List.setIfInBounds_toArray, List.set_cons_zero, List.set_cons_succ]
      refine take_at (i := 14) (v := ?vp14) (d := 71) rfl (by kernel_rfl) (by kernel_rfl) (by kernel_rfl) (by kernel_rfl) (fun _ _ _ h => h) (Or.inl ⟨by kernel_rfl, ?yp14⟩) (by assumption) ?zp14
      case yp14 => intro w hSw; (try dsimp only at hSw); go_simp; try with_reducible rfl
      try simp only [Act.put, List.setIfInBounds_toArray, List.set_cons_zero, List.set_cons_succ]
      refine take_at (i := 15) (v := ?vp15) (d := 72) rfl (by kernel_rfl) (by kernel_rfl) (by kernel_rfl) (by kernel_rfl) (fun _ _ _ h => h) (Or.inl ⟨by kernel_rfl, ?yp15⟩) (by assumption) ?zp15
      case yp15 => intro w hSw; (try dsimp only at hSw); go_simp; try with_reducible rfl
      try simp only [Act.put, List.setIfInBounds_toArray, List.set_cons_zero, List.set_cons_succ]
      refine take_at (i := 16) (v := ?vp16) (d := 73) rfl (by kernel_rfl) (by kernel_rfl) (by kernel_rfl) (by kernel_rfl) (fun _ _ _ h => h) (Or.inl ⟨by kernel_rfl, ?yp16⟩) (by assumption) ?zp16
      case yp16 => intro w hSw; (try dsimp only at hSw); go_simp; try with_reducible rfl
      try simp only [Act.put, List.setIfInBounds_toArray, List.set_cons_zero, List.set_cons_succ]
      refine take_at (i := 17) (v := ?vp17) (d := 74) rfl (by kernel_rfl) (by kernel_rfl) (by kernel_rfl) (by kernel_rfl) (fun _ _ _ h => h) (Or.inl ⟨by kernel_rfl, ?yp17⟩) (by assumption) ?zp17
      case yp17 => intro w hSw; (try dsimp only at hSw); go_simp; try with_reducible rfl
      try simp only [Act.put, List.setIfInBounds_toArray, List.set_cons_zero, List.set_cons_succ]
      refine take_at (i := 18) (v := ?vp18) (d := 75) rfl (by kernel_rfl) (by kernel_rfl) (by kernel_rfl) (by kernel_rfl) (fun _ _ _ h => h) (Or.inl ⟨by kernel_rfl, ?yp18⟩) (by assumption) ?zp18
      case yp18 => intro w hSw; (try dsimp only at hSw); go_simp; try with_reducible rfl
      try simp only [Act.put, List.setIfInBounds_toArray, List.set_cons_zero, List.set_cons_succ]
      refine take_at (i := 19) (v := ?vp19) (d := 76) rfl (by kernel_rfl) (by kernel_rfl) (by kernel_rfl) (by kernel_rfl) (fun _ _ _ h => h) (Or.inl ⟨by kernel_rfl, ?yp19⟩) (by assumption) ?zp19
      case yp19 => intro w hSw; (try dsimp only at hSw); go_simp; try with_reducible rfl
      try simp only [Act.put, List.setIfInBounds_toArray, List.set_cons_zero, List.set_cons_succ]
      refine take_at (i := 20) (v := undef) (d := 77) rfl (by kernel_rfl) (by kernel_rfl) (by kernel_rfl) (by kernel_rfl) (fun _ _ _ h => h) (Or.inr ⟨by kernel_rfl, rfl⟩) (by assumption) ?_
      try simp only [Act.put, List.setIfInBounds_toArray, List.set_cons_zero, List.set_cons_succ]
      refine take_at (i := 21) (v := undef) (d := 78) rfl (by kernel_rfl) (by kernel_rfl) (by kernel_rfl) (by kernel_rfl) (fun _ _ _ h => h) (Or.inr ⟨by kernel_rfl, rfl⟩) (by assumption) ?_
      try simp only [Act.put, List.setIfInBounds_toArray, List.set_cons_zero, List.set_cons_succ]
      refine take_at (i := 22) (v := undef) (d := 79) rfl (by kernel_rfl) (by kernel_rfl) (by kernel_rfl) (by kernel_rfl) (fun _ _ _ h => h) (Or.inr ⟨by kernel_rfl, rfl⟩) (by assumption) ?_
      try simp only [Act.put, List.setIfInBounds_toArray, List.set_cons_zero, List.set_cons_succ]
      refine take_at (i := 23) (v := undef) (d := 80) rfl (by kernel_rfl) (by kernel_rfl) (by kernel_rfl) (by kernel_rfl) (fun _ _ _ h => h) (Or.inr ⟨by kernel_rfl, rfl⟩) (by assumption) ?_
      try simp only [Act.put, List.setIfInBounds_toArray, List.set_cons_zero, List.set_cons_succ]
      refine take_at (i := 24) (v := ?vp24) (d := 81) rfl (by kernel_rfl) (by kernel_rfl) (by kernel_rfl) (by kernel_rfl) (fun _ _ _ h => h) (Or.inl ⟨by kernel_rfl, ?yp24⟩) (by assumption) ?zp24
      case yp24 => intro w hSw; (try dsimp only at hSw); go_simp; try with_reducible rfl
      try simp only [Act.put, List.setIfInBounds_toArray, List.set_cons_zero, List.set_cons_succ]
      refine take_at (i := 25) (v := ?vp25) (d := 82) rfl (by kernel_rfl) (by kernel_rfl) (by kernel_rfl) (by kernel_rfl) (fun _ _ _ h => h) (Or.inl ⟨by kernel_rfl, ?yp25⟩) (by assumption) ?zp25
      case yp25 => intro w hSw; (try dsimp only at hSw); go_simp; try with_reducible rfl
      try simp only [Act.put, List.setIfInBounds_toArray, List.set_cons_zero, List.set_cons_succ]
      refine wpAnyH_done (by kernel_rfl) ?_ _
      clear kp
      go_wp2_with fail
      go_meet
      exact ⟨rfl, HBZ⟩
  case rest =>
  obtain ⟨rfl, hwc⟩ := hcut
  obtain ⟨W, hWW⟩ : ∃ W, W = wc := ⟨_, rfl⟩
  rw [← hWW] at hwc ⊢
  clear hWW e0 e1 e2 e3 e4
  have B11 : Hid (Below wb.heap.size wb W) := B10.out.trans (hwc.out.mono B10.out.size)
  have c11 := (B11.out.cell (p := ⟨w.heap.size, 0, none⟩) hzb).trans HID.out
  have X10 := Lib.hid (C8.out W B11.out)
  obtain ⟨CI, hCI⟩ : ∃ CI, CI = ciE l f id := ⟨_, rfl⟩
  obtain ⟨CN, hCN⟩ : ∃ CN, CN = cinE l f id := ⟨_, rfl⟩
  rw [← hCI] at X10 C9 C10
  rw [← hCN] at C11
  have HCI := Lib.hid hCI
  have HCN := Lib.hid hCN
  clear hCI hCN
  go_wp2_with fail
  refine X10.out.mono ?_
  rintro e w12 ⟨rfl, hb⟩
  have B12 : Hid (Below wb.heap.size wb w12) := B11.out.trans (hb.mono B11.out.size)
  have c12 := (B12.out.cell (p := ⟨w.heap.size, 0, none⟩) hzb).trans HID.out
  have X11 := Lib.hid (C9.out w12 B12.out)
  clear hb c11
  go_wp2_with fail
  refine X11.out.mono ?_
  rintro e w13 ⟨⟨Ap, np, cp, rfl, hrp⟩, hb⟩
  have B13 : Hid (Below wb.heap.size wb w13) := B12.out.trans (hb.mono B12.out.size)
  have RP13 := Lib.hid (hrp.reads (B := w13.heap.size) fun b hb => hb.2)
  have c13 := (B13.out.cell (p := ⟨w.heap.size, 0, none⟩) hzb).trans HID.out
  have X12 := Lib.hid (C10.out w13 B13.out)
  clear hb hrp c12
  go_wp2_with fail
  refine X12.out.mono ?_
  rintro e w14 ⟨⟨Al, nl, cl, rfl, hrl⟩, hb⟩
  have B14 : Hid (Below wb.heap.size wb w14) := B13.out.trans (hb.mono B13.out.size)
  have RP14 := Lib.hid (RP13.out.below hb)
  have RL14 := Lib.hid (hrl.reads (B := w14.heap.size) fun b hb => hb.2)
  have Z14 := Lib.hid hb.size
  have c14 := (B14.out.cell (p := ⟨w.heap.size, 0, none⟩) hzb).trans HID.out
  have X13 := Lib.hid (C11.out w14 B14.out)
  clear hb hrl c13
  go_wp2_with fail
  refine X13.out.mono ?_
  rintro e w15 ⟨rfl, hb⟩
  have B15 : Hid (Below wb.heap.size wb w15) := B14.out.trans (hb.mono B14.out.size)
  have RP15 : Hid (RIn w15 w15.heap.size (.slice Ap np cp) (pathL l f id)) := ((RP14.out.more Z14.out).below hb).more hb.size
  have RL15 : Hid (RIn w15 w15.heap.size (.slice Al nl cl) (belL l f id)) := (RL14.out.below hb).more hb.size
  have c15 := (B15.out.cell (p := ⟨w.heap.size, 0, none⟩) hzb).trans HID.out
  clear hb c14
  by_cases hE0 : E = 0
  case neg =>
    have hE0' : (E != 0) = true := by simpa using hE0
    have hb0 : baseE l f ≠ 0 := by rw [← HE.out]; exact hE0
    have hci : CI = E := by rw [HCI.out, HE.out]; exact ciE_bad hb0
    have hcn : CN = E := by rw [HCN.out, HE.out]; exact cinE_bad hb0
    have hd : depV l f id = 0 := if_neg (by rw [← HCI.out, hci]; exact hE0)
    have hpg : pageV l f id = 0 := if_neg (by rw [← HCN.out, hcn]; exact hE0)
    have hpl : pathL l f id = [] := if_neg (by rw [← HCI.out, hci]; exact hE0)
    have hbl : belL l f id = [] := if_neg (by rw [← HCI.out, hci]; exact hE0)
    have hps : pagesL l f = [] := if_neg hb0
    have hos : orderL l f = [] := if_neg hb0
    have hnx : nextV l f = -1 := if_neg hb0
    have hnp : np = 0 := by have := RP15.out.len.1; rw [hpl] at this; exact this
    have hnl : nl = 0 := by have := RL15.out.len.1; rw [hbl] at this; exact this
    rw [hps] at C12
    rw [hos] at C13
    rw [hnx] at C14
    subst hci hnp hnl
    subst hcn
    rw [hd, hpg]
    have X14 := Lib.hid (C12.out w15 B15.out)
    clear hb0 hd hpg hpl hbl hps hos hnx hE0
    go_wp2_with fail
    refine X14.out.mono ?_
    rintro e w16 ⟨⟨Ag, ng, cg, rfl, hrg⟩, hb⟩
    have B16 : Hid (Below wb.heap.size wb w16) := B15.out.trans (hb.mono B15.out.size)
    obtain rfl : ng = 0 := (hrg.reads (B := w16.heap.size) fun b hb => hb.2).len.1
    have X15 := Lib.hid (C13.out w16 B16.out)
    clear hb hrg
    go_wp2_with fail
    refine X15.out.mono ?_
    rintro e w17 ⟨⟨Ao, no, co, rfl, hro⟩, hb⟩
    have B17 : Hid (Below wb.heap.size wb w17) := B16.out.trans (hb.mono B16.out.size)
    obtain rfl : no = 0 := (hro.reads (B := w17.heap.size) fun b hb => hb.2).len.1
    have X16 := Lib.hid (C14.out w17 B17.out)
    clear hb hro
    go_wp2_with fail
    refine X16.out.mono ?_
    rintro e w18 ⟨rfl, hb⟩
    have B18 : Hid (Below wb.heap.size wb w18) := B17.out.trans (hb.mono B17.out.size)
    clear hb
    go_wp2_with fail
    go_ret
    exact ⟨rfl, HBB.out.trans (B18.out.mono (Nat.le_of_lt hzb))⟩
  case pos =>
    subst hE0
    have G := Lib.hid (good_of HE.out.symm HF.out)
    obtain ⟨x, hx, hxi, _⟩ := G.out.kids.root
    have hl : 0 < l.length := (List.getElem?_eq_some_iff.1 hx).1
    have hn0 : 0 < n := by have := HL1.out.1; omega
    obtain ⟨b, off, Ak, nk, ck, Aq, nq, cq, rfl, hbb, g0, g1, g2, g3, g4, hK, hPr⟩ := H1.out.at_ hx
    rw [Nat.zero_mul, Nat.add_zero] at g2
    have hps : pagesL l f = x.kids := by unfold pagesL kids0; rw [if_pos HE.out.symm, hx]
    have hos : orderL l f = ord l 41 0 := if_pos HE.out.symm
    have hnx : nextV l f = nextP l := if_pos HE.out.symm
    rw [hps] at C12
    rw [hos] at C13
    rw [hnx] at C14
    have KC := Lib.hid fun (v : World) (hv : Below wb.heap.size wb v) => ((hv.cell (p := ⟨b, off + 2, none⟩) hbb).trans g2)
    have HKI := Lib.hid hK
    have HX := Lib.hid hx
    have HXI := Lib.hid hxi
    have C15 := Lib.hid fun (m : Nat) (i : Int) (d : Nat) (W : World) (hd : Dp l i d) (hm : d + m = 41) (hW : Below wb.heap.size wb W) => orderOf_any l G.out.kids G.out.low' (some ⟨b, off, none⟩) n c wb.heap.size m i d W hd hm hW.size (H1.out.below hW)
    have C16 := Lib.hid fun W (hW : Below wb.heap.size wb W) => nextOf_any l (some ⟨b, off, none⟩) n c W wb.heap.size (H1.out.below hW) hl G.out.kids.ids
    obtain ⟨NP, hNP⟩ : ∃ NP, NP = nextP l := ⟨_, rfl⟩
    rw [← hNP] at C14 C16
    have hnn : (NP != NP) = false := by simp
    have hn0' : (0 : Int) < (n : Int) := by omega
    have BD : Below wb.heap.size wb w15.drew := B15.out.trans (((Below.refl w15.heap.size w15).drew).mono B15.out.size)
    have HL := Lib.hid hl
    clear hx hxi hl g0 g1 g2 g3 g4 hK hPr hps hos hnx hNP
    go_upto_region 14 with fail
    go_cut [178] (fun s178 wc => s178 = .bool false ∧ Hid (Below w15.heap.size w15 wc))
    case first =>
      have VV := BD
      have WW : Below w15.heap.size w15 w15.drew := (Below.refl _ _).drew
      (go_region_held3 (fun w' => w'.cell? ⟨b, off + 2, none⟩ = some (.slice Ak nk ck))
            (exact KC.out _ VV)
            (first
              | (go_at_call 17; refine (C12.out _ VV).mono ?_; rintro e v1 ⟨⟨A1, n1, c1, rfl, hr1⟩, hb1⟩; have EA := hr1.reads (B := v1.heap.size) fun b hb => hb.2; have WW := WW.trans (hb1.mono WW.size); have VV1 := B15.out.trans (WW.mono B15.out.size); have VV := VV1; have EB := (HKI.out.below VV1).more VV1.size; clear hr1 hb1)
              | (go_at_call 18; refine (C13.out _ VV).mono ?_; rintro e v3 ⟨⟨A3, n3, c3, rfl, hr3⟩, hb3⟩; have OR := hr3.reads (B := v3.heap.size) fun b hb => hb.2; have WW := WW.trans (hb3.mono WW.size); have VV3 := B15.out.trans (WW.mono B15.out.size); have VV := VV3; clear hr3 hb3)
              | (go_at_call 21; refine (C15.out 41 0 0 _ .root rfl VV).mono ?_; rintro e v4 ⟨⟨A4, n4, c4, rfl, _, hr4, _, _⟩, hb4⟩; have EB := hr4.reads (B := v4.heap.size) fun b hb => hb.2; have WW := WW.trans (hb4.mono WW.size); have VV4 := B15.out.trans (WW.mono B15.out.size); have VV := VV4; have EA := (OR.below hb4).more hb4.size; clear hr4 hb4)
              | (go_at_call 22; refine (C16.out _ VV).mono ?_; rintro e v7 ⟨rfl, rfl⟩)
              | (go_at_call 19; refine (C14.out _ VV).mono ?_; rintro e v6 ⟨rfl, hb6⟩; have WW := WW.trans (hb6.mono WW.size); have VV6 := B15.out.trans (WW.mono B15.out.size); have VV := VV6; clear hb6)
              | (go_at_call 20; have EQ := equalI_any _ _ _ _ _ _ _ _ _ _ EA EB; rw [beq_self_eq_true] at EQ; refine EQ.mono ?_; rintro e v5 ⟨rfl, q, rfl⟩; have VV := bdrew VV q; have WW := bdrew WW q; clear EQ)))
      go_wp2_with fail
      go_meet
      exact ⟨rfl, Lib.hid WW⟩
    case rest =>
    obtain ⟨rfl, hwc⟩ := hcut
    obtain ⟨w16, hww⟩ : ∃ w16, w16 = wc := ⟨_, rfl⟩
    rw [← hww] at hwc ⊢
    have B16 : Hid (Below wb.heap.size wb w16) := B15.out.trans (hwc.out.mono B15.out.size)
    have RP16 : Hid (RIn w16 w16.heap.size (.slice Ap np cp) (pathL l f id)) := (RP15.out.below hwc.out).more hwc.out.size
    have RL16 : Hid (RIn w16 w16.heap.size (.slice Al nl cl) (belL l f id)) := (RL15.out.below hwc.out).more hwc.out.size
    have c16 := (B16.out.cell (p := ⟨w.heap.size, 0, none⟩) hzb).trans HID.out
    clear hww hwc hnn hn0 hn0' BD c15
    by_cases hk0 : k < 0
    · have hb0 : ¬ baseE l f ≠ 0 := fun e => e HE.out.symm
      have hp : posOf l id < 0 := by rw [← HK.out]; exact hk0
      have hci : ciE l f id = 7 := by unfold ciE; rw [if_neg hb0, if_pos hp]
      have hcn : cinE l f id = 7 := by unfold cinE; rw [if_pos (by rw [hci]; omega), hci]
      have hd : depV l f id = 0 := if_neg (by rw [hci]; omega)
      have hpg : pageV l f id = 0 := if_neg (by rw [hcn]; omega)
      have hpl : pathL l f id = [] := if_neg (by rw [hci]; omega)
      have hbl : belL l f id = [] := if_neg (by rw [hci]; omega)
      have hnp : np = 0 := by have := RP15.out.len.1; rw [hpl] at this; exact this
      have hnl : nl = 0 := by have := RL15.out.len.1; rw [hbl] at this; exact this
      have hCI : CI = 7 := HCI.out.trans hci
      have hCN : CN = 7 := HCN.out.trans hcn
      subst hCI hCN hnp hnl
      rw [hd, hpg]
      clear hb0 hp hci hcn hd hpg hpl hbl
      go_wp2_with fail
      go_ret
      exact ⟨rfl, HBB.out.trans (B16.out.mono (Nat.le_of_lt hzb))⟩
    · have hp : 0 ≤ posOf l id := by rw [← HK.out]; omega
      have hci : ciE l f id = 0 := by unfold ciE; rw [if_neg (fun e => e HE.out.symm), if_neg (by omega)]
      obtain ⟨hd, h40⟩ := G.out.at_ hp
      obtain ⟨D, hD⟩ : ∃ D, D = dOf f id := ⟨_, rfl⟩
      rw [← hD] at hd h40
      have hdv : depV l f id = (D : Int) := by rw [hD]; exact if_pos hci
      have hpl : pathL l f id = pth l D id := by rw [hD]; exact if_pos hci
      have hbl : belL l f id = ord l (41 - D) id := by rw [hD]; exact if_pos hci
      rw [hpl] at RP16
      rw [hbl] at RL16
      have hCI : CI = 0 := HCI.out.trans hci
      subst hCI
      rw [hdv]
      have X17 := Lib.hid (pathOf_any l G.out.kids (some ⟨b, off, none⟩) n c wb.heap.size D id w16 hd h40 B16.out.size (H1.out.below B16.out))
      have HD := Lib.hid hd
      have HDE := Lib.hid hD
      have H40 := Lib.hid h40
      have HCZ := Lib.hid hci
      clear hp hci hd h40 hD hdv hpl hbl
      go_wp2_with fail
      refine X17.out.mono ?_
      rintro e w19 ⟨⟨A5, n5, c5, rfl, _, hr5, _, _⟩, hb⟩
      have B19 : Hid (Below wb.heap.size wb w19) := B16.out.trans (hb.mono B16.out.size)
      have RQ := Lib.hid (hr5.reads (B := w19.heap.size) fun b hb => hb.2)
      have RL19 : Hid (RIn w19 w19.heap.size (.slice Al nl cl) (ord l (41 - D) id)) := (RL16.out.below hb).more hb.size
      have hn5 : n5 = D := by have := RQ.out.len.1; rw [pth_len] at this; exact this
      subst hn5
      have EQ := equalI_any Ap A5 np cp n5 c5 (pth l n5 id) (pth l n5 id) w19 w19.heap.size ((RP16.out.below hb).more hb.size) RQ.out
      rw [beq_self_eq_true] at EQ
      have EQ := Lib.hid EQ
      have hdd : ((n5 : Int) != (n5 : Int)) = false := by simp
      clear hb hr5
      go_wp2_with fail
      refine EQ.out.mono ?_
      rintro e w20 ⟨rfl, q, hq⟩
      have hb20 : Below w19.heap.size w19 w20 := hq ▸ bdrew (Below.refl _ _) q
      have B20 : Hid (Below wb.heap.size wb w20) := B19.out.trans (hb20.mono B19.out.size)
      have c20 := (B20.out.cell (p := ⟨w.heap.size, 0, none⟩) hzb).trans HID.out
      have X19 := Lib.hid (C15.out (41 - n5) id n5 w20 HD.out (by have := H40.out; omega) B20.out)
      have RQ20 := Lib.hid (RQ.out.below hb20)
      have RL20 : Hid (RIn w20 w20.heap.size (.slice Al nl cl) (ord l (41 - n5) id)) := (RL19.out.below hb20).more hb20.size
      have Z20 := Lib.hid hb20.size
      clear hq hb20
      go_wp2_with fail
      refine X19.out.mono ?_
      rintro e w21 ⟨⟨A6, n6, c6, rfl, _, hr6, _, _⟩, hb⟩
      have B21 : Hid (Below wb.heap.size wb w21) := B20.out.trans (hb.mono B20.out.size)
      have RQ21 := Lib.hid (RQ20.out.below (hb.mono Z20.out))
      have EQ2 := equalI_any Al A6 nl cl n6 c6 (ord l (41 - n5) id) (ord l (41 - n5) id) w21 w21.heap.size ((RL20.out.below hb).more hb.size) (hr6.reads (B := w21.heap.size) fun b hb => hb.2)
      rw [beq_self_eq_true] at EQ2
      have EQ2 := Lib.hid EQ2
      have Z21 := Lib.hid (Nat.le_trans Z20.out hb.size)
      clear hb hr6 c20
      go_wp2_with fail
      refine EQ2.out.mono ?_
      rintro e w22 ⟨rfl, q, hq⟩
      have hb22 : Below w21.heap.size w21 w22 := hq ▸ bdrew (Below.refl _ _) q
      have B22 : Hid (Below wb.heap.size wb w22) := B21.out.trans (hb22.mono B21.out.size)
      have RQ22 := Lib.hid (RQ21.out.below (hb22.mono Z21.out))
      clear hq hb22
      by_cases hid0 : id = 0
      · have hcn : cinE l f id = 7 := by unfold cinE; rw [if_neg (fun e => e HCZ.out), if_neg (fun e => e hid0)]
        have hpg : pageV l f id = 0 := if_neg (by rw [hcn]; omega)
        have hk : k = 0 := by
          have hz := posOf_of G.out.kids.rise HX.out
          rw [HXI.out] at hz
          rw [HK.out, hid0]; exact hz
        have hCN : CN = 7 := HCN.out.trans hcn
        rw [hpg]
        subst hCN hk
        clear hcn hpg
        go_wp2_with fail
        go_ret
        exact ⟨rfl, HBB.out.trans (B22.out.mono (Nat.le_of_lt hzb))⟩
      · have hcn : cinE l f id = 0 := by unfold cinE; rw [if_neg (fun e => e HCZ.out), if_pos hid0]
        have hpg : pageV l f id = ((pth l n5 id)[0]?).getD 0 := by rw [HDE.out]; exact if_pos hcn
        have hk : (k == 0) = false := by
          rw [beq_eq_false_iff_ne]
          intro hk
          rcases posOf_spec l id with ⟨h1, _⟩ | ⟨i, y, h1, h2, h3, _⟩
          · have := HK.out; omega
          · obtain rfl : i = 0 := by have := HK.out; omega
            have := HX.out.symm.trans h2
            injection this with this
            rw [this] at HXI
            exact hid0 (h3.symm.trans HXI.out)
        have hCN : CN = 0 := HCN.out.trans hcn
        have hd0 : n5 ≠ 0 := fun e => hid0 ((Dp.zero_iff G.out.kids HD.out).2 e)
        obtain ⟨y, hy⟩ : ∃ y, (pth l n5 id)[0]? = some y := ⟨_, List.getElem?_eq_getElem (by rw [pth_len]; omega)⟩
        obtain ⟨b5, o5, rfl, hb5, q0⟩ := RQ22.out.at_ hy
        rw [Nat.add_zero] at q0
        rw [hy] at hpg
        rw [hpg]
        dsimp only [Option.getD]
        subst hCN
        have hn5 : 0 < n5 := by omega
        have hn5' : (0 : Int) < (n5 : Int) := by omega
        clear hcn hpg hy
        go_wp2_with fail
        go_ret
        exact ⟨rfl, HBB.out.trans (B22.out.mono (Nat.le_of_lt hzb))⟩
end Go.Proofs.Ytbkhnfdfdgdfkaa
