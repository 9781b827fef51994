/-
  DERIVED. The walk of copy.opText: kind 2. Conditions: the operation is right.
  By an AI agent.
-/
import Derived.Test.YtinllchioeldbaaGreatDoorCa13
import Derived.Test.YtinllchioeldbaaGreatDoorCa05
import Derived.Test.YtinllchioeldbaaGreatDoorCa12
import Derived.Deep.RegionHeld3
import Derived.Deep.DeepCutAuto
import Derived.Deep.CutBlock
namespace Go.Proofs.YtinllchioeldbaaGreatDoor
open Go.RowKit

set_option maxHeartbeats 4000000 in
set_option maxRecDepth 100000 in
theorem opText_k2 (o : COp) (As Ai : Option Addr) (ns cs ni ci : Nat) (w : World) (B : Nat) (_hB : B ≤ w.heap.size) (h : RC1 w B ⟨o, .slice As ns cs, .slice Ai ni ci⟩) (hk : o.kind = 2) (ok : OkO o) (hP : Pow w) :
    Calls Tryz.prog 28 #[CA ⟨o, .slice As ns cs, .slice Ai ni ci⟩] w fun e w' => e = .returned (.string (opTx o)) ∧ (opTx o).size ≤ 1000000 ∧ Below w.heap.size w w' := by
  obtain ⟨hs, hv, hci⟩ := h
  dsimp only at hs hv hci
  have HI : Hid (∀ n, 0 ≤ n ∧ n ≤ 1000000000 → ∀ W, Below w.heap.size w W → Calls Tryz.prog 48 #[.int .i64 n] W fun e w' => e = .returned (.string (wd n)) ∧ Below W.heap.size W w') := fun n hn W hW => itoaN_any n (by omega) (by omega) W (hP.below hW)
  have HT := Lib.hid (HI.out _ ok.t)
  have HC := Lib.hid (HI.out _ ok.c)
  have HD := Lib.hid (HI.out _ ok.i)
  have HKW := Lib.hid kindWords_any
  have hsz := wds_size ok (fun e => absurd (hk.symm.trans e) (by decide))
  have HWD : Hid (wds o = [wd o.st.time, wd o.st.cp, ⟨#[109, 111, 118, 101]⟩, wd o.id] ++ [wd o.parent, wd o.left]) := by
    show _ = _
    unfold wds preW
    rw [hk]
    rfl
  have z0 := wd_sz ok.t
  have z1 := wd_sz ok.c
  have z2 := wd_sz ok.i
  unfold opTx
  have HWS : Hid ((joinB (wds o) bSp).size ≤ 900000) := hsz
  obtain ⟨R, hR⟩ : ∃ R, R = joinB (wds o) bSp := ⟨_, rfl⟩
  rw [← hR] at hsz HWS ⊢
  have HRR : Hid (R = joinB (wds o) bSp) := hR
  rw [HWD.out] at HRR
  clear hR HWD
  have hpp := (ok.p (.inr hk)).1
  have hll := (ok.p (.inr hk)).2
  have hi := hci
  obtain ⟨⟨t0, t1⟩, k, id, pa, le, ⟨⟨a0, a1⟩, a2⟩, oc, sp, nm, ⟨vk, vi, vt, vs, vl⟩⟩ := o
  obtain rfl : k = 2 := hk
  dsimp only [CA, Vl.kind, Vl.int_, Vl.to_, Vl.text, Vl.items] at HT HC HD HRR z0 z1 z2 hpp hll hi ⊢
  obtain ⟨S0, e0⟩ : ∃ S, S = wd t0 := ⟨_, rfl⟩
  obtain ⟨S1, e1⟩ : ∃ S, S = wd t1 := ⟨_, rfl⟩
  obtain ⟨S3, e3⟩ : ∃ S, S = wd id := ⟨_, rfl⟩
  rw [← e0, ← e1, ← e3] at HRR
  rw [← e0] at HT z0
  rw [← e1] at HC z1
  rw [← e3] at HD z2
  clear e0 e1 e3 ok
  go_enter Tryz.func28, Tryz.ntmps28
  go_upto_region 1 with fail
  have KX := Blk.new w 33 #[.int .i64 t0, .int .i64 t1, .int .i64 2, .int .i64 id, .int .i64 pa, .int .i64 le, .int .i64 a0, .int .i64 a1, .int .i64 a2, .string oc, .slice As ns cs, .string nm, .int .i64 vk, .int .i64 vi, .int .i64 vt, .string vs, .slice Ai ni ci]
  have hbX : Below w.heap.size w (w.alloc (.cells #[.int .i64 t0, .int .i64 t1, .int .i64 2, .int .i64 id, .int .i64 pa, .int .i64 le, .int .i64 a0, .int .i64 a1, .int .i64 a2, .string oc, .slice As ns cs, .string nm, .int .i64 vk, .int .i64 vi, .int .i64 vt, .string vs, .slice Ai ni ci] 33)) := (Below.refl _ _).alloc (Nat.le_refl _) _
  generalize (w.alloc (.cells #[.int .i64 t0, .int .i64 t1, .int .i64 2, .int .i64 id, .int .i64 pa, .int .i64 le, .int .i64 a0, .int .i64 a1, .int .i64 a2, .string oc, .slice As ns cs, .string nm, .int .i64 vk, .int .i64 vi, .int .i64 vt, .string vs, .slice Ai ni ci] 33)) = X at KX hbX ⊢
  have hzX := KX.lt
  have hPX := hP.below hbX
  have HPX := Lib.hid hPX
  have HKX := Lib.hid KX
  have HBX := Lib.hid hbX
  have iw0 : IntKind.i64.wrap (2 - 1) = 1 := by decide
  have iw1 : IntKind.i64.wrap 1 = 1 := by decide
  clear hPX hP
  go_cut [3] (fun s3 wc => ∃ gw : Nat, s3 = .pointer (some ⟨gw, 0, none⟩) ∧ Hid (WSr gw X wc [S0, S1, ⟨#[109, 111, 118, 101]⟩, S3]))
  case first =>
    have f0_0 : X.cell? ⟨w.heap.size, 0, none⟩ = some (.int .i64 t0) := KX.cell 0
    have f0_1 : X.cell? ⟨w.heap.size, 1, none⟩ = some (.int .i64 t1) := KX.cell 1
    have f0_2 : X.cell? ⟨w.heap.size, 2, none⟩ = some (.int .i64 2) := KX.cell 2
    have f0_3 : X.cell? ⟨w.heap.size, 3, none⟩ = some (.int .i64 id) := KX.cell 3
    have f0d_0 : X.drew.cell? ⟨w.heap.size, 0, none⟩ = some (.int .i64 t0) := f0_0
    have f0d_1 : X.drew.cell? ⟨w.heap.size, 1, none⟩ = some (.int .i64 t1) := f0_1
    have f0d_2 : X.drew.cell? ⟨w.heap.size, 2, none⟩ = some (.int .i64 2) := f0_2
    have f0d_3 : X.drew.cell? ⟨w.heap.size, 3, none⟩ = some (.int .i64 id) := f0_3
    have HSOF : Hid (∀ W, Below X.heap.size X W → W.cell? ⟨w.heap.size, 0, none⟩ = some (.int .i64 t0) ∧ W.cell? ⟨w.heap.size, 1, none⟩ = some (.int .i64 t1) ∧ W.cell? ⟨w.heap.size, 2, none⟩ = some (.int .i64 2) ∧ W.cell? ⟨w.heap.size, 3, none⟩ = some (.int .i64 id)) := fun W h => ⟨(h.cell (p := ⟨w.heap.size, 0, none⟩) hzX).trans f0_0, (h.cell (p := ⟨w.heap.size, 1, none⟩) hzX).trans f0_1, (h.cell (p := ⟨w.heap.size, 2, none⟩) hzX).trans f0_2, (h.cell (p := ⟨w.heap.size, 3, none⟩) hzX).trans f0_3⟩
    have HBT : Hid (∀ W W', Below X.heap.size X W → Below W.heap.size W W' → Below X.heap.size X W') := fun W W' h h' => h.trans (h'.mono h.size)
    have HBA : Hid (∀ W o, Below X.heap.size X W → Below X.heap.size X (W.alloc o)) := fun W o h => h.alloc h.size o
    have HBG : Hid (∀ W, Below X.heap.size X W → Below w.heap.size w W) := fun W h => HBX.out.trans (h.mono HBX.out.size)
    have HBS : Hid (∀ W g v, X.heap.size ≤ g → Below X.heap.size X W → Below X.heap.size X (W.setCell ⟨g, 0, none⟩ v)) := fun W g v hg h => h.setCell (p := ⟨g, 0, none⟩) hg v
    have HB0 : Hid (Below X.heap.size X X.drew) := (Below.refl X.heap.size X).drew
    have HBX0 : Hid (∀ o, Below X.heap.size X (X.alloc o).drew) := fun o => ((Below.refl X.heap.size X).alloc (Nat.le_refl _) o).drew
    refine wp_region_held_drew (S := (fun w' => w'.cell? ⟨w.heap.size, 0, none⟩ = some (.int .i64 t0) ∧ w'.cell? ⟨w.heap.size, 1, none⟩ = some (.int .i64 t1) ∧ w'.cell? ⟨w.heap.size, 2, none⟩ = some (.int .i64 2) ∧ w'.cell? ⟨w.heap.size, 3, none⟩ = some (.int .i64 id))) (by kernel_rfl) (HSOF.out _ HB0.out) (fun hHeld0 => ?_)
    refine handTake (i := 0) (v := ?vk21) (d := 9) rfl (by kernel_rfl) (by kernel_rfl) (by kernel_rfl) (by kernel_rfl) (fun _ _ _ h => h) (Or.inl ⟨by kernel_rfl, ?yk21⟩) (by assumption) ?zk21
    case yk21 => intro w hSw; (try dsimp only at hSw); go_simp; try with_reducible rfl
    try simp only [List.setIfInBounds_toArray, List.set_cons_zero, List.set_cons_succ]
    refine handTake (i := 1) (v := ?vk22) (d := 10) rfl (by kernel_rfl) (by kernel_rfl) (by kernel_rfl) (by kernel_rfl) (fun _ _ _ h => h) (Or.inl ⟨by kernel_rfl, ?yk22⟩) (by assumption) ?zk22
    case yk22 => intro w hSw; (try dsimp only at hSw); go_simp; try with_reducible rfl
    try simp only [List.setIfInBounds_toArray, List.set_cons_zero, List.set_cons_succ]
    refine handTake (i := 2) (v := ?vk23) (d := 11) rfl (by kernel_rfl) (by kernel_rfl) (by kernel_rfl) (by kernel_rfl) (fun _ _ _ h => h) (Or.inl ⟨by kernel_rfl, ?yk23⟩) (by assumption) ?zk23
    case yk23 => intro w hSw; (try dsimp only at hSw); go_simp; try with_reducible rfl
    try simp only [List.setIfInBounds_toArray, List.set_cons_zero, List.set_cons_succ]
    refine handTake (i := 4) (v := ?vk24) (d := 13) rfl (by kernel_rfl) (by kernel_rfl) (by kernel_rfl) (by kernel_rfl) (fun _ _ _ h => h) (Or.inl ⟨by kernel_rfl, ?yk24⟩) (by assumption) ?zk24
    case yk24 => intro w hSw; (try dsimp only at hSw); go_simp; try with_reducible rfl
    try simp only [List.setIfInBounds_toArray, List.set_cons_zero, List.set_cons_succ]
    refine handTake (i := 5) (v := ?vk25) (d := 14) rfl (by kernel_rfl) (by kernel_rfl) (by kernel_rfl) (by kernel_rfl) (fun _ _ _ h => h) (Or.inl ⟨by kernel_rfl, ?yk25⟩) (by assumption) ?zk25
    case yk25 => intro w hSw; (try dsimp only at hSw); go_simp; try with_reducible rfl
    try simp only [List.setIfInBounds_toArray, List.set_cons_zero, List.set_cons_succ]
    refine handTake (i := 6) (v := ?vk26) (d := 15) rfl (by kernel_rfl) (by kernel_rfl) (by kernel_rfl) (by kernel_rfl) (fun _ _ _ h => h) (Or.inl ⟨by kernel_rfl, ?yk26⟩) (by assumption) ?zk26
    case yk26 => intro w hSw; (try dsimp only at hSw); go_simp; try with_reducible rfl
    try simp only [List.setIfInBounds_toArray, List.set_cons_zero, List.set_cons_succ]
    refine handTake (i := 9) (v := ?vk27) (d := 18) rfl (by kernel_rfl) (by kernel_rfl) (by kernel_rfl) (by kernel_rfl) (fun _ _ _ h => h) (Or.inl ⟨by kernel_rfl, ?yk27⟩) (by assumption) ?zk27
    case yk27 => intro w hSw; (try dsimp only at hSw); go_simp; try with_reducible rfl
    try simp only [List.setIfInBounds_toArray, List.set_cons_zero, List.set_cons_succ]
    refine handTake (i := 10) (v := ?vk28) (d := 19) rfl (by kernel_rfl) (by kernel_rfl) (by kernel_rfl) (by kernel_rfl) (fun _ _ _ h => h) (Or.inl ⟨by kernel_rfl, ?yk28⟩) (by assumption) ?zk28
    case yk28 => intro w hSw; (try dsimp only at hSw); go_simp; try with_reducible rfl
    try simp only [List.setIfInBounds_toArray, List.set_cons_zero, List.set_cons_succ]
    refine handTake (i := 11) (v := ?vk29) (d := 20) rfl (by kernel_rfl) (by kernel_rfl) (by kernel_rfl) (by kernel_rfl) (fun _ _ _ h => h) (Or.inl ⟨by kernel_rfl, ?yk29⟩) (by assumption) ?zk29
    case yk29 => intro w hSw; (try dsimp only at hSw); go_simp; try with_reducible rfl
    try simp only [List.setIfInBounds_toArray, List.set_cons_zero, List.set_cons_succ]
    refine handTake (i := 14) (v := ?vk210) (d := 23) rfl (by kernel_rfl) (by kernel_rfl) (by kernel_rfl) (by kernel_rfl) (fun _ _ _ h => h) (Or.inl ⟨by kernel_rfl, ?yk210⟩) (by assumption) ?zk210
    case yk210 => intro w hSw; (try dsimp only at hSw); go_simp; try with_reducible rfl
    try simp only [List.setIfInBounds_toArray, List.set_cons_zero, List.set_cons_succ]
    refine handTake (i := 15) (v := ?vk211) (d := 24) rfl (by kernel_rfl) (by kernel_rfl) (by kernel_rfl) (by kernel_rfl) (fun _ _ _ h => h) (Or.inl ⟨by kernel_rfl, ?yk211⟩) (by assumption) ?zk211
    case yk211 => intro w hSw; (try dsimp only at hSw); go_simp; try with_reducible rfl
    try simp only [List.setIfInBounds_toArray, List.set_cons_zero, List.set_cons_succ]
    refine wpAnyH_ready (rs := [3, 18]) (by kernel_rfl) (by simp) ?_
    refine AllReadyH.cons rfl (fun K hK => ?_) ?_
    · go_simp
      go_at_call_of 48 (Value.int .i64 t0)
      with_reducible refine Calls.mono (HT.out _ (HBG.out _ HB0.out)) ?_
      rintro e w1 ⟨rfl, hb1⟩
      have HB1 := Lib.hid (HBT.out _ _ HB0.out hb1)
      clear hb1
      refine hK.out _ _ (HSOF.out _ (by repeat (first | with_reducible exact HBX0.out _ | with_reducible exact HB4.out | with_reducible exact HB3.out | with_reducible exact HB2.out | with_reducible exact HB1.out | with_reducible exact HB0.out | with_reducible exact HGX.out | with_reducible refine HBA.out _ _ ?_ | with_reducible refine HBS.out _ _ _ ?_ ?_ | exact HB4.out.size | exact (HBA.out _ _ HB4.out).size))) (fun hHeld12 => ?_)
      clear hK K hHeld0
      try simp only [Act.put, List.setIfInBounds_toArray, List.set_cons_zero, List.set_cons_succ]
      refine wpAnyH_ready (rs := [7, 18]) (by kernel_rfl) (by simp) ?_
      refine AllReadyH.cons rfl (fun K hK => ?_) ?_
      · go_simp
        go_at_call_of 48 (Value.int .i64 t1)
        with_reducible refine Calls.mono (HC.out _ (HBG.out _ HB1.out)) ?_
        rintro e w2 ⟨rfl, hb2⟩
        have HB2 := Lib.hid (HBT.out _ _ HB1.out hb2)
        clear hb2
        refine hK.out _ _ (HSOF.out _ (by repeat (first | with_reducible exact HBX0.out _ | with_reducible exact HB4.out | with_reducible exact HB3.out | with_reducible exact HB2.out | with_reducible exact HB1.out | with_reducible exact HB0.out | with_reducible exact HGX.out | with_reducible refine HBA.out _ _ ?_ | with_reducible refine HBS.out _ _ _ ?_ ?_ | exact HB4.out.size | exact (HBA.out _ _ HB4.out).size))) (fun hHeld13 => ?_)
        clear hK K hHeld12
        try simp only [Act.put, List.setIfInBounds_toArray, List.set_cons_zero, List.set_cons_succ]
        refine wpAnyH_ready (rs := [8, 18]) (by kernel_rfl) (by simp) ?_
        refine AllReadyH.cons rfl (fun K hK => ?_) ?_
        · go_simp
          go_at_call 49
          with_reducible refine Calls.mono (HKW.out w2) ?_
          rintro e w3 ⟨gk, rfl, hgk, hkc, hb3⟩
          have HB3 := Lib.hid (HBT.out _ _ HB2.out hb3)
          have q3 : w3.cell? ⟨gk, 1, none⟩ = some (.string ⟨#[109, 111, 118, 101]⟩) := hkc 1 _ rfl
          have hgk3 : gk < w3.heap.size := World.block_lt_of_cell? w3 _ (hkc 0 _ rfl)
          clear hkc hgk
          clear hb3
          refine hK.out _ _ (HSOF.out _ (by repeat (first | with_reducible exact HBX0.out _ | with_reducible exact HB4.out | with_reducible exact HB3.out | with_reducible exact HB2.out | with_reducible exact HB1.out | with_reducible exact HB0.out | with_reducible exact HGX.out | with_reducible refine HBA.out _ _ ?_ | with_reducible refine HBS.out _ _ _ ?_ ?_ | exact HB4.out.size | exact (HBA.out _ _ HB4.out).size))) (fun hHeld14 => ?_)
          clear hK K hHeld13
          try simp only [Act.put, List.setIfInBounds_toArray, List.set_cons_zero, List.set_cons_succ]
          have hHeldm14 := (⟨hHeld14, q3⟩ : (fun w' => (w'.cell? ⟨w.heap.size, 0, none⟩ = some (.int .i64 t0) ∧ w'.cell? ⟨w.heap.size, 1, none⟩ = some (.int .i64 t1) ∧ w'.cell? ⟨w.heap.size, 2, none⟩ = some (.int .i64 2) ∧ w'.cell? ⟨w.heap.size, 3, none⟩ = some (.int .i64 id)) ∧ w'.cell? ⟨gk, 1, none⟩ = some (.string ⟨#[109, 111, 118, 101]⟩)) w3)
          refine handMono (S' := (fun w' => (w'.cell? ⟨w.heap.size, 0, none⟩ = some (.int .i64 t0) ∧ w'.cell? ⟨w.heap.size, 1, none⟩ = some (.int .i64 t1) ∧ w'.cell? ⟨w.heap.size, 2, none⟩ = some (.int .i64 2) ∧ w'.cell? ⟨w.heap.size, 3, none⟩ = some (.int .i64 id)) ∧ w'.cell? ⟨gk, 1, none⟩ = some (.string ⟨#[109, 111, 118, 101]⟩))) (fun _ h => h.1) _ _ _ _ ?_
          clear hHeld14
          refine handTake (i := 12) (v := ?vk215) (d := 21) rfl (by kernel_rfl) (by kernel_rfl) (by kernel_rfl) (by kernel_rfl) (fun _ _ _ h => h) (Or.inl ⟨by kernel_rfl, ?yk215⟩) (by assumption) ?zk215
          case yk215 => intro w hSw; (try dsimp only at hSw); go_simp; try with_reducible rfl
          try simp only [List.setIfInBounds_toArray, List.set_cons_zero, List.set_cons_succ]
          refine handTake (i := 13) (v := ?vk216) (d := 22) rfl (by kernel_rfl) (by kernel_rfl) (by kernel_rfl) (by kernel_rfl) (fun _ _ _ h => h) (Or.inl ⟨by kernel_rfl, ?yk216⟩) (by assumption) ?zk216
          case yk216 => intro w hSw; (try dsimp only at hSw); go_simp; try with_reducible rfl
          try simp only [List.setIfInBounds_toArray, List.set_cons_zero, List.set_cons_succ]
          refine wpAnyH_ready (rs := [16, 18]) (by kernel_rfl) (by simp) ?_
          refine AllReadyH.cons rfl (fun K hK => ?_) ?_
          · go_simp
            go_at_call_of 48 (Value.int .i64 id)
            with_reducible refine Calls.mono (HD.out _ (HBG.out _ HB3.out)) ?_
            rintro e w4 ⟨rfl, hb4⟩
            have HB4 := Lib.hid (HBT.out _ _ HB3.out hb4)
            have q4 : w4.cell? ⟨gk, 1, none⟩ = some (.string ⟨#[109, 111, 118, 101]⟩) := (hb4.cell (p := ⟨gk, 1, none⟩) hgk3).trans q3
            have hgk4 : gk < w4.heap.size := Nat.lt_of_lt_of_le hgk3 hb4.size
            clear hb4
            refine hK.out _ _ (⟨HSOF.out _ (by repeat (first | with_reducible exact HBX0.out _ | with_reducible exact HB4.out | with_reducible exact HB3.out | with_reducible exact HB2.out | with_reducible exact HB1.out | with_reducible exact HB0.out | with_reducible exact HGX.out | with_reducible refine HBA.out _ _ ?_ | with_reducible refine HBS.out _ _ _ ?_ ?_ | exact HB4.out.size | exact (HBA.out _ _ HB4.out).size)), by repeat (first | with_reducible exact q4 | with_reducible exact q3 | with_reducible refine (World.cell?_alloc_lt _ _ _ ?_).trans ?_ | with_reducible refine (World.cell?_setCell_far _ _ _ _ ?_).trans ?_ | exact hgk4 | exact hgk3 | (show gk < _; simp; omega) | (show _ ≠ gk; simp; omega) | (show _ ≠ gk; omega))⟩) (fun hHeld17 => ?_)
            clear hK K hHeldm14
            try simp only [Act.put, List.setIfInBounds_toArray, List.set_cons_zero, List.set_cons_succ]
            refine wpAnyH_ready (rs := [17, 18]) (by kernel_rfl) (by simp) ?_
            refine AllReadyH.cons rfl (fun K hK => ?_) ?_
            · go_simp
              refine hK.out _ _ (⟨HSOF.out _ (by repeat (first | with_reducible exact HBX0.out _ | with_reducible exact HB4.out | with_reducible exact HB3.out | with_reducible exact HB2.out | with_reducible exact HB1.out | with_reducible exact HB0.out | with_reducible exact HGX.out | with_reducible refine HBA.out _ _ ?_ | with_reducible refine HBS.out _ _ _ ?_ ?_ | exact HB4.out.size | exact (HBA.out _ _ HB4.out).size)), by repeat (first | with_reducible exact q4 | with_reducible exact q3 | with_reducible refine (World.cell?_alloc_lt _ _ _ ?_).trans ?_ | with_reducible refine (World.cell?_setCell_far _ _ _ _ ?_).trans ?_ | exact hgk4 | exact hgk3 | (show gk < _; simp; omega) | (show _ ≠ gk; simp; omega) | (show _ ≠ gk; omega))⟩) (fun hHeld18 => ?_)
              clear hK K hHeld17
              try simp only [Act.put, List.setIfInBounds_toArray, List.set_cons_zero, List.set_cons_succ]
              refine wpAnyH_ready (rs := [18]) (by kernel_rfl) (by simp) ?_
              refine AllReadyH.cons rfl (fun K hK => ?_) ?_
              · go_simp
                refine hK.out _ _ (⟨HSOF.out _ (by repeat (first | with_reducible exact HBX0.out _ | with_reducible exact HB4.out | with_reducible exact HB3.out | with_reducible exact HB2.out | with_reducible exact HB1.out | with_reducible exact HB0.out | with_reducible exact HGX.out | with_reducible refine HBA.out _ _ ?_ | with_reducible refine HBS.out _ _ _ ?_ ?_ | exact HB4.out.size | exact (HBA.out _ _ HB4.out).size)), by repeat (first | with_reducible exact q4 | with_reducible exact q3 | with_reducible refine (World.cell?_alloc_lt _ _ _ ?_).trans ?_ | with_reducible refine (World.cell?_setCell_far _ _ _ _ ?_).trans ?_ | exact hgk4 | exact hgk3 | (show gk < _; simp; omega) | (show _ ≠ gk; simp; omega) | (show _ ≠ gk; omega))⟩) (fun hHeld19 => ?_)
                clear hK K hHeld18
                try simp only [Act.put, List.setIfInBounds_toArray, List.set_cons_zero, List.set_cons_succ]
                refine wpAnyH_ready (rs := [19]) (by kernel_rfl) (by simp) ?_
                refine AllReadyH.cons rfl (fun K hK => ?_) ?_
                · go_simp
                  refine hK.out _ _ (⟨HSOF.out _ (by repeat (first | with_reducible exact HBX0.out _ | with_reducible exact HB4.out | with_reducible exact HB3.out | with_reducible exact HB2.out | with_reducible exact HB1.out | with_reducible exact HB0.out | with_reducible exact HGX.out | with_reducible refine HBA.out _ _ ?_ | with_reducible refine HBS.out _ _ _ ?_ ?_ | exact HB4.out.size | exact (HBA.out _ _ HB4.out).size)), by repeat (first | with_reducible exact q4 | with_reducible exact q3 | with_reducible refine (World.cell?_alloc_lt _ _ _ ?_).trans ?_ | with_reducible refine (World.cell?_setCell_far _ _ _ _ ?_).trans ?_ | exact hgk4 | exact hgk3 | (show gk < _; simp; omega) | (show _ ≠ gk; simp; omega) | (show _ ≠ gk; omega))⟩) (fun hHeld20 => ?_)
                  clear hK K hHeld19
                  try simp only [Act.put, List.setIfInBounds_toArray, List.set_cons_zero, List.set_cons_succ]
                  refine wpAnyH_done (by kernel_rfl) ?_ _
                  go_wp2_with fail
                  go_meet
                  first
                    | exact ⟨_, rfl, WSr.new3 [S0, S1, ⟨#[109, 111, 118, 101]⟩, S3] _ rfl HB4.out (by simp) BG4.out HGX.out⟩
                    | exact ⟨_, rfl, WSr.new [S0, S1, ⟨#[109, 111, 118, 101]⟩, S3] _ rfl HB4.out (by simp)⟩
                    | exact ⟨_, rfl, WSr.new2 [S0, S1, ⟨#[109, 111, 118, 101]⟩, S3] _ rfl HB4.out (by simp)⟩
                exact AllReadyH.nil
              exact AllReadyH.nil
            refine AllReadyH.cons rfl (fun K hK => ?_) ?_
            · go_simp
              refine hK.out _ _ (⟨HSOF.out _ (by repeat (first | with_reducible exact HBX0.out _ | with_reducible exact HB4.out | with_reducible exact HB3.out | with_reducible exact HB2.out | with_reducible exact HB1.out | with_reducible exact HB0.out | with_reducible exact HGX.out | with_reducible refine HBA.out _ _ ?_ | with_reducible refine HBS.out _ _ _ ?_ ?_ | exact HB4.out.size | exact (HBA.out _ _ HB4.out).size)), by repeat (first | with_reducible exact q4 | with_reducible exact q3 | with_reducible refine (World.cell?_alloc_lt _ _ _ ?_).trans ?_ | with_reducible refine (World.cell?_setCell_far _ _ _ _ ?_).trans ?_ | exact hgk4 | exact hgk3 | (show gk < _; simp; omega) | (show _ ≠ gk; simp; omega) | (show _ ≠ gk; omega))⟩) (fun hHeld21 => ?_)
              clear hK K hHeld17
              try simp only [Act.put, List.setIfInBounds_toArray, List.set_cons_zero, List.set_cons_succ]
              refine wpAnyH_ready (rs := [17]) (by kernel_rfl) (by simp) ?_
              refine AllReadyH.cons rfl (fun K hK => ?_) ?_
              · go_simp
                refine hK.out _ _ (⟨HSOF.out _ (by repeat (first | with_reducible exact HBX0.out _ | with_reducible exact HB4.out | with_reducible exact HB3.out | with_reducible exact HB2.out | with_reducible exact HB1.out | with_reducible exact HB0.out | with_reducible exact HGX.out | with_reducible refine HBA.out _ _ ?_ | with_reducible refine HBS.out _ _ _ ?_ ?_ | exact HB4.out.size | exact (HBA.out _ _ HB4.out).size)), by repeat (first | with_reducible exact q4 | with_reducible exact q3 | with_reducible refine (World.cell?_alloc_lt _ _ _ ?_).trans ?_ | with_reducible refine (World.cell?_setCell_far _ _ _ _ ?_).trans ?_ | exact hgk4 | exact hgk3 | (show gk < _; simp; omega) | (show _ ≠ gk; simp; omega) | (show _ ≠ gk; omega))⟩) (fun hHeld22 => ?_)
                clear hK K hHeld21
                try simp only [Act.put, List.setIfInBounds_toArray, List.set_cons_zero, List.set_cons_succ]
                refine wpAnyH_ready (rs := [19]) (by kernel_rfl) (by simp) ?_
                refine AllReadyH.cons rfl (fun K hK => ?_) ?_
                · go_simp
                  refine hK.out _ _ (⟨HSOF.out _ (by repeat (first | with_reducible exact HBX0.out _ | with_reducible exact HB4.out | with_reducible exact HB3.out | with_reducible exact HB2.out | with_reducible exact HB1.out | with_reducible exact HB0.out | with_reducible exact HGX.out | with_reducible refine HBA.out _ _ ?_ | with_reducible refine HBS.out _ _ _ ?_ ?_ | exact HB4.out.size | exact (HBA.out _ _ HB4.out).size)), by repeat (first | with_reducible exact q4 | with_reducible exact q3 | with_reducible refine (World.cell?_alloc_lt _ _ _ ?_).trans ?_ | with_reducible refine (World.cell?_setCell_far _ _ _ _ ?_).trans ?_ | exact hgk4 | exact hgk3 | (show gk < _; simp; omega) | (show _ ≠ gk; simp; omega) | (show _ ≠ gk; omega))⟩) (fun hHeld23 => ?_)
                  clear hK K hHeld22
                  try simp only [Act.put, List.setIfInBounds_toArray, List.set_cons_zero, List.set_cons_succ]
                  refine wpAnyH_done (by kernel_rfl) ?_ _
                  go_wp2_with fail
                  go_meet
                  first
                    | exact ⟨_, rfl, WSr.new3 [S0, S1, ⟨#[109, 111, 118, 101]⟩, S3] _ rfl HB4.out (by simp) BG4.out HGX.out⟩
                    | exact ⟨_, rfl, WSr.new [S0, S1, ⟨#[109, 111, 118, 101]⟩, S3] _ rfl HB4.out (by simp)⟩
                    | exact ⟨_, rfl, WSr.new2 [S0, S1, ⟨#[109, 111, 118, 101]⟩, S3] _ rfl HB4.out (by simp)⟩
                exact AllReadyH.nil
              exact AllReadyH.nil
            exact AllReadyH.nil
          refine AllReadyH.cons rfl (fun K hK => ?_) ?_
          · go_simp
            refine hK.out _ _ (⟨HSOF.out _ (by repeat (first | with_reducible exact HBX0.out _ | with_reducible exact HB4.out | with_reducible exact HB3.out | with_reducible exact HB2.out | with_reducible exact HB1.out | with_reducible exact HB0.out | with_reducible exact HGX.out | with_reducible refine HBA.out _ _ ?_ | with_reducible refine HBS.out _ _ _ ?_ ?_ | exact HB4.out.size | exact (HBA.out _ _ HB4.out).size)), by repeat (first | with_reducible exact q4 | with_reducible exact q3 | with_reducible refine (World.cell?_alloc_lt _ _ _ ?_).trans ?_ | with_reducible refine (World.cell?_setCell_far _ _ _ _ ?_).trans ?_ | exact hgk4 | exact hgk3 | (show gk < _; simp; omega) | (show _ ≠ gk; simp; omega) | (show _ ≠ gk; omega))⟩) (fun hHeld24 => ?_)
            clear hK K hHeldm14
            try simp only [Act.put, List.setIfInBounds_toArray, List.set_cons_zero, List.set_cons_succ]
            refine wpAnyH_ready (rs := [16]) (by kernel_rfl) (by simp) ?_
            refine AllReadyH.cons rfl (fun K hK => ?_) ?_
            · go_simp
              go_at_call_of 48 (Value.int .i64 id)
              with_reducible refine Calls.mono (HD.out _ (HBG.out _ (HBA.out _ _ HB3.out))) ?_
              rintro e w4 ⟨rfl, hb4⟩
              have HB4 := Lib.hid (HBT.out _ _ (HBA.out _ _ HB3.out) hb4)
              have BG4 := Lib.hid ((Blk.new w3 62 #[.slice none 0 0]).below hb4 (by simp))
              have HGX : Hid (X.heap.size ≤ w3.heap.size) := HB3.out.size
              have q4 : w4.cell? ⟨gk, 1, none⟩ = some (.string ⟨#[109, 111, 118, 101]⟩) := (hb4.cell (p := ⟨gk, 1, none⟩) (Nat.lt_of_lt_of_le hgk3 (by simp))).trans ((World.cell?_alloc_lt w3 _ ⟨gk, 1, none⟩ hgk3).trans q3)
              have hgk4 : gk < w4.heap.size := Nat.lt_of_lt_of_le (Nat.lt_of_lt_of_le hgk3 (by simp)) hb4.size
              have sg := BG4.out.cell 0
              have sga := fun o => (World.cell?_alloc_lt w4 o _ BG4.out.lt).trans sg
              have sf := BG4.out.frozen 0
              have sfa := fun o => (BG4.out.alloc o).frozen 0
              try dsimp only at sg sga sf sfa
              clear hb4
              refine hK.out _ _ (⟨HSOF.out _ (by repeat (first | with_reducible exact HBX0.out _ | with_reducible exact HB4.out | with_reducible exact HB3.out | with_reducible exact HB2.out | with_reducible exact HB1.out | with_reducible exact HB0.out | with_reducible exact HGX.out | with_reducible refine HBA.out _ _ ?_ | with_reducible refine HBS.out _ _ _ ?_ ?_ | exact HB4.out.size | exact (HBA.out _ _ HB4.out).size)), by repeat (first | with_reducible exact q4 | with_reducible exact q3 | with_reducible refine (World.cell?_alloc_lt _ _ _ ?_).trans ?_ | with_reducible refine (World.cell?_setCell_far _ _ _ _ ?_).trans ?_ | exact hgk4 | exact hgk3 | (show gk < _; simp; omega) | (show _ ≠ gk; simp; omega) | (show _ ≠ gk; omega))⟩) (fun hHeld25 => ?_)
              clear hK K hHeld24
              try simp only [Act.put, List.setIfInBounds_toArray, List.set_cons_zero, List.set_cons_succ]
              refine wpAnyH_ready (rs := [17]) (by kernel_rfl) (by simp) ?_
              refine AllReadyH.cons rfl (fun K hK => ?_) ?_
              · go_simp
                refine hK.out _ _ (⟨HSOF.out _ (by repeat (first | with_reducible exact HBX0.out _ | with_reducible exact HB4.out | with_reducible exact HB3.out | with_reducible exact HB2.out | with_reducible exact HB1.out | with_reducible exact HB0.out | with_reducible exact HGX.out | with_reducible refine HBA.out _ _ ?_ | with_reducible refine HBS.out _ _ _ ?_ ?_ | exact HB4.out.size | exact (HBA.out _ _ HB4.out).size)), by repeat (first | with_reducible exact q4 | with_reducible exact q3 | with_reducible refine (World.cell?_alloc_lt _ _ _ ?_).trans ?_ | with_reducible refine (World.cell?_setCell_far _ _ _ _ ?_).trans ?_ | exact hgk4 | exact hgk3 | (show gk < _; simp; omega) | (show _ ≠ gk; simp; omega) | (show _ ≠ gk; omega))⟩) (fun hHeld26 => ?_)
                clear hK K hHeld25
                try simp only [Act.put, List.setIfInBounds_toArray, List.set_cons_zero, List.set_cons_succ]
                refine wpAnyH_ready (rs := [19]) (by kernel_rfl) (by simp) ?_
                refine AllReadyH.cons rfl (fun K hK => ?_) ?_
                · go_simp
                  refine hK.out _ _ (⟨HSOF.out _ (by repeat (first | with_reducible exact HBX0.out _ | with_reducible exact HB4.out | with_reducible exact HB3.out | with_reducible exact HB2.out | with_reducible exact HB1.out | with_reducible exact HB0.out | with_reducible exact HGX.out | with_reducible refine HBA.out _ _ ?_ | with_reducible refine HBS.out _ _ _ ?_ ?_ | exact HB4.out.size | exact (HBA.out _ _ HB4.out).size)), by repeat (first | with_reducible exact q4 | with_reducible exact q3 | with_reducible refine (World.cell?_alloc_lt _ _ _ ?_).trans ?_ | with_reducible refine (World.cell?_setCell_far _ _ _ _ ?_).trans ?_ | exact hgk4 | exact hgk3 | (show gk < _; simp; omega) | (show _ ≠ gk; simp; omega) | (show _ ≠ gk; omega))⟩) (fun hHeld27 => ?_)
                  clear hK K hHeld26
                  try simp only [Act.put, List.setIfInBounds_toArray, List.set_cons_zero, List.set_cons_succ]
                  refine wpAnyH_done (by kernel_rfl) ?_ _
                  go_wp2_with fail
                  go_meet
                  first
                    | exact ⟨_, rfl, WSr.new3 [S0, S1, ⟨#[109, 111, 118, 101]⟩, S3] _ rfl HB4.out (by simp) BG4.out HGX.out⟩
                    | exact ⟨_, rfl, WSr.new [S0, S1, ⟨#[109, 111, 118, 101]⟩, S3] _ rfl HB4.out (by simp)⟩
                    | exact ⟨_, rfl, WSr.new2 [S0, S1, ⟨#[109, 111, 118, 101]⟩, S3] _ rfl HB4.out (by simp)⟩
                exact AllReadyH.nil
              exact AllReadyH.nil
            exact AllReadyH.nil
          exact AllReadyH.nil
        refine AllReadyH.cons rfl (fun K hK => ?_) ?_
        · go_simp
          refine hK.out _ _ (HSOF.out _ (by repeat (first | with_reducible exact HBX0.out _ | with_reducible exact HB4.out | with_reducible exact HB3.out | with_reducible exact HB2.out | with_reducible exact HB1.out | with_reducible exact HB0.out | with_reducible exact HGX.out | with_reducible refine HBA.out _ _ ?_ | with_reducible refine HBS.out _ _ _ ?_ ?_ | exact HB4.out.size | exact (HBA.out _ _ HB4.out).size))) (fun hHeld28 => ?_)
          clear hK K hHeld13
          try simp only [Act.put, List.setIfInBounds_toArray, List.set_cons_zero, List.set_cons_succ]
          refine wpAnyH_ready (rs := [8]) (by kernel_rfl) (by simp) ?_
          refine AllReadyH.cons rfl (fun K hK => ?_) ?_
          · go_simp
            go_at_call 49
            with_reducible refine Calls.mono (HKW.out (w2.alloc (.cells #[.slice none 0 0] 62))) ?_
            rintro e w3 ⟨gk, rfl, hgk, hkc, hb3⟩
            have HB3 := Lib.hid (HBT.out _ _ (HBA.out _ _ HB2.out) hb3)
            have BG3 := Lib.hid ((Blk.new w2 62 #[.slice none 0 0]).below hb3 (by simp))
            have HGX : Hid (X.heap.size ≤ w2.heap.size) := HB2.out.size
            have q3 : w3.cell? ⟨gk, 1, none⟩ = some (.string ⟨#[109, 111, 118, 101]⟩) := hkc 1 _ rfl
            have hgk3 : gk < w3.heap.size := World.block_lt_of_cell? w3 _ (hkc 0 _ rfl)
            have hgw : w2.heap.size < gk := Nat.lt_of_lt_of_le (by simp) hgk
            clear hkc hgk
            clear hb3
            refine hK.out _ _ (HSOF.out _ (by repeat (first | with_reducible exact HBX0.out _ | with_reducible exact HB4.out | with_reducible exact HB3.out | with_reducible exact HB2.out | with_reducible exact HB1.out | with_reducible exact HB0.out | with_reducible exact HGX.out | with_reducible refine HBA.out _ _ ?_ | with_reducible refine HBS.out _ _ _ ?_ ?_ | exact HB4.out.size | exact (HBA.out _ _ HB4.out).size))) (fun hHeld29 => ?_)
            clear hK K hHeld28
            try simp only [Act.put, List.setIfInBounds_toArray, List.set_cons_zero, List.set_cons_succ]
            have hHeldm29 := (⟨hHeld29, q3⟩ : (fun w' => (w'.cell? ⟨w.heap.size, 0, none⟩ = some (.int .i64 t0) ∧ w'.cell? ⟨w.heap.size, 1, none⟩ = some (.int .i64 t1) ∧ w'.cell? ⟨w.heap.size, 2, none⟩ = some (.int .i64 2) ∧ w'.cell? ⟨w.heap.size, 3, none⟩ = some (.int .i64 id)) ∧ w'.cell? ⟨gk, 1, none⟩ = some (.string ⟨#[109, 111, 118, 101]⟩)) w3)
            refine handMono (S' := (fun w' => (w'.cell? ⟨w.heap.size, 0, none⟩ = some (.int .i64 t0) ∧ w'.cell? ⟨w.heap.size, 1, none⟩ = some (.int .i64 t1) ∧ w'.cell? ⟨w.heap.size, 2, none⟩ = some (.int .i64 2) ∧ w'.cell? ⟨w.heap.size, 3, none⟩ = some (.int .i64 id)) ∧ w'.cell? ⟨gk, 1, none⟩ = some (.string ⟨#[109, 111, 118, 101]⟩))) (fun _ h => h.1) _ _ _ _ ?_
            clear hHeld29
            refine handTake (i := 12) (v := ?vk230) (d := 21) rfl (by kernel_rfl) (by kernel_rfl) (by kernel_rfl) (by kernel_rfl) (fun _ _ _ h => h) (Or.inl ⟨by kernel_rfl, ?yk230⟩) (by assumption) ?zk230
            case yk230 => intro w hSw; (try dsimp only at hSw); go_simp; try with_reducible rfl
            try simp only [List.setIfInBounds_toArray, List.set_cons_zero, List.set_cons_succ]
            refine handTake (i := 13) (v := ?vk231) (d := 22) rfl (by kernel_rfl) (by kernel_rfl) (by kernel_rfl) (by kernel_rfl) (fun _ _ _ h => h) (Or.inl ⟨by kernel_rfl, ?yk231⟩) (by assumption) ?zk231
            case yk231 => intro w hSw; (try dsimp only at hSw); go_simp; try with_reducible rfl
            try simp only [List.setIfInBounds_toArray, List.set_cons_zero, List.set_cons_succ]
            refine wpAnyH_ready (rs := [16]) (by kernel_rfl) (by simp) ?_
            refine AllReadyH.cons rfl (fun K hK => ?_) ?_
            · go_simp
              go_at_call_of 48 (Value.int .i64 id)
              with_reducible refine Calls.mono (HD.out _ (HBG.out _ HB3.out)) ?_
              rintro e w4 ⟨rfl, hb4⟩
              have HB4 := Lib.hid (HBT.out _ _ HB3.out hb4)
              have BG4 := Lib.hid (BG3.out.below hb4 BG3.out.lt)
              have q4 : w4.cell? ⟨gk, 1, none⟩ = some (.string ⟨#[109, 111, 118, 101]⟩) := (hb4.cell (p := ⟨gk, 1, none⟩) hgk3).trans q3
              have hgk4 : gk < w4.heap.size := Nat.lt_of_lt_of_le hgk3 hb4.size
              have sg := BG4.out.cell 0
              have sga := fun o => (World.cell?_alloc_lt w4 o _ BG4.out.lt).trans sg
              have sf := BG4.out.frozen 0
              have sfa := fun o => (BG4.out.alloc o).frozen 0
              try dsimp only at sg sga sf sfa
              clear hb4
              refine hK.out _ _ (⟨HSOF.out _ (by repeat (first | with_reducible exact HBX0.out _ | with_reducible exact HB4.out | with_reducible exact HB3.out | with_reducible exact HB2.out | with_reducible exact HB1.out | with_reducible exact HB0.out | with_reducible exact HGX.out | with_reducible refine HBA.out _ _ ?_ | with_reducible refine HBS.out _ _ _ ?_ ?_ | exact HB4.out.size | exact (HBA.out _ _ HB4.out).size)), by repeat (first | with_reducible exact q4 | with_reducible exact q3 | with_reducible refine (World.cell?_alloc_lt _ _ _ ?_).trans ?_ | with_reducible refine (World.cell?_setCell_far _ _ _ _ ?_).trans ?_ | exact hgk4 | exact hgk3 | (show gk < _; simp; omega) | (show _ ≠ gk; simp; omega) | (show _ ≠ gk; omega))⟩) (fun hHeld32 => ?_)
              clear hK K hHeldm29
              try simp only [Act.put, List.setIfInBounds_toArray, List.set_cons_zero, List.set_cons_succ]
              refine wpAnyH_ready (rs := [17]) (by kernel_rfl) (by simp) ?_
              refine AllReadyH.cons rfl (fun K hK => ?_) ?_
              · go_simp
                refine hK.out _ _ (⟨HSOF.out _ (by repeat (first | with_reducible exact HBX0.out _ | with_reducible exact HB4.out | with_reducible exact HB3.out | with_reducible exact HB2.out | with_reducible exact HB1.out | with_reducible exact HB0.out | with_reducible exact HGX.out | with_reducible refine HBA.out _ _ ?_ | with_reducible refine HBS.out _ _ _ ?_ ?_ | exact HB4.out.size | exact (HBA.out _ _ HB4.out).size)), by repeat (first | with_reducible exact q4 | with_reducible exact q3 | with_reducible refine (World.cell?_alloc_lt _ _ _ ?_).trans ?_ | with_reducible refine (World.cell?_setCell_far _ _ _ _ ?_).trans ?_ | exact hgk4 | exact hgk3 | (show gk < _; simp; omega) | (show _ ≠ gk; simp; omega) | (show _ ≠ gk; omega))⟩) (fun hHeld33 => ?_)
                clear hK K hHeld32
                try simp only [Act.put, List.setIfInBounds_toArray, List.set_cons_zero, List.set_cons_succ]
                refine wpAnyH_ready (rs := [19]) (by kernel_rfl) (by simp) ?_
                refine AllReadyH.cons rfl (fun K hK => ?_) ?_
                · go_simp
                  refine hK.out _ _ (⟨HSOF.out _ (by repeat (first | with_reducible exact HBX0.out _ | with_reducible exact HB4.out | with_reducible exact HB3.out | with_reducible exact HB2.out | with_reducible exact HB1.out | with_reducible exact HB0.out | with_reducible exact HGX.out | with_reducible refine HBA.out _ _ ?_ | with_reducible refine HBS.out _ _ _ ?_ ?_ | exact HB4.out.size | exact (HBA.out _ _ HB4.out).size)), by repeat (first | with_reducible exact q4 | with_reducible exact q3 | with_reducible refine (World.cell?_alloc_lt _ _ _ ?_).trans ?_ | with_reducible refine (World.cell?_setCell_far _ _ _ _ ?_).trans ?_ | exact hgk4 | exact hgk3 | (show gk < _; simp; omega) | (show _ ≠ gk; simp; omega) | (show _ ≠ gk; omega))⟩) (fun hHeld34 => ?_)
                  clear hK K hHeld33
                  try simp only [Act.put, List.setIfInBounds_toArray, List.set_cons_zero, List.set_cons_succ]
                  refine wpAnyH_done (by kernel_rfl) ?_ _
                  go_wp2_with fail
                  go_meet
                  first
                    | exact ⟨_, rfl, WSr.new3 [S0, S1, ⟨#[109, 111, 118, 101]⟩, S3] _ rfl HB4.out (by simp) BG4.out HGX.out⟩
                    | exact ⟨_, rfl, WSr.new [S0, S1, ⟨#[109, 111, 118, 101]⟩, S3] _ rfl HB4.out (by simp)⟩
                    | exact ⟨_, rfl, WSr.new2 [S0, S1, ⟨#[109, 111, 118, 101]⟩, S3] _ rfl HB4.out (by simp)⟩
                exact AllReadyH.nil
              exact AllReadyH.nil
            exact AllReadyH.nil
          exact AllReadyH.nil
        exact AllReadyH.nil
      refine AllReadyH.cons rfl (fun K hK => ?_) ?_
      · go_simp
        refine hK.out _ _ (HSOF.out _ (by repeat (first | with_reducible exact HBX0.out _ | with_reducible exact HB4.out | with_reducible exact HB3.out | with_reducible exact HB2.out | with_reducible exact HB1.out | with_reducible exact HB0.out | with_reducible exact HGX.out | with_reducible refine HBA.out _ _ ?_ | with_reducible refine HBS.out _ _ _ ?_ ?_ | exact HB4.out.size | exact (HBA.out _ _ HB4.out).size))) (fun hHeld35 => ?_)
        clear hK K hHeld12
        try simp only [Act.put, List.setIfInBounds_toArray, List.set_cons_zero, List.set_cons_succ]
        refine wpAnyH_ready (rs := [7]) (by kernel_rfl) (by simp) ?_
        refine AllReadyH.cons rfl (fun K hK => ?_) ?_
        · go_simp
          go_at_call_of 48 (Value.int .i64 t1)
          with_reducible refine Calls.mono (HC.out _ (HBG.out _ (HBA.out _ _ HB1.out))) ?_
          rintro e w2 ⟨rfl, hb2⟩
          have HB2 := Lib.hid (HBT.out _ _ (HBA.out _ _ HB1.out) hb2)
          have BG2 := Lib.hid ((Blk.new w1 62 #[.slice none 0 0]).below hb2 (by simp))
          have HGX : Hid (X.heap.size ≤ w1.heap.size) := HB1.out.size
          clear hb2
          refine hK.out _ _ (HSOF.out _ (by repeat (first | with_reducible exact HBX0.out _ | with_reducible exact HB4.out | with_reducible exact HB3.out | with_reducible exact HB2.out | with_reducible exact HB1.out | with_reducible exact HB0.out | with_reducible exact HGX.out | with_reducible refine HBA.out _ _ ?_ | with_reducible refine HBS.out _ _ _ ?_ ?_ | exact HB4.out.size | exact (HBA.out _ _ HB4.out).size))) (fun hHeld36 => ?_)
          clear hK K hHeld35
          try simp only [Act.put, List.setIfInBounds_toArray, List.set_cons_zero, List.set_cons_succ]
          refine wpAnyH_ready (rs := [8]) (by kernel_rfl) (by simp) ?_
          refine AllReadyH.cons rfl (fun K hK => ?_) ?_
          · go_simp
            go_at_call 49
            with_reducible refine Calls.mono (HKW.out w2) ?_
            rintro e w3 ⟨gk, rfl, hgk, hkc, hb3⟩
            have HB3 := Lib.hid (HBT.out _ _ HB2.out hb3)
            have BG3 := Lib.hid (BG2.out.below hb3 BG2.out.lt)
            have q3 : w3.cell? ⟨gk, 1, none⟩ = some (.string ⟨#[109, 111, 118, 101]⟩) := hkc 1 _ rfl
            have hgk3 : gk < w3.heap.size := World.block_lt_of_cell? w3 _ (hkc 0 _ rfl)
            have hgw : w1.heap.size < gk := Nat.lt_of_lt_of_le BG2.out.lt hgk
            clear hkc hgk
            clear hb3
            refine hK.out _ _ (HSOF.out _ (by repeat (first | with_reducible exact HBX0.out _ | with_reducible exact HB4.out | with_reducible exact HB3.out | with_reducible exact HB2.out | with_reducible exact HB1.out | with_reducible exact HB0.out | with_reducible exact HGX.out | with_reducible refine HBA.out _ _ ?_ | with_reducible refine HBS.out _ _ _ ?_ ?_ | exact HB4.out.size | exact (HBA.out _ _ HB4.out).size))) (fun hHeld37 => ?_)
            clear hK K hHeld36
            try simp only [Act.put, List.setIfInBounds_toArray, List.set_cons_zero, List.set_cons_succ]
            have hHeldm37 := (⟨hHeld37, q3⟩ : (fun w' => (w'.cell? ⟨w.heap.size, 0, none⟩ = some (.int .i64 t0) ∧ w'.cell? ⟨w.heap.size, 1, none⟩ = some (.int .i64 t1) ∧ w'.cell? ⟨w.heap.size, 2, none⟩ = some (.int .i64 2) ∧ w'.cell? ⟨w.heap.size, 3, none⟩ = some (.int .i64 id)) ∧ w'.cell? ⟨gk, 1, none⟩ = some (.string ⟨#[109, 111, 118, 101]⟩)) w3)
            refine handMono (S' := (fun w' => (w'.cell? ⟨w.heap.size, 0, none⟩ = some (.int .i64 t0) ∧ w'.cell? ⟨w.heap.size, 1, none⟩ = some (.int .i64 t1) ∧ w'.cell? ⟨w.heap.size, 2, none⟩ = some (.int .i64 2) ∧ w'.cell? ⟨w.heap.size, 3, none⟩ = some (.int .i64 id)) ∧ w'.cell? ⟨gk, 1, none⟩ = some (.string ⟨#[109, 111, 118, 101]⟩))) (fun _ h => h.1) _ _ _ _ ?_
            clear hHeld37
            refine handTake (i := 12) (v := ?vk238) (d := 21) rfl (by kernel_rfl) (by kernel_rfl) (by kernel_rfl) (by kernel_rfl) (fun _ _ _ h => h) (Or.inl ⟨by kernel_rfl, ?yk238⟩) (by assumption) ?zk238
            case yk238 => intro w hSw; (try dsimp only at hSw); go_simp; try with_reducible rfl
            try simp only [List.setIfInBounds_toArray, List.set_cons_zero, List.set_cons_succ]
            refine handTake (i := 13) (v := ?vk239) (d := 22) rfl (by kernel_rfl) (by kernel_rfl) (by kernel_rfl) (by kernel_rfl) (fun _ _ _ h => h) (Or.inl ⟨by kernel_rfl, ?yk239⟩) (by assumption) ?zk239
            case yk239 => intro w hSw; (try dsimp only at hSw); go_simp; try with_reducible rfl
            try simp only [List.setIfInBounds_toArray, List.set_cons_zero, List.set_cons_succ]
            refine wpAnyH_ready (rs := [16]) (by kernel_rfl) (by simp) ?_
            refine AllReadyH.cons rfl (fun K hK => ?_) ?_
            · go_simp
              go_at_call_of 48 (Value.int .i64 id)
              with_reducible refine Calls.mono (HD.out _ (HBG.out _ HB3.out)) ?_
              rintro e w4 ⟨rfl, hb4⟩
              have HB4 := Lib.hid (HBT.out _ _ HB3.out hb4)
              have BG4 := Lib.hid (BG3.out.below hb4 BG3.out.lt)
              have q4 : w4.cell? ⟨gk, 1, none⟩ = some (.string ⟨#[109, 111, 118, 101]⟩) := (hb4.cell (p := ⟨gk, 1, none⟩) hgk3).trans q3
              have hgk4 : gk < w4.heap.size := Nat.lt_of_lt_of_le hgk3 hb4.size
              have sg := BG4.out.cell 0
              have sga := fun o => (World.cell?_alloc_lt w4 o _ BG4.out.lt).trans sg
              have sf := BG4.out.frozen 0
              have sfa := fun o => (BG4.out.alloc o).frozen 0
              try dsimp only at sg sga sf sfa
              clear hb4
              refine hK.out _ _ (⟨HSOF.out _ (by repeat (first | with_reducible exact HBX0.out _ | with_reducible exact HB4.out | with_reducible exact HB3.out | with_reducible exact HB2.out | with_reducible exact HB1.out | with_reducible exact HB0.out | with_reducible exact HGX.out | with_reducible refine HBA.out _ _ ?_ | with_reducible refine HBS.out _ _ _ ?_ ?_ | exact HB4.out.size | exact (HBA.out _ _ HB4.out).size)), by repeat (first | with_reducible exact q4 | with_reducible exact q3 | with_reducible refine (World.cell?_alloc_lt _ _ _ ?_).trans ?_ | with_reducible refine (World.cell?_setCell_far _ _ _ _ ?_).trans ?_ | exact hgk4 | exact hgk3 | (show gk < _; simp; omega) | (show _ ≠ gk; simp; omega) | (show _ ≠ gk; omega))⟩) (fun hHeld40 => ?_)
              clear hK K hHeldm37
              try simp only [Act.put, List.setIfInBounds_toArray, List.set_cons_zero, List.set_cons_succ]
              refine wpAnyH_ready (rs := [17]) (by kernel_rfl) (by simp) ?_
              refine AllReadyH.cons rfl (fun K hK => ?_) ?_
              · go_simp
                refine hK.out _ _ (⟨HSOF.out _ (by repeat (first | with_reducible exact HBX0.out _ | with_reducible exact HB4.out | with_reducible exact HB3.out | with_reducible exact HB2.out | with_reducible exact HB1.out | with_reducible exact HB0.out | with_reducible exact HGX.out | with_reducible refine HBA.out _ _ ?_ | with_reducible refine HBS.out _ _ _ ?_ ?_ | exact HB4.out.size | exact (HBA.out _ _ HB4.out).size)), by repeat (first | with_reducible exact q4 | with_reducible exact q3 | with_reducible refine (World.cell?_alloc_lt _ _ _ ?_).trans ?_ | with_reducible refine (World.cell?_setCell_far _ _ _ _ ?_).trans ?_ | exact hgk4 | exact hgk3 | (show gk < _; simp; omega) | (show _ ≠ gk; simp; omega) | (show _ ≠ gk; omega))⟩) (fun hHeld41 => ?_)
                clear hK K hHeld40
                try simp only [Act.put, List.setIfInBounds_toArray, List.set_cons_zero, List.set_cons_succ]
                refine wpAnyH_ready (rs := [19]) (by kernel_rfl) (by simp) ?_
                refine AllReadyH.cons rfl (fun K hK => ?_) ?_
                · go_simp
                  refine hK.out _ _ (⟨HSOF.out _ (by repeat (first | with_reducible exact HBX0.out _ | with_reducible exact HB4.out | with_reducible exact HB3.out | with_reducible exact HB2.out | with_reducible exact HB1.out | with_reducible exact HB0.out | with_reducible exact HGX.out | with_reducible refine HBA.out _ _ ?_ | with_reducible refine HBS.out _ _ _ ?_ ?_ | exact HB4.out.size | exact (HBA.out _ _ HB4.out).size)), by repeat (first | with_reducible exact q4 | with_reducible exact q3 | with_reducible refine (World.cell?_alloc_lt _ _ _ ?_).trans ?_ | with_reducible refine (World.cell?_setCell_far _ _ _ _ ?_).trans ?_ | exact hgk4 | exact hgk3 | (show gk < _; simp; omega) | (show _ ≠ gk; simp; omega) | (show _ ≠ gk; omega))⟩) (fun hHeld42 => ?_)
                  clear hK K hHeld41
                  try simp only [Act.put, List.setIfInBounds_toArray, List.set_cons_zero, List.set_cons_succ]
                  refine wpAnyH_done (by kernel_rfl) ?_ _
                  go_wp2_with fail
                  go_meet
                  first
                    | exact ⟨_, rfl, WSr.new3 [S0, S1, ⟨#[109, 111, 118, 101]⟩, S3] _ rfl HB4.out (by simp) BG4.out HGX.out⟩
                    | exact ⟨_, rfl, WSr.new [S0, S1, ⟨#[109, 111, 118, 101]⟩, S3] _ rfl HB4.out (by simp)⟩
                    | exact ⟨_, rfl, WSr.new2 [S0, S1, ⟨#[109, 111, 118, 101]⟩, S3] _ rfl HB4.out (by simp)⟩
                exact AllReadyH.nil
              exact AllReadyH.nil
            exact AllReadyH.nil
          exact AllReadyH.nil
        exact AllReadyH.nil
      exact AllReadyH.nil
    refine AllReadyH.cons rfl (fun K hK => ?_) ?_
    · go_simp
      refine hK.out _ _ (HSOF.out _ (by repeat (first | with_reducible exact HBX0.out _ | with_reducible exact HB4.out | with_reducible exact HB3.out | with_reducible exact HB2.out | with_reducible exact HB1.out | with_reducible exact HB0.out | with_reducible exact HGX.out | with_reducible refine HBA.out _ _ ?_ | with_reducible refine HBS.out _ _ _ ?_ ?_ | exact HB4.out.size | exact (HBA.out _ _ HB4.out).size))) (fun hHeld43 => ?_)
      clear hK K hHeld0
      try simp only [Act.put, List.setIfInBounds_toArray, List.set_cons_zero, List.set_cons_succ]
      refine wpAnyH_ready (rs := [3]) (by kernel_rfl) (by simp) ?_
      refine AllReadyH.cons rfl (fun K hK => ?_) ?_
      · go_simp
        go_at_call_of 48 (Value.int .i64 t0)
        with_reducible refine Calls.mono (HT.out _ (HBG.out _ (HBX0.out _))) ?_
        rintro e w1 ⟨rfl, hb1⟩
        have HB1 := Lib.hid (HBT.out _ _ (HBX0.out _) hb1)
        have BG1 := Lib.hid ((Blk.new X 62 #[.slice none 0 0]).drew.below hb1 (by simp))
        have HGX : Hid (X.heap.size ≤ X.heap.size) := Nat.le_refl _
        clear hb1
        refine hK.out _ _ (HSOF.out _ (by repeat (first | with_reducible exact HBX0.out _ | with_reducible exact HB4.out | with_reducible exact HB3.out | with_reducible exact HB2.out | with_reducible exact HB1.out | with_reducible exact HB0.out | with_reducible exact HGX.out | with_reducible refine HBA.out _ _ ?_ | with_reducible refine HBS.out _ _ _ ?_ ?_ | exact HB4.out.size | exact (HBA.out _ _ HB4.out).size))) (fun hHeld44 => ?_)
        clear hK K hHeld43
        try simp only [Act.put, List.setIfInBounds_toArray, List.set_cons_zero, List.set_cons_succ]
        refine wpAnyH_ready (rs := [7]) (by kernel_rfl) (by simp) ?_
        refine AllReadyH.cons rfl (fun K hK => ?_) ?_
        · go_simp
          go_at_call_of 48 (Value.int .i64 t1)
          with_reducible refine Calls.mono (HC.out _ (HBG.out _ HB1.out)) ?_
          rintro e w2 ⟨rfl, hb2⟩
          have HB2 := Lib.hid (HBT.out _ _ HB1.out hb2)
          have BG2 := Lib.hid (BG1.out.below hb2 BG1.out.lt)
          clear hb2
          refine hK.out _ _ (HSOF.out _ (by repeat (first | with_reducible exact HBX0.out _ | with_reducible exact HB4.out | with_reducible exact HB3.out | with_reducible exact HB2.out | with_reducible exact HB1.out | with_reducible exact HB0.out | with_reducible exact HGX.out | with_reducible refine HBA.out _ _ ?_ | with_reducible refine HBS.out _ _ _ ?_ ?_ | exact HB4.out.size | exact (HBA.out _ _ HB4.out).size))) (fun hHeld45 => ?_)
          clear hK K hHeld44
          try simp only [Act.put, List.setIfInBounds_toArray, List.set_cons_zero, List.set_cons_succ]
          refine wpAnyH_ready (rs := [8]) (by kernel_rfl) (by simp) ?_
          refine AllReadyH.cons rfl (fun K hK => ?_) ?_
          · go_simp
            go_at_call 49
            with_reducible refine Calls.mono (HKW.out w2) ?_
            rintro e w3 ⟨gk, rfl, hgk, hkc, hb3⟩
            have HB3 := Lib.hid (HBT.out _ _ HB2.out hb3)
            have BG3 := Lib.hid (BG2.out.below hb3 BG2.out.lt)
            have q3 : w3.cell? ⟨gk, 1, none⟩ = some (.string ⟨#[109, 111, 118, 101]⟩) := hkc 1 _ rfl
            have hgk3 : gk < w3.heap.size := World.block_lt_of_cell? w3 _ (hkc 0 _ rfl)
            have hgw : X.heap.size < gk := Nat.lt_of_lt_of_le BG2.out.lt hgk
            clear hkc hgk
            clear hb3
            refine hK.out _ _ (HSOF.out _ (by repeat (first | with_reducible exact HBX0.out _ | with_reducible exact HB4.out | with_reducible exact HB3.out | with_reducible exact HB2.out | with_reducible exact HB1.out | with_reducible exact HB0.out | with_reducible exact HGX.out | with_reducible refine HBA.out _ _ ?_ | with_reducible refine HBS.out _ _ _ ?_ ?_ | exact HB4.out.size | exact (HBA.out _ _ HB4.out).size))) (fun hHeld46 => ?_)
            clear hK K hHeld45
            try simp only [Act.put, List.setIfInBounds_toArray, List.set_cons_zero, List.set_cons_succ]
            have hHeldm46 := (⟨hHeld46, q3⟩ : (fun w' => (w'.cell? ⟨w.heap.size, 0, none⟩ = some (.int .i64 t0) ∧ w'.cell? ⟨w.heap.size, 1, none⟩ = some (.int .i64 t1) ∧ w'.cell? ⟨w.heap.size, 2, none⟩ = some (.int .i64 2) ∧ w'.cell? ⟨w.heap.size, 3, none⟩ = some (.int .i64 id)) ∧ w'.cell? ⟨gk, 1, none⟩ = some (.string ⟨#[109, 111, 118, 101]⟩)) w3)
            refine handMono (S' := (fun w' => (w'.cell? ⟨w.heap.size, 0, none⟩ = some (.int .i64 t0) ∧ w'.cell? ⟨w.heap.size, 1, none⟩ = some (.int .i64 t1) ∧ w'.cell? ⟨w.heap.size, 2, none⟩ = some (.int .i64 2) ∧ w'.cell? ⟨w.heap.size, 3, none⟩ = some (.int .i64 id)) ∧ w'.cell? ⟨gk, 1, none⟩ = some (.string ⟨#[109, 111, 118, 101]⟩))) (fun _ h => h.1) _ _ _ _ ?_
            clear hHeld46
            refine handTake (i := 12) (v := ?vk247) (d := 21) rfl (by kernel_rfl) (by kernel_rfl) (by kernel_rfl) (by kernel_rfl) (fun _ _ _ h => h) (Or.inl ⟨by kernel_rfl, ?yk247⟩) (by assumption) ?zk247
            case yk247 => intro w hSw; (try dsimp only at hSw); go_simp; try with_reducible rfl
            try simp only [List.setIfInBounds_toArray, List.set_cons_zero, List.set_cons_succ]
            refine handTake (i := 13) (v := ?vk248) (d := 22) rfl (by kernel_rfl) (by kernel_rfl) (by kernel_rfl) (by kernel_rfl) (fun _ _ _ h => h) (Or.inl ⟨by kernel_rfl, ?yk248⟩) (by assumption) ?zk248
            case yk248 => intro w hSw; (try dsimp only at hSw); go_simp; try with_reducible rfl
            try simp only [List.setIfInBounds_toArray, List.set_cons_zero, List.set_cons_succ]
            refine wpAnyH_ready (rs := [16]) (by kernel_rfl) (by simp) ?_
            refine AllReadyH.cons rfl (fun K hK => ?_) ?_
            · go_simp
              go_at_call_of 48 (Value.int .i64 id)
              with_reducible refine Calls.mono (HD.out _ (HBG.out _ HB3.out)) ?_
              rintro e w4 ⟨rfl, hb4⟩
              have HB4 := Lib.hid (HBT.out _ _ HB3.out hb4)
              have BG4 := Lib.hid (BG3.out.below hb4 BG3.out.lt)
              have q4 : w4.cell? ⟨gk, 1, none⟩ = some (.string ⟨#[109, 111, 118, 101]⟩) := (hb4.cell (p := ⟨gk, 1, none⟩) hgk3).trans q3
              have hgk4 : gk < w4.heap.size := Nat.lt_of_lt_of_le hgk3 hb4.size
              have sg := BG4.out.cell 0
              have sga := fun o => (World.cell?_alloc_lt w4 o _ BG4.out.lt).trans sg
              have sf := BG4.out.frozen 0
              have sfa := fun o => (BG4.out.alloc o).frozen 0
              try dsimp only at sg sga sf sfa
              clear hb4
              refine hK.out _ _ (⟨HSOF.out _ (by repeat (first | with_reducible exact HBX0.out _ | with_reducible exact HB4.out | with_reducible exact HB3.out | with_reducible exact HB2.out | with_reducible exact HB1.out | with_reducible exact HB0.out | with_reducible exact HGX.out | with_reducible refine HBA.out _ _ ?_ | with_reducible refine HBS.out _ _ _ ?_ ?_ | exact HB4.out.size | exact (HBA.out _ _ HB4.out).size)), by repeat (first | with_reducible exact q4 | with_reducible exact q3 | with_reducible refine (World.cell?_alloc_lt _ _ _ ?_).trans ?_ | with_reducible refine (World.cell?_setCell_far _ _ _ _ ?_).trans ?_ | exact hgk4 | exact hgk3 | (show gk < _; simp; omega) | (show _ ≠ gk; simp; omega) | (show _ ≠ gk; omega))⟩) (fun hHeld49 => ?_)
              clear hK K hHeldm46
              try simp only [Act.put, List.setIfInBounds_toArray, List.set_cons_zero, List.set_cons_succ]
              refine wpAnyH_ready (rs := [17]) (by kernel_rfl) (by simp) ?_
              refine AllReadyH.cons rfl (fun K hK => ?_) ?_
              · go_simp
                refine hK.out _ _ (⟨HSOF.out _ (by repeat (first | with_reducible exact HBX0.out _ | with_reducible exact HB4.out | with_reducible exact HB3.out | with_reducible exact HB2.out | with_reducible exact HB1.out | with_reducible exact HB0.out | with_reducible exact HGX.out | with_reducible refine HBA.out _ _ ?_ | with_reducible refine HBS.out _ _ _ ?_ ?_ | exact HB4.out.size | exact (HBA.out _ _ HB4.out).size)), by repeat (first | with_reducible exact q4 | with_reducible exact q3 | with_reducible refine (World.cell?_alloc_lt _ _ _ ?_).trans ?_ | with_reducible refine (World.cell?_setCell_far _ _ _ _ ?_).trans ?_ | exact hgk4 | exact hgk3 | (show gk < _; simp; omega) | (show _ ≠ gk; simp; omega) | (show _ ≠ gk; omega))⟩) (fun hHeld50 => ?_)
                clear hK K hHeld49
                try simp only [Act.put, List.setIfInBounds_toArray, List.set_cons_zero, List.set_cons_succ]
                refine wpAnyH_ready (rs := [19]) (by kernel_rfl) (by simp) ?_
                refine AllReadyH.cons rfl (fun K hK => ?_) ?_
                · go_simp
                  refine hK.out _ _ (⟨HSOF.out _ (by repeat (first | with_reducible exact HBX0.out _ | with_reducible exact HB4.out | with_reducible exact HB3.out | with_reducible exact HB2.out | with_reducible exact HB1.out | with_reducible exact HB0.out | with_reducible exact HGX.out | with_reducible refine HBA.out _ _ ?_ | with_reducible refine HBS.out _ _ _ ?_ ?_ | exact HB4.out.size | exact (HBA.out _ _ HB4.out).size)), by repeat (first | with_reducible exact q4 | with_reducible exact q3 | with_reducible refine (World.cell?_alloc_lt _ _ _ ?_).trans ?_ | with_reducible refine (World.cell?_setCell_far _ _ _ _ ?_).trans ?_ | exact hgk4 | exact hgk3 | (show gk < _; simp; omega) | (show _ ≠ gk; simp; omega) | (show _ ≠ gk; omega))⟩) (fun hHeld51 => ?_)
                  clear hK K hHeld50
                  try simp only [Act.put, List.setIfInBounds_toArray, List.set_cons_zero, List.set_cons_succ]
                  refine wpAnyH_done (by kernel_rfl) ?_ _
                  go_wp2_with fail
                  go_meet
                  first
                    | exact ⟨_, rfl, WSr.new3 [S0, S1, ⟨#[109, 111, 118, 101]⟩, S3] _ rfl HB4.out (by simp) BG4.out HGX.out⟩
                    | exact ⟨_, rfl, WSr.new [S0, S1, ⟨#[109, 111, 118, 101]⟩, S3] _ rfl HB4.out (by simp)⟩
                    | exact ⟨_, rfl, WSr.new2 [S0, S1, ⟨#[109, 111, 118, 101]⟩, S3] _ rfl HB4.out (by simp)⟩
                exact AllReadyH.nil
              exact AllReadyH.nil
            exact AllReadyH.nil
          exact AllReadyH.nil
        exact AllReadyH.nil
      exact AllReadyH.nil
    exact AllReadyH.nil
  case rest =>
  obtain ⟨gw, rfl, hW⟩ := hcut
  clear HT HC HD HKW iw0 iw1
  have y2 : wc.cell? ⟨w.heap.size, 2, none⟩ = some (.int .i64 2) := ((hW.out.below).cell (p := ⟨w.heap.size, 2, none⟩) hzX).trans (HKX.out.cell 2)
  have y4 : wc.cell? ⟨w.heap.size, 4, none⟩ = some (.int .i64 pa) := ((hW.out.below).cell (p := ⟨w.heap.size, 4, none⟩) hzX).trans (HKX.out.cell 4)
  have y5 : wc.cell? ⟨w.heap.size, 5, none⟩ = some (.int .i64 le) := ((hW.out.below).cell (p := ⟨w.heap.size, 5, none⟩) hzX).trans (HKX.out.cell 5)
  have hzc := hW.out.below.size
  have HW2 : Hid (WSr gw X (wc.alloc (.cells #[.int .i64 pa, .int .i64 le] 3)) [S0, S1, ⟨#[109, 111, 118, 101]⟩, S3]) := hW.out.step ((Below.refl _ _).alloc (Nat.le_refl _) _)
  have HPU := Lib.hid (put_any gw wc.heap.size 2 [pa, le] _ X _ HW2.out (Blk.new wc 3 #[.int .i64 pa, .int .i64 le]) hzc HPX.out (by simp) (by simp) (fun x hx => by
    simp only [List.mem_cons, List.not_mem_nil, or_false] at hx
    rcases hx with rfl | rfl <;> (constructor <;> omega)))
  go_wp2_with fail
  refine HPU.out.mono ?_
  rintro e wd1 ⟨rfl, hw5⟩
  have HW5 := Lib.hid hw5
  clear hw5 HPU HW2
  have HWF : Hid (WSr gw X wd1 ([S0, S1, ⟨#[109, 111, 118, 101]⟩, S3] ++ [pa, le].map wd)) := HW5
  have HRF : Hid (R = joinB ([S0, S1, ⟨#[109, 111, 118, 101]⟩, S3] ++ [pa, le].map wd) bSp) := by rw [HRR.out]; rfl
  obtain ⟨LL, hLL⟩ : ∃ LL, LL = [S0, S1, ⟨#[109, 111, 118, 101]⟩, S3] ++ [pa, le].map wd := ⟨_, rfl⟩
  have hlL : LL.length ≤ 2000 := by rw [hLL]; simp
  rw [← hLL] at HWF HRF
  clear hLL
  obtain ⟨v, hbv, hov, hvn⟩ := HWF.out.ex
  have c0 : wd1.cell? ⟨gw, 0, none⟩ = some v := hbv.cell 0
  have HJ := Lib.hid (join_own LL bSp wd1 _ _ v hov rfl (by show LL.length ≤ _; omega) (by rw [← HRF.out]; have := HWS.out; omega))
  rw [← HRF.out] at HJ
  have hbz := HWF.out.below
  have HBZ := Lib.hid hbz
  clear hbv hov hvn hbz
  go_wp2_with fail
  refine HJ.out.mono ?_
  rintro e wy ⟨rfl, hby⟩
  have HBY : Hid (Below w.heap.size w wy) := HBX.out.trans ((HBZ.out.trans (hby.mono HBZ.out.size)).mono HBX.out.size)
  clear hby
  go_wp2_with fail
  go_ret
  refine ⟨rfl, ?_, HBY.out⟩
  rw [ByteArray.size_append]
  show _ + 1 ≤ 1000000
  omega
end Go.Proofs.YtinllchioeldbaaGreatDoor
