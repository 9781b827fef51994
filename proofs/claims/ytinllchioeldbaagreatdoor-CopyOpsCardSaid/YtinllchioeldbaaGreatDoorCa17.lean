/-
  DERIVED. The walk of copy.opText: kind 6. Conditions: the operation is right.
  By an AI agent.
-/
import Derived.Test.YtinllchioeldbaaGreatDoorCa13
import Derived.Test.YtinllchioeldbaaGreatDoorCa05
import Derived.Test.YtinllchioeldbaaGreatDoorCa12
import Derived.Deep.RegionHeld3
import Derived.Deep.DeepCutAuto
import Derived.Deep.CutBlock
namespace Go.Proofs.YtinllchioeldbaaGreatDoor
open Go.RowKit

set_option maxHeartbeats 4000000 in
set_option maxRecDepth 100000 in
theorem opText_k6 (o : COp) (As Ai : Option Addr) (ns cs ni ci : Nat) (w : World) (B : Nat) (hB : B ≤ w.heap.size) (h : RC1 w B ⟨o, .slice As ns cs, .slice Ai ni ci⟩) (hk : o.kind = 6) (ok : OkO o) (hP : Pow w) :
    Calls Tryz.prog 28 #[CA ⟨o, .slice As ns cs, .slice Ai ni ci⟩] w fun e w' => e = .returned (.string (opTx o)) ∧ (opTx o).size ≤ 1000000 ∧ Below w.heap.size w w' := by
  obtain ⟨hs, hv, hci⟩ := h
  dsimp only at hs hv hci
  have HI : Hid (∀ n, 0 ≤ n ∧ n ≤ 1000000000 → ∀ W, Below w.heap.size w W → Calls Tryz.prog 48 #[.int .i64 n] W fun e w' => e = .returned (.string (wd n)) ∧ Below W.heap.size W w') := fun n hn W hW => itoaN_any n (by omega) (by omega) W (hP.below hW)
  have HT := Lib.hid (HI.out _ ok.t)
  have HC := Lib.hid (HI.out _ ok.c)
  have HD := Lib.hid (HI.out _ ok.i)
  have HKW := Lib.hid kindWords_any
  have hsz := fun h => wds_size ok (fun _ => h)
  have HWD : Hid (wds o = [wd o.st.time, wd o.st.cp, ⟨#[115, 101, 116]⟩, wd o.id] ++ [o.name, txS o.val]) := by
    show _ = _
    unfold wds preW
    rw [hk]
    rfl
  have z0 := wd_sz ok.t
  have z1 := wd_sz ok.c
  have z2 := wd_sz ok.i
  unfold opTx
  have HSZ : Hid ((txS o.val).size ≤ 100000 → (joinB (wds o) bSp).size ≤ 900000) := hsz
  obtain ⟨R, hR⟩ : ∃ R, R = joinB (wds o) bSp := ⟨_, rfl⟩
  rw [← hR] at HSZ ⊢
  clear hsz
  have HRR : Hid (R = joinB (wds o) bSp) := hR
  rw [HWD.out] at HRR
  clear hR HWD
  have hve := (ok.v hk).2
  obtain ⟨⟨t0, t1⟩, k, id, pa, le, ⟨⟨a0, a1⟩, a2⟩, oc, sp, nm, ⟨vk, vi, vt, vs, vl⟩⟩ := o
  obtain rfl : k = 6 := hk
  dsimp only [CA, Vl.kind, Vl.int_, Vl.to_, Vl.text, Vl.items] at HT HC HD HRR z0 z1 z2 ⊢
  obtain ⟨S0, e0⟩ : ∃ S, S = wd t0 := ⟨_, rfl⟩
  obtain ⟨S1, e1⟩ : ∃ S, S = wd t1 := ⟨_, rfl⟩
  obtain ⟨S3, e3⟩ : ∃ S, S = wd id := ⟨_, rfl⟩
  rw [← e0, ← e1, ← e3] at HRR
  rw [← e0] at HT z0
  rw [← e1] at HC z1
  rw [← e3] at HD z2
  clear e0 e1 e3 ok
  go_enter Tryz.func28, Tryz.ntmps28
  go_upto_region 1 with fail
  have KX := Blk.new w 33 #[.int .i64 t0, .int .i64 t1, .int .i64 6, .int .i64 id, .int .i64 pa, .int .i64 le, .int .i64 a0, .int .i64 a1, .int .i64 a2, .string oc, .slice As ns cs, .string nm, .int .i64 vk, .int .i64 vi, .int .i64 vt, .string vs, .slice Ai ni ci]
  have hbX : Below w.heap.size w (w.alloc (.cells #[.int .i64 t0, .int .i64 t1, .int .i64 6, .int .i64 id, .int .i64 pa, .int .i64 le, .int .i64 a0, .int .i64 a1, .int .i64 a2, .string oc, .slice As ns cs, .string nm, .int .i64 vk, .int .i64 vi, .int .i64 vt, .string vs, .slice Ai ni ci] 33)) := (Below.refl _ _).alloc (Nat.le_refl _) _
  generalize (w.alloc (.cells #[.int .i64 t0, .int .i64 t1, .int .i64 6, .int .i64 id, .int .i64 pa, .int .i64 le, .int .i64 a0, .int .i64 a1, .int .i64 a2, .string oc, .slice As ns cs, .string nm, .int .i64 vk, .int .i64 vi, .int .i64 vt, .string vs, .slice Ai ni ci] 33)) = X at KX hbX ⊢
  have hzX := KX.lt
  have hPX := hP.below hbX
  have HPX := Lib.hid hPX
  have HKX := Lib.hid KX
  have HBX := Lib.hid hbX
  have iw0 : IntKind.i64.wrap (6 - 1) = 5 := by decide
  have iw1 : IntKind.i64.wrap 5 = 5 := by decide
  clear hPX hP
  go_cut [3] (fun s3 wc => ∃ gw : Nat, s3 = .pointer (some ⟨gw, 0, none⟩) ∧ Hid (WSr gw X wc [S0, S1, ⟨#[115, 101, 116]⟩, S3]))
  case first =>
    have f0_0 : X.cell? ⟨w.heap.size, 0, none⟩ = some (.int .i64 t0) := KX.cell 0
    have f0_1 : X.cell? ⟨w.heap.size, 1, none⟩ = some (.int .i64 t1) := KX.cell 1
    have f0_2 : X.cell? ⟨w.heap.size, 2, none⟩ = some (.int .i64 6) := KX.cell 2
    have f0_3 : X.cell? ⟨w.heap.size, 3, none⟩ = some (.int .i64 id) := KX.cell 3
    have f0d_0 : X.drew.cell? ⟨w.heap.size, 0, none⟩ = some (.int .i64 t0) := f0_0
    have f0d_1 : X.drew.cell? ⟨w.heap.size, 1, none⟩ = some (.int .i64 t1) := f0_1
    have f0d_2 : X.drew.cell? ⟨w.heap.size, 2, none⟩ = some (.int .i64 6) := f0_2
    have f0d_3 : X.drew.cell? ⟨w.heap.size, 3, none⟩ = some (.int .i64 id) := f0_3
    have HSOF : Hid (∀ W, Below X.heap.size X W → W.cell? ⟨w.heap.size, 0, none⟩ = some (.int .i64 t0) ∧ W.cell? ⟨w.heap.size, 1, none⟩ = some (.int .i64 t1) ∧ W.cell? ⟨w.heap.size, 2, none⟩ = some (.int .i64 6) ∧ W.cell? ⟨w.heap.size, 3, none⟩ = some (.int .i64 id)) := fun W h => ⟨(h.cell (p := ⟨w.heap.size, 0, none⟩) hzX).trans f0_0, (h.cell (p := ⟨w.heap.size, 1, none⟩) hzX).trans f0_1, (h.cell (p := ⟨w.heap.size, 2, none⟩) hzX).trans f0_2, (h.cell (p := ⟨w.heap.size, 3, none⟩) hzX).trans f0_3⟩
    have HBT : Hid (∀ W W', Below X.heap.size X W → Below W.heap.size W W' → Below X.heap.size X W') := fun W W' h h' => h.trans (h'.mono h.size)
    have HBA : Hid (∀ W o, Below X.heap.size X W → Below X.heap.size X (W.alloc o)) := fun W o h => h.alloc h.size o
    have HBG : Hid (∀ W, Below X.heap.size X W → Below w.heap.size w W) := fun W h => HBX.out.trans (h.mono HBX.out.size)
    have HBS : Hid (∀ W g v, X.heap.size ≤ g → Below X.heap.size X W → Below X.heap.size X (W.setCell ⟨g, 0, none⟩ v)) := fun W g v hg h => h.setCell (p := ⟨g, 0, none⟩) hg v
    have HB0 : Hid (Below X.heap.size X X.drew) := (Below.refl X.heap.size X).drew
    have HBX0 : Hid (∀ o, Below X.heap.size X (X.alloc o).drew) := fun o => ((Below.refl X.heap.size X).alloc (Nat.le_refl _) o).drew
    refine wp_region_held_drew (S := (fun w' => w'.cell? ⟨w.heap.size, 0, none⟩ = some (.int .i64 t0) ∧ w'.cell? ⟨w.heap.size, 1, none⟩ = some (.int .i64 t1) ∧ w'.cell? ⟨w.heap.size, 2, none⟩ = some (.int .i64 6) ∧ w'.cell? ⟨w.heap.size, 3, none⟩ = some (.int .i64 id))) (by kernel_rfl) (HSOF.out _ HB0.out) (fun hHeld0 => ?_)
    refine handTake (i := 0) (v := ?vk61) (d := 9) rfl (by kernel_rfl) (by kernel_rfl) (by kernel_rfl) (by kernel_rfl) (fun _ _ _ h => h) (Or.inl ⟨by kernel_rfl, ?yk61⟩) (by assumption) ?zk61
    case yk61 => intro w hSw; (try dsimp only at hSw); go_simp; try with_reducible rfl
    try simp only [List.setIfInBounds_toArray, List.set_cons_zero, List.set_cons_succ]
    refine handTake (i := 1) (v := ?vk62) (d := 10) rfl (by kernel_rfl) (by kernel_rfl) (by kernel_rfl) (by kernel_rfl) (fun _ _ _ h => h) (Or.inl ⟨by kernel_rfl, ?yk62⟩) (by assumption) ?zk62
    case yk62 => intro w hSw; (try dsimp only at hSw); go_simp; try with_reducible rfl
    try simp only [List.setIfInBounds_toArray, List.set_cons_zero, List.set_cons_succ]
    refine handTake (i := 2) (v := ?vk63) (d := 11) rfl (by kernel_rfl) (by kernel_rfl) (by kernel_rfl) (by kernel_rfl) (fun _ _ _ h => h) (Or.inl ⟨by kernel_rfl, ?yk63⟩) (by assumption) ?zk63
    case yk63 => intro w hSw; (try dsimp only at hSw); go_simp; try with_reducible rfl
    try simp only [List.setIfInBounds_toArray, List.set_cons_zero, List.set_cons_succ]
    refine handTake (i := 4) (v := ?vk64) (d := 13) rfl (by kernel_rfl) (by kernel_rfl) (by kernel_rfl) (by kernel_rfl) (fun _ _ _ h => h) (Or.inl ⟨by kernel_rfl, ?yk64⟩) (by assumption) ?zk64
    case yk64 => intro w hSw; (try dsimp only at hSw); go_simp; try with_reducible rfl
    try simp only [List.setIfInBounds_toArray, List.set_cons_zero, List.set_cons_succ]
    refine handTake (i := 5) (v := ?vk65) (d := 14) rfl (by kernel_rfl) (by kernel_rfl) (by kernel_rfl) (by kernel_rfl) (fun _ _ _ h => h) (Or.inl ⟨by kernel_rfl, ?yk65⟩) (by assumption) ?zk65
    case yk65 => intro w hSw; (try dsimp only at hSw); go_simp; try with_reducible rfl
    try simp only [List.setIfInBounds_toArray, List.set_cons_zero, List.set_cons_succ]
    refine handTake (i := 6) (v := ?vk66) (d := 15) rfl (by kernel_rfl) (by kernel_rfl) (by kernel_rfl) (by kernel_rfl) (fun _ _ _ h => h) (Or.inl ⟨by kernel_rfl, ?yk66⟩) (by assumption) ?zk66
    case yk66 => intro w hSw; (try dsimp only at hSw); go_simp; try with_reducible rfl
    try simp only [List.setIfInBounds_toArray, List.set_cons_zero, List.set_cons_succ]
    refine handTake (i := 9) (v := ?vk67) (d := 18) rfl (by kernel_rfl) (by kernel_rfl) (by kernel_rfl) (by kernel_rfl) (fun _ _ _ h => h) (Or.inl ⟨by kernel_rfl, ?yk67⟩) (by assumption) ?zk67
    case yk67 => intro w hSw; (try dsimp only at hSw); go_simp; try with_reducible rfl
    try simp only [List.setIfInBounds_toArray, List.set_cons_zero, List.set_cons_succ]
    refine handTake (i := 10) (v := ?vk68) (d := 19) rfl (by kernel_rfl) (by kernel_rfl) (by kernel_rfl) (by kernel_rfl) (fun _ _ _ h => h) (Or.inl ⟨by kernel_rfl, ?yk68⟩) (by assumption) ?zk68
    case yk68 => intro w hSw; (try dsimp only at hSw); go_simp; try with_reducible rfl
    try simp only [List.setIfInBounds_toArray, List.set_cons_zero, List.set_cons_succ]
    refine handTake (i := 11) (v := ?vk69) (d := 20) rfl (by kernel_rfl) (by kernel_rfl) (by kernel_rfl) (by kernel_rfl) (fun _ _ _ h => h) (Or.inl ⟨by kernel_rfl, ?yk69⟩) (by assumption) ?zk69
    case yk69 => intro w hSw; (try dsimp only at hSw); go_simp; try with_reducible rfl
    try simp only [List.setIfInBounds_toArray, List.set_cons_zero, List.set_cons_succ]
    refine handTake (i := 14) (v := ?vk610) (d := 23) rfl (by kernel_rfl) (by kernel_rfl) (by kernel_rfl) (by kernel_rfl) (fun _ _ _ h => h) (Or.inl ⟨by kernel_rfl, ?yk610⟩) (by assumption) ?zk610
    case yk610 => intro w hSw; (try dsimp only at hSw); go_simp; try with_reducible rfl
    try simp only [List.setIfInBounds_toArray, List.set_cons_zero, List.set_cons_succ]
    refine handTake (i := 15) (v := ?vk611) (d := 24) rfl (by kernel_rfl) (by kernel_rfl) (by kernel_rfl) (by kernel_rfl) (fun _ _ _ h => h) (Or.inl ⟨by kernel_rfl, ?yk611⟩) (by assumption) ?zk611
    case yk611 => intro w hSw; (try dsimp only at hSw); go_simp; try with_reducible rfl
    try simp only [List.setIfInBounds_toArray, List.set_cons_zero, List.set_cons_succ]
    refine wpAnyH_ready (rs := [3, 18]) (by kernel_rfl) (by simp) ?_
    refine AllReadyH.cons rfl (fun K hK => ?_) ?_
    · go_simp
      go_at_call_of 48 (Value.int .i64 t0)
      with_reducible refine Calls.mono (HT.out _ (HBG.out _ HB0.out)) ?_
      rintro e w1 ⟨rfl, hb1⟩
      have HB1 := Lib.hid (HBT.out _ _ HB0.out hb1)
      clear hb1
      refine hK.out _ _ (HSOF.out _ (by repeat (first | with_reducible exact HBX0.out _ | with_reducible exact HB4.out | with_reducible exact HB3.out | with_reducible exact HB2.out | with_reducible exact HB1.out | with_reducible exact HB0.out | with_reducible exact HGX.out | with_reducible refine HBA.out _ _ ?_ | with_reducible refine HBS.out _ _ _ ?_ ?_ | exact HB4.out.size | exact (HBA.out _ _ HB4.out).size))) (fun hHeld12 => ?_)
      clear hK K hHeld0
      try simp only [Act.put, List.setIfInBounds_toArray, List.set_cons_zero, List.set_cons_succ]
      refine wpAnyH_ready (rs := [7, 18]) (by kernel_rfl) (by simp) ?_
      refine AllReadyH.cons rfl (fun K hK => ?_) ?_
      · go_simp
        go_at_call_of 48 (Value.int .i64 t1)
        with_reducible refine Calls.mono (HC.out _ (HBG.out _ HB1.out)) ?_
        rintro e w2 ⟨rfl, hb2⟩
        have HB2 := Lib.hid (HBT.out _ _ HB1.out hb2)
        clear hb2
        refine hK.out _ _ (HSOF.out _ (by repeat (first | with_reducible exact HBX0.out _ | with_reducible exact HB4.out | with_reducible exact HB3.out | with_reducible exact HB2.out | with_reducible exact HB1.out | with_reducible exact HB0.out | with_reducible exact HGX.out | with_reducible refine HBA.out _ _ ?_ | with_reducible refine HBS.out _ _ _ ?_ ?_ | exact HB4.out.size | exact (HBA.out _ _ HB4.out).size))) (fun hHeld13 => ?_)
        clear hK K hHeld12
        try simp only [Act.put, List.setIfInBounds_toArray, List.set_cons_zero, List.set_cons_succ]
        refine wpAnyH_ready (rs := [8, 18]) (by kernel_rfl) (by simp) ?_
        refine AllReadyH.cons rfl (fun K hK => ?_) ?_
        · go_simp
          go_at_call 49
          with_reducible refine Calls.mono (HKW.out w2) ?_
          rintro e w3 ⟨gk, rfl, hgk, hkc, hb3⟩
          have HB3 := Lib.hid (HBT.out _ _ HB2.out hb3)
          have q3 : w3.cell? ⟨gk, 5, none⟩ = some (.string ⟨#[115, 101, 116]⟩) := hkc 5 _ rfl
          have hgk3 : gk < w3.heap.size := World.block_lt_of_cell? w3 _ (hkc 0 _ rfl)
          clear hkc hgk
          clear hb3
          refine hK.out _ _ (HSOF.out _ (by repeat (first | with_reducible exact HBX0.out _ | with_reducible exact HB4.out | with_reducible exact HB3.out | with_reducible exact HB2.out | with_reducible exact HB1.out | with_reducible exact HB0.out | with_reducible exact HGX.out | with_reducible refine HBA.out _ _ ?_ | with_reducible refine HBS.out _ _ _ ?_ ?_ | exact HB4.out.size | exact (HBA.out _ _ HB4.out).size))) (fun hHeld14 => ?_)
          clear hK K hHeld13
          try simp only [Act.put, List.setIfInBounds_toArray, List.set_cons_zero, List.set_cons_succ]
          have hHeldm14 := (⟨hHeld14, q3⟩ : (fun w' => (w'.cell? ⟨w.heap.size, 0, none⟩ = some (.int .i64 t0) ∧ w'.cell? ⟨w.heap.size, 1, none⟩ = some (.int .i64 t1) ∧ w'.cell? ⟨w.heap.size, 2, none⟩ = some (.int .i64 6) ∧ w'.cell? ⟨w.heap.size, 3, none⟩ = some (.int .i64 id)) ∧ w'.cell? ⟨gk, 5, none⟩ = some (.string ⟨#[115, 101, 116]⟩)) w3)
          refine handMono (S' := (fun w' => (w'.cell? ⟨w.heap.size, 0, none⟩ = some (.int .i64 t0) ∧ w'.cell? ⟨w.heap.size, 1, none⟩ = some (.int .i64 t1) ∧ w'.cell? ⟨w.heap.size, 2, none⟩ = some (.int .i64 6) ∧ w'.cell? ⟨w.heap.size, 3, none⟩ = some (.int .i64 id)) ∧ w'.cell? ⟨gk, 5, none⟩ = some (.string ⟨#[115, 101, 116]⟩))) (fun _ h => h.1) _ _ _ _ ?_
          clear hHeld14
          refine handTake (i := 12) (v := ?vk615) (d := 21) rfl (by kernel_rfl) (by kernel_rfl) (by kernel_rfl) (by kernel_rfl) (fun _ _ _ h => h) (Or.inl ⟨by kernel_rfl, ?yk615⟩) (by assumption) ?zk615
          case yk615 => intro w hSw; (try dsimp only at hSw); go_simp; try with_reducible rfl
          try simp only [List.setIfInBounds_toArray, List.set_cons_zero, List.set_cons_succ]
          refine handTake (i := 13) (v := ?vk616) (d := 22) rfl (by kernel_rfl) (by kernel_rfl) (by kernel_rfl) (by kernel_rfl) (fun _ _ _ h => h) (Or.inl ⟨by kernel_rfl, ?yk616⟩) (by assumption) ?zk616
          case yk616 => intro w hSw; (try dsimp only at hSw); go_simp; try with_reducible rfl
          try simp only [List.setIfInBounds_toArray, List.set_cons_zero, List.set_cons_succ]
          refine wpAnyH_ready (rs := [16, 18]) (by kernel_rfl) (by simp) ?_
          refine AllReadyH.cons rfl (fun K hK => ?_) ?_
          · go_simp
            go_at_call_of 48 (Value.int .i64 id)
            with_reducible refine Calls.mono (HD.out _ (HBG.out _ HB3.out)) ?_
            rintro e w4 ⟨rfl, hb4⟩
            have HB4 := Lib.hid (HBT.out _ _ HB3.out hb4)
            have q4 : w4.cell? ⟨gk, 5, none⟩ = some (.string ⟨#[115, 101, 116]⟩) := (hb4.cell (p := ⟨gk, 5, none⟩) hgk3).trans q3
            have hgk4 : gk < w4.heap.size := Nat.lt_of_lt_of_le hgk3 hb4.size
            clear hb4
            refine hK.out _ _ (⟨HSOF.out _ (by repeat (first | with_reducible exact HBX0.out _ | with_reducible exact HB4.out | with_reducible exact HB3.out | with_reducible exact HB2.out | with_reducible exact HB1.out | with_reducible exact HB0.out | with_reducible exact HGX.out | with_reducible refine HBA.out _ _ ?_ | with_reducible refine HBS.out _ _ _ ?_ ?_ | exact HB4.out.size | exact (HBA.out _ _ HB4.out).size)), by repeat (first | with_reducible exact q4 | with_reducible exact q3 | with_reducible refine (World.cell?_alloc_lt _ _ _ ?_).trans ?_ | with_reducible refine (World.cell?_setCell_far _ _ _ _ ?_).trans ?_ | exact hgk4 | exact hgk3 | (show gk < _; simp; omega) | (show _ ≠ gk; simp; omega) | (show _ ≠ gk; omega))⟩) (fun hHeld17 => ?_)
            clear hK K hHeldm14
            try simp only [Act.put, List.setIfInBounds_toArray, List.set_cons_zero, List.set_cons_succ]
            refine wpAnyH_ready (rs := [17, 18]) (by kernel_rfl) (by simp) ?_
            refine AllReadyH.cons rfl (fun K hK => ?_) ?_
            · go_simp
              refine hK.out _ _ (⟨HSOF.out _ (by repeat (first | with_reducible exact HBX0.out _ | with_reducible exact HB4.out | with_reducible exact HB3.out | with_reducible exact HB2.out | with_reducible exact HB1.out | with_reducible exact HB0.out | with_reducible exact HGX.out | with_reducible refine HBA.out _ _ ?_ | with_reducible refine HBS.out _ _ _ ?_ ?_ | exact HB4.out.size | exact (HBA.out _ _ HB4.out).size)), by repeat (first | with_reducible exact q4 | with_reducible exact q3 | with_reducible refine (World.cell?_alloc_lt _ _ _ ?_).trans ?_ | with_reducible refine (World.cell?_setCell_far _ _ _ _ ?_).trans ?_ | exact hgk4 | exact hgk3 | (show gk < _; simp; omega) | (show _ ≠ gk; simp; omega) | (show _ ≠ gk; omega))⟩) (fun hHeld18 => ?_)
              clear hK K hHeld17
              try simp only [Act.put, List.setIfInBounds_toArray, List.set_cons_zero, List.set_cons_succ]
              refine wpAnyH_ready (rs := [18]) (by kernel_rfl) (by simp) ?_
              refine AllReadyH.cons rfl (fun K hK => ?_) ?_
              · go_simp
                refine hK.out _ _ (⟨HSOF.out _ (by repeat (first | with_reducible exact HBX0.out _ | with_reducible exact HB4.out | with_reducible exact HB3.out | with_reducible exact HB2.out | with_reducible exact HB1.out | with_reducible exact HB0.out | with_reducible exact HGX.out | with_reducible refine HBA.out _ _ ?_ | with_reducible refine HBS.out _ _ _ ?_ ?_ | exact HB4.out.size | exact (HBA.out _ _ HB4.out).size)), by repeat (first | with_reducible exact q4 | with_reducible exact q3 | with_reducible refine (World.cell?_alloc_lt _ _ _ ?_).trans ?_ | with_reducible refine (World.cell?_setCell_far _ _ _ _ ?_).trans ?_ | exact hgk4 | exact hgk3 | (show gk < _; simp; omega) | (show _ ≠ gk; simp; omega) | (show _ ≠ gk; omega))⟩) (fun hHeld19 => ?_)
                clear hK K hHeld18
                try simp only [Act.put, List.setIfInBounds_toArray, List.set_cons_zero, List.set_cons_succ]
                refine wpAnyH_ready (rs := [19]) (by kernel_rfl) (by simp) ?_
                refine AllReadyH.cons rfl (fun K hK => ?_) ?_
                · go_simp
                  refine hK.out _ _ (⟨HSOF.out _ (by repeat (first | with_reducible exact HBX0.out _ | with_reducible exact HB4.out | with_reducible exact HB3.out | with_reducible exact HB2.out | with_reducible exact HB1.out | with_reducible exact HB0.out | with_reducible exact HGX.out | with_reducible refine HBA.out _ _ ?_ | with_reducible refine HBS.out _ _ _ ?_ ?_ | exact HB4.out.size | exact (HBA.out _ _ HB4.out).size)), by repeat (first | with_reducible exact q4 | with_reducible exact q3 | with_reducible refine (World.cell?_alloc_lt _ _ _ ?_).trans ?_ | with_reducible refine (World.cell?_setCell_far _ _ _ _ ?_).trans ?_ | exact hgk4 | exact hgk3 | (show gk < _; simp; omega) | (show _ ≠ gk; simp; omega) | (show _ ≠ gk; omega))⟩) (fun hHeld20 => ?_)
                  clear hK K hHeld19
                  try simp only [Act.put, List.setIfInBounds_toArray, List.set_cons_zero, List.set_cons_succ]
                  refine wpAnyH_done (by kernel_rfl) ?_ _
                  go_wp2_with fail
                  go_meet
                  first
                    | exact ⟨_, rfl, WSr.new3 [S0, S1, ⟨#[115, 101, 116]⟩, S3] _ rfl HB4.out (by simp) BG4.out HGX.out⟩
                    | exact ⟨_, rfl, WSr.new [S0, S1, ⟨#[115, 101, 116]⟩, S3] _ rfl HB4.out (by simp)⟩
                    | exact ⟨_, rfl, WSr.new2 [S0, S1, ⟨#[115, 101, 116]⟩, S3] _ rfl HB4.out (by simp)⟩
                exact AllReadyH.nil
              exact AllReadyH.nil
            refine AllReadyH.cons rfl (fun K hK => ?_) ?_
            · go_simp
              refine hK.out _ _ (⟨HSOF.out _ (by repeat (first | with_reducible exact HBX0.out _ | with_reducible exact HB4.out | with_reducible exact HB3.out | with_reducible exact HB2.out | with_reducible exact HB1.out | with_reducible exact HB0.out | with_reducible exact HGX.out | with_reducible refine HBA.out _ _ ?_ | with_reducible refine HBS.out _ _ _ ?_ ?_ | exact HB4.out.size | exact (HBA.out _ _ HB4.out).size)), by repeat (first | with_reducible exact q4 | with_reducible exact q3 | with_reducible refine (World.cell?_alloc_lt _ _ _ ?_).trans ?_ | with_reducible refine (World.cell?_setCell_far _ _ _ _ ?_).trans ?_ | exact hgk4 | exact hgk3 | (show gk < _; simp; omega) | (show _ ≠ gk; simp; omega) | (show _ ≠ gk; omega))⟩) (fun hHeld21 => ?_)
              clear hK K hHeld17
              try simp only [Act.put, List.setIfInBounds_toArray, List.set_cons_zero, List.set_cons_succ]
              refine wpAnyH_ready (rs := [17]) (by kernel_rfl) (by simp) ?_
              refine AllReadyH.cons rfl (fun K hK => ?_) ?_
              · go_simp
                refine hK.out _ _ (⟨HSOF.out _ (by repeat (first | with_reducible exact HBX0.out _ | with_reducible exact HB4.out | with_reducible exact HB3.out | with_reducible exact HB2.out | with_reducible exact HB1.out | with_reducible exact HB0.out | with_reducible exact HGX.out | with_reducible refine HBA.out _ _ ?_ | with_reducible refine HBS.out _ _ _ ?_ ?_ | exact HB4.out.size | exact (HBA.out _ _ HB4.out).size)), by repeat (first | with_reducible exact q4 | with_reducible exact q3 | with_reducible refine (World.cell?_alloc_lt _ _ _ ?_).trans ?_ | with_reducible refine (World.cell?_setCell_far _ _ _ _ ?_).trans ?_ | exact hgk4 | exact hgk3 | (show gk < _; simp; omega) | (show _ ≠ gk; simp; omega) | (show _ ≠ gk; omega))⟩) (fun hHeld22 => ?_)
                clear hK K hHeld21
                try simp only [Act.put, List.setIfInBounds_toArray, List.set_cons_zero, List.set_cons_succ]
                refine wpAnyH_ready (rs := [19]) (by kernel_rfl) (by simp) ?_
                refine AllReadyH.cons rfl (fun K hK => ?_) ?_
                · go_simp
                  refine hK.out _ _ (⟨HSOF.out _ (by repeat (first | with_reducible exact HBX0.out _ | with_reducible exact HB4.out | with_reducible exact HB3.out | with_reducible exact HB2.out | with_reducible exact HB1.out | with_reducible exact HB0.out | with_reducible exact HGX.out | with_reducible refine HBA.out _ _ ?_ | with_reducible refine HBS.out _ _ _ ?_ ?_ | exact HB4.out.size | exact (HBA.out _ _ HB4.out).size)), by repeat (first | with_reducible exact q4 | with_reducible exact q3 | with_reducible refine (World.cell?_alloc_lt _ _ _ ?_).trans ?_ | with_reducible refine (World.cell?_setCell_far _ _ _ _ ?_).trans ?_ | exact hgk4 | exact hgk3 | (show gk < _; simp; omega) | (show _ ≠ gk; simp; omega) | (show _ ≠ gk; omega))⟩) (fun hHeld23 => ?_)
                  clear hK K hHeld22
                  try simp only [Act.put, List.setIfInBounds_toArray, List.set_cons_zero, List.set_cons_succ]
                  refine wpAnyH_done (by kernel_rfl) ?_ _
                  go_wp2_with fail
                  go_meet
                  first
                    | exact ⟨_, rfl, WSr.new3 [S0, S1, ⟨#[115, 101, 116]⟩, S3] _ rfl HB4.out (by simp) BG4.out HGX.out⟩
                    | exact ⟨_, rfl, WSr.new [S0, S1, ⟨#[115, 101, 116]⟩, S3] _ rfl HB4.out (by simp)⟩
                    | exact ⟨_, rfl, WSr.new2 [S0, S1, ⟨#[115, 101, 116]⟩, S3] _ rfl HB4.out (by simp)⟩
                exact AllReadyH.nil
              exact AllReadyH.nil
            exact AllReadyH.nil
          refine AllReadyH.cons rfl (fun K hK => ?_) ?_
          · go_simp
            refine hK.out _ _ (⟨HSOF.out _ (by repeat (first | with_reducible exact HBX0.out _ | with_reducible exact HB4.out | with_reducible exact HB3.out | with_reducible exact HB2.out | with_reducible exact HB1.out | with_reducible exact HB0.out | with_reducible exact HGX.out | with_reducible refine HBA.out _ _ ?_ | with_reducible refine HBS.out _ _ _ ?_ ?_ | exact HB4.out.size | exact (HBA.out _ _ HB4.out).size)), by repeat (first | with_reducible exact q4 | with_reducible exact q3 | with_reducible refine (World.cell?_alloc_lt _ _ _ ?_).trans ?_ | with_reducible refine (World.cell?_setCell_far _ _ _ _ ?_).trans ?_ | exact hgk4 | exact hgk3 | (show gk < _; simp; omega) | (show _ ≠ gk; simp; omega) | (show _ ≠ gk; omega))⟩) (fun hHeld24 => ?_)
            clear hK K hHeldm14
            try simp only [Act.put, List.setIfInBounds_toArray, List.set_cons_zero, List.set_cons_succ]
            refine wpAnyH_ready (rs := [16]) (by kernel_rfl) (by simp) ?_
            refine AllReadyH.cons rfl (fun K hK => ?_) ?_
            · go_simp
              go_at_call_of 48 (Value.int .i64 id)
              with_reducible refine Calls.mono (HD.out _ (HBG.out _ (HBA.out _ _ HB3.out))) ?_
              rintro e w4 ⟨rfl, hb4⟩
              have HB4 := Lib.hid (HBT.out _ _ (HBA.out _ _ HB3.out) hb4)
              have BG4 := Lib.hid ((Blk.new w3 62 #[.slice none 0 0]).below hb4 (by simp))
              have HGX : Hid (X.heap.size ≤ w3.heap.size) := HB3.out.size
              have q4 : w4.cell? ⟨gk, 5, none⟩ = some (.string ⟨#[115, 101, 116]⟩) := (hb4.cell (p := ⟨gk, 5, none⟩) (Nat.lt_of_lt_of_le hgk3 (by simp))).trans ((World.cell?_alloc_lt w3 _ ⟨gk, 5, none⟩ hgk3).trans q3)
              have hgk4 : gk < w4.heap.size := Nat.lt_of_lt_of_le (Nat.lt_of_lt_of_le hgk3 (by simp)) hb4.size
              have sg := BG4.out.cell 0
              have sga := fun o => (World.cell?_alloc_lt w4 o _ BG4.out.lt).trans sg
              have sf := BG4.out.frozen 0
              have sfa := fun o => (BG4.out.alloc o).frozen 0
              try dsimp only at sg sga sf sfa
              clear hb4
              refine hK.out _ _ (⟨HSOF.out _ (by repeat (first | with_reducible exact HBX0.out _ | with_reducible exact HB4.out | with_reducible exact HB3.out | with_reducible exact HB2.out | with_reducible exact HB1.out | with_reducible exact HB0.out | with_reducible exact HGX.out | with_reducible refine HBA.out _ _ ?_ | with_reducible refine HBS.out _ _ _ ?_ ?_ | exact HB4.out.size | exact (HBA.out _ _ HB4.out).size)), by repeat (first | with_reducible exact q4 | with_reducible exact q3 | with_reducible refine (World.cell?_alloc_lt _ _ _ ?_).trans ?_ | with_reducible refine (World.cell?_setCell_far _ _ _ _ ?_).trans ?_ | exact hgk4 | exact hgk3 | (show gk < _; simp; omega) | (show _ ≠ gk; simp; omega) | (show _ ≠ gk; omega))⟩) (fun hHeld25 => ?_)
              clear hK K hHeld24
              try simp only [Act.put, List.setIfInBounds_toArray, List.set_cons_zero, List.set_cons_succ]
              refine wpAnyH_ready (rs := [17]) (by kernel_rfl) (by simp) ?_
              refine AllReadyH.cons rfl (fun K hK => ?_) ?_
              · go_simp
                refine hK.out _ _ (⟨HSOF.out _ (by repeat (first | with_reducible exact HBX0.out _ | with_reducible exact HB4.out | with_reducible exact HB3.out | with_reducible exact HB2.out | with_reducible exact HB1.out | with_reducible exact HB0.out | with_reducible exact HGX.out | with_reducible refine HBA.out _ _ ?_ | with_reducible refine HBS.out _ _ _ ?_ ?_ | exact HB4.out.size | exact (HBA.out _ _ HB4.out).size)), by repeat (first | with_reducible exact q4 | with_reducible exact q3 | with_reducible refine (World.cell?_alloc_lt _ _ _ ?_).trans ?_ | with_reducible refine (World.cell?_setCell_far _ _ _ _ ?_).trans ?_ | exact hgk4 | exact hgk3 | (show gk < _; simp; omega) | (show _ ≠ gk; simp; omega) | (show _ ≠ gk; omega))⟩) (fun hHeld26 => ?_)
                clear hK K hHeld25
                try simp only [Act.put, List.setIfInBounds_toArray, List.set_cons_zero, List.set_cons_succ]
                refine wpAnyH_ready (rs := [19]) (by kernel_rfl) (by simp) ?_
                refine AllReadyH.cons rfl (fun K hK => ?_) ?_
                · go_simp
                  refine hK.out _ _ (⟨HSOF.out _ (by repeat (first | with_reducible exact HBX0.out _ | with_reducible exact HB4.out | with_reducible exact HB3.out | with_reducible exact HB2.out | with_reducible exact HB1.out | with_reducible exact HB0.out | with_reducible exact HGX.out | with_reducible refine HBA.out _ _ ?_ | with_reducible refine HBS.out _ _ _ ?_ ?_ | exact HB4.out.size | exact (HBA.out _ _ HB4.out).size)), by repeat (first | with_reducible exact q4 | with_reducible exact q3 | with_reducible refine (World.cell?_alloc_lt _ _ _ ?_).trans ?_ | with_reducible refine (World.cell?_setCell_far _ _ _ _ ?_).trans ?_ | exact hgk4 | exact hgk3 | (show gk < _; simp; omega) | (show _ ≠ gk; simp; omega) | (show _ ≠ gk; omega))⟩) (fun hHeld27 => ?_)
                  clear hK K hHeld26
                  try simp only [Act.put, List.setIfInBounds_toArray, List.set_cons_zero, List.set_cons_succ]
                  refine wpAnyH_done (by kernel_rfl) ?_ _
                  go_wp2_with fail
                  go_meet
                  first
                    | exact ⟨_, rfl, WSr.new3 [S0, S1, ⟨#[115, 101, 116]⟩, S3] _ rfl HB4.out (by simp) BG4.out HGX.out⟩
                    | exact ⟨_, rfl, WSr.new [S0, S1, ⟨#[115, 101, 116]⟩, S3] _ rfl HB4.out (by simp)⟩
                    | exact ⟨_, rfl, WSr.new2 [S0, S1, ⟨#[115, 101, 116]⟩, S3] _ rfl HB4.out (by simp)⟩
                exact AllReadyH.nil
              exact AllReadyH.nil
            exact AllReadyH.nil
          exact AllReadyH.nil
        refine AllReadyH.cons rfl (fun K hK => ?_) ?_
        · go_simp
          refine hK.out _ _ (HSOF.out _ (by repeat (first | with_reducible exact HBX0.out _ | with_reducible exact HB4.out | with_reducible exact HB3.out | with_reducible exact HB2.out | with_reducible exact HB1.out | with_reducible exact HB0.out | with_reducible exact HGX.out | with_reducible refine HBA.out _ _ ?_ | with_reducible refine HBS.out _ _ _ ?_ ?_ | exact HB4.out.size | exact (HBA.out _ _ HB4.out).size))) (fun hHeld28 => ?_)
          clear hK K hHeld13
          try simp only [Act.put, List.setIfInBounds_toArray, List.set_cons_zero, List.set_cons_succ]
          refine wpAnyH_ready (rs := [8]) (by kernel_rfl) (by simp) ?_
          refine AllReadyH.cons rfl (fun K hK => ?_) ?_
          · go_simp
            go_at_call 49
            with_reducible refine Calls.mono (HKW.out (w2.alloc (.cells #[.slice none 0 0] 62))) ?_
            rintro e w3 ⟨gk, rfl, hgk, hkc, hb3⟩
            have HB3 := Lib.hid (HBT.out _ _ (HBA.out _ _ HB2.out) hb3)
            have BG3 := Lib.hid ((Blk.new w2 62 #[.slice none 0 0]).below hb3 (by simp))
            have HGX : Hid (X.heap.size ≤ w2.heap.size) := HB2.out.size
            have q3 : w3.cell? ⟨gk, 5, none⟩ = some (.string ⟨#[115, 101, 116]⟩) := hkc 5 _ rfl
            have hgk3 : gk < w3.heap.size := World.block_lt_of_cell? w3 _ (hkc 0 _ rfl)
            have hgw : w2.heap.size < gk := Nat.lt_of_lt_of_le (by simp) hgk
            clear hkc hgk
            clear hb3
            refine hK.out _ _ (HSOF.out _ (by repeat (first | with_reducible exact HBX0.out _ | with_reducible exact HB4.out | with_reducible exact HB3.out | with_reducible exact HB2.out | with_reducible exact HB1.out | with_reducible exact HB0.out | with_reducible exact HGX.out | with_reducible refine HBA.out _ _ ?_ | with_reducible refine HBS.out _ _ _ ?_ ?_ | exact HB4.out.size | exact (HBA.out _ _ HB4.out).size))) (fun hHeld29 => ?_)
            clear hK K hHeld28
            try simp only [Act.put, List.setIfInBounds_toArray, List.set_cons_zero, List.set_cons_succ]
            have hHeldm29 := (⟨hHeld29, q3⟩ : (fun w' => (w'.cell? ⟨w.heap.size, 0, none⟩ = some (.int .i64 t0) ∧ w'.cell? ⟨w.heap.size, 1, none⟩ = some (.int .i64 t1) ∧ w'.cell? ⟨w.heap.size, 2, none⟩ = some (.int .i64 6) ∧ w'.cell? ⟨w.heap.size, 3, none⟩ = some (.int .i64 id)) ∧ w'.cell? ⟨gk, 5, none⟩ = some (.string ⟨#[115, 101, 116]⟩)) w3)
            refine handMono (S' := (fun w' => (w'.cell? ⟨w.heap.size, 0, none⟩ = some (.int .i64 t0) ∧ w'.cell? ⟨w.heap.size, 1, none⟩ = some (.int .i64 t1) ∧ w'.cell? ⟨w.heap.size, 2, none⟩ = some (.int .i64 6) ∧ w'.cell? ⟨w.heap.size, 3, none⟩ = some (.int .i64 id)) ∧ w'.cell? ⟨gk, 5, none⟩ = some (.string ⟨#[115, 101, 116]⟩))) (fun _ h => h.1) _ _ _ _ ?_
            clear hHeld29
            refine handTake (i := 12) (v := ?vk630) (d := 21) rfl (by kernel_rfl) (by kernel_rfl) (by kernel_rfl) (by kernel_rfl) (fun _ _ _ h => h) (Or.inl ⟨by kernel_rfl, ?yk630⟩) (by assumption) ?zk630
            case yk630 => intro w hSw; (try dsimp only at hSw); go_simp; try with_reducible rfl
            try simp only [List.setIfInBounds_toArray, List.set_cons_zero, List.set_cons_succ]
            refine handTake (i := 13) (v := ?vk631) (d := 22) rfl (by kernel_rfl) (by kernel_rfl) (by kernel_rfl) (by kernel_rfl) (fun _ _ _ h => h) (Or.inl ⟨by kernel_rfl, ?yk631⟩) (by assumption) ?zk631
            case yk631 => intro w hSw; (try dsimp only at hSw); go_simp; try with_reducible rfl
            try simp only [List.setIfInBounds_toArray, List.set_cons_zero, List.set_cons_succ]
            refine wpAnyH_ready (rs := [16]) (by kernel_rfl) (by simp) ?_
            refine AllReadyH.cons rfl (fun K hK => ?_) ?_
            · go_simp
              go_at_call_of 48 (Value.int .i64 id)
              with_reducible refine Calls.mono (HD.out _ (HBG.out _ HB3.out)) ?_
              rintro e w4 ⟨rfl, hb4⟩
              have HB4 := Lib.hid (HBT.out _ _ HB3.out hb4)
              have BG4 := Lib.hid (BG3.out.below hb4 BG3.out.lt)
              have q4 : w4.cell? ⟨gk, 5, none⟩ = some (.string ⟨#[115, 101, 116]⟩) := (hb4.cell (p := ⟨gk, 5, none⟩) hgk3).trans q3
              have hgk4 : gk < w4.heap.size := Nat.lt_of_lt_of_le hgk3 hb4.size
              have sg := BG4.out.cell 0
              have sga := fun o => (World.cell?_alloc_lt w4 o _ BG4.out.lt).trans sg
              have sf := BG4.out.frozen 0
              have sfa := fun o => (BG4.out.alloc o).frozen 0
              try dsimp only at sg sga sf sfa
              clear hb4
              refine hK.out _ _ (⟨HSOF.out _ (by repeat (first | with_reducible exact HBX0.out _ | with_reducible exact HB4.out | with_reducible exact HB3.out | with_reducible exact HB2.out | with_reducible exact HB1.out | with_reducible exact HB0.out | with_reducible exact HGX.out | with_reducible refine HBA.out _ _ ?_ | with_reducible refine HBS.out _ _ _ ?_ ?_ | exact HB4.out.size | exact (HBA.out _ _ HB4.out).size)), by repeat (first | with_reducible exact q4 | with_reducible exact q3 | with_reducible refine (World.cell?_alloc_lt _ _ _ ?_).trans ?_ | with_reducible refine (World.cell?_setCell_far _ _ _ _ ?_).trans ?_ | exact hgk4 | exact hgk3 | (show gk < _; simp; omega) | (show _ ≠ gk; simp; omega) | (show _ ≠ gk; omega))⟩) (fun hHeld32 => ?_)
              clear hK K hHeldm29
              try simp only [Act.put, List.setIfInBounds_toArray, List.set_cons_zero, List.set_cons_succ]
              refine wpAnyH_ready (rs := [17]) (by kernel_rfl) (by simp) ?_
              refine AllReadyH.cons rfl (fun K hK => ?_) ?_
              · go_simp
                refine hK.out _ _ (⟨HSOF.out _ (by repeat (first | with_reducible exact HBX0.out _ | with_reducible exact HB4.out | with_reducible exact HB3.out | with_reducible exact HB2.out | with_reducible exact HB1.out | with_reducible exact HB0.out | with_reducible exact HGX.out | with_reducible refine HBA.out _ _ ?_ | with_reducible refine HBS.out _ _ _ ?_ ?_ | exact HB4.out.size | exact (HBA.out _ _ HB4.out).size)), by repeat (first | with_reducible exact q4 | with_reducible exact q3 | with_reducible refine (World.cell?_alloc_lt _ _ _ ?_).trans ?_ | with_reducible refine (World.cell?_setCell_far _ _ _ _ ?_).trans ?_ | exact hgk4 | exact hgk3 | (show gk < _; simp; omega) | (show _ ≠ gk; simp; omega) | (show _ ≠ gk; omega))⟩) (fun hHeld33 => ?_)
                clear hK K hHeld32
                try simp only [Act.put, List.setIfInBounds_toArray, List.set_cons_zero, List.set_cons_succ]
                refine wpAnyH_ready (rs := [19]) (by kernel_rfl) (by simp) ?_
                refine AllReadyH.cons rfl (fun K hK => ?_) ?_
                · go_simp
                  refine hK.out _ _ (⟨HSOF.out _ (by repeat (first | with_reducible exact HBX0.out _ | with_reducible exact HB4.out | with_reducible exact HB3.out | with_reducible exact HB2.out | with_reducible exact HB1.out | with_reducible exact HB0.out | with_reducible exact HGX.out | with_reducible refine HBA.out _ _ ?_ | with_reducible refine HBS.out _ _ _ ?_ ?_ | exact HB4.out.size | exact (HBA.out _ _ HB4.out).size)), by repeat (first | with_reducible exact q4 | with_reducible exact q3 | with_reducible refine (World.cell?_alloc_lt _ _ _ ?_).trans ?_ | with_reducible refine (World.cell?_setCell_far _ _ _ _ ?_).trans ?_ | exact hgk4 | exact hgk3 | (show gk < _; simp; omega) | (show _ ≠ gk; simp; omega) | (show _ ≠ gk; omega))⟩) (fun hHeld34 => ?_)
                  clear hK K hHeld33
                  try simp only [Act.put, List.setIfInBounds_toArray, List.set_cons_zero, List.set_cons_succ]
                  refine wpAnyH_done (by kernel_rfl) ?_ _
                  go_wp2_with fail
                  go_meet
                  first
                    | exact ⟨_, rfl, WSr.new3 [S0, S1, ⟨#[115, 101, 116]⟩, S3] _ rfl HB4.out (by simp) BG4.out HGX.out⟩
                    | exact ⟨_, rfl, WSr.new [S0, S1, ⟨#[115, 101, 116]⟩, S3] _ rfl HB4.out (by simp)⟩
                    | exact ⟨_, rfl, WSr.new2 [S0, S1, ⟨#[115, 101, 116]⟩, S3] _ rfl HB4.out (by simp)⟩
                exact AllReadyH.nil
              exact AllReadyH.nil
            exact AllReadyH.nil
          exact AllReadyH.nil
        exact AllReadyH.nil
      refine AllReadyH.cons rfl (fun K hK => ?_) ?_
      · go_simp
        refine hK.out _ _ (HSOF.out _ (by repeat (first | with_reducible exact HBX0.out _ | with_reducible exact HB4.out | with_reducible exact HB3.out | with_reducible exact HB2.out | with_reducible exact HB1.out | with_reducible exact HB0.out | with_reducible exact HGX.out | with_reducible refine HBA.out _ _ ?_ | with_reducible refine HBS.out _ _ _ ?_ ?_ | exact HB4.out.size | exact (HBA.out _ _ HB4.out).size))) (fun hHeld35 => ?_)
        clear hK K hHeld12
        try simp only [Act.put, List.setIfInBounds_toArray, List.set_cons_zero, List.set_cons_succ]
        refine wpAnyH_ready (rs := [7]) (by kernel_rfl) (by simp) ?_
        refine AllReadyH.cons rfl (fun K hK => ?_) ?_
        · go_simp
          go_at_call_of 48 (Value.int .i64 t1)
          with_reducible refine Calls.mono (HC.out _ (HBG.out _ (HBA.out _ _ HB1.out))) ?_
          rintro e w2 ⟨rfl, hb2⟩
          have HB2 := Lib.hid (HBT.out _ _ (HBA.out _ _ HB1.out) hb2)
          have BG2 := Lib.hid ((Blk.new w1 62 #[.slice none 0 0]).below hb2 (by simp))
          have HGX : Hid (X.heap.size ≤ w1.heap.size) := HB1.out.size
          clear hb2
          refine hK.out _ _ (HSOF.out _ (by repeat (first | with_reducible exact HBX0.out _ | with_reducible exact HB4.out | with_reducible exact HB3.out | with_reducible exact HB2.out | with_reducible exact HB1.out | with_reducible exact HB0.out | with_reducible exact HGX.out | with_reducible refine HBA.out _ _ ?_ | with_reducible refine HBS.out _ _ _ ?_ ?_ | exact HB4.out.size | exact (HBA.out _ _ HB4.out).size))) (fun hHeld36 => ?_)
          clear hK K hHeld35
          try simp only [Act.put, List.setIfInBounds_toArray, List.set_cons_zero, List.set_cons_succ]
          refine wpAnyH_ready (rs := [8]) (by kernel_rfl) (by simp) ?_
          refine AllReadyH.cons rfl (fun K hK => ?_) ?_
          · go_simp
            go_at_call 49
            with_reducible refine Calls.mono (HKW.out w2) ?_
            rintro e w3 ⟨gk, rfl, hgk, hkc, hb3⟩
            have HB3 := Lib.hid (HBT.out _ _ HB2.out hb3)
            have BG3 := Lib.hid (BG2.out.below hb3 BG2.out.lt)
            have q3 : w3.cell? ⟨gk, 5, none⟩ = some (.string ⟨#[115, 101, 116]⟩) := hkc 5 _ rfl
            have hgk3 : gk < w3.heap.size := World.block_lt_of_cell? w3 _ (hkc 0 _ rfl)
            have hgw : w1.heap.size < gk := Nat.lt_of_lt_of_le BG2.out.lt hgk
            clear hkc hgk
            clear hb3
            refine hK.out _ _ (HSOF.out _ (by repeat (first | with_reducible exact HBX0.out _ | with_reducible exact HB4.out | with_reducible exact HB3.out | with_reducible exact HB2.out | with_reducible exact HB1.out | with_reducible exact HB0.out | with_reducible exact HGX.out | with_reducible refine HBA.out _ _ ?_ | with_reducible refine HBS.out _ _ _ ?_ ?_ | exact HB4.out.size | exact (HBA.out _ _ HB4.out).size))) (fun hHeld37 => ?_)
            clear hK K hHeld36
            try simp only [Act.put, List.setIfInBounds_toArray, List.set_cons_zero, List.set_cons_succ]
            have hHeldm37 := (⟨hHeld37, q3⟩ : (fun w' => (w'.cell? ⟨w.heap.size, 0, none⟩ = some (.int .i64 t0) ∧ w'.cell? ⟨w.heap.size, 1, none⟩ = some (.int .i64 t1) ∧ w'.cell? ⟨w.heap.size, 2, none⟩ = some (.int .i64 6) ∧ w'.cell? ⟨w.heap.size, 3, none⟩ = some (.int .i64 id)) ∧ w'.cell? ⟨gk, 5, none⟩ = some (.string ⟨#[115, 101, 116]⟩)) w3)
            refine handMono (S' := (fun w' => (w'.cell? ⟨w.heap.size, 0, none⟩ = some (.int .i64 t0) ∧ w'.cell? ⟨w.heap.size, 1, none⟩ = some (.int .i64 t1) ∧ w'.cell? ⟨w.heap.size, 2, none⟩ = some (.int .i64 6) ∧ w'.cell? ⟨w.heap.size, 3, none⟩ = some (.int .i64 id)) ∧ w'.cell? ⟨gk, 5, none⟩ = some (.string ⟨#[115, 101, 116]⟩))) (fun _ h => h.1) _ _ _ _ ?_
            clear hHeld37
            refine handTake (i := 12) (v := ?vk638) (d := 21) rfl (by kernel_rfl) (by kernel_rfl) (by kernel_rfl) (by kernel_rfl) (fun _ _ _ h => h) (Or.inl ⟨by kernel_rfl, ?yk638⟩) (by assumption) ?zk638
            case yk638 => intro w hSw; (try dsimp only at hSw); go_simp; try with_reducible rfl
            try simp only [List.setIfInBounds_toArray, List.set_cons_zero, List.set_cons_succ]
            refine handTake (i := 13) (v := ?vk639) (d := 22) rfl (by kernel_rfl) (by kernel_rfl) (by kernel_rfl) (by kernel_rfl) (fun _ _ _ h => h) (Or.inl ⟨by kernel_rfl, ?yk639⟩) (by assumption) ?zk639
            case yk639 => intro w hSw; (try dsimp only at hSw); go_simp; try with_reducible rfl
            try simp only [List.setIfInBounds_toArray, List.set_cons_zero, List.set_cons_succ]
            refine wpAnyH_ready (rs := [16]) (by kernel_rfl) (by simp) ?_
            refine AllReadyH.cons rfl (fun K hK => ?_) ?_
            · go_simp
              go_at_call_of 48 (Value.int .i64 id)
              with_reducible refine Calls.mono (HD.out _ (HBG.out _ HB3.out)) ?_
              rintro e w4 ⟨rfl, hb4⟩
              have HB4 := Lib.hid (HBT.out _ _ HB3.out hb4)
              have BG4 := Lib.hid (BG3.out.below hb4 BG3.out.lt)
              have q4 : w4.cell? ⟨gk, 5, none⟩ = some (.string ⟨#[115, 101, 116]⟩) := (hb4.cell (p := ⟨gk, 5, none⟩) hgk3).trans q3
              have hgk4 : gk < w4.heap.size := Nat.lt_of_lt_of_le hgk3 hb4.size
              have sg := BG4.out.cell 0
              have sga := fun o => (World.cell?_alloc_lt w4 o _ BG4.out.lt).trans sg
              have sf := BG4.out.frozen 0
              have sfa := fun o => (BG4.out.alloc o).frozen 0
              try dsimp only at sg sga sf sfa
              clear hb4
              refine hK.out _ _ (⟨HSOF.out _ (by repeat (first | with_reducible exact HBX0.out _ | with_reducible exact HB4.out | with_reducible exact HB3.out | with_reducible exact HB2.out | with_reducible exact HB1.out | with_reducible exact HB0.out | with_reducible exact HGX.out | with_reducible refine HBA.out _ _ ?_ | with_reducible refine HBS.out _ _ _ ?_ ?_ | exact HB4.out.size | exact (HBA.out _ _ HB4.out).size)), by repeat (first | with_reducible exact q4 | with_reducible exact q3 | with_reducible refine (World.cell?_alloc_lt _ _ _ ?_).trans ?_ | with_reducible refine (World.cell?_setCell_far _ _ _ _ ?_).trans ?_ | exact hgk4 | exact hgk3 | (show gk < _; simp; omega) | (show _ ≠ gk; simp; omega) | (show _ ≠ gk; omega))⟩) (fun hHeld40 => ?_)
              clear hK K hHeldm37
              try simp only [Act.put, List.setIfInBounds_toArray, List.set_cons_zero, List.set_cons_succ]
              refine wpAnyH_ready (rs := [17]) (by kernel_rfl) (by simp) ?_
              refine AllReadyH.cons rfl (fun K hK => ?_) ?_
              · go_simp
                refine hK.out _ _ (⟨HSOF.out _ (by repeat (first | with_reducible exact HBX0.out _ | with_reducible exact HB4.out | with_reducible exact HB3.out | with_reducible exact HB2.out | with_reducible exact HB1.out | with_reducible exact HB0.out | with_reducible exact HGX.out | with_reducible refine HBA.out _ _ ?_ | with_reducible refine HBS.out _ _ _ ?_ ?_ | exact HB4.out.size | exact (HBA.out _ _ HB4.out).size)), by repeat (first | with_reducible exact q4 | with_reducible exact q3 | with_reducible refine (World.cell?_alloc_lt _ _ _ ?_).trans ?_ | with_reducible refine (World.cell?_setCell_far _ _ _ _ ?_).trans ?_ | exact hgk4 | exact hgk3 | (show gk < _; simp; omega) | (show _ ≠ gk; simp; omega) | (show _ ≠ gk; omega))⟩) (fun hHeld41 => ?_)
                clear hK K hHeld40
                try simp only [Act.put, List.setIfInBounds_toArray, List.set_cons_zero, List.set_cons_succ]
                refine wpAnyH_ready (rs := [19]) (by kernel_rfl) (by simp) ?_
                refine AllReadyH.cons rfl (fun K hK => ?_) ?_
                · go_simp
                  refine hK.out _ _ (⟨HSOF.out _ (by repeat (first | with_reducible exact HBX0.out _ | with_reducible exact HB4.out | with_reducible exact HB3.out | with_reducible exact HB2.out | with_reducible exact HB1.out | with_reducible exact HB0.out | with_reducible exact HGX.out | with_reducible refine HBA.out _ _ ?_ | with_reducible refine HBS.out _ _ _ ?_ ?_ | exact HB4.out.size | exact (HBA.out _ _ HB4.out).size)), by repeat (first | with_reducible exact q4 | with_reducible exact q3 | with_reducible refine (World.cell?_alloc_lt _ _ _ ?_).trans ?_ | with_reducible refine (World.cell?_setCell_far _ _ _ _ ?_).trans ?_ | exact hgk4 | exact hgk3 | (show gk < _; simp; omega) | (show _ ≠ gk; simp; omega) | (show _ ≠ gk; omega))⟩) (fun hHeld42 => ?_)
                  clear hK K hHeld41
                  try simp only [Act.put, List.setIfInBounds_toArray, List.set_cons_zero, List.set_cons_succ]
                  refine wpAnyH_done (by kernel_rfl) ?_ _
                  go_wp2_with fail
                  go_meet
                  first
                    | exact ⟨_, rfl, WSr.new3 [S0, S1, ⟨#[115, 101, 116]⟩, S3] _ rfl HB4.out (by simp) BG4.out HGX.out⟩
                    | exact ⟨_, rfl, WSr.new [S0, S1, ⟨#[115, 101, 116]⟩, S3] _ rfl HB4.out (by simp)⟩
                    | exact ⟨_, rfl, WSr.new2 [S0, S1, ⟨#[115, 101, 116]⟩, S3] _ rfl HB4.out (by simp)⟩
                exact AllReadyH.nil
              exact AllReadyH.nil
            exact AllReadyH.nil
          exact AllReadyH.nil
        exact AllReadyH.nil
      exact AllReadyH.nil
    refine AllReadyH.cons rfl (fun K hK => ?_) ?_
    · go_simp
      refine hK.out _ _ (HSOF.out _ (by repeat (first | with_reducible exact HBX0.out _ | with_reducible exact HB4.out | with_reducible exact HB3.out | with_reducible exact HB2.out | with_reducible exact HB1.out | with_reducible exact HB0.out | with_reducible exact HGX.out | with_reducible refine HBA.out _ _ ?_ | with_reducible refine HBS.out _ _ _ ?_ ?_ | exact HB4.out.size | exact (HBA.out _ _ HB4.out).size))) (fun hHeld43 => ?_)
      clear hK K hHeld0
      try simp only [Act.put, List.setIfInBounds_toArray, List.set_cons_zero, List.set_cons_succ]
      refine wpAnyH_ready (rs := [3]) (by kernel_rfl) (by simp) ?_
      refine AllReadyH.cons rfl (fun K hK => ?_) ?_
      · go_simp
        go_at_call_of 48 (Value.int .i64 t0)
        with_reducible refine Calls.mono (HT.out _ (HBG.out _ (HBX0.out _))) ?_
        rintro e w1 ⟨rfl, hb1⟩
        have HB1 := Lib.hid (HBT.out _ _ (HBX0.out _) hb1)
        have BG1 := Lib.hid ((Blk.new X 62 #[.slice none 0 0]).drew.below hb1 (by simp))
        have HGX : Hid (X.heap.size ≤ X.heap.size) := Nat.le_refl _
        clear hb1
        refine hK.out _ _ (HSOF.out _ (by repeat (first | with_reducible exact HBX0.out _ | with_reducible exact HB4.out | with_reducible exact HB3.out | with_reducible exact HB2.out | with_reducible exact HB1.out | with_reducible exact HB0.out | with_reducible exact HGX.out | with_reducible refine HBA.out _ _ ?_ | with_reducible refine HBS.out _ _ _ ?_ ?_ | exact HB4.out.size | exact (HBA.out _ _ HB4.out).size))) (fun hHeld44 => ?_)
        clear hK K hHeld43
        try simp only [Act.put, List.setIfInBounds_toArray, List.set_cons_zero, List.set_cons_succ]
        refine wpAnyH_ready (rs := [7]) (by kernel_rfl) (by simp) ?_
        refine AllReadyH.cons rfl (fun K hK => ?_) ?_
        · go_simp
          go_at_call_of 48 (Value.int .i64 t1)
          with_reducible refine Calls.mono (HC.out _ (HBG.out _ HB1.out)) ?_
          rintro e w2 ⟨rfl, hb2⟩
          have HB2 := Lib.hid (HBT.out _ _ HB1.out hb2)
          have BG2 := Lib.hid (BG1.out.below hb2 BG1.out.lt)
          clear hb2
          refine hK.out _ _ (HSOF.out _ (by repeat (first | with_reducible exact HBX0.out _ | with_reducible exact HB4.out | with_reducible exact HB3.out | with_reducible exact HB2.out | with_reducible exact HB1.out | with_reducible exact HB0.out | with_reducible exact HGX.out | with_reducible refine HBA.out _ _ ?_ | with_reducible refine HBS.out _ _ _ ?_ ?_ | exact HB4.out.size | exact (HBA.out _ _ HB4.out).size))) (fun hHeld45 => ?_)
          clear hK K hHeld44
          try simp only [Act.put, List.setIfInBounds_toArray, List.set_cons_zero, List.set_cons_succ]
          refine wpAnyH_ready (rs := [8]) (by kernel_rfl) (by simp) ?_
          refine AllReadyH.cons rfl (fun K hK => ?_) ?_
          · go_simp
            go_at_call 49
            with_reducible refine Calls.mono (HKW.out w2) ?_
            rintro e w3 ⟨gk, rfl, hgk, hkc, hb3⟩
            have HB3 := Lib.hid (HBT.out _ _ HB2.out hb3)
            have BG3 := Lib.hid (BG2.out.below hb3 BG2.out.lt)
            have q3 : w3.cell? ⟨gk, 5, none⟩ = some (.string ⟨#[115, 101, 116]⟩) := hkc 5 _ rfl
            have hgk3 : gk < w3.heap.size := World.block_lt_of_cell? w3 _ (hkc 0 _ rfl)
            have hgw : X.heap.size < gk := Nat.lt_of_lt_of_le BG2.out.lt hgk
            clear hkc hgk
            clear hb3
            refine hK.out _ _ (HSOF.out _ (by repeat (first | with_reducible exact HBX0.out _ | with_reducible exact HB4.out | with_reducible exact HB3.out | with_reducible exact HB2.out | with_reducible exact HB1.out | with_reducible exact HB0.out | with_reducible exact HGX.out | with_reducible refine HBA.out _ _ ?_ | with_reducible refine HBS.out _ _ _ ?_ ?_ | exact HB4.out.size | exact (HBA.out _ _ HB4.out).size))) (fun hHeld46 => ?_)
            clear hK K hHeld45
            try simp only [Act.put, List.setIfInBounds_toArray, List.set_cons_zero, List.set_cons_succ]
            have hHeldm46 := (⟨hHeld46, q3⟩ : (fun w' => (w'.cell? ⟨w.heap.size, 0, none⟩ = some (.int .i64 t0) ∧ w'.cell? ⟨w.heap.size, 1, none⟩ = some (.int .i64 t1) ∧ w'.cell? ⟨w.heap.size, 2, none⟩ = some (.int .i64 6) ∧ w'.cell? ⟨w.heap.size, 3, none⟩ = some (.int .i64 id)) ∧ w'.cell? ⟨gk, 5, none⟩ = some (.string ⟨#[115, 101, 116]⟩)) w3)
            refine handMono (S' := (fun w' => (w'.cell? ⟨w.heap.size, 0, none⟩ = some (.int .i64 t0) ∧ w'.cell? ⟨w.heap.size, 1, none⟩ = some (.int .i64 t1) ∧ w'.cell? ⟨w.heap.size, 2, none⟩ = some (.int .i64 6) ∧ w'.cell? ⟨w.heap.size, 3, none⟩ = some (.int .i64 id)) ∧ w'.cell? ⟨gk, 5, none⟩ = some (.string ⟨#[115, 101, 116]⟩))) (fun _ h => h.1) _ _ _ _ ?_
            clear hHeld46
            refine handTake (i := 12) (v := ?vk647) (d := 21) rfl (by kernel_rfl) (by kernel_rfl) (by kernel_rfl) (by kernel_rfl) (fun _ _ _ h => h) (Or.inl ⟨by kernel_rfl, ?yk647⟩) (by assumption) ?zk647
            case yk647 => intro w hSw; (try dsimp only at hSw); go_simp; try with_reducible rfl
            try simp only [List.setIfInBounds_toArray, List.set_cons_zero, List.set_cons_succ]
            refine handTake (i := 13) (v := ?vk648) (d := 22) rfl (by kernel_rfl) (by kernel_rfl) (by kernel_rfl) (by kernel_rfl) (fun _ _ _ h => h) (Or.inl ⟨by kernel_rfl, ?yk648⟩) (by assumption) ?zk648
            case yk648 => intro w hSw; (try dsimp only at hSw); go_simp; try with_reducible rfl
            try simp only [List.setIfInBounds_toArray, List.set_cons_zero, List.set_cons_succ]
            refine wpAnyH_ready (rs := [16]) (by kernel_rfl) (by simp) ?_
            refine AllReadyH.cons rfl (fun K hK => ?_) ?_
            · go_simp
              go_at_call_of 48 (Value.int .i64 id)
              with_reducible refine Calls.mono (HD.out _ (HBG.out _ HB3.out)) ?_
              rintro e w4 ⟨rfl, hb4⟩
              have HB4 := Lib.hid (HBT.out _ _ HB3.out hb4)
              have BG4 := Lib.hid (BG3.out.below hb4 BG3.out.lt)
              have q4 : w4.cell? ⟨gk, 5, none⟩ = some (.string ⟨#[115, 101, 116]⟩) := (hb4.cell (p := ⟨gk, 5, none⟩) hgk3).trans q3
              have hgk4 : gk < w4.heap.size := Nat.lt_of_lt_of_le hgk3 hb4.size
              have sg := BG4.out.cell 0
              have sga := fun o => (World.cell?_alloc_lt w4 o _ BG4.out.lt).trans sg
              have sf := BG4.out.frozen 0
              have sfa := fun o => (BG4.out.alloc o).frozen 0
              try dsimp only at sg sga sf sfa
              clear hb4
              refine hK.out _ _ (⟨HSOF.out _ (by repeat (first | with_reducible exact HBX0.out _ | with_reducible exact HB4.out | with_reducible exact HB3.out | with_reducible exact HB2.out | with_reducible exact HB1.out | with_reducible exact HB0.out | with_reducible exact HGX.out | with_reducible refine HBA.out _ _ ?_ | with_reducible refine HBS.out _ _ _ ?_ ?_ | exact HB4.out.size | exact (HBA.out _ _ HB4.out).size)), by repeat (first | with_reducible exact q4 | with_reducible exact q3 | with_reducible refine (World.cell?_alloc_lt _ _ _ ?_).trans ?_ | with_reducible refine (World.cell?_setCell_far _ _ _ _ ?_).trans ?_ | exact hgk4 | exact hgk3 | (show gk < _; simp; omega) | (show _ ≠ gk; simp; omega) | (show _ ≠ gk; omega))⟩) (fun hHeld49 => ?_)
              clear hK K hHeldm46
              try simp only [Act.put, List.setIfInBounds_toArray, List.set_cons_zero, List.set_cons_succ]
              refine wpAnyH_ready (rs := [17]) (by kernel_rfl) (by simp) ?_
              refine AllReadyH.cons rfl (fun K hK => ?_) ?_
              · go_simp
                refine hK.out _ _ (⟨HSOF.out _ (by repeat (first | with_reducible exact HBX0.out _ | with_reducible exact HB4.out | with_reducible exact HB3.out | with_reducible exact HB2.out | with_reducible exact HB1.out | with_reducible exact HB0.out | with_reducible exact HGX.out | with_reducible refine HBA.out _ _ ?_ | with_reducible refine HBS.out _ _ _ ?_ ?_ | exact HB4.out.size | exact (HBA.out _ _ HB4.out).size)), by repeat (first | with_reducible exact q4 | with_reducible exact q3 | with_reducible refine (World.cell?_alloc_lt _ _ _ ?_).trans ?_ | with_reducible refine (World.cell?_setCell_far _ _ _ _ ?_).trans ?_ | exact hgk4 | exact hgk3 | (show gk < _; simp; omega) | (show _ ≠ gk; simp; omega) | (show _ ≠ gk; omega))⟩) (fun hHeld50 => ?_)
                clear hK K hHeld49
                try simp only [Act.put, List.setIfInBounds_toArray, List.set_cons_zero, List.set_cons_succ]
                refine wpAnyH_ready (rs := [19]) (by kernel_rfl) (by simp) ?_
                refine AllReadyH.cons rfl (fun K hK => ?_) ?_
                · go_simp
                  refine hK.out _ _ (⟨HSOF.out _ (by repeat (first | with_reducible exact HBX0.out _ | with_reducible exact HB4.out | with_reducible exact HB3.out | with_reducible exact HB2.out | with_reducible exact HB1.out | with_reducible exact HB0.out | with_reducible exact HGX.out | with_reducible refine HBA.out _ _ ?_ | with_reducible refine HBS.out _ _ _ ?_ ?_ | exact HB4.out.size | exact (HBA.out _ _ HB4.out).size)), by repeat (first | with_reducible exact q4 | with_reducible exact q3 | with_reducible refine (World.cell?_alloc_lt _ _ _ ?_).trans ?_ | with_reducible refine (World.cell?_setCell_far _ _ _ _ ?_).trans ?_ | exact hgk4 | exact hgk3 | (show gk < _; simp; omega) | (show _ ≠ gk; simp; omega) | (show _ ≠ gk; omega))⟩) (fun hHeld51 => ?_)
                  clear hK K hHeld50
                  try simp only [Act.put, List.setIfInBounds_toArray, List.set_cons_zero, List.set_cons_succ]
                  refine wpAnyH_done (by kernel_rfl) ?_ _
                  go_wp2_with fail
                  go_meet
                  first
                    | exact ⟨_, rfl, WSr.new3 [S0, S1, ⟨#[115, 101, 116]⟩, S3] _ rfl HB4.out (by simp) BG4.out HGX.out⟩
                    | exact ⟨_, rfl, WSr.new [S0, S1, ⟨#[115, 101, 116]⟩, S3] _ rfl HB4.out (by simp)⟩
                    | exact ⟨_, rfl, WSr.new2 [S0, S1, ⟨#[115, 101, 116]⟩, S3] _ rfl HB4.out (by simp)⟩
                exact AllReadyH.nil
              exact AllReadyH.nil
            exact AllReadyH.nil
          exact AllReadyH.nil
        exact AllReadyH.nil
      exact AllReadyH.nil
    exact AllReadyH.nil
  case rest =>
  obtain ⟨gw, rfl, hW⟩ := hcut
  clear HT HC HD HKW iw0 iw1
  have y2 : wc.cell? ⟨w.heap.size, 2, none⟩ = some (.int .i64 6) := ((hW.out.below).cell (p := ⟨w.heap.size, 2, none⟩) hzX).trans (HKX.out.cell 2)
  have y12 : wc.cell? ⟨w.heap.size, 12, none⟩ = some (.int .i64 vk) := ((hW.out.below).cell (p := ⟨w.heap.size, 12, none⟩) hzX).trans (HKX.out.cell 12)
  have y13 : wc.cell? ⟨w.heap.size, 13, none⟩ = some (.int .i64 vi) := ((hW.out.below).cell (p := ⟨w.heap.size, 13, none⟩) hzX).trans (HKX.out.cell 13)
  have y14 : wc.cell? ⟨w.heap.size, 14, none⟩ = some (.int .i64 vt) := ((hW.out.below).cell (p := ⟨w.heap.size, 14, none⟩) hzX).trans (HKX.out.cell 14)
  have y15 : wc.cell? ⟨w.heap.size, 15, none⟩ = some (.string vs) := ((hW.out.below).cell (p := ⟨w.heap.size, 15, none⟩) hzX).trans (HKX.out.cell 15)
  have y16 : wc.cell? ⟨w.heap.size, 16, none⟩ = some (.slice Ai ni ci) := ((hW.out.below).cell (p := ⟨w.heap.size, 16, none⟩) hzX).trans (HKX.out.cell 16)
  have hzc := hW.out.below.size
  have HTX : Hid (∀ W, Below X.heap.size X W → Calls Tryz.prog 34 #[.agg #[.int .i64 vk, .int .i64 vi, .int .i64 vt, .string vs, .slice Ai ni ci]] W fun e w' => e = .returned (.tuple #[.string (txS (Vl.mk vk vi vt vs vl)), .int .i64 (vErr (Vl.mk vk vi vt vs vl))]) ∧ (txS (Vl.mk vk vi vt vs vl)).size ≤ 100000 ∧ Below W.heap.size W w') := fun W hW =>
    text_any (Vl.mk vk vi vt vs vl) Ai ni ci W B (Nat.le_trans hB (Nat.le_trans HBX.out.size hW.size)) ((hv.below (HBX.out.mono hB)).below (hW.mono (Nat.le_trans hB HBX.out.size))) (HPX.out.below hW)
  obtain ⟨T, hT⟩ : ∃ T, T = txS (Vl.mk vk vi vt vs vl) := ⟨_, rfl⟩
  obtain ⟨E, hE⟩ : ∃ E, E = vErr (Vl.mk vk vi vt vs vl) := ⟨_, rfl⟩
  rw [← hT, ← hE] at HTX
  have HQ : Hid (T = txS (Vl.mk vk vi vt vs vl)) := hT
  clear hT hE
  obtain ⟨L4, hL4⟩ : ∃ L4, L4 = [S0, S1, ⟨#[115, 101, 116]⟩, S3] := ⟨_, rfl⟩
  have hl4 : L4.length ≤ 4 := by rw [hL4]; simp
  have HL4 := Lib.hid hL4
  rw [← hL4] at hW
  clear hL4
  go_upto_block 0 with fail
  go_cut [] (fun wf => Hid (WSr gw X wf (L4 ++ [nm, T])) ∧ Hid (T.size ≤ 100000))
  case first =>
    go_wp2_with fail
    refine (HTX.out wc hW.out.below).mono ?_
    rintro e w5 ⟨rfl, hts, hb5⟩
    have HTS := Lib.hid hts
    have HW5 := Lib.hid (hW.out.step hb5)
    obtain ⟨i0, hi, hi0, hi1, hi2⟩ := info_parts str_info
    obtain ⟨v, hbv, hov, hvn⟩ := HW5.out.ex
    have c0 : w5.cell? ⟨gw, 0, none⟩ = some v := hbv.cell 0
    have x11 : w5.cell? ⟨w.heap.size, 11, none⟩ = some (.string nm) := ((HW5.out.below).cell (p := ⟨w.heap.size, 11, none⟩) hzX).trans (HKX.out.cell 11)
    obtain ⟨A, cc, rfl⟩ : ∃ A cc, v = .slice A L4.length cc := by
      obtain ⟨A, cc, e, _⟩ := own_reads hov
      exact ⟨A, cc, e⟩
    have hvl := fun g hg => (own_block_lt hov g hg).1
    have HS5 : Hid (Below w5.heap.size w5 (w5.alloc (.cells #[.string nm, .string T] 9))) := (Below.refl _ _).alloc (Nat.le_refl _) _
    have HOA := Lib.hid (own_below hov HS5.out)
    have HRD := Lib.hid (row_two w5 nm T)
    have HONE : Hid (∀ u ∈ [Value.string nm, .string T], u.oneCell' = true) := str_two nm T
    have hz5 : X.heap.size ≤ w5.heap.size := HW5.out.below.size
    have hz5a : X.heap.size ≤ (w5.alloc (.cells #[.string nm, .string T] 9)).heap.size := Nat.le_trans hz5 HS5.out.size
    have HVL := Lib.hid hvl
    have HBV := Lib.hid hbv
    have HVN := Lib.hid hvn
    clear hbv hov hvn hvl hts hb5
    go_wp2_with (at_builtin; refine wpList_append_any _ rfl _ _ 62 rfl X.heap.size 9 i0 (.string .empty) 1 16 Tryz.underlying62 hi hi0 hi1 hi2 rfl (by decide) _ L4.length _ rfl HOA.out (w5.heap.size + 1) (some ⟨w5.heap.size, 0, none⟩) 2 2 [.string nm, .string T] rfl HRD.out HONE.out (by unfold maxLen; omega) (by omega) hz5a ?_)
    intro v7 w7 hown7 hg7 hv7
    have h77 := HW5.out.pushN [nm, T] HBV.out HVN.out HS5.out hown7 hg7 (by rw [show (w5.alloc (.cells #[.string nm, .string T] 9)).heap.size = w5.heap.size + 1 from Array.size_push _]; exact hv7) HVL.out
    have s1 := h77.1.1
    have s2 := h77.1.2
    have HW7 := Lib.hid h77.2
    obtain ⟨A7, c7, rfl⟩ : ∃ A cc, v7 = .slice A (L4.length + 2) cc := by
      obtain ⟨A, cc, e, _⟩ := own_reads hown7
      exact ⟨A, cc, e⟩
    clear h77 hown7 hg7 hv7
    go_wp2_with fail
    go_meet
    exact ⟨HW7, HTS⟩
  case rest =>
  obtain ⟨HW8', hts⟩ := hcut
  rw [HL4.out] at HW8'
  have HW8 := HW8'
  clear HW8'
  have hsz := HSZ.out (by rw [← HQ.out]; exact hts.out)
  have HWS := Lib.hid hsz
  have HWF : Hid (WSr gw X wc ([S0, S1, ⟨#[115, 101, 116]⟩, S3] ++ [nm, T])) := HW8
  have HRF : Hid (R = joinB ([S0, S1, ⟨#[115, 101, 116]⟩, S3] ++ [nm, T]) bSp) := by rw [HRR.out, HQ.out]; rfl
  obtain ⟨LL, hLL⟩ : ∃ LL, LL = [S0, S1, ⟨#[115, 101, 116]⟩, S3] ++ [nm, T] := ⟨_, rfl⟩
  have hlL : LL.length ≤ 2000 := by rw [hLL]; simp
  rw [← hLL] at HWF HRF
  clear hLL
  obtain ⟨v, hbv, hov, hvn⟩ := HWF.out.ex
  have c0 : wc.cell? ⟨gw, 0, none⟩ = some v := hbv.cell 0
  have HJ := Lib.hid (join_own LL bSp wc _ _ v hov rfl (by show LL.length ≤ _; omega) (by rw [← HRF.out]; have := HWS.out; omega))
  rw [← HRF.out] at HJ
  have hbz := HWF.out.below
  have HBZ := Lib.hid hbz
  clear hbv hov hvn hbz
  go_wp2_with fail
  refine HJ.out.mono ?_
  rintro e wy ⟨rfl, hby⟩
  have HBY : Hid (Below w.heap.size w wy) := HBX.out.trans ((HBZ.out.trans (hby.mono HBZ.out.size)).mono HBX.out.size)
  clear hby
  go_wp2_with fail
  go_ret
  refine ⟨rfl, ?_, HBY.out⟩
  rw [ByteArray.size_append]
  show _ + 1 ≤ 1000000
  omega
end Go.Proofs.YtinllchioeldbaaGreatDoor
