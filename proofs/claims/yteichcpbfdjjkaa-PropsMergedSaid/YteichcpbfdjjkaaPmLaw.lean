/-
  DERIVED. The walk of the law PropsMerged. Conditions: sizes. By an AI agent.
-/
import Derived.Test.YteichcpbfdjjkaaPmMerge
import Derived.Test.YteichcpbfdjjkaaPmEq
import Derived.Test.YteichcpbfdjjkaaPmAwake
namespace Go.Proofs.Yteichcpbfdjjkaa
open Go.RowKit Go.Maps

theorem mem_names {L : List (List Pr)} {l : List Pr} (hl : l ∈ L) {q : Pr} (hq : q ∈ l) : q.name ∈ namesOf L := List.mem_flatMap.2 ⟨l, hl, List.mem_map.2 ⟨q, hq, rfl⟩⟩
/-- one of the three triples -/
structure Trip (x y : List Pr) (w : World) (l0 l1 l2 : List Pr) (v0 v1 v2 : Value) : Prop where
  err : errF [l0, l1, l2] = errF [x, y]
  call : ∀ W, Below w.heap.size w W → Calls Try.prog 5 #[v0, v1, v2] W (MergeR l0 l1 l2 W)
  out : errF [x, y] = 0 → ∀ K : List ByteArray, K.Pairwise blt → (∀ s, s ∈ K ↔ s ∈ namesOf [l0, l1, l2]) → (outM l0 l1 l2 K).length = y.length ∧ ∀ (i : Nat) (p q : Pr), (outM l0 l1 l2 K)[i]? = some p → y[i]? = some q → p.name = q.name ∧ cmpP p.val q.val = 0
theorem errF_two {x y : List Pr} (h : errF [x, y] = 0) : cpErr x = 0 ∧ cpErr y = 0 := by
  rw [errF, errF, errF] at h
  by_cases h1 : cpErr x = 0
  · rw [if_neg (by rw [h1]; decide)] at h
    by_cases h2 : cpErr y = 0
    · exact ⟨h1, h2⟩
    · rw [if_pos h2] at h; exact absurd h h2
  · rw [if_pos h1] at h; exact absurd h h1
theorem trip_of {x y l0 l1 l2 : List Pr} {w : World} {B : Nat} {v0 v1 v2 : Value} (hB : B ≤ w.heap.size) (h0 : RPr w B v0 l0) (h1 : RPr w B v1 l1) (h2 : RPr w B v2 l2)
    (hw : (l0 = l1 ∧ l2 = y) ∨ (l0 = l2 ∧ l1 = y) ∨ (l1 = l2 ∧ l1 = y)) (he : errF [l0, l1, l2] = errF [x, y]) : Trip x y w l0 l1 l2 v0 v1 v2 := by
  have hy : y ∈ [l0, l1, l2] := by
    rcases hw with ⟨_, rfl⟩ | ⟨_, rfl⟩ | ⟨_, rfl⟩ <;> simp
  have hout : errF [x, y] = 0 → ∀ K : List ByteArray, K.Pairwise blt → (∀ s, s ∈ K ↔ s ∈ namesOf [l0, l1, l2]) → (outM l0 l1 l2 K).length = y.length ∧ ∀ (i : Nat) (p q : Pr), (outM l0 l1 l2 K)[i]? = some p → y[i]? = some q → p.name = q.name ∧ cmpP p.val q.val = 0 := fun h0 K hK hin =>
    merge_law l0 l1 l2 y hw (errF_two h0).2 K hK fun q hq => (hin _).2 (mem_names hy hq)
  refine ⟨he, fun W hW => ?_, hout⟩
  obtain ⟨A0, n0, c0, rfl⟩ := h0.slice
  obtain ⟨A1, n1, c1, rfl⟩ := h1.slice
  obtain ⟨A2, n2, c2, rfl⟩ := h2.slice
  refine merge_any l0 l1 l2 A0 A1 A2 n0 c0 n1 c1 n2 c2 W B (Nat.le_trans hB hW.size) (h0.below (hW.mono hB)) (h1.below (hW.mono hB)) (h2.below (hW.mono hB)) (fun s => ?_) fun h K hK hin => ?_
  · rcases hw with ⟨rfl, rfl⟩ | ⟨rfl, rfl⟩ | ⟨rfl, rfl⟩
    · exact .inl (cmpP_refl _)
    · exact .inr (.inl (cmpP_refl _))
    · exact .inr (.inr (cmpP_refl _))
  · rw [he] at h
    rw [(hout h K hK hin).1]
    exact (cp_ok (errF_two h).2).1

set_option maxRecDepth 100000 in
set_option maxHeartbeats 8000000 in
theorem law_any (x y : List Pr) (Ax Ay : Option Addr) (nx cx ny cy : Nat) (w : World) (B : Nat) (hB : B ≤ w.heap.size) (hx : RPr w B (.slice Ax nx cx) x) (hy : RPr w B (.slice Ay ny cy) y) :
    Calls Try.prog 3 #[.slice Ax nx cx, .slice Ay ny cy] w fun e w' => e = .returned (.bool true) ∧ Below w.heap.size w w' := by
  have exx : errF [x, x, y] = errF [x, y] := by
    simp only [errF]; by_cases h : cpErr x = 0 <;> by_cases h2 : cpErr y = 0 <;> simp [h, h2]
  have exyx : errF [x, y, x] = errF [x, y] := by
    simp only [errF]; by_cases h : cpErr x = 0 <;> by_cases h2 : cpErr y = 0 <;> simp [h, h2]
  have exyy : errF [x, y, y] = errF [x, y] := by
    simp only [errF]; by_cases h : cpErr x = 0 <;> by_cases h2 : cpErr y = 0 <;> simp [h, h2]
  have hrow : ∀ k, k < 3 → ∃ l0 l1 l2 A0 n0 c0 A1 n1 c1 A2 n2 c2, Trip x y w l0 l1 l2 (.slice A0 n0 c0) (.slice A1 n1 c1) (.slice A2 n2 c2) ∧
      (∀ i u, ([Value.slice A0 n0 c0, Value.slice A1 n1 c1, Value.slice A2 n2 c2] : List Value)[i]? = some u → ([Value.slice Ax nx cx, Value.slice Ax nx cx, Value.slice Ay ny cy, Value.slice Ax nx cx, Value.slice Ay ny cy, Value.slice Ax nx cx, Value.slice Ax nx cx, Value.slice Ay ny cy, Value.slice Ay ny cy] : List Value)[k * 3 + i]? = some u) := by
    intro k hk
    match k, hk with
    | 0, _ => exact ⟨x, x, y, _, _, _, _, _, _, _, _, _, trip_of hB hx hx hy (.inl ⟨rfl, rfl⟩) exx, fun i u h => match i, h with | 0, h => h | 1, h => h | 2, h => h | i + 3, h => by simp at h⟩
    | 1, _ => exact ⟨x, y, x, _, _, _, _, _, _, _, _, _, trip_of hB hx hy hx (.inr (.inl ⟨rfl, rfl⟩)) exyx, fun i u h => match i, h with | 0, h => h | 1, h => h | 2, h => h | i + 3, h => by simp at h⟩
    | 2, _ => exact ⟨x, y, y, _, _, _, _, _, _, _, _, _, trip_of hB hx hy hy (.inr (.inr ⟨rfl, rfl⟩)) exyy, fun i u h => match i, h with | 0, h => h | 1, h => h | 2, h => h | i + 3, h => by simp at h⟩
    | k + 3, h => exact absurd h (by omega)
  obtain ⟨V, hV⟩ : ∃ V, V = errF [x, y] := ⟨_, rfl⟩
  have HROW := Lib.hid hrow
  have HV := Lib.hid hV
  have HX := Lib.hid hx
  have HY := Lib.hid hy
  clear hrow hV hx hy exx exyx exyy
  obtain ⟨wb, hwb⟩ : ∃ wb, wb = w.alloc (.cells #[.slice Ax nx cx, .slice Ax nx cx, .slice Ay ny cy, .slice Ax nx cx, .slice Ay ny cy, .slice Ax nx cx, .slice Ax nx cx, .slice Ay ny cy, .slice Ay ny cy] 24) := ⟨_, rfl⟩
  have p1 : Blk wb w.heap.size 24 #[.slice Ax nx cx, .slice Ax nx cx, .slice Ay ny cy, .slice Ax nx cx, .slice Ay ny cy, .slice Ax nx cx, .slice Ax nx cx, .slice Ay ny cy, .slice Ay ny cy] := by rw [hwb]; exact Blk.new _ _ _
  have hbel0 : Below w.heap.size w wb := by rw [hwb]; exact (Below.refl _ _).alloc (Nat.le_refl _) _
  have P1 := Lib.hid p1
  have HB0 := Lib.hid hbel0
  have HWB := Lib.hid hwb
  clear p1 hbel0 hwb
  go_enter Try.func3, Try.ntmps3
  go_wp2_with fail
  refine (awakeProp_any w).mono ?_
  rintro e w1 ⟨rfl, hw1⟩
  obtain rfl : w = w1 := hw1.symm
  clear hw1
  go_upto_region 4 with fail
  rw [← HWB.out]
  go_wp2_with fail
  go_loopg [26] 3 (fun gg s26 wr => ∃ (k : Nat), k + gg = 3 ∧ s26 = .int .i64 (k : Int) ∧ Hid (k = 0 ∨ V = 0) ∧ Hid (Below w.heap.size w wr) ∧ Hid (Blk wr w.heap.size 24 #[.slice Ax nx cx, .slice Ax nx cx, .slice Ay ny cy, .slice Ax nx cx, .slice Ay ny cy, .slice Ax nx cx, .slice Ax nx cx, .slice Ay ny cy, .slice Ay ny cy]))
  case atStart => exact ⟨0, by omega, rfl, .inl rfl, HB0, P1⟩
  case round =>
    obtain ⟨k, hkg, rfl, h0, hbel, hp1⟩ := hrel
    obtain ⟨W1, rfl⟩ : ∃ W1, W1 = wr := ⟨_, rfl⟩
    have hzr : w.heap.size < W1.heap.size := hp1.out.lt
    by_cases hk : k < 3
    · obtain ⟨l0, l1, l2, A0, n0, c0, A1, n1, c1, A2, n2, c2, ht, hc⟩ := HROW.out k hk
      have g0 : W1.cell? ⟨w.heap.size, k * 3, none⟩ = some (.slice A0 n0 c0) := (hp1.out.cell (k * 3)).trans (by have := hc 0 _ rfl; simpa using this)
      have g1 : W1.cell? ⟨w.heap.size, k * 3 + 1, none⟩ = some (.slice A1 n1 c1) := (hp1.out.cell (k * 3 + 1)).trans (by have := hc 1 _ rfl; simpa using this)
      have g2 : W1.cell? ⟨w.heap.size, k * 3 + 2, none⟩ = some (.slice A2 n2 c2) := (hp1.out.cell (k * 3 + 2)).trans (by have := hc 2 _ rfl; simpa using this)
      have j0 : (0 : Int) ≤ (k : Int) := by omega
      have j1 : (k : Int) < (3 : Int) := by omega
      obtain ⟨wa, hwa⟩ : ∃ wa, wa = W1.alloc (.cells #[.slice A0 n0 c0, .slice A1 n1 c1, .slice A2 n2 c2] 24) := ⟨_, rfl⟩
      have hal : Below W1.heap.size W1 wa := by rw [hwa]; exact (Below.refl _ _).alloc (Nat.le_refl _) _
      have hza : W1.heap.size < wa.heap.size := by rw [hwa]; simp
      have q0 : Blk wa W1.heap.size 24 #[.slice A0 n0 c0, .slice A1 n1 c1, .slice A2 n2 c2] := by rw [hwa]; exact Blk.new _ _ _
      have HBA : Hid (Below w.heap.size w wa) := hbel.out.trans (hal.mono hbel.out.size)
      have HPA := Lib.hid (hp1.out.below hal hzr)
      have HT := Lib.hid ht
      have HWA := Lib.hid hwa
      have HQ0 := Lib.hid q0
      have HCM := Lib.hid (ht.call wa HBA.out)
      clear hc ht hwa hal q0
      go_upto_region 6 with fail
      rw [← HWA.out]
      have e0 := fun i => HQ0.out.cell i
      clear g0 g1 g2
      go_wp2_with fail
      refine HCM.out.mono ?_
      rintro e w2 ⟨hb2, hres⟩
      rcases hres with ⟨hne, rfl⟩ | ⟨hz, A, n, c, K, rfl, hK, hin, hr⟩
      · rw [HT.out.err, ← HV.out] at hne
        rw [HT.out.err, ← HV.out]
        have hk0 : k = 0 := h0.out.resolve_right hne
        have hne' : (V != 0) = true := by simpa using hne
        have k0 : (k : Int) = 0 := by omega
        have HBF : Hid (Below w.heap.size w w2) := HBA.out.trans (hb2.mono HBA.out.size)
        clear hb2 hne hk0 e0
        go_upto_region 8 with fail
        go_wp2_with fail
        go_ret
        exact ⟨rfl, HBF.out⟩
      · have hV0 : Hid (V = 0) := by rw [HV.out, ← HT.out.err]; exact hz
        obtain ⟨hl, hsm⟩ := HT.out.out (by rw [← HV.out]; exact hV0.out) K hK hin
        have HB2 : Hid (Below w.heap.size w w2) := HBA.out.trans (hb2.mono HBA.out.size)
        have HP2 := Lib.hid (HPA.out.below hb2 (by have := HBA.out.size; omega))
        have HSP := Lib.hid (sameProps_any (outM l0 l1 l2 K) y A Ay n c ny cy w2 w2.heap.size (Nat.le_refl _) hr ((HY.out.below (HB2.out.mono hB)).more (by have := HB2.out.size; omega)) hl hsm)
        clear hb2 hz hK hin hr hl hsm e0 h0
        go_wp2_with fail
        refine HSP.out.mono ?_
        rintro e w3 ⟨rfl, hb3⟩
        have HB3 : Hid (Below w.heap.size w w3) := HB2.out.trans (hb3.mono HB2.out.size)
        have HP3 := Lib.hid (HP2.out.below hb3 (by have := HB2.out.size; have := HP2.out.lt; omega))
        clear hb3
        go_wp2_with fail
        go_roundg (3 - (k + 1))
        case measure => omega
        case rel => exact ⟨k + 1, by omega, by go_num, .inr hV0.out, HB3, HP3⟩
    · go_wp2_with fail
      go_ret
      exact ⟨rfl, hbel.out⟩
end Go.Proofs.Yteichcpbfdjjkaa
