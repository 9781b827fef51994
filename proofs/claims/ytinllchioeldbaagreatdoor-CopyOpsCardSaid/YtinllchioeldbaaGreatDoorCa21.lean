/-
  DERIVED. Plain law: the text of a copy's operation as the reference joins it. Conditions: none.
  The walk of a copy's checkErase. Conditions: sizes.
  By an AI agent.
-/
import Derived.Test.YtinllchioeldbaaGreatDoorCa11
import Derived.Test.YtinllchioeldbaaGreatDoorCa20
import Derived.Deep.LoopGhost
namespace Go.Proofs.YtinllchioeldbaaGreatDoor
open Go.RowKit

theorem joinB_two {L : List ByteArray} (h : L ≠ []) (a b : ByteArray) : joinB (L ++ [a, b]) bSp = joinB L bSp ++ (bSp ++ a ++ bSp ++ b) := by
  rw [show L ++ [a, b] = (L ++ [a]) ++ [b] by simp, joinB_snoc _ _ _ (by simp), joinB_snoc _ _ _ h]
  simp only [ByteArray.append_assoc]
theorem joinB_three {L : List ByteArray} (h : L ≠ []) (a b c : ByteArray) : joinB (L ++ [a, b, c]) bSp = joinB L bSp ++ (bSp ++ a ++ bSp ++ b ++ bSp ++ c) := by
  rw [show L ++ [a, b, c] = (L ++ [a, b]) ++ [c] by simp, joinB_snoc _ _ _ (by simp), joinB_two h]
  simp only [ByteArray.append_assoc]
theorem joinB_four {L : List ByteArray} (h : L ≠ []) (a b c d : ByteArray) : joinB (L ++ [a, b, c, d]) bSp = joinB L bSp ++ (bSp ++ (a ++ bSp ++ b ++ bSp ++ c) ++ bSp ++ d) := by
  rw [show L ++ [a, b, c, d] = (L ++ [a, b, c]) ++ [d] by simp, joinB_snoc _ _ _ (by simp), joinB_three h]
  simp only [ByteArray.append_assoc]
theorem preW_ne (o : COp) : preW o ≠ [] := by simp [preW]
theorem preW_join (o : COp) : joinB (preW o) bSp = wd o.st.time ++ bSp ++ wd o.st.cp ++ bSp ++ kdW o.kind ++ bSp ++ wd o.id := by
  show joinB ([wd o.st.time] ++ [wd o.st.cp, kdW o.kind, wd o.id]) bSp = _
  rw [joinB_three (by simp), joinB_one]
  simp only [ByteArray.append_assoc]
theorem rs_k1 {o : COp} (h : o.kind = 1) : joinB (wds o) bSp = joinB (preW o) bSp ++ (bSp ++ wd o.parent ++ bSp ++ wd o.left ++ bSp ++ quoS o.oct) := by
  unfold wds
  rw [if_pos h]
  exact joinB_three (preW_ne o) _ _ _
theorem rs_k2 {o : COp} (h : o.kind = 2) : joinB (wds o) bSp = joinB (preW o) bSp ++ (bSp ++ wd o.parent ++ bSp ++ wd o.left) := by
  unfold wds
  rw [if_neg (by omega), if_pos h]
  exact joinB_two (preW_ne o) _ _
theorem rs_k3 {o : COp} (h : o.kind = 3) : joinB (wds o) bSp = joinB (preW o) bSp := by
  unfold wds
  rw [if_neg (by omega), if_neg (by omega), if_neg (by omega), if_neg (by omega), if_neg (by omega), List.append_nil]
theorem rs_k4 {o : COp} (h : o.kind = 4) : joinB (wds o) bSp = joinB (preW o) bSp ++ (bSp ++ (wd o.aft.st.time ++ bSp ++ wd o.aft.st.cp ++ bSp ++ wd o.aft.at_) ++ bSp ++ quoS o.oct) := by
  unfold wds
  rw [if_neg (by omega), if_neg (by omega), if_pos h]
  exact joinB_four (preW_ne o) _ _ _ _
theorem rs_k5 {o : COp} (h : o.kind = 5) : joinB (wds o) bSp = joinB (preW o ++ o.spots.flatMap (fun x => (spN x).map wd)) bSp := by
  unfold wds
  rw [if_neg (by omega), if_neg (by omega), if_neg (by omega), if_pos h]
theorem rs_k6 {o : COp} (h : o.kind = 6) : joinB (wds o) bSp = joinB (preW o) bSp ++ (bSp ++ o.name ++ bSp ++ txS o.val) := by
  unfold wds
  rw [if_neg (by omega), if_neg (by omega), if_neg (by omega), if_neg (by omega), if_pos h]
  exact joinB_two (preW_ne o) _ _
/-- a spot more -/
theorem rs_spot {L : List ByteArray} (hL : L ≠ []) {l : List Spt} {k : Nat} {x : Spt} (h : l[k]? = some x) : joinB (L ++ (l.take (k + 1)).flatMap (fun x => (spN x).map wd)) bSp
    = joinB (L ++ (l.take k).flatMap (fun x => (spN x).map wd)) bSp ++ (bSp ++ (wd x.st.time ++ bSp ++ wd x.st.cp ++ bSp ++ wd x.at_)) := by
  rw [List.take_add_one, h, List.flatMap_append, ← List.append_assoc]
  show joinB (_ ++ [wd x.st.time, wd x.st.cp, wd x.at_]) bSp = _
  rw [joinB_three (by simp [hL])]
  simp only [ByteArray.append_assoc]
/-- the words of the kinds, as the reference keeps them -/
def opwL : List Value := .string ⟨#[]⟩ :: [1, 2, 3, 4, 5, 6].map fun k => .string (kdW k)
theorem opwL_at {k : Nat} (h1 : 1 ≤ k) (h6 : k ≤ 6) : opwL[k]? = some (.string (kdW (k : Int))) := by
  rcases (show k = 1 ∨ k = 2 ∨ k = 3 ∨ k = 4 ∨ k = 5 ∨ k = 6 by omega) with rfl | rfl | rfl | rfl | rfl | rfl <;> rfl
/-- the reference's words are laid -/
def OpW (w : World) : Prop := ∃ A c, w.cell? ⟨0, 0, none⟩ = some (.slice A 7 c) ∧ Reads w w.heap.size 1 A 7 opwL
theorem OpW.below {w w' : World} (h : OpW w) (hb : Below w.heap.size w w') : OpW w' := by
  obtain ⟨A, c, h1, h2⟩ := h
  exact ⟨A, c, (hb.cell (World.block_lt_of_cell? w _ h1)).trans h1, (h2.below hb).more hb.size⟩
theorem OpW.at_ {w : World} (h : OpW w) : ∃ gb off c, w.cell? ⟨0, 0, none⟩ = some (.slice (some ⟨gb, off, none⟩) 7 c) ∧ gb < w.heap.size ∧ ∀ k : Nat, 1 ≤ k → k ≤ 6 → w.cell? ⟨gb, off + k, none⟩ = some (.string (kdW (k : Int))) := by
  obtain ⟨A, c, h1, h2⟩ := h
  obtain ⟨gb, off, rfl, hg, hc⟩ := h2.plain (by omega) (by omega)
  exact ⟨gb, off, c, h1, hg, fun k hk1 hk6 => hc _ _ (opwL_at hk1 hk6)⟩
end Go.Proofs.YtinllchioeldbaaGreatDoor
namespace Go.Proofs.YtinllchioeldbaaGreatDoor
open Go.RowKit

theorem sptUp_all : ∀ {l : List Spt}, (∀ j a b, l[j]? = some a → l[j + 1]? = some b → sptLt a b = true) → sptUp l = true
  | [], _ => rfl
  | [_], _ => rfl
  | a :: b :: l, h => by
    rw [sptUp, h 0 a b rfl rfl, Bool.true_and]
    exact sptUp_all fun j x y hx hy => h (j + 1) x y (by simpa using hx) (by simpa using hy)
theorem sptUp_bad : ∀ {l : List Spt} {j : Nat} {a b : Spt}, l[j]? = some a → l[j + 1]? = some b → sptLt a b = false → sptUp l = false
  | [], j, a, b, h, _, _ => by simp at h
  | [_], j, a, b, _, h, _ => by simp at h
  | x :: y :: l, 0, a, b, h, h', hf => by
    simp at h h'
    subst h h'
    rw [sptUp, hf, Bool.false_and]
  | x :: y :: l, j + 1, a, b, h, h', hf => by
    rw [sptUp, sptUp_bad (l := y :: l) (j := j) (by simpa using h) (by simpa using h') hf, Bool.and_false]

set_option maxHeartbeats 4000000 in
set_option maxRecDepth 100000 in
theorem checkErase_any (o : COp) (As Ai : Option Addr) (ns cs ni ci : Nat) (w : World) (B : Nat) (hB : B ≤ w.heap.size) (hs : RSp w B (.slice As ns cs) o.spots) :
    Calls Tryz.prog 17 #[CA ⟨o, .slice As ns cs, .slice Ai ni ci⟩] w fun e w' => e = .returned (.int .i64 (cErE o)) ∧ Below w.heap.size w w' := by
  obtain ⟨hn, _, hn8⟩ := hs.len
  have HR := Lib.hid fun x W => rightSpot_any x o.st W
  have HC := Lib.hid fun x y W => compareSpots_any x y W
  have E1 : Hid ((o.spots.any fun x => !sptOk x o.st) = true → cErE o = 15) := fun h => if_pos h
  have E2 : Hid ((o.spots.any fun x => !sptOk x o.st) = false → (((ns : Int) == 0) || decide ((500 : Int) < (ns : Int))) = true → cErE o = 4) := fun h h' => (if_neg (by rw [h]; decide)).trans (if_pos (by rw [← hn]; exact h'))
  have E3 : Hid ((o.spots.any fun x => !sptOk x o.st) = false → (((ns : Int) == 0) || decide ((500 : Int) < (ns : Int))) = false → sptUp o.spots = false → cErE o = 5) := fun h h' h2 => (if_neg (by rw [h]; decide)).trans ((if_neg (by rw [← hn, h']; decide)).trans (if_pos h2))
  have E4 : Hid ((o.spots.any fun x => !sptOk x o.st) = false → (((ns : Int) == 0) || decide ((500 : Int) < (ns : Int))) = false → sptUp o.spots = true → cErE o = 0) := fun h h' h2 => (if_neg (by rw [h]; decide)).trans ((if_neg (by rw [← hn, h']; decide)).trans (if_neg (by rw [h2]; decide)))
  obtain ⟨E, hE⟩ : ∃ E, E = cErE o := ⟨_, rfl⟩
  rw [← hE] at E1 E2 E3 E4 ⊢
  clear hE
  have HS := Lib.hid hs
  have HN := Lib.hid hn
  clear hs hn
  obtain ⟨⟨t0, t1⟩, k, id, pa, le, ⟨⟨a0, a1⟩, a2⟩, oc, L, nm, ⟨vk, vi, vt, vs, vl⟩⟩ := o
  dsimp only [CA, Vl.kind, Vl.int_, Vl.to_, Vl.text, Vl.items] at HR E1 E2 E3 E4 HS HN ⊢
  go_enter Tryz.func17, Tryz.ntmps17
  go_upto_region 1 with fail
  have KX := Blk.new w 33 #[.int .i64 t0, .int .i64 t1, .int .i64 k, .int .i64 id, .int .i64 pa, .int .i64 le, .int .i64 a0, .int .i64 a1, .int .i64 a2, .string oc, .slice As ns cs, .string nm, .int .i64 vk, .int .i64 vi, .int .i64 vt, .string vs, .slice Ai ni ci]
  have hbX : Below w.heap.size w (w.alloc (.cells #[.int .i64 t0, .int .i64 t1, .int .i64 k, .int .i64 id, .int .i64 pa, .int .i64 le, .int .i64 a0, .int .i64 a1, .int .i64 a2, .string oc, .slice As ns cs, .string nm, .int .i64 vk, .int .i64 vi, .int .i64 vt, .string vs, .slice Ai ni ci] 33)) := (Below.refl _ _).alloc (Nat.le_refl _) _
  generalize (w.alloc (.cells #[.int .i64 t0, .int .i64 t1, .int .i64 k, .int .i64 id, .int .i64 pa, .int .i64 le, .int .i64 a0, .int .i64 a1, .int .i64 a2, .string oc, .slice As ns cs, .string nm, .int .i64 vk, .int .i64 vi, .int .i64 vt, .string vs, .slice Ai ni ci] 33)) = X at KX hbX ⊢
  have hzX := KX.lt
  have c10 : X.cell? ⟨w.heap.size, 10, none⟩ = some (.slice As ns cs) := KX.cell 10
  have HKX := Lib.hid KX
  have HBX := Lib.hid hbX
  clear KX hbX
  go_wp2_with fail
  go_loopg [9] ns (fun gg s9 wr => ∃ q : Nat, q + gg = ns ∧ s9 = .int .i64 (q : Int) ∧ Hid (Below X.heap.size X wr) ∧ Hid (∀ x ∈ L.take q, sptOk x ⟨t0, t1⟩ = true))
  case atStart => exact ⟨0, by omega, rfl, Below.refl _ _, fun x hx => by simp at hx⟩
  case round =>
    obtain ⟨q, hqg, rfl, hbel, hall⟩ := hrel
    have KR := HKX.out.below hbel.out hzX
    have HBR : Hid (Below w.heap.size w wr) := HBX.out.trans (hbel.out.mono HBX.out.size)
    by_cases hq : q < ns
    · obtain ⟨x, hx⟩ : ∃ x, L[q]? = some x := ⟨_, List.getElem?_eq_getElem (by have := HN.out; omega)⟩
      obtain ⟨b, off, rfl, hbb, u0, u1, u2⟩ := HS.out.at_ hx
      have g0 := (HBR.out.cell (p := ⟨b, off + q * 3, none⟩) (by show b < _; omega)).trans u0
      have g1 := (HBR.out.cell (p := ⟨b, off + q * 3 + 1, none⟩) (by show b < _; omega)).trans u1
      have g2 := (HBR.out.cell (p := ⟨b, off + q * 3 + 2, none⟩) (by show b < _; omega)).trans u2
      have y0 : wr.cell? ⟨w.heap.size, 0, none⟩ = some (.int .i64 t0) := KR.cell 0
      have y1 : wr.cell? ⟨w.heap.size, 1, none⟩ = some (.int .i64 t1) := KR.cell 1
      have hzr := KR.lt
      have HRX := Lib.hid fun W => HR.out x W
      have HT2 : Hid (L.take (q + 1) = L.take q ++ [x]) := by show _ = _; rw [List.take_add_one, hx]; rfl
      have HX := Lib.hid hx
      obtain ⟨⟨x0, x1⟩, x2⟩ := x
      dsimp only [spA, stA] at HRX g0 g1 g2
      obtain ⟨r, hr⟩ : ∃ r, r = sptOk ⟨⟨x0, x1⟩, x2⟩ ⟨t0, t1⟩ := ⟨_, rfl⟩
      rw [← hr] at HRX
      have HRR := Lib.hid hr
      have j0 : (q : Int) < (ns : Int) := by omega
      have hal : Below X.heap.size X (wr.alloc (.cells #[.int .i64 x0, .int .i64 x1, .int .i64 x2] 27)) := hbel.out.alloc hbel.out.size _
      have HAL := Lib.hid hal
      clear hr u0 u1 u2 hx KR hal
      go_wp2_with fail
      refine (HRX.out _).mono ?_
      rintro e w2 ⟨rfl, hb2⟩
      have HB2 : Hid (Below X.heap.size X w2) := HAL.out.trans (hb2.mono HAL.out.size)
      clear hb2
      cases r
      case false =>
        have HV := Lib.hid (E1.out (List.any_eq_true.2 ⟨_, List.mem_of_getElem? HX.out, by rw [← HRR.out]; rfl⟩))
        go_wp2_with fail
        go_ret
        exact ⟨by rw [HV.out]; rfl, HBX.out.trans (HB2.out.mono HBX.out.size)⟩
      case true =>
        go_wp2_with fail
        go_roundg (ns - (q + 1))
        case measure => omega
        case rel => exact ⟨q + 1, by omega, by go_num, HB2, fun z hz => by
          rw [HT2.out] at hz
          rcases List.mem_append.1 hz with hz | hz
          · exact hall.out z hz
          · rw [List.mem_singleton] at hz
            subst hz
            exact HRR.out.symm⟩
    · obtain rfl : q = ns := by omega
      have hany : (L.any fun x => !sptOk x ⟨t0, t1⟩) = false := by
        rw [List.any_eq_false]
        intro x hx
        rw [List.take_of_length_le (by rw [← HN.out]; exact Nat.le_refl _)] at hall
        rw [hall.out x hx]
        decide
      have F2 := Lib.hid (E2.out hany)
      have F3 := Lib.hid (E3.out hany)
      have F4 := Lib.hid (E4.out hany)
      have y10 : wr.cell? ⟨w.heap.size, 10, none⟩ = some (.slice As q cs) := KR.cell 10
      have HKR := Lib.hid KR
      have hzr := KR.lt
      clear hany hall E1 E2 E3 E4 KR
      by_cases hz : ((q : Int) == 0) = true
      · have HV := Lib.hid (F2.out (by rw [hz]; rfl))
        clear F2 F3 F4
        go_wp2_with fail
        go_ret
        exact ⟨by rw [HV.out]; rfl, HBR.out⟩
      have hz' : ((q : Int) == 0) = false := by simpa using hz
      by_cases hbig : (500 : Int) < (q : Int)
      · have HV := Lib.hid (F2.out (by rw [decide_eq_true hbig, Bool.or_true]))
        clear F2 F3 F4 hz
        go_wp2_with fail
        go_ret
        exact ⟨by rw [HV.out]; rfl, HBR.out⟩
      have F5 := Lib.hid (F3.out (by rw [hz', decide_eq_false hbig]; rfl))
      have F6 := Lib.hid (F4.out (by rw [hz', decide_eq_false hbig]; rfl))
      have hq0 : 0 < q := by
        rcases Nat.eq_zero_or_pos q with h | h
        · subst h; simp at hz
        · exact h
      clear F2 F3 F4 hz
      obtain ⟨W1, hW1⟩ : ∃ W1, W1 = wr := ⟨_, rfl⟩
      rw [← hW1] at HBR HKR hzr y10 ⊢
      clear hbel hW1
      go_wp2_with fail
      go_loopg [5] q (fun gg s5 wr => ∃ i : Nat, i + gg = q + 1 ∧ 1 ≤ i ∧ s5 = .int .i64 (i : Int) ∧ Hid (Below W1.heap.size W1 wr) ∧ Hid (∀ j a b, j + 1 < i → L[j]? = some a → L[j + 1]? = some b → sptLt a b = true))
      case atStart => exact ⟨1, by omega, Nat.le_refl _, rfl, Below.refl _ _, fun j a b h => absurd h (by omega)⟩
      case round =>
        obtain ⟨i, hig, hi1, rfl, hbel, hup⟩ := hrel
        have KR := HKR.out.below hbel.out hzr
        have HBQ : Hid (Below w.heap.size w wr) := HBR.out.trans (hbel.out.mono HBR.out.size)
        have y10' : wr.cell? ⟨w.heap.size, 10, none⟩ = some (.slice As q cs) := KR.cell 10
        by_cases hi : i < q
        · obtain ⟨j, hj⟩ : ∃ j, i = j + 1 := ⟨i - 1, by omega⟩
          obtain ⟨x, hx⟩ : ∃ x, L[j]? = some x := ⟨_, List.getElem?_eq_getElem (by have := HN.out; omega)⟩
          obtain ⟨z, hz⟩ : ∃ z, L[i]? = some z := ⟨_, List.getElem?_eq_getElem (by have := HN.out; omega)⟩
          obtain ⟨b, off, eA, hbb, u0, u1, u2⟩ := HS.out.at_ hx
          obtain ⟨b', off', eA', _, v0, v1, v2⟩ := HS.out.at_ hz
          obtain ⟨rfl, rfl⟩ : b = b' ∧ off = off' := by rw [eA] at eA'; injection eA' with e; injection e with e1 e2; exact ⟨e1, e2⟩
          subst eA
          have HCX := Lib.hid fun W => HC.out x z W
          have hcn := cmpP_neg x z
          obtain ⟨r, hr⟩ : ∃ r, r = sptLt x z := ⟨_, rfl⟩
          obtain ⟨cv, hcv⟩ : ∃ cv, cv = cmpP x z := ⟨_, rfl⟩
          rw [← hcv] at HCX hcn
          rw [← hr] at hcn
          have HRR := Lib.hid hr
          have HX := Lib.hid hx
          have HZ := Lib.hid (hj ▸ hz : L[j + 1]? = some z)
          obtain ⟨⟨x0, x1⟩, x2⟩ := x
          obtain ⟨⟨z0, z1⟩, z2⟩ := z
          dsimp only [spA, stA] at HCX u0 u1 u2 v0 v1 v2
          have d0 : wr.cell? ⟨w.heap.size, 10, none⟩ = some (.slice (some ⟨b, off, none⟩) q cs) := KR.cell 10
          have d1 : wr.cell? ⟨b, off + j * 3, none⟩ = some (.int .i64 x0) := (HBQ.out.cell (p := ⟨b, off + j * 3, none⟩) (by show b < _; omega)).trans u0
          have d2 : wr.cell? ⟨b, off + j * 3 + 1, none⟩ = some (.int .i64 x1) := (HBQ.out.cell (p := ⟨b, off + j * 3 + 1, none⟩) (by show b < _; omega)).trans u1
          have d3 : wr.cell? ⟨b, off + j * 3 + 2, none⟩ = some (.int .i64 x2) := (HBQ.out.cell (p := ⟨b, off + j * 3 + 2, none⟩) (by show b < _; omega)).trans u2
          have d4 : wr.cell? ⟨b, off + i * 3, none⟩ = some (.int .i64 z0) := (HBQ.out.cell (p := ⟨b, off + i * 3, none⟩) (by show b < _; omega)).trans v0
          have d5 : wr.cell? ⟨b, off + i * 3 + 1, none⟩ = some (.int .i64 z1) := (HBQ.out.cell (p := ⟨b, off + i * 3 + 1, none⟩) (by show b < _; omega)).trans v1
          have d6 : wr.cell? ⟨b, off + i * 3 + 2, none⟩ = some (.int .i64 z2) := (HBQ.out.cell (p := ⟨b, off + i * 3 + 2, none⟩) (by show b < _; omega)).trans v2
          have e0 : wr.drew.cell? ⟨w.heap.size, 10, none⟩ = some (.slice (some ⟨b, off, none⟩) q cs) := d0
          have e1 : wr.drew.cell? ⟨b, off + j * 3, none⟩ = some (.int .i64 x0) := d1
          have e2 : wr.drew.cell? ⟨b, off + j * 3 + 1, none⟩ = some (.int .i64 x1) := d2
          have e3 : wr.drew.cell? ⟨b, off + j * 3 + 2, none⟩ = some (.int .i64 x2) := d3
          have e4 : wr.drew.cell? ⟨b, off + i * 3, none⟩ = some (.int .i64 z0) := d4
          have e5 : wr.drew.cell? ⟨b, off + i * 3 + 1, none⟩ = some (.int .i64 z1) := d5
          have e6 : wr.drew.cell? ⟨b, off + i * 3 + 2, none⟩ = some (.int .i64 z2) := d6
          have i0 : (i : Int) < (q : Int) := by omega
          have j0 : (j : Int) < (q : Int) := by omega
          have i1 : (0 : Int) ≤ (i : Int) := by omega
          have j1 : (0 : Int) ≤ (j : Int) := by omega
          have jw : IntKind.i64.wrap ((i : Int) - 1) = (j : Int) := by rw [IntWalk.i64_in _ (by omega)]; omega
          have hzw : w.heap.size < wr.heap.size := KR.lt
          have hbw : b < wr.heap.size := by omega
          have HJ := Lib.hid hj
          have HI := Lib.hid hi
          clear hr hcv hj hi u0 u1 u2 v0 v1 v2 hx hz KR y10' HR HC
          go_wp2_with fail
          go_region_held3 (fun w' => w'.cell? ⟨w.heap.size, 10, none⟩ = some (.slice (some ⟨b, off, none⟩) q cs) ∧ w'.cell? ⟨b, off + j * 3, none⟩ = some (.int .i64 x0) ∧ w'.cell? ⟨b, off + j * 3 + 1, none⟩ = some (.int .i64 x1) ∧ w'.cell? ⟨b, off + j * 3 + 2, none⟩ = some (.int .i64 x2) ∧ w'.cell? ⟨b, off + i * 3, none⟩ = some (.int .i64 z0) ∧ w'.cell? ⟨b, off + i * 3 + 1, none⟩ = some (.int .i64 z1) ∧ w'.cell? ⟨b, off + i * 3 + 2, none⟩ = some (.int .i64 z2))
            (first | with_reducible exact ⟨d0, d1, d2, d3, d4, d5, d6⟩ | with_reducible exact ⟨e0, e1, e2, e3, e4, e5, e6⟩ | with_reducible exact ⟨t0, t1, t2, t3, t4, t5, t6⟩)
            (first | (go_at_call 41; refine (HCX.out wr.drew).mono ?_; rintro e w2 ⟨rfl, hb2⟩; have HB2 : Hid (Below W1.heap.size W1 w2) := hbel.out.drew.trans (hb2.mono hbel.out.size); have t0 : w2.cell? ⟨w.heap.size, 10, none⟩ = some (.slice (some ⟨b, off, none⟩) q cs) := (hb2.cell (p := ⟨w.heap.size, 10, none⟩) (by show _ < wr.heap.size; omega)).trans e0; have t1 : w2.cell? ⟨b, off + j * 3, none⟩ = some (.int .i64 x0) := (hb2.cell (p := ⟨b, off + j * 3, none⟩) (by show _ < wr.heap.size; omega)).trans e1; have t2 : w2.cell? ⟨b, off + j * 3 + 1, none⟩ = some (.int .i64 x1) := (hb2.cell (p := ⟨b, off + j * 3 + 1, none⟩) (by show _ < wr.heap.size; omega)).trans e2; have t3 : w2.cell? ⟨b, off + j * 3 + 2, none⟩ = some (.int .i64 x2) := (hb2.cell (p := ⟨b, off + j * 3 + 2, none⟩) (by show _ < wr.heap.size; omega)).trans e3; have t4 : w2.cell? ⟨b, off + i * 3, none⟩ = some (.int .i64 z0) := (hb2.cell (p := ⟨b, off + i * 3, none⟩) (by show _ < wr.heap.size; omega)).trans e4; have t5 : w2.cell? ⟨b, off + i * 3 + 1, none⟩ = some (.int .i64 z1) := (hb2.cell (p := ⟨b, off + i * 3 + 1, none⟩) (by show _ < wr.heap.size; omega)).trans e5; have t6 : w2.cell? ⟨b, off + i * 3 + 2, none⟩ = some (.int .i64 z2) := (hb2.cell (p := ⟨b, off + i * 3 + 2, none⟩) (by show _ < wr.heap.size; omega)).trans e6; clear hb2))
          cases r
          case false =>
            have hc0 : (0 : Int) ≤ cv := by simpa using hcn
            have HV := Lib.hid (F5.out (sptUp_bad HX.out HZ.out HRR.out.symm))
            clear hcn
            go_wp2_with fail
            go_ret
            exact ⟨by rw [HV.out]; rfl, HBR.out.trans (HB2.out.mono HBR.out.size)⟩
          case true =>
            have hc0 : ¬ (0 : Int) ≤ cv := by simpa using hcn
            clear hcn
            go_wp2_with fail
            have hi' := HI.out
            go_roundg (q - i)
            case measure => omega
            case rel => exact ⟨i + 1, by omega, by omega, by go_num, HB2, fun j' a b h' ha hb => by
              by_cases e : j' + 1 < i
              · exact hup.out j' a b e ha hb
              · have hj' := HJ.out
                obtain rfl : j' = j := by omega
                obtain rfl := Option.some.inj (ha.symm.trans HX.out)
                obtain rfl := Option.some.inj (hb.symm.trans HZ.out)
                exact HRR.out.symm⟩
        · have hup' : sptUp L = true := sptUp_all fun j a b ha hb => hup.out j a b (by
            have := (List.getElem?_eq_some_iff.1 hb).1
            have := HN.out
            omega) ha hb
          have HV := Lib.hid (F6.out hup')
          clear hup' KR
          go_wp2_with fail
          go_ret
          exact ⟨by rw [HV.out]; rfl, HBQ.out⟩
end Go.Proofs.YtinllchioeldbaaGreatDoor
