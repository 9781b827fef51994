/-
  DERIVED. The walk of prop.PropsText. Conditions: the table of powers of ten is laid. By an AI agent.
-/
import Derived.Test.YtbdcimakdiegnaaGreatDoorPrPl
import Derived.Test.YtbdcimakdiegnaaGreatDoorPrAt
import Derived.Test.YtbdcimakdiegnaaGreatDoorVa15
import Derived.Test.YtbdcimakdiegnaaGreatDoorVa07
import Derived.Deep.LoopGhost
import Derived.Deep.DeepCutAuto
namespace Go.Proofs.YtbdcimakdiegnaaGreatDoor
open Go.RowKit

/-- what prop.PropsText returns -/
noncomputable def ptR (l : List Pr) : ByteArray := if cpErr l = 0 then ptS l else ⟨#[]⟩

set_option maxHeartbeats 2000000 in
set_option maxRecDepth 100000 in
theorem propsText_any (l : List Pr) (A : Option Addr) (n c : Nat) (w : World) (B : Nat) (hB : B ≤ w.heap.size) (h : RPr w B (.slice A n c) l) (hP : Pow w) :
    Calls Tryz.prog 10 #[.slice A n c] w fun e w' => e = .returned (.tuple #[.string (ptR l), .int .i64 (cpErr l)]) ∧ Below w.heap.size w w' := by
  obtain ⟨hn, hnc, hn8⟩ := h.len
  have HN := Lib.hid hn
  have HS := Lib.hid h
  have HP := Lib.hid hP
  have HCH := Lib.hid (checkProps_any (.slice A n c) l w B hB h)
  clear h hP hn
  by_cases hl : cpErr l = 0
  · have hR : ptR l = ptS l := if_pos hl
    have HRT := Lib.hid (cp_right hl)
    rw [hR, hl]
    rw [hl] at HCH
    clear hR
    have hn20 : n ≤ 20 := by have := HN.out; have := HRT.out.1; omega
    go_enter Tryz.func10, Tryz.ntmps10
    go_wp2_with fail
    refine HCH.out.mono ?_
    rintro e w1 ⟨rfl, hb1⟩
    have HB1 := Lib.hid hb1
    have hz1 := hb1.size
    clear HCH
    have HP1 := Lib.hid (HP.out.below hb1)
    have HS1 := Lib.hid (HS.out.below (hb1.mono hB))
    have hB1 : B ≤ w1.heap.size := Nat.le_trans hB hz1
    clear HS HP hb1
    go_wp2_with fail
    have KG := Blk.new w1 58 #[.pointer none, .slice none 0 0]
    have HG0 : Hid (Below w.heap.size w (w1.alloc (.cells #[.pointer none, .slice none 0 0] 58))) := HB1.out.alloc hz1 _
    have hs0 : (w1.alloc (.cells #[.pointer none, .slice none 0 0] 58)).heap.size = w1.heap.size + 1 := Array.size_push _
    have HB0 : Hid (Bld w1.heap.size (w1.heap.size + 1) (Lib.strCells (ptS (l.take 0))) (w1.alloc (.cells #[.pointer none, .slice none 0 0] 58))) := Bld.fresh (by omega) KG
    have HK0 : Hid (Below w1.heap.size w1 (w1.alloc (.cells #[.pointer none, .slice none 0 0] 58))) := (Below.refl _ _).alloc (Nat.le_refl _) _
    have HZ0 := Lib.hid hs0
    clear KG hs0
    generalize (w1.alloc (.cells #[.pointer none, .slice none 0 0] 58)) = W0 at HG0 HB0 HZ0 HK0 ⊢
    have iw0 : IntKind.i64.wrap 0 = 0 := by decide
    go_loopg [15] n (fun gg s15 wr => ∃ q : Nat, q + gg = n ∧ s15 = .int .i64 (q : Int) ∧ Hid (Below w1.heap.size w1 wr) ∧ w1.heap.size + 1 ≤ wr.heap.size ∧ Hid (Bld w1.heap.size (w1.heap.size + 1) (Lib.strCells (ptS (l.take q))) wr) ∧ (ptS (l.take q)).size ≤ q * 110000)
    case atStart => exact ⟨0, by omega, rfl, HK0, by rw [HZ0.out]; omega, HB0, by show 0 ≤ _; omega⟩
    case round =>
      obtain ⟨q, hqg, rfl, HBR, hzr, HBL, hsz⟩ := hrel
      by_cases hq : q < n
      · obtain ⟨x, hx⟩ : ∃ x, l[q]? = some x := ⟨_, List.getElem?_eq_getElem (by have := HN.out; omega)⟩
        obtain ⟨b, off, Av, nv, cv, rfl, hbb, u0, u1, u2, u3, u4, u5, hr⟩ := HS1.out.at_ hx
        have HTK : Hid (ptS (l.take (q + 1)) = ptS (l.take q) ++ lnS x) := ptS_take hx
        have HOK := Lib.hid (HRT.out.2 x (List.mem_of_getElem? hx))
        have HNM := Lib.hid (nm_right HOK.out.2)
        have g0 := (HBR.out.cell (p := ⟨b, off + q * 6, none⟩) (by show b < _; omega)).trans u0
        have g1 := (HBR.out.cell (p := ⟨b, off + q * 6 + 1, none⟩) (by show b < _; omega)).trans u1
        have g2 := (HBR.out.cell (p := ⟨b, off + q * 6 + 2, none⟩) (by show b < _; omega)).trans u2
        have g3 := (HBR.out.cell (p := ⟨b, off + q * 6 + 3, none⟩) (by show b < _; omega)).trans u3
        have g4 := (HBR.out.cell (p := ⟨b, off + q * 6 + 4, none⟩) (by show b < _; omega)).trans u4
        have g5 := (HBR.out.cell (p := ⟨b, off + q * 6 + 5, none⟩) (by show b < _; omega)).trans u5
        have HRX : Hid (∃ d, RVd wr B d (.slice Av nv cv) x.val.items) := (by obtain ⟨d, hd⟩ := hr; exact ⟨d, hd.below (HBR.out.mono hB1)⟩)
        obtain ⟨T, hT⟩ : ∃ T, T = wrV x.val := ⟨_, rfl⟩
        have HWR : Hid (∀ W, Below wr.heap.size wr W → Calls Tryz.prog 17 #[AV (x.val, .slice Av nv cv)] W fun e w' => e = .returned (.string T) ∧ T.size ≤ 100000 ∧ Below W.heap.size W w') := fun W hW => by
          obtain ⟨d, hd⟩ := HRX.out
          refine (written_any d (x.val, .slice Av nv cv) W B (Nat.le_trans (Nat.le_trans hB1 HBR.out.size) hW.size) (hd.below (hW.mono (Nat.le_trans hB1 HBR.out.size))) ((HP1.out.below HBR.out).below hW) HOK.out.1).mono ?_
          rintro e w' ⟨rfl, h2, h3⟩
          rw [hT]
          refine ⟨rfl, Nat.le_trans h2 ?_, h3⟩
          show wrB _ ≤ _
          unfold wrB
          split <;> omega
        have hLN : lnS x = x.name ++ ⟨#[58, 58, 32]⟩ ++ T ++ ⟨#[10]⟩ := by rw [hT]; rfl
        rw [hLN] at HTK
        obtain ⟨nm, ⟨vk, vi, vt, vs, vl⟩⟩ := x
        dsimp only [AV, Vl.kind, Vl.int_, Vl.to_, Vl.text, Vl.items] at HWR HTK HNM g0 g1 g2 g3 g4 g5
        have hnm : nm.size ≤ 32 := HNM.out
        have j1 : (q : Int) < (n : Int) := by omega
        clear hT hLN HRX HOK HNM hr u0 u1 u2 u3 u4 u5 hx HRT
        go_upto_region 7 with fail
        go_cut [7] (fun s7 wx => s7 = .pointer (some ⟨wr.heap.size, 0, none⟩) ∧ Hid (Blk wx wr.heap.size 60 #[.string nm, .int .i64 vk, .int .i64 vi, .int .i64 vt, .string vs, .slice Av nv cv] ∧ Below wr.heap.size wr wx))
        case first =>
          as_aux_lemma =>
          have KA := Blk.new wr 60 #[.string nm, .int .i64 vk, .int .i64 vi, .int .i64 vt, .string vs, .slice Av nv cv]
          have HKA := Lib.hid (And.intro KA ((Below.refl _ _).alloc (Nat.le_refl _) _ : Below wr.heap.size wr (wr.alloc (.cells #[.string nm, .int .i64 vk, .int .i64 vi, .int .i64 vt, .string vs, .slice Av nv cv] 60))))
          clear KA HWR HBL HTK
          go_wp2_with fail
          go_meet
          exact ⟨rfl, HKA⟩
        case rest =>
        obtain ⟨rfl, hka, ha⟩ := hcut
        have HKA := Lib.hid hka
        have HA := Lib.hid ha
        clear g0 g1 g2 g3 g4 g5 hka ha
        have x0 : wc.cell? ⟨wr.heap.size, 0, none⟩ = some (.string nm) := HKA.out.cell 0
        have x1 : wc.cell? ⟨wr.heap.size, 1, none⟩ = some (.int .i64 vk) := HKA.out.cell 1
        have x2 : wc.cell? ⟨wr.heap.size, 2, none⟩ = some (.int .i64 vi) := HKA.out.cell 2
        have x3 : wc.cell? ⟨wr.heap.size, 3, none⟩ = some (.int .i64 vt) := HKA.out.cell 3
        have x4 : wc.cell? ⟨wr.heap.size, 4, none⟩ = some (.string vs) := HKA.out.cell 4
        have x5 : wc.cell? ⟨wr.heap.size, 5, none⟩ = some (.slice Av nv cv) := HKA.out.cell 5
        have y0 : wc.drew.cell? ⟨wr.heap.size, 0, none⟩ = some (.string nm) := x0
        have y1 : wc.drew.cell? ⟨wr.heap.size, 1, none⟩ = some (.int .i64 vk) := x1
        have y2 : wc.drew.cell? ⟨wr.heap.size, 2, none⟩ = some (.int .i64 vi) := x2
        have y3 : wc.drew.cell? ⟨wr.heap.size, 3, none⟩ = some (.int .i64 vt) := x3
        have y4 : wc.drew.cell? ⟨wr.heap.size, 4, none⟩ = some (.string vs) := x4
        have y5 : wc.drew.cell? ⟨wr.heap.size, 5, none⟩ = some (.slice Av nv cv) := x5
        have HZC : Hid (w1.heap.size + 1 ≤ wc.heap.size) := Nat.le_trans hzr HA.out.size
        have HGC : Hid (Below w1.heap.size w1 wc) := HBR.out.trans (HA.out.mono HBR.out.size)
        have HLC : Hid (Bld w1.heap.size (w1.heap.size + 1) (Lib.strCells (ptS (l.take q))) wc) := Bld.below HBL.out HA.out
        have HLEN : Hid (T.size ≤ 100000 → (nm ++ ⟨#[58, 58, 32]⟩ ++ T ++ ⟨#[10]⟩).size ≤ 140000) := fun h => by
          simp only [ByteArray.size_append]
          show nm.size + 3 + T.size + 1 ≤ _
          omega
        have HSL : Hid ((Lib.strCells (ptS (l.take q))).length ≤ 100000000) := by
          show _ ≤ _
          rw [Lib.strCells_length]
          omega
        have HWS : Hid (∀ S W, Below wc.heap.size wc W → S.size ≤ 140000 → Calls Tryz.prog 25 #[.pointer (some ⟨w1.heap.size, 0, none⟩), .string S] W fun e w' => e = .returned (.tuple #[.int .i64 S.size, .nilIface]) ∧ Hid (Bld w1.heap.size (w1.heap.size + 1) (Lib.strCells (ptS (l.take q)) ++ Lib.strCells S) w' ∧ Below w1.heap.size w1 w')) := fun S W hW hT => by
          refine (writeString_any w1.heap.size (w1.heap.size + 1) _ S W (Bld.below HLC.out hW) (by have := HSL.out; omega) (Nat.le_trans HZC.out hW.size)).mono ?_
          rintro e w' ⟨h1, h2, h3⟩
          exact ⟨h1, h2, (HGC.out.trans (hW.mono HGC.out.size)).trans h3.1⟩
        go_upto_region 8 with fail
        go_region_with (first | (go_at_call 17; go_loud (refine (HWR.out _ (by first | exact HA.out | exact HA.out.drew)).mono ?_; rintro e w9 ⟨rfl, hts, hb9⟩; have HB9 : Hid (Below wc.heap.size wc w9) := (by first | exact (Below.refl wc.heap.size wc).drew.trans hb9 | exact hb9); have K9 := Lib.hid (HKA.out.below HB9.out HKA.out.lt); have t0 : w9.cell? ⟨wr.heap.size, 0, none⟩ = some (.string nm) := K9.out.cell 0; have t0d : w9.drew.cell? ⟨wr.heap.size, 0, none⟩ = some (.string nm) := t0; clear hb9 K9)) | (go_at_call 25; refine (HWS.out _ _ (by first | with_reducible exact HB9.out | with_reducible exact HB9.out.drew) (HLEN.out hts)).mono ?_; rintro e w4 ⟨rfl, hw4⟩))
        all_goals
          have HL4 : Hid (Bld w1.heap.size (w1.heap.size + 1) (Lib.strCells (ptS (l.take (q + 1)))) w4) := by
            show Bld _ _ _ _
            rw [HTK.out, strCells_two]
            exact hw4.out.1
          have HG4 : Hid (Below w1.heap.size w1 w4) := hw4.out.2
          have hz4 : w1.heap.size + 1 ≤ w4.heap.size := (Array.getElem?_eq_some_iff.1 HL4.out.2.choose_spec.choose_spec.2.1).1
          have HSZ : (ptS (l.take (q + 1))).size ≤ (q + 1) * 110000 := by
            rw [HTK.out]
            simp only [ByteArray.size_append]
            show _ + (nm.size + 3 + T.size + 1) ≤ _
            omega
          clear HSL HWS HLEN HLC HGC HZC HWR HTK hw4
          go_wp2_with fail
          go_roundg (n - (q + 1))
          case measure => omega
          case rel => exact ⟨q + 1, by omega, by go_num, HG4, hz4, HL4, HSZ⟩
      · obtain rfl : q = n := by omega
        have ht : l.take q = l := List.take_of_length_le (by rw [← HN.out]; exact Nat.le_refl _)
        rw [ht] at HBL
        have HST := Lib.hid (string_any _ _ _ wr HBL.out)
        clear HRT
        go_wp2_with fail
        refine HST.out.mono ?_
        rintro e w3 ⟨rfl, hb3⟩
        have HW3 : Hid (Below w.heap.size w w3) := (HB1.out.trans (HBR.out.mono hz1)).trans (hb3.mono hz1)
        clear hb3
        go_wp2_with fail
        go_ret2
        exact ⟨rfl, HW3.out⟩
  · have hR : ptR l = ⟨#[]⟩ := if_neg hl
    rw [hR]
    obtain ⟨E, hE⟩ : ∃ E, E = cpErr l := ⟨_, rfl⟩
    rw [← hE] at HCH hl ⊢
    have jE : ¬ E = 0 := hl
    clear hE hR HS HP HN
    go_enter Tryz.func10, Tryz.ntmps10
    go_wp2_with fail
    refine HCH.out.mono ?_
    rintro e w1 ⟨rfl, hb1⟩
    have HB1 := Lib.hid hb1
    clear hb1 HCH
    go_wp2_with fail
    go_ret2
    exact ⟨rfl, HB1.out⟩
end Go.Proofs.YtbdcimakdiegnaaGreatDoor
