/-
  DERIVED. The walk of the law SnippetRight. Conditions: sizes. By an AI agent.
-/
import Derived.Test.YtpkpnmfcjoheoaaSnCont
namespace Go.Proofs.Ytpkpnmfcjoheoaa
open Go.RowKit

theorem isW_a : isW ⟨#[97]⟩ := by
  refine ⟨by decide, by decide, fun i hi => ?_, by simp [low, lowB]⟩
  have : i < 1 := hi
  obtain rfl : i = 0 := by omega
  decide
set_option maxHeartbeats 1000000 in
theorem awake_any (w : World) : Calls Try.prog 4 #[] w fun e w' => e = .returned (.bool true) ∧ Below w.heap.size w w' := by
  have hw := words_one isW_a
  have HW : Hid (∀ W, Calls Try.prog 6 #[.string ⟨#[97]⟩] W fun e w' => ∃ A, e = .returned (.slice A 1 1) ∧ Below W.heap.size W w') := fun W => (words_any ⟨#[97]⟩ W (by decide)).mono (fun _ _ h => by
    obtain ⟨A, h1, _, h3⟩ := h
    rw [hw] at h1
    exact ⟨A, h1, h3⟩)
  clear hw
  go_enter Try.func4, Try.ntmps4
  go_wp2_with fail
  refine (HW.out _).mono ?_
  rintro e w1 ⟨A, rfl, hb⟩
  go_wp2_with fail
  go_ret
  exact ⟨rfl, hb⟩

set_option maxRecDepth 100000 in
set_option maxHeartbeats 4000000 in
theorem snippetRight_any (s : ByteArray) (cs : List Clause) (v : Value) (width : Int) (w : World) (hr : RC w w.heap.size v cs) (hs : s.size ≤ 4294967280) (hwl : -9223372036854775808 ≤ width ∧ width ≤ 9223372036854775807) (hnp : np cs ≤ 4294967280) (hlen : cs.length ≤ 4294967280) (hq : (qtext cs).size ≤ 4294967280)
    (hw : ∀ c ∈ cs, ∀ p ∈ c.parts, p.words.length ≤ 4294967280 ∧ ∀ x ∈ p.words, x.size ≤ 4294967280) :
    Calls Try.prog 3 #[.string s, .agg #[v], .int .i64 width] w fun e w' => e = .returned (.bool true) ∧ Below w.heap.size w w' := by
  have HSN : Hid (∀ W, Below w.heap.size w W → Calls Try.prog 5 #[.string s, .agg #[v], .int .i64 width] W (SnipP s width W)) := by
    intro W hW
    have hr2 : RC W W.heap.size v cs := (hr.below hW).more hW.size
    exact snippet_any s cs v width W hr2 hs hnp hlen hq hw
  obtain ⟨qA, qn, qc, hv⟩ : ∃ A n c, v = .slice A n c := by
    obtain ⟨A, n, c, M, _, h, _⟩ := hr
    exact ⟨A, n, c, h⟩
  subst hv
  clear hr hnp hlen hq hw
  obtain ⟨L, hL⟩ : ∃ L, L = wordsF s 0 := ⟨_, rfl⟩
  have hLl : L.length ≤ s.size := by rw [hL]; exact words_len s _ 0 (Nat.le_refl _)
  have HWO : Hid (∀ W, Calls Try.prog 6 #[.string s] W fun e w' => ∃ A, e = .returned (.slice A L.length L.length) ∧ Reads w' w'.heap.size 3 A L.length (rowsW L) ∧ Below W.heap.size W w') := by
    intro W
    rw [hL]
    exact words_any s W hs
  obtain ⟨n, hn⟩ : ∃ n, n = L.length := ⟨_, rfl⟩
  rw [← hn] at HWO hLl
  have HL := Lib.hid hL
  have HN := Lib.hid hn
  have hnb : n ≤ 4294967280 := by omega
  have e8 : ∀ args w, (callFunc 8 args).run Try.prog w = .ok (.enter 8 args) w := enters_of Try.func8 (by kernel_rfl) rfl
  have e9 : ∀ args w, (callFunc 9 args).run Try.prog w = .ok (.enter 9 args) w := enters_of Try.func9 (by kernel_rfl) rfl
  have E8 := Lib.hid e8
  have E9 := Lib.hid e9
  clear hL hn e8 e9
  go_enter Try.func3, Try.ntmps3
  go_wp2_with fail
  refine (awake_any _).mono ?_
  rintro e w1 ⟨rfl, hb1⟩
  have HB1 : Hid (Below w.heap.size w w1) := ((Below.refl _ _).alloc (Nat.le_refl _) _).trans (hb1.mono (by simp))
  have BQ1 : Hid (Blk w1 w.heap.size 24 #[.slice qA qn qc]) := (Blk.new w _ _).below hb1 (by simp)
  have hz1 := HB1.out.size
  clear hb1
  have c0 := BQ1.out.cell 0
  go_wp2_with fail
  refine (HSN.out _ HB1.out).mono ?_
  rintro e w2 ⟨F, T, A, m, c, MK, er, rfl, hm, hrd, hway, hb2⟩
  have HB2 : Hid (Below w.heap.size w w2) := HB1.out.trans (hb2.mono (by omega))
  have HM := Lib.hid hm
  have HRD := Lib.hid hrd
  have hz2 := HB2.out.size
  have hxb : ∀ i u, #[Value.int .i64 F, .int .i64 T, .slice A m c][i]? = some u → (w2.alloc (.cells #[.int .i64 F, .int .i64 T, .slice A m c] 28)).cell? ⟨w2.heap.size, i, none⟩ = some u := fun i u hu => ((Blk.new w2 28 #[.int .i64 F, .int .i64 T, .slice A m c]).cell i).trans hu
  have HBX : Hid (Blk (w2.alloc (.cells #[.int .i64 F, .int .i64 T, .slice A m c] 28)) w2.heap.size 28 #[.int .i64 F, .int .i64 T, .slice A m c]) := Blk.new _ _ _
  clear hm hrd hb2 c0 hxb
  rcases hway with ⟨her, rfl, rfl, rfl⟩ | ⟨rfl, hgood⟩
  · have her' : (er != 0) = true := bne_iff_ne.2 her
    have hm0 : m = 0 := HM.out
    subst hm0
    clear her
    go_wp2_with fail
    go_ret
    exact ⟨rfl, HB2.out.alloc (by omega) _⟩
  · have HG := Lib.hid hgood
    obtain ⟨g1, g2, g3, g4, g5⟩ := hgood
    have i1 : ¬ (F : Int) < 0 := by omega
    have i2 : ¬ (T : Int) < (F : Int) := by omega
    have i3 : ¬ (s.size : Int) < (T : Int) := by omega
    have i4 : decide (T < F) = false := decide_eq_false (by omega)
    have i5 : decide (s.size < T) = false := decide_eq_false (by omega)
    have hmL : m ≤ n := by rw [HM.out, HN.out, HL.out]; exact g1.length_le
    have i6 : decide ((F : Int) < 0) = false := decide_eq_false i1
    clear g1 g2 g5
    go_wp2_with fail
    refine (HWO.out _).mono ?_
    rintro e w3 ⟨wA, rfl, hrW, hb3⟩
    have HB3 : Hid (Below w.heap.size w w3) := (HB2.out.alloc (by omega) _).trans (hb3.mono (by simp; omega))
    have HB23 : Hid (Below w2.heap.size w2 w3) := ((Below.refl _ _).alloc (Nat.le_refl _) _).trans (hb3.mono (by simp))
    have HBX3 := Lib.hid (HBX.out.below hb3 (by simp))
    have HRW := Lib.hid hrW
    have hz3 : w2.heap.size < w3.heap.size := HBX3.out.lt
    have x2 := HBX3.out.cell 2
    clear hrW hb3 HWO
    go_wp2_with fail
    go_loopg [9, 63] m (fun gg s9 s63 wr => ∃ (k at_ : Nat), k + gg = m ∧ s63 = .int .i64 (k : Int) ∧ s9 = .int .i64 (at_ : Int) ∧ Hid (∀ y ∈ MK.drop k, at_ ≤ y.frm) ∧ Hid (Below w3.heap.size w3 wr))
    case atStart => exact ⟨0, F, by omega, rfl, rfl, (fun y hy => (HG.out.2.1 y hy).1), Below.refl _ _⟩
    case round =>
      obtain ⟨k, at_, hkg, rfl, rfl, hat, hbel⟩ := hrel
      have hzr := hbel.out.size
      have HBXr : Hid (Blk wr w2.heap.size 28 #[.int .i64 F, .int .i64 T, .slice A m c]) := HBX3.out.below hbel.out hz3
      by_cases hk : k < m
      · obtain ⟨y, hy⟩ : ∃ y, MK[k]? = some y := ⟨_, List.getElem?_eq_getElem (by have := HM.out; omega)⟩
        obtain ⟨b, off, rfl, hbb, hc⟩ := Reads.plain_at (by decide) mkV_len HRD.out HM.out hy
        have hbb3 : b < w3.heap.size := by omega
        have c0 := (hbel.out.cell (p := ⟨b, off + k * 2, none⟩) hbb3).trans ((HB23.out.cell (p := ⟨b, off + k * 2, none⟩) hbb).trans (hc 0 _ rfl))
        have c1 := (hbel.out.cell (p := ⟨b, off + k * 2 + 1, none⟩) hbb3).trans ((HB23.out.cell (p := ⟨b, off + k * 2 + 1, none⟩) hbb).trans (hc 1 _ rfl))
        have j0 : (0 : Int) ≤ (k : Int) := by omega
        have j1 : (k : Int) < (m : Int) := by omega
        have hym := List.mem_of_getElem? hy
        have hyL : y ∈ wordsF s 0 := HG.out.1.subset hym
        have hyw := words_mem hyL
        have hyT := (HG.out.2.1 y hym).2
        have hkl := (List.getElem?_eq_some_iff.1 hy).1
        have hdr : MK.drop k = y :: MK.drop (k + 1) := by
          rw [List.drop_eq_getElem_cons hkl]
          congr 1
          have := List.getElem?_eq_getElem hkl
          rw [this] at hy
          exact Option.some.inj hy
        have hya : at_ ≤ y.frm := hat.out y (by rw [hdr]; exact List.mem_cons_self)
        have hnx : ∀ z ∈ MK.drop (k + 1), y.to_ ≤ z.frm := by
          have hp := (words_pair s _ 0 (Nat.le_refl _)).sublist HG.out.1
          have hp2 := hp.sublist (List.drop_sublist k MK)
          rw [hdr, List.pairwise_cons] at hp2
          exact hp2.1
        have HNX := Lib.hid hnx
        have HYL : Hid (∃ z ∈ L, z.frm = y.frm ∧ z.to_ = y.to_) := ⟨y, by rw [HL.out]; exact hyL, rfl, rfl⟩
        have f1 : decide ((y.frm : Int) < (at_ : Int)) = false := decide_eq_false (by omega)
        have f2 : decide ((y.to_ : Int) ≤ (y.frm : Int)) = false := decide_eq_false (by omega)
        have f3 : decide ((T : Int) < (y.to_ : Int)) = false := decide_eq_false (by omega)
        have f4 : decide (y.frm < at_) = false := decide_eq_false (by omega)
        have f5 : decide (y.to_ ≤ y.frm) = false := decide_eq_false (by omega)
        have f6 : decide (T < y.to_) = false := decide_eq_false (by omega)
        have x1 : ∀ o, (wr.alloc o).cell? ⟨w2.heap.size, 1, none⟩ = some (.int .i64 T) := fun o => (HBXr.out.alloc o).cell 1
        have HWr : Hid (∀ o, Reads (wr.alloc o) w3.heap.size 3 wA n (rowsW L)) := fun o => (HRW.out.below hbel.out).alloc (by omega) o
        have HC : Hid (∀ W, (∃ o, W = wr.alloc o ∧ o = .cells #[.int .i64 y.frm, .int .i64 y.to_] 35) → Calls Try.prog 7 #[.slice wA n n, .func (.func 8) #[] #[.pointer (some ⟨wr.heap.size, 0, none⟩)]] W fun e w' => (∃ q : Bool, e = .returned (.bool q) ∧ ((∃ x ∈ L, x.frm = y.frm ∧ x.to_ = y.to_) → q = true)) ∧ Below W.heap.size W w') := by
          rintro W ⟨o, rfl, rfl⟩
          have hbm : Blk (wr.alloc (.cells #[.int .i64 y.frm, .int .i64 y.to_] 35)) wr.heap.size 35 #[.int .i64 y.frm, .int .i64 y.to_] := Blk.new _ _ _
          exact contW_any _ L wA n n y.frm y.to_ wr.heap.size _ w3.heap.size E8.out (HWr.out _) (by simp; omega) HN.out hnb (fun x W hW => cl8_any x y.frm y.to_ wr.heap.size W (by have := hW.size; simp at this; omega) ((hW.cell (p := ⟨wr.heap.size, 0, none⟩) (by simp)).trans (hbm.cell 0)) ((hW.cell (p := ⟨wr.heap.size, 1, none⟩) (by simp)).trans (hbm.cell 1)))
        clear hy hc hym hyL hyw hkl hdr hnx hya hyT
        go_wp2_with fail
        refine (HC.out _ ⟨_, rfl, rfl⟩).mono ?_
        rintro e w4 ⟨⟨q, rfl, hqt⟩, hb4⟩
        obtain rfl : q = true := hqt HYL.out
        have HB4 : Hid (Below w3.heap.size w3 w4) := (hbel.out.alloc (by omega) _).trans (hb4.mono (by simp; omega))
        have hbm4 : Blk w4 wr.heap.size 35 #[.int .i64 y.frm, .int .i64 y.to_] := (Blk.new wr _ _).below hb4 (by simp)
        have m1 := hbm4.cell 1
        clear hb4 hqt hbm4 x1 c0 c1
        go_wp2_with fail
        go_roundg (m - (k + 1))
        case measure => omega
        case rel => exact ⟨k + 1, y.to_, by omega, by go_num, rfl, HNX, HB4⟩
      · obtain rfl : k = m := by omega
        have x0 := HBXr.out.cell 0
        have x1 := HBXr.out.cell 1
        have HC : Hid (Calls Try.prog 7 #[.slice wA n n, .func (.func 9) #[] #[.pointer (some ⟨w2.heap.size, 0, none⟩)]] wr fun e w' => (∃ q : Bool, e = .returned (.bool q) ∧ ((∃ x ∈ L, x.frm = F ∧ x.to_ = T) → q = true)) ∧ Below wr.heap.size wr w') :=
          contW_any _ L wA n n F T w2.heap.size wr w3.heap.size E9.out (HRW.out.below hbel.out) hzr HN.out hnb (fun x W hW => cl9_any x F T w2.heap.size W (by have := hW.size; omega) ((hW.cell (p := ⟨w2.heap.size, 0, none⟩) (by show w2.heap.size < _; omega)).trans x0) ((hW.cell (p := ⟨w2.heap.size, 1, none⟩) (by show w2.heap.size < _; omega)).trans x1))
        clear x0 x1
        go_wp2_with fail
        refine HC.out.mono ?_
        rintro e w4 ⟨⟨q, rfl, hqt⟩, hb4⟩
        have HB4 : Hid (Below w.heap.size w w4) := (HB3.out.trans (hbel.out.mono (by omega))).trans (hb4.mono (by omega))
        have HBX4 := HBXr.out.below hb4 (by omega)
        have x0 := HBX4.cell 0
        have x1 := HBX4.cell 1
        have hfin : ((T : Int) - (F : Int) ≤ width) ∨ (decide ((T : Int) - (F : Int) ≤ width) = false ∧ q = true) := by
          by_cases h : (T : Int) - (F : Int) ≤ width
          · exact .inl h
          · refine .inr ⟨decide_eq_false h, hqt ?_⟩
            have := HG.out.2.2.2.2.resolve_left h
            rw [HL.out]
            exact this
        clear hqt hb4 HBX4
        rcases hfin with h | ⟨h, rfl⟩
        · go_wp2_with fail
          go_ret
          exact ⟨by simp, HB4.out⟩
        · go_wp2_with fail
          go_ret
          exact ⟨by simp, HB4.out⟩
end Go.Proofs.Ytpkpnmfcjoheoaa
