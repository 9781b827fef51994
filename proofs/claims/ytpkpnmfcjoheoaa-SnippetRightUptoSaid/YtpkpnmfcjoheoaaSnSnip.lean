/-
  DERIVED. The walk of find.Snippet. Conditions: sizes. By an AI agent.
-/
import Derived.Test.YtpkpnmfcjoheoaaSnSnipM
import Derived.Deep.DeepCutAuto
namespace Go.Proofs.Ytpkpnmfcjoheoaa
open Go.RowKit Go.Maps

theorem RC.more {W : World} {B B' : Nat} {v : Value} {cs : List Clause} (h : RC W B v cs) (hB : B ≤ B') : RC W B' v cs := by
  obtain ⟨A, n, c, M, h1, h2, h3, h4, h5⟩ := h
  refine ⟨A, n, c, M, h1, h2, h3, h4.more hB, fun x hx => ?_⟩
  obtain ⟨A, n, c, M, h1, h2, h3, h4, h5⟩ := h5 x hx
  refine ⟨A, n, c, M, h1, h2, h3, h4.more hB, fun y hy => ?_⟩
  obtain ⟨A, n, c, h1, h2, h3, h4⟩ := h5 y hy
  exact ⟨A, n, c, h1, h2, h3, h4.more hB⟩
/-- the result's block is written last -/
theorem snip_end {s : ByteArray} {width er : Int} {w W : World} {F T : Nat} {A : Option Addr} {m c : Nat} {MK : List Wd} {i0 i1 i2 : Value} (hB : Blk W (w.heap.size + 1) 28 #[i0, i1, i2]) (hb : Below w.heap.size w W) (hr : Reads W W.heap.size 2 A m (MK.flatMap mkV)) (hA : ∀ ad, A = some ad → ad.block ≠ w.heap.size + 1) (hm : m = MK.length)
    (hg : (er ≠ 0 ∧ F = 0 ∧ T = 0 ∧ MK = []) ∨ (er = 0 ∧ GoodP s width F T MK)) (WF : World) (hWF : WF = ((W.setCell ⟨w.heap.size + 1, 0, none⟩ (.int .i64 F)).setCell ⟨w.heap.size + 1, 1, none⟩ (.int .i64 T)).setCell ⟨w.heap.size + 1, 2, none⟩ (.slice A m c)) :
    WF.cell? ⟨w.heap.size + 1, 0, none⟩ = some (.int .i64 F) ∧ WF.cell? ⟨w.heap.size + 1, 1, none⟩ = some (.int .i64 T) ∧ WF.cell? ⟨w.heap.size + 1, 2, none⟩ = some (.slice A m c) ∧ SnipP s width w (.returned (.tuple #[.agg #[.int .i64 F, .int .i64 T, .slice A m c], .int .i64 er])) WF := by
  subst hWF
  have h3 := ((hB.set_ 0 (.int .i64 F)).set_ 1 (.int .i64 T)).set_ 2 (.slice A m c)
  refine ⟨h3.cell 0, h3.cell 1, h3.cell 2, F, T, A, m, c, MK, er, rfl, hm, ⟨hr.1, fun hn => ?_⟩, hg, ((hb.setCell (p := ⟨w.heap.size + 1, 0, none⟩) (by show w.heap.size ≤ w.heap.size + 1; omega) _).setCell (p := ⟨w.heap.size + 1, 1, none⟩) (by show w.heap.size ≤ w.heap.size + 1; omega) _).setCell (p := ⟨w.heap.size + 1, 2, none⟩) (by show w.heap.size ≤ w.heap.size + 1; omega) _⟩
  obtain ⟨ad, e, hlt, hc⟩ := hr.2 hn
  have hne := hA ad e
  refine ⟨ad, e, by simpa [World.setCell] using hlt, fun j u hu => ?_⟩
  have hh : ∀ i, (⟨w.heap.size + 1, i, none⟩ : Addr) ≠ ad.add j := fun i e' => hne (by have := congrArg Addr.block e'; rw [block_of_add] at this; exact this.symm)
  rw [World.cell?_setCell_other _ _ _ _ (hh 2), World.cell?_setCell_other _ _ _ _ (hh 1), World.cell?_setCell_other _ _ _ _ (hh 0)]
  exact hc j u hu

theorem snip_end0 {s : ByteArray} {width er : Int} {w W : World} {i0 i1 i2 : Value} (hB : Blk W (w.heap.size + 1) 28 #[i0, i1, i2]) (hb : Below w.heap.size w W) (hg : er ≠ 0 ∨ (er = 0 ∧ 1 ≤ width)) (WF : World)
    (hWF : WF = ((W.setCell ⟨w.heap.size + 1, 0, none⟩ (.int .i64 0)).setCell ⟨w.heap.size + 1, 1, none⟩ (.int .i64 0)).setCell ⟨w.heap.size + 1, 2, none⟩ (.slice none 0 0)) :
    WF.cell? ⟨w.heap.size + 1, 0, none⟩ = some (.int .i64 0) ∧ WF.cell? ⟨w.heap.size + 1, 1, none⟩ = some (.int .i64 0) ∧ WF.cell? ⟨w.heap.size + 1, 2, none⟩ = some (.slice none 0 0) ∧ SnipP s width w (.returned (.tuple #[.agg #[.int .i64 0, .int .i64 0, .slice none 0 0], .int .i64 er])) WF :=
  snip_end (s := s) (width := width) (er := er) (F := 0) (T := 0) (A := none) (m := 0) (c := 0) (MK := []) hB hb Reads.none_ (fun ad e => by cases e) rfl (by rcases hg with h | ⟨h, h'⟩; exact .inl ⟨h, rfl, rfl, rfl⟩; exact .inr ⟨h, GoodP.zero s h'⟩) WF hWF

set_option maxRecDepth 100000 in
set_option maxHeartbeats 4000000 in
theorem snippet_any (s : ByteArray) (cs : List Clause) (v : Value) (width : Int) (w : World) (hr : RC w w.heap.size v cs) (hs : s.size ≤ 4294967280) (hnp : np cs ≤ 4294967280) (hlen : cs.length ≤ 4294967280) (hq : (qtext cs).size ≤ 4294967280)
    (hw : ∀ c ∈ cs, ∀ p ∈ c.parts, p.words.length ≤ 4294967280 ∧ ∀ x ∈ p.words, x.size ≤ 4294967280) :
    Calls Try.prog 5 #[.string s, .agg #[v], .int .i64 width] w (SnipP s width w) := by
  have HCQ : Hid (∀ W, Below w.heap.size w W → Calls Try.prog 10 #[.agg #[v]] W fun e w' => (∃ er, e = .returned (.int .i64 er)) ∧ Below W.heap.size W w') := by
    intro W hW
    have hr2 : RC W W.heap.size v cs := (hr.below hW).more hW.size
    exact checkQuery_any cs v W hr2 hnp hlen hq hw
  have HWA : Hid (∀ (word : ByteArray) W, word.size ≤ 4294967280 → Below w.heap.size w W → Calls Try.prog 15 #[.agg #[v], .string word] W (SomeB W)) := by
    intro word W h1 hW
    have hr2 : RC W W.heap.size v cs := (hr.below hW).more hW.size
    exact wanted_any cs v word W _ hr2 (Nat.le_refl _) hnp hlen hw h1
  obtain ⟨qA, qn, qc, hv⟩ : ∃ A n c, v = .slice A n c := by
    obtain ⟨A, n, c, M, _, h, _⟩ := hr
    exact ⟨A, n, c, h⟩
  subst hv
  clear hr hnp hlen hq hw
  obtain ⟨L, hL⟩ : ∃ L, L = wordsF s 0 := ⟨_, rfl⟩
  have hLl : L.length ≤ s.size := by rw [hL]; exact words_len s _ 0 (Nat.le_refl _)
  have HWO : Hid (∀ W, Calls Try.prog 6 #[.string s] W fun e w' => ∃ A, e = .returned (.slice A L.length L.length) ∧ Reads w' w'.heap.size 3 A L.length (rowsW L) ∧ Below W.heap.size W w') := by
    intro W
    rw [hL]
    exact words_any s W hs
  obtain ⟨n, hn⟩ : ∃ n, n = L.length := ⟨_, rfl⟩
  rw [← hn] at HWO hLl
  have HLX : Hid (∀ x ∈ L, x.frm ≤ 4294967280 ∧ x.to_ ≤ 4294967280 ∧ x.text.size ≤ 4294967280 ∧ x.frm ≤ x.to_) := by
    intro x hx
    rw [hL] at hx
    have := words_mem hx
    exact ⟨by omega, by omega, by omega, by omega⟩
  have HL := Lib.hid hL
  have HN := Lib.hid hn
  have hnb : n ≤ 4294967280 := by omega
  clear hL hn
  have BQ0 : Hid (Blk ((w.alloc (.cells #[.slice qA qn qc] 24)).alloc (.cells #[.int .i64 0, .int .i64 0, .slice none 0 0] 28)) w.heap.size 24 #[.slice qA qn qc]) := (Blk.new _ _ _).alloc _
  have BR0 : Hid (Blk ((w.alloc (.cells #[.slice qA qn qc] 24)).alloc (.cells #[.int .i64 0, .int .i64 0, .slice none 0 0] 28)) (w.heap.size + 1) 28 #[.int .i64 0, .int .i64 0, .slice none 0 0]) := by
    have := Blk.new (w.alloc (.cells #[.slice qA qn qc] 24)) 28 #[.int .i64 0, .int .i64 0, .slice none 0 0]
    show Blk _ _ _ _
    simpa using this
  have KB0 : Hid (Below w.heap.size w ((w.alloc (.cells #[.slice qA qn qc] 24)).alloc (.cells #[.int .i64 0, .int .i64 0, .slice none 0 0] 28))) := ((Below.refl _ _).alloc (Nat.le_refl _) _).alloc (by simp) _
  go_enter Try.func5, Try.ntmps5
  have cq0 := BQ0.out.cell 0
  go_wp2_with fail
  refine (HCQ.out _ KB0.out).mono ?_
  rintro e w1 ⟨⟨er, rfl⟩, hb1⟩
  have BQ1 := Lib.hid (BQ0.out.below hb1 (by simp; omega))
  have BR1 := Lib.hid (BR0.out.below hb1 (by simp))
  have KB1 := Lib.hid (KB0.out.trans (hb1.mono (by simp; omega)))
  have hz1 : w.heap.size + 1 < w1.heap.size := BR1.out.lt
  clear hb1 cq0 HCQ
  have r0 := BR1.out.cell 0
  have r1 := BR1.out.cell 1
  have r2 := BR1.out.cell 2
  have r3 := BR1.out.frozen 0
  have r4 := BR1.out.frozen 1
  have r5 := BR1.out.frozen 2
  by_cases her : er = 0
  · subst her
    by_cases hbig : (2000 : Int) < (s.size : Int)
    · go_wp2_with fail
      obtain ⟨q0, q1, q2, q3⟩ := snip_end0 (s := s) (width := width) (er := 4) BR1.out KB1.out (.inl (by decide)) _ rfl
      exact bodyPost_ret (v := .tuple #[.agg #[.int .i64 0, .int .i64 0, .slice none 0 0], .int .i64 4]) (by simp [results, Try.results5, go_sem, q0, q1, q2]) rfl q3
    · by_cases hout : width < 1 ∨ 1000 < width
      · have HO : Hid (∀ W, Calls Try.prog 11 #[.int .i64 width, .int .i64 1, .int .i64 1000] W fun e w' => e = .returned (.bool true) ∧ w' = W) := fun W => (outside2_any width W).mono (fun _ _ h => ⟨by rw [h.1, decide_eq_true hout], h.2⟩)
        clear hout
        go_wp2_with fail
        refine (HO.out _).mono ?_
        rintro e w2 ⟨rfl, rfl⟩
        go_wp2_with fail
        obtain ⟨q0, q1, q2, q3⟩ := snip_end0 (s := s) (width := width) (er := 2) BR1.out KB1.out (.inl (by decide)) _ rfl
        exact bodyPost_ret (v := .tuple #[.agg #[.int .i64 0, .int .i64 0, .slice none 0 0], .int .i64 2]) (by simp [results, Try.results5, go_sem, q0, q1, q2]) rfl q3
      · have HO : Hid (∀ W, Calls Try.prog 11 #[.int .i64 width, .int .i64 1, .int .i64 1000] W fun e w' => e = .returned (.bool false) ∧ w' = W) := fun W => (outside2_any width W).mono (fun _ _ h => ⟨by rw [h.1, decide_eq_false hout], h.2⟩)
        have hw0 : 1 ≤ width := by omega
        have hw1 : width ≤ 1000 := by omega
        clear hout r0 r1 r2 r3 r4 r5
        go_wp2_with fail
        refine (HO.out _).mono ?_
        rintro e w2 ⟨rfl, rfl⟩
        clear HO
        go_wp2_with fail
        refine (HWO.out _).mono ?_
        rintro e w2 ⟨wA, rfl, hrW, hb2⟩
        have HRW2 := Lib.hid hrW
        have BQ2 := Lib.hid (BQ1.out.below hb2 (by omega))
        have BR2 := Lib.hid (BR1.out.below hb2 hz1)
        have KB2 := Lib.hid (KB1.out.trans (hb2.mono (by omega)))
        have hz2 := hb2.size
        have hAn : wA = none → n = 0 := by
          intro e
          subst e
          rcases Nat.eq_zero_or_pos n with h | h
          · exact h
          · obtain ⟨ad, e, _⟩ := hrW.2 h
            cases e
        have HCLO := Lib.hid (clone_any L wA n n w2 hrW HN.out hnb hAn)
        clear hrW hb2 hAn HWO
        go_wp2_with fail
        refine HCLO.out.mono ?_
        rintro e w3 ⟨fv, rfl, hown, hb3⟩
        have HOW := Lib.hid hown
        have HRW3 := Lib.hid ((HRW2.out.below hb3).more hb3.size)
        have BQ3 := Lib.hid (BQ2.out.below hb3 (by omega))
        have BR3 := Lib.hid (BR2.out.below hb3 (by omega))
        have KB3 := Lib.hid (KB2.out.trans (hb3.mono (by omega)))
        have hz3 := hb3.size
        have HDEL : Hid (Calls Try.prog 12 #[fv, .func (.func 14) #[] #[.pointer (some ⟨w.heap.size, 0, none⟩)]] w3 (DelP L w2.heap.size w3)) :=
          del_any L fv n w2.heap.size w.heap.size w3 hown HN.out hnb hz3 (fun x hx W hW => snip1_any x (.slice qA qn qc) w.heap.size W ((hW.cell (p := ⟨w.heap.size, 0, none⟩) (by show w.heap.size < _; omega)).trans (BQ3.out.cell 0)) (by have := hW.size; omega) qA qn qc rfl (fun W' hW' => HWA.out x.text W' (HLX.out x hx).2.2.1 (KB3.out.trans ((hW.mono (by omega)).trans (hW'.mono (by have := hW.size; omega))))))
        have hb3' := hb3.mono (Nat.le_refl w2.heap.size)
        clear hown hb3 HCLO
        go_wp2_with fail
        refine HDEL.out.mono ?_
        rintro e w4 ⟨fA, fm, fc, FD, rfl, hfm, hsub, hfmc, hrF, hb4⟩
        have HRF := Lib.hid hrF
        have hz4 := hb4.size
        have HRW4 : Hid (Reads w4 w2.heap.size 3 wA n (rowsW L)) := (HRW2.out.below hb3').below hb4
        have BR4 := Lib.hid (BR3.out.below hb4 (by omega))
        have KB4 := Lib.hid (KB3.out.trans (hb4.mono (by omega)))
        have HFM := Lib.hid hfm
        have HSUB := Lib.hid hsub
        have hfmn : fm ≤ n := by rw [hfm, HN.out]; exact hsub.length_le
        clear hrF hb4 hfm hsub hb3'
        clear HDEL BQ1 BQ2 BQ3 BR1 BR2 BR3 BQ0 BR0 KB0 KB1 KB2 KB3 HRW2 HRW3 HOW HWA
        have r0 := BR4.out.cell 0
        have r1 := BR4.out.cell 1
        have r2 := BR4.out.cell 2
        have r3 := BR4.out.frozen 0
        have r4 := BR4.out.frozen 1
        have r5 := BR4.out.frozen 2
        by_cases hn0 : n = 0
        · have e0 : ((n : Int) == 0) = true := beq_iff_eq.2 (by omega)
          clear hn0
          go_wp2_with fail
          obtain ⟨q0, q1, q2, q3⟩ := snip_end0 (s := s) (width := width) (er := 0) BR4.out KB4.out (.inr ⟨rfl, hw0⟩) _ rfl
          exact bodyPost_ret (v := .tuple #[.agg #[.int .i64 0, .int .i64 0, .slice none 0 0], .int .i64 0]) (by simp [results, Try.results5, go_sem, q0, q1, q2]) rfl q3
        · have e0 : ((n : Int) == 0) = false := beq_eq_false_iff_ne.2 (by omega)
          have HWIN : Hid (∀ (f : Wd) W, f ∈ L → Below w2.heap.size w4 W → Calls Try.prog 16 #[.slice wA n n, .agg #[.string f.text, .int .i64 f.frm, .int .i64 f.to_], .int .i64 width] W fun e w' => ∃ T : Nat, e = .returned (.agg #[.int .i64 f.frm, .int .i64 T, .slice none 0 0]) ∧ WinT L f width T ∧ Below W.heap.size W w') := fun f W hf hW =>
            window_any L wA n n f width W w2.heap.size (HRW4.out.below hW) (by have := hW.size; omega) HN.out hnb (HLX.out f hf).1 hw0 hw1 (fun x hx => ⟨(HLX.out x hx).1, (HLX.out x hx).2.1⟩)
          by_cases hf0 : fm = 0
          · have e1 : ((fm : Int) == 0) = true := beq_iff_eq.2 (by omega)
            obtain ⟨x, hx⟩ : ∃ x, L[0]? = some x := ⟨_, List.getElem?_eq_getElem (by have := HN.out; omega)⟩
            obtain ⟨b, off, rfl, hbb, hc0, hc1, hc2⟩ := wd_at HRW4.out HN.out hx
            simp only [Nat.zero_mul, Nat.add_zero] at hc0 hc1 hc2
            have n0 : (0 : Int) < (n : Int) := by omega
            have HW1 := Lib.hid (HWIN.out x w4 (List.mem_of_getElem? hx) (Below.refl _ _))
            have HXM := Lib.hid (List.mem_of_getElem? hx)
            clear hx hf0 hn0
            go_wp2_with fail
            refine HW1.out.mono ?_
            rintro e w5 ⟨T, rfl, hT, hb5⟩
            have BR5 := Lib.hid (BR4.out.below hb5 (by omega))
            have KB5 := Lib.hid (KB4.out.trans (hb5.mono (by omega)))
            have HT := Lib.hid hT
            clear hb5 hT r0 r1 r2 r3 r4 r5
            have r0 := BR5.out.cell 0
            have r1 := BR5.out.cell 1
            have r2 := BR5.out.cell 2
            have r3 := BR5.out.frozen 0
            have r4 := BR5.out.frozen 1
            have r5 := BR5.out.frozen 2
            go_wp2_with fail
            have hgw := GoodP.win (s := s) (by rw [← HL.out]; exact HXM.out) (by rw [← HL.out]; exact HT.out)
            obtain ⟨q0, q1, q2, q3⟩ := snip_end (s := s) (width := width) (er := 0) (F := x.frm) (T := T) (A := none) (m := 0) (c := 0) (MK := []) BR5.out KB5.out Reads.none_ (fun ad e => by cases e) rfl (.inr ⟨rfl, List.nil_sublist _, (fun y hy => by cases hy), hgw⟩) _ rfl
            exact bodyPost_ret (v := .tuple #[.agg #[.int .i64 x.frm, .int .i64 T, .slice none 0 0], .int .i64 0]) (by simp [results, Try.results5, go_sem, q0, q1, q2]) rfl q3
          · have e1 : ((fm : Int) == 0) = false := beq_eq_false_iff_ne.2 (by omega)
            have hfpos : 0 < fm := by omega
            have hmm := @run_makeMap Try.prog
            clear hn0 hf0 r0 r1 r2 r3 r4 r5
            go_wp2_with fail
            go_loopg [12, 53] fm (fun gg s12 s53 wr => ∃ (k : Nat) (worth : Int) (mF mT : Nat) (MA : Option Addr) (mm mc : Nat) (MK : List Wd), k + gg = fm ∧ s53 = .int .i64 (k : Int) ∧ s12 = .int .i64 worth ∧ Hid (MoR s width wr w4.heap.size mF mT MA mm mc MK) ∧ Hid (Below w4.heap.size w4 wr))
            case atStart => exact ⟨0, 0, 0, 0, none, 0, 0, [], by omega, rfl, rfl, MoR.new _ hw0, (Below.refl _ _).alloc (Nat.le_refl _) _⟩
            case round =>
              obtain ⟨k, worth, mF, mT, MA, mm, mc, MK, hkg, rfl, rfl, hMo, hbel⟩ := hrel
              by_cases hk : k < fm
              · obtain ⟨x, hx⟩ : ∃ x, FD[k]? = some x := ⟨_, List.getElem?_eq_getElem (by have := HFM.out; omega)⟩
                obtain ⟨b, off, rfl, hbb, hc0, hc1, hc2⟩ := wd_at HRF.out HFM.out hx
                have c0 := (hbel.out.cell (p := ⟨b, off + k * 3, none⟩) hbb).trans hc0
                have c1 := (hbel.out.cell (p := ⟨b, off + k * 3 + 1, none⟩) hbb).trans hc1
                have c2 := (hbel.out.cell (p := ⟨b, off + k * 3 + 2, none⟩) hbb).trans hc2
                have j0 : (0 : Int) ≤ (k : Int) := by omega
                have j1 : (k : Int) < (fm : Int) := by omega
                have hzr := hMo.out.1.lt
                have HXM : Hid (x ∈ L) := HSUB.out.subset (List.mem_of_getElem? hx)
                have HW1 := Lib.hid (HWIN.out x (wr.alloc (.cells #[.string x.text, .int .i64 x.frm, .int .i64 x.to_] 38)) HXM.out ((hbel.out.mono (by omega)).alloc (by omega) _))
                clear hx hc0 hc1 hc2
                go_wp2_with fail
                refine HW1.out.mono ?_
                rintro e wB ⟨T, rfl, hT, hbB⟩
                have HT := Lib.hid hT
                have HBB : Hid (Below wr.heap.size wr wB) := ((Below.refl _ _).alloc (Nat.le_refl _) _).trans (hbB.mono (by simp))
                have HMoB := Lib.hid (hMo.out.below HBB.out)
                have HB4B : Hid (Below w4.heap.size w4 wB) := hbel.out.trans (HBB.out.mono (by omega))
                have hzB := HBB.out.size
                clear hT hbB HW1 c0 c1 c2
                go_wp2_with fail
                have HIN : Hid (InR wB ((wB.alloc (.cells #[.int .i64 x.frm, .int .i64 T, .slice none 0 0] 28)).alloc (.map #[] 0)) x.frm T (.slice none 0 0) [] 0 (.map [])) := by
                  refine ⟨(Blk.new _ _ _).alloc _, World.ownsRow_nil _ _ _ _, ?_, ((Below.refl _ _).alloc (Nat.le_refl _) _).alloc (by simp) _, (fun y hy => by cases hy)⟩
                  have := World.ownsMap_made (H := Unit) (wB.alloc (.cells #[.int .i64 x.frm, .int .i64 T, .slice none 0 0] 28)) Try.prog 9 (plainElem Try.prog 4)
                  simpa using this
                have HTW : Hid (GoodP s width x.frm T []) := by
                  have hgw := GoodP.win (s := s) (by rw [← HL.out]; exact HXM.out) (by rw [← HL.out]; exact HT.out)
                  exact ⟨List.nil_sublist _, (fun y hy => by cases hy), hgw⟩
                have hTs : T ≤ 4294967280 := by have := HTW.out.2.2.2.1; omega
                obtain ⟨i0, hi, hz0, hz1', hz2'⟩ := info_parts mk_info
                have KS : Hid (Keyed Try.prog 9) := string_keyed Try.underlying9
                have HV : Hid (plainElem (H := Unit) Try.prog 4 (.bool true) = some (.lit (.bool true), [])) := by
                  show _ = _
                  simp [plainElem, Try.underlying4]
                obtain ⟨W1, rfl⟩ : ∃ W1, W1 = wr := ⟨_, rfl⟩
                go_loopg [64] fm (fun g2 s64 wx => ∃ (j : Nat) (v : Value) (MK2 : List Wd) (D : DataW Unit), j + g2 = fm ∧ s64 = .int .i64 (j : Int) ∧ Hid (InR wB wx x.frm T v MK2 j D) ∧ Hid (MK2.Sublist (FD.take j)))
                case atStart => exact ⟨0, _, [], .map [], by omega, rfl, HIN, List.nil_sublist _⟩
                case round =>
                  obtain ⟨j, v, MK2, D, hjg, rfl, hX, hSb⟩ := hrel
                  have hzx := hX.out.2.2.1.lt
                  by_cases hj : j < fm
                  · obtain ⟨y, hy⟩ : ∃ y, FD[j]? = some y := ⟨_, List.getElem?_eq_getElem (by have := HFM.out; omega)⟩
                    obtain ⟨b2, off2, eb, hbb2, hc0, hc1, hc2⟩ := wd_at HRF.out HFM.out hy
                    injection eb with eb; injection eb with eb eo
                    subst eb eo
                    have hbx : b < wB.heap.size := by omega
                    have c0 := (hX.out.2.2.2.1.cell (p := ⟨b, off + j * 3, none⟩) hbx).trans ((HB4B.out.cell (p := ⟨b, off + j * 3, none⟩) hbb).trans hc0)
                    have c1 := (hX.out.2.2.2.1.cell (p := ⟨b, off + j * 3 + 1, none⟩) hbx).trans ((HB4B.out.cell (p := ⟨b, off + j * 3 + 1, none⟩) hbb).trans hc1)
                    have c2 := (hX.out.2.2.2.1.cell (p := ⟨b, off + j * 3 + 2, none⟩) hbx).trans ((HB4B.out.cell (p := ⟨b, off + j * 3 + 2, none⟩) hbb).trans hc2)
                    have x0 : ∀ o, (wr.alloc o).cell? ⟨wB.heap.size, 0, none⟩ = some (.int .i64 x.frm) := fun o => (hX.out.1.alloc o).cell 0
                    have x1 : ∀ o, (wr.alloc o).cell? ⟨wB.heap.size, 1, none⟩ = some (.int .i64 T) := fun o => (hX.out.1.alloc o).cell 1
                    have x2 : ∀ o, (wr.alloc o).cell? ⟨wB.heap.size, 2, none⟩ = some v := fun o => (hX.out.1.alloc o).cell 2
                    have j2 : (0 : Int) ≤ (j : Int) := by omega
                    have j3 : (j : Int) < (fm : Int) := by omega
                    have HYM := Lib.hid hy
                    have hyL := HLX.out y (HSUB.out.subset (List.mem_of_getElem? hy))
                    clear hy hc0 hc1 hc2
                    have htk : FD.take (j + 1) = FD.take j ++ [y] := by rw [List.take_add_one, HYM.out]; rfl
                    have HTK := Lib.hid htk
                    clear htk
                    by_cases hyT : x.frm ≤ y.frm ∧ y.to_ ≤ T
                    · have t1 : (x.frm : Int) ≤ (y.frm : Int) := by omega
                      have t2 : (y.to_ : Int) ≤ (T : Int) := by omega
                      have t3 := hyT.1
                      have t4 := hyT.2
                      have HYT := Lib.hid hyT
                      have hmk : MK2.length ≤ 4294967280 := by have := hSb.out.length_le; rw [List.length_take] at this; omega
                      have HK : Hid (keyOf Try.prog 9 (.string y.text) = some (.string y.text.data.toList)) := Go.WideMaps.keyOf_string_mk Try.underlying9 (by unfold maxLen; omega)
                      clear hyT
                      go_wp2_with (first
                        | (at_builtin; refine wpList_append_own_at _ rfl _ _ 26 rfl (wB.heap.size + 2) 35 i0 mkZ 2 16 Try.underlying26 hi hz0 hz1' hz2' rfl (by decide) v MK2.length _ rfl ((hX.out.2.1.alloc _).alloc _) ⟨wr.heap.size + 1, 0, none⟩ 1 1 (mkV y) rfl rfl (by have := new_cells (wr.alloc (.cells #[.string y.text, .int .i64 y.frm, .int .i64 y.to_] 38)) (wr.heap.size + 1) (mkV y) 35 (by simp); exact this) (mk_one y) (by unfold maxLen; omega) (by omega) (by simp; omega) ?_; intro v7 w7 hown7 hg7 _ _; obtain ⟨g7, cap7, rfl⟩ := ownsRow_succ hown7; have h77 := InR.app hX.out HYT.out hown7 hg7; have HX7 := Lib.hid h77.2; have s1 := h77.1.cell 2; have s2 := h77.1.frozen 2; have HZ7 := Lib.hid hg7.size; have yb : w7.heap[wr.heap.size]? = some (.cells #[.string y.text, .int .i64 y.frm, .int .i64 y.to_] 38 (0, 0)) := (((Blk.new wr _ _).alloc _).grown hg7 (fun e => by have := (hX.out.2.1.lt _ e.symm).2; omega)); have y7 : ∀ u, (w7.setCell ⟨wB.heap.size, 2, none⟩ u).cell? ⟨wr.heap.size, 0, none⟩ = some (.string y.text) := fun u => (Blk.far (show Blk w7 wr.heap.size 38 #[.string y.text, .int .i64 y.frm, .int .i64 y.to_] from yb) (by show wr.heap.size ≠ wB.heap.size; omega) u).cell 0; clear h77 hown7 hg7 yb)
                        | (at_mapUpdate; refine wpList_mapUpdate_own _ rfl _ _ _ 47 rfl 9 4 KS.out Try.underlying47 (plainElem Try.prog 4) (wB.heap.size + 1) j D rfl HX7.out.2.2.1 (by unfold maxLen; omega) _ _ _ rfl rfl HK.out _ [] HV.out ?_; intro w8 hown8 hg8; have HX8 := Lib.hid (HX7.out.upd hown8 hg8); clear hown8 hg8))
                      go_roundg (fm - (j + 1))
                      case measure => omega
                      case rel => exact ⟨j + 1, _, MK2 ++ [y], _, by omega, by go_num, HX8, by rw [HTK.out]; exact hSb.out.append (List.Sublist.refl _)⟩
                    · have ways : (decide ((x.frm : Int) ≤ (y.frm : Int)) = false ∧ decide (x.frm ≤ y.frm) = false) ∨ (((x.frm : Int) ≤ (y.frm : Int) ∧ x.frm ≤ y.frm) ∧ decide ((y.to_ : Int) ≤ (T : Int)) = false ∧ decide (y.to_ ≤ T) = false) := by
                        by_cases h1 : x.frm ≤ y.frm
                        · exact .inr ⟨⟨by omega, h1⟩, decide_eq_false (fun h2 => hyT ⟨h1, by omega⟩), decide_eq_false (fun h2 => hyT ⟨h1, h2⟩)⟩
                        · exact .inl ⟨decide_eq_false (by omega), decide_eq_false h1⟩
                      clear hyT
                      have HX2 : Hid (InR wB (wr.alloc (.cells #[.string y.text, .int .i64 y.frm, .int .i64 y.to_] 38)) x.frm T v MK2 (j + 1) D) := by
                        have h := hX.out.below ((Below.refl _ _).alloc (Nat.le_refl _) (.cells #[.string y.text, .int .i64 y.frm, .int .i64 y.to_] 38))
                        exact ⟨h.1, h.2.1, h.2.2.1.mono (by omega), h.2.2.2⟩
                      have HSb2 : Hid (MK2.Sublist (FD.take (j + 1))) := by
                        show List.Sublist _ _
                        rw [HTK.out]; exact hSb.out.trans (List.sublist_append_left _ _)
                      rcases ways with ⟨t1, t2⟩ | ⟨⟨t1, t2⟩, t3, t4⟩
                      · go_wp2_with fail
                        go_roundg (fm - (j + 1))
                        case measure => omega
                        case rel => exact ⟨j + 1, v, MK2, D, by omega, by go_num, HX2, HSb2⟩
                      · go_wp2_with fail
                        go_roundg (fm - (j + 1))
                        case measure => omega
                        case rel => exact ⟨j + 1, v, MK2, D, by omega, by go_num, HX2, HSb2⟩
                  · have j3 : ¬ (j : Int) < (fm : Int) := by omega
                    obtain ⟨vA, vc, hv, _⟩ := own_reads hX.out.2.1
                    subst hv
                    have HLEN : Hid (∀ ty, (Builtin.len_ #[47] ty #[.map (some (wB.heap.size + 1))]).run Try.prog wr = .ok (.int .i64 (Maps.size D)) wr) := fun ty => hX.out.2.2.1.len Try.underlying47 ty
                    have hlen := HLEN.out
                    have x0 := hX.out.1.cell 0
                    have x1 := hX.out.1.cell 1
                    have x2 := hX.out.1.cell 2
                    have hmoW := HMoB.out.below ((Below.refl wB.heap.size wB).trans hX.out.2.2.2.1)
                    have HMoW := Lib.hid hmoW
                    have m0 := hmoW.1.cell 0
                    have m1 := hmoW.1.cell 1
                    have m2 := hmoW.1.cell 2
                    have m3 := hmoW.1.frozen 0
                    have m4 := hmoW.1.frozen 1
                    have m5 := hmoW.1.frozen 2
                    have HB4W : Hid (Below w4.heap.size w4 wr) := HB4B.out.trans (hX.out.2.2.2.1.mono (by omega))
                    have HGD : Hid (GoodP s width x.frm T MK2) := by
                      refine ⟨?_, hX.out.2.2.2.2, HTW.out.2.2⟩
                      rw [← HL.out]
                      exact hSb.out.trans ((List.take_sublist _ _).trans HSUB.out)
                    clear hmoW
                    obtain ⟨sz, hsz⟩ : ∃ sz, sz = Maps.size D := ⟨_, rfl⟩
                    rw [← hsz] at hlen
                    clear hsz HLEN
                    by_cases hwo : worth < sz
                    · go_wp2_with fail
                      go_roundg (fm - (k + 1))
                      case measure => omega
                      case rel => exact ⟨k + 1, (sz : Int), x.frm, T, vA, MK2.length, vc, MK2, by omega, by go_num, rfl, hX.out.best HMoW.out.1 (by omega) rfl rfl HGD.out, ((HB4W.out.setCell (p := ⟨w4.heap.size, 0, none⟩) (Nat.le_refl _) _).setCell (p := ⟨w4.heap.size, 1, none⟩) (Nat.le_refl _) _).setCell (p := ⟨w4.heap.size, 2, none⟩) (Nat.le_refl _) _⟩
                    · go_wp2_with fail
                      go_roundg (fm - (k + 1))
                      case measure => omega
                      case rel => exact ⟨k + 1, worth, mF, mT, MA, mm, mc, MK, by omega, by go_num, rfl, HMoW, HB4W⟩
              · obtain rfl : k = fm := by omega
                have m0 := hMo.out.1.cell 0
                have m1 := hMo.out.1.cell 1
                have m2 := hMo.out.1.cell 2
                have m5 := hMo.out.1.frozen 2
                have hmmb : mm ≤ 4294967280 := by
                  have h1 := hMo.out.2.1
                  have h2 := hMo.out.2.2.2.2.2.1.length_le
                  have h3 := words_len s _ 0 (Nat.le_refl _)
                  omega
                have HCLIP := Lib.hid (clipM_any MA mm mc wr hMo.out.2.2.1 hmmb)
                have BRW := BR4.out.below hbel.out (by omega)
                have hb1 : Blk (wr.setCell ⟨w4.heap.size, 2, none⟩ (.slice MA mm mm)) w4.heap.size 28 #[.int .i64 mF, .int .i64 mT, .slice MA mm mm] := hMo.out.1.set_ 2 _
                have hr1 : Blk (wr.setCell ⟨w4.heap.size, 2, none⟩ (.slice MA mm mm)) (w.heap.size + 1) 28 #[.int .i64 0, .int .i64 0, .slice none 0 0] := BRW.far (by show w.heap.size + 1 ≠ w4.heap.size; omega) _
                have n0 := hb1.cell 0
                have n1 := hb1.cell 1
                have n2 := hb1.cell 2
                have r0 := hr1.cell 0
                have r1 := hr1.cell 1
                have r2 := hr1.cell 2
                have r3 := hr1.frozen 0
                have r4 := hr1.frozen 1
                have r5 := hr1.frozen 2
                have HR1 := Lib.hid hr1
                have HRD1 : Hid (Reads (wr.setCell ⟨w4.heap.size, 2, none⟩ (.slice MA mm mm)) (wr.setCell ⟨w4.heap.size, 2, none⟩ (.slice MA mm mm)).heap.size 2 MA mm (MK.flatMap mkV)) := by
                  have h0 := hMo.out.2.2.2.1
                  refine ⟨h0.1, fun hn => ?_⟩
                  obtain ⟨ad, e, hlt, hc⟩ := h0.2 hn
                  have hne := hMo.out.2.2.2.2.1 ad e
                  refine ⟨ad, e, by simpa [World.setCell] using hlt, fun q u hu => ?_⟩
                  rw [World.cell?_setCell_other _ _ _ _ (fun e' => by have := congrArg Addr.block e'; rw [block_of_add] at this; have h9 : w4.heap.size = ad.block := this; omega)]
                  exact hc q u hu
                have HKB1 : Hid (Below w.heap.size w (wr.setCell ⟨w4.heap.size, 2, none⟩ (.slice MA mm mm))) := (KB4.out.trans (hbel.out.mono (by omega))).setCell (p := ⟨w4.heap.size, 2, none⟩) (by show w.heap.size ≤ w4.heap.size; omega) _
                clear hb1 hr1 BRW
                go_wp2_with fail
                refine HCLIP.out.mono ?_
                rintro e w9 ⟨rfl, rfl⟩
                go_wp2_with fail
                obtain ⟨q0, q1, q2, q3⟩ := snip_end (s := s) (width := width) (er := 0) (F := mF) (T := mT) (A := MA) (m := mm) (c := mm) (MK := MK) HR1.out HKB1.out HRD1.out (fun ad e => by have := hMo.out.2.2.2.2.1 ad e; omega) hMo.out.2.1 (.inr ⟨rfl, hMo.out.2.2.2.2.2⟩) _ rfl
                exact bodyPost_ret (v := .tuple #[.agg #[.int .i64 mF, .int .i64 mT, .slice MA mm mm], .int .i64 0]) (by simp [results, Try.results5, go_sem, q0, q1, q2]) rfl q3
  · have her' : (er != 0) = true := bne_iff_ne.2 her
    go_wp2_with fail
    obtain ⟨q0, q1, q2, q3⟩ := snip_end0 (s := s) (width := width) (er := er) BR1.out KB1.out (.inl (her)) _ rfl
    exact bodyPost_ret (v := .tuple #[.agg #[.int .i64 0, .int .i64 0, .slice none 0 0], .int .i64 er]) (by simp [results, Try.results5, go_sem, q0, q1, q2]) rfl q3
end Go.Proofs.Ytpkpnmfcjoheoaa
