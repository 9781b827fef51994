/-
  DERIVED. The walk of day.RuleText. Conditions: the table of powers of ten is laid. By an AI agent.
-/
import Derived.Test.YtbdcimakdiegnaaGreatDoorRuTxt
import Derived.Test.YtbdcimakdiegnaaGreatDoorRuChk3
import Derived.Test.YtbdcimakdiegnaaGreatDoorVa07
import Derived.Deep.DeepCutAuto
namespace Go.Proofs.YtbdcimakdiegnaaGreatDoor
open Go.RowKit
open cal

/-- what RuleText returns -/
noncomputable def ruS (r : Rl) : ByteArray × Int := if ruErr r ≠ 0 then (⟨#[]⟩, ruErr r) else if 2000 < (ruT r).size then (⟨#[]⟩, 4) else (ruT r, 0)
theorem dtS_size {d : Int} (h : 0 ≤ d) (h' : d ≤ 100000) : (dtS d).size = 10 := by
  obtain ⟨a0, a1, a2, a3, b0, b1, c0, c1, e, _⟩ := dat_ten h h'
  show (datL d).toArray.size = 10
  rw [e]
  rfl
theorem ctT_size {f : Int → ByteArray} : ∀ {l : List Int}, (∀ n ∈ l, (f n).size ≤ 100) → (ctT f l).size ≤ l.length * 101
  | [], _ => by show 0 ≤ _; omega
  | n :: l, h => by
    rw [ctT]
    simp only [ByteArray.size_append, List.length_cons]
    have h1 := h n (by simp)
    have h2 := ctT_size (f := f) (l := l) fun m hm => h m (by simp [hm])
    show 1 + (f n).size + _ ≤ _
    omega
theorem ptT_size {f : Int → ByteArray} {l : List Int} {word : ByteArray} (h : ∀ n ∈ l, (f n).size ≤ 100) : (ptT word f l).size ≤ 1 + word.size + l.length * 101 := by
  unfold ptT
  split
  · show 0 ≤ _; omega
  · simp only [ByteArray.size_append]
    have := ctT_size h
    show 1 + word.size + _ ≤ _
    omega
theorem wdW_size {n : Int} (h : 0 ≤ n ∧ n ≤ 6) : (wdW n).size ≤ 100 := by
  rcases wdW_ways h with e | e | e | e | e | e | e <;> rw [e] <;> decide
theorem unW_size (n : Int) : (unW n).size ≤ 5 := by
  unfold unW
  split
  · decide
  split
  · decide
  split <;> decide

set_option maxHeartbeats 2000000 in
set_option maxRecDepth 100000 in
theorem ruleText_bad (r : Rl) (Aw Ad As : Option Addr) (nw cw nd cd ns cs : Nat) (w : World) (B : Nat) (hB : B ≤ w.heap.size) (hw : RIn w B (.slice Aw nw cw) r.wk) (hd : RIn w B (.slice Ad nd cd) r.ds) (hs : RIn w B (.slice As ns cs) r.skip) (hE : ruErr r ≠ 0) :
    Calls Tryz.prog 13 #[RuV r (.slice Aw nw cw) (.slice Ad nd cd) (.slice As ns cs)] w fun e w' => e = .returned (.tuple #[.string ⟨#[]⟩, .int .i64 (ruErr r)]) ∧ Below w.heap.size w w' := by
  obtain ⟨X, hX⟩ : ∃ X, X = w.alloc (.cells (RuC r (.slice Aw nw cw) (.slice Ad nd cd) (.slice As ns cs)) 40) := ⟨_, rfl⟩
  have hBX : Below w.heap.size w X := by rw [hX]; exact (Below.refl _ _).alloc (Nat.le_refl _) _
  have HKX : Hid (Blk X w.heap.size 40 (RuC r (.slice Aw nw cw) (.slice Ad nd cd) (.slice As ns cs))) := by rw [hX]; exact Blk.new _ _ _
  have HCH := Lib.hid (checkRule_any r Aw Ad As nw cw nd cd ns cs X B (Nat.le_trans hB hBX.size) (hw.below (hBX.mono hB)) (hd.below (hBX.mono hB)) (hs.below (hBX.mono hB)))
  generalize ruErr r = E at hE HCH ⊢
  have k1 : (E != 0) = true := bne_iff_ne.2 hE
  have HX := Lib.hid hX
  have HBX := Lib.hid hBX
  obtain ⟨u, ev, fr, un, ct, wk, ds, nth, sk⟩ := r
  unfold RuV RuC at *
  dsimp only at HCH HX HKX ⊢
  have b0 := fun i => HKX.out.cell i
  clear hX hBX hw hd hs hE
  go_enter Tryz.func13, Tryz.ntmps13
  go_upto_region 1 with fail
  rw [← HX.out]
  go_wp2_with fail
  refine HCH.out.mono ?_
  rintro e w1 ⟨rfl, hb1⟩
  have HB1 : Hid (Below w.heap.size w w1) := HBX.out.trans (hb1.mono HBX.out.size)
  clear hb1
  go_wp2_with fail
  go_ret2
  exact ⟨rfl, HB1.out⟩

set_option maxHeartbeats 16000000 in
set_option maxRecDepth 100000 in
theorem ruleText_ok (r : Rl) (Aw Ad As : Option Addr) (nw cw nd cd ns cs : Nat) (w : World) (B : Nat) (hB : B ≤ w.heap.size) (hw : RIn w B (.slice Aw nw cw) r.wk) (hd : RIn w B (.slice Ad nd cd) r.ds) (hs : RIn w B (.slice As ns cs) r.skip) (hE : ruErr r = 0) (hP : Pow w) :
    Calls Tryz.prog 13 #[RuV r (.slice Aw nw cw) (.slice Ad nd cd) (.slice As ns cs)] w fun e w' => e = .returned (.tuple #[.string (ruS r).1, .int .i64 (ruS r).2]) ∧ Below w.heap.size w w' := by
  have hok := ruErr_ok hE
  have hRS : ruS r = if 2000 < (ruT r).size then (⟨#[]⟩, 4) else (ruT r, 0) := by
    unfold ruS
    rw [if_neg (fun e => e hE)]
  rw [hRS]
  obtain ⟨X, hX⟩ : ∃ X, X = w.alloc (.cells (RuC r (.slice Aw nw cw) (.slice Ad nd cd) (.slice As ns cs)) 40) := ⟨_, rfl⟩
  have hBX : Below w.heap.size w X := by rw [hX]; exact (Below.refl _ _).alloc (Nat.le_refl _) _
  have HKX : Hid (Blk X w.heap.size 40 (RuC r (.slice Aw nw cw) (.slice Ad nd cd) (.slice As ns cs))) := by rw [hX]; exact Blk.new _ _ _
  have HCH := checkRule_any r Aw Ad As nw cw nd cd ns cs X B (Nat.le_trans hB hBX.size) (hw.below (hBX.mono hB)) (hd.below (hBX.mono hB)) (hs.below (hBX.mono hB))
  rw [hE] at HCH
  have HCH := Lib.hid HCH
  have HRW := Lib.hid (hw.below (hBX.mono hB))
  have HRD := Lib.hid (hd.below (hBX.mono hB))
  have HRS := Lib.hid (hs.below (hBX.mono hB))
  have HPX := Lib.hid (hP.below hBX)
  have HOK := Lib.hid hok
  have HX := Lib.hid hX
  have HBX := Lib.hid hBX
  have hzX : w.heap.size < X.heap.size := HKX.out.lt
  have hBX2 : B ≤ X.heap.size := Nat.le_trans hB hBX.size
  -- the text, piece by piece
  obtain ⟨T1, hT1⟩ : ∃ T, T = p1 r := ⟨_, rfl⟩
  obtain ⟨T2, hT2⟩ : ∃ T, T = T1 ++ esW r.every := ⟨_, rfl⟩
  obtain ⟨T3, hT3⟩ : ∃ T, T = T2 ++ p3 r := ⟨_, rfl⟩
  obtain ⟨T4, hT4⟩ : ∃ T, T = T3 ++ p4 r := ⟨_, rfl⟩
  obtain ⟨T5, hT5⟩ : ∃ T, T = T4 ++ p5 r := ⟨_, rfl⟩
  obtain ⟨T6, hT6⟩ : ∃ T, T = T5 ++ ptT (onW r.nth) wdW r.wk := ⟨_, rfl⟩
  obtain ⟨T7, hT7⟩ : ∃ T, T = T6 ++ ptT wDates wd r.ds := ⟨_, rfl⟩
  obtain ⟨T8, hT8⟩ : ∃ T, T = T7 ++ ptT wSkip dtS r.skip := ⟨_, rfl⟩
  have hT : ruT r = T8 := by rw [hT8, hT7, hT6, hT5, hT4, hT3, hT2, hT1]; rfl
  have we := wd_size (n := r.every) (by have := hok.every; omega)
  have wc := wd_size (n := r.count) (by have := hok.count; omega)
  have wn := wd_size (n := r.nth) (by have := hok.nth; omega)
  have uz := unW_size r.unit
  have dz := dtS_size hok.from_.1 hok.from_.2
  have z1 : T1.size ≤ 30 := by
    rw [hT1]; unfold p1
    simp only [ByteArray.size_append]
    show 6 + _ + 1 + _ ≤ _
    omega
  have z2 : T2.size ≤ 40 := by
    rw [hT2]; unfold esW
    simp only [ByteArray.size_append]
    split
    · show _ + 0 ≤ _; omega
    · show _ + 1 ≤ _; omega
  have z3 : T3.size ≤ 70 := by
    rw [hT3]; unfold p3
    simp only [ByteArray.size_append]
    show _ + (6 + _) ≤ _
    omega
  have z4 : T4.size ≤ 100 := by
    rw [hT4]; unfold p4
    simp only [ByteArray.size_append]
    split
    · next hu =>
      have := dtS_size hu hok.until_.2
      simp only [ByteArray.size_append]
      show _ + (7 + _) ≤ _
      omega
    · show _ + 0 ≤ _; omega
  have z5 : T5.size ≤ 130 := by
    rw [hT5]; unfold p5
    simp only [ByteArray.size_append]
    split
    · simp only [ByteArray.size_append]
      show _ + (7 + _) ≤ _
      omega
    · show _ + 0 ≤ _; omega
  have on_z : (onW r.nth).size ≤ 20 := by
    unfold onW
    split
    · decide
    · simp only [ByteArray.size_append]
      show 2 + (1 + _ + 2) ≤ _
      omega
  have z6 : T6.size ≤ 2000 := by
    rw [hT6, ByteArray.size_append]
    have := ptT_size (word := onW r.nth) (f := wdW) (l := r.wk) fun n hn => wdW_size (hok.wk n hn)
    have := hok.wl
    omega
  have z7 : T7.size ≤ 10000 := by
    rw [hT7, ByteArray.size_append]
    have h1 := ptT_size (word := wDates) (f := wd) (l := r.ds) fun n hn => Nat.le_trans (wd_size (by have := hok.ds n hn; omega)) (by omega)
    have h2 := hok.dl
    have : wDates.size = 5 := rfl
    omega
  have z8 : T8.size ≤ 30000 := by
    rw [hT8, ByteArray.size_append]
    have h1 := ptT_size (word := wSkip) (f := dtS) (l := r.skip) fun n hn => by rw [dtS_size (hok.skip n hn).1 (hok.skip n hn).2]; omega
    have h2 := hok.sl
    have : wSkip.size = 4 := rfl
    omega
  rw [hT]
  have HT1 := Lib.hid hT1
  have HT2 := Lib.hid hT2
  have HT3 := Lib.hid hT3
  have HT4 := Lib.hid hT4
  have HT5 := Lib.hid hT5
  have HT6 := Lib.hid hT6
  have HT7 := Lib.hid hT7
  have HT8 := Lib.hid hT8
  obtain ⟨u, ev, fr, un, ct, wk, ds, nth, sk⟩ := r
  unfold RuV RuC at *
  dsimp only at HCH HX HKX HT1 HT2 HT3 HT4 HT5 HT6 HT7 HT8 HRW HRD HRS on_z we wc wn uz dz ⊢
  have b0 := fun i => HKX.out.cell i
  clear hX hBX hw hd hs hE hRS hT hT1 hT2 hT3 hT4 hT5 hT6 hT7 hT8 hP hok
  go_enter Tryz.func13, Tryz.ntmps13
  go_upto_region 1 with fail
  rw [← HX.out]
  go_wp2_with fail
  refine HCH.out.mono ?_
  rintro e w1 ⟨rfl, hb1⟩
  have hz1 := hb1.size
  have HKB : Hid (Blk w1 w.heap.size _ _) := HKX.out.below hb1 hzX
  have HPW := Lib.hid (HPX.out.below hb1)
  have HIW : Hid (RIn w1 w1.heap.size (.slice Aw nw cw) wk) := (HRW.out.below (hb1.mono hBX2)).more (by omega)
  have HID : Hid (RIn w1 w1.heap.size (.slice Ad nd cd) ds) := (HRD.out.below (hb1.mono hBX2)).more (by omega)
  have HIS : Hid (RIn w1 w1.heap.size (.slice As ns cs) sk) := (HRS.out.below (hb1.mono hBX2)).more (by omega)
  have HB1 : Hid (Below w.heap.size w w1) := HBX.out.trans (hb1.mono HBX.out.size)
  have hz01 : w.heap.size < w1.heap.size := by omega
  clear b0 hb1 HCH HRW HRD HRS HPX HBX HKX hB hBX2
  go_upto_region 6 with fail
  have KG := Blk.new w1 58 #[.pointer none, .slice none 0 0]
  have HW0 : Hid (TW w1.heap.size w1 ⟨#[]⟩ (w1.alloc (.cells #[.pointer none, .slice none 0 0] 58))) := ⟨Bld.fresh (by omega) KG, (Below.refl _ _).alloc (Nat.le_refl _) _, Nat.le_refl _, by simp⟩
  clear KG
  generalize (w1.alloc (.cells #[.pointer none, .slice none 0 0] 58)) = W0 at HW0 ⊢
  have HCELL : Hid (∀ T W, TW w1.heap.size w1 T W → ∀ i, W.cell? ⟨w.heap.size, i, none⟩ = (#[.int .i64 u, .int .i64 ev, .int .i64 fr, .int .i64 un, .int .i64 ct, .slice Aw nw cw, .slice Ad nd cd, .int .i64 nth, .slice As ns cs] : Array Value)[i]?) := fun T W hT i => (hT.below.cell (p := ⟨w.heap.size, i, none⟩) hz01).trans (HKB.out.cell i)
  obtain ⟨jn, hjn⟩ : ∃ jn : Nat, u = (jn : Int) + 1 := ⟨(u - 1).toNat, by have := HOK.out.unit.1; dsimp only at this; omega⟩
  have hj4 : jn < 4 := by have := HOK.out.unit.2; dsimp only at this; omega
  have HUN : Hid (∀ W, Calls Tryz.prog 35 #[] W fun e w' => ∃ g, e = .returned (.slice (some ⟨g, 0, none⟩) 4 4) ∧ w'.cell? ⟨g, jn, none⟩ = some (.string (unW u)) ∧ g < w'.heap.size ∧ Below W.heap.size W w') := fun W => (unitWords_any W).mono fun e w' ⟨h1, h2, h3, h4⟩ => ⟨_, h1, by rw [h2 jn hj4, hjn], h3, h4⟩
  have HIT : Hid (∀ W, Below W0.heap.size W0 W → Calls Tryz.prog 34 #[.int .i64 ev] W fun e w' => e = .returned (.string (wd ev)) ∧ Below W.heap.size W w') := fun W hW => itoaN_any ev (by have := HOK.out.every; dsimp only at this; omega) (by have := HOK.out.every; dsimp only at this; omega) W (HPW.out.below (HW0.out.step hW).below)
  have iw1 : IntKind.i64.wrap (u - 1) = (jn : Int) := by rw [IntWalk.i64_in _ (by omega)]; omega
  have j0 : (0 : Int) ≤ (jn : Int) := by omega
  have j1 : (jn : Int) < 4 := by omega
  go_cut [] (fun wc => Hid (TW w1.heap.size w1 T1 wc))
  case first =>
    as_aux_lemma =>
    have HTE : Hid (T1 = ⟨#[]⟩ ++ (⟨#[101, 118, 101, 114, 121, 32]⟩ ++ wd ev ++ ⟨#[32]⟩ ++ unW u)) := by
      show _ = _
      rw [HT1.out, nil_ba]
      rfl
    generalize wd ev = E at HIT HTE we
    generalize unW u = U at HUN HTE uz
    have HWS : Hid (∀ W, Below W0.heap.size W0 W → Calls Tryz.prog 25 #[.pointer (some ⟨w1.heap.size, 0, none⟩), .string (⟨#[101, 118, 101, 114, 121, 32]⟩ ++ E ++ ⟨#[32]⟩ ++ U)] W fun e w' => e = .returned (.tuple #[.int .i64 (⟨#[101, 118, 101, 114, 121, 32]⟩ ++ E ++ ⟨#[32]⟩ ++ U : ByteArray).size, .nilIface]) ∧ TW w1.heap.size w1 T1 w') := fun W hW => by
      rw [HTE.out]
      exact tw_write _ (HW0.out.step hW) (by
        simp only [ByteArray.size_append]
        show 0 + (6 + E.size + 1 + U.size) ≤ _
        omega)
    have HC2 : Hid (∀ W, Below W0.heap.size W0 W → W.cell? ⟨w.heap.size, 0, none⟩ = some (.int .i64 u) ∧ W.cell? ⟨w.heap.size, 1, none⟩ = some (.int .i64 ev)) := fun W hW => ⟨HCELL.out _ W (HW0.out.step hW) 0, HCELL.out _ W (HW0.out.step hW) 1⟩
    have HBW : Hid (Below W0.heap.size W0 W0.drew) := (Below.refl _ _).drew
    obtain ⟨x0, x1⟩ := HC2.out W0 (Below.refl _ _)
    obtain ⟨y0, y1⟩ := HC2.out W0.drew HBW.out
    clear HTE HT1 HT2 HT3 HT4 HT5 HT6 HT7 HT8 HIW HID HIS HOK hjn hj4 HCELL HX HKB HPW HW0 HB1
    go_region_with (first
      | (go_at_call 34; refine (HIT.out _ HBW.out).mono ?_; rintro e w5 ⟨rfl, hb5⟩; have HBN := Lib.hid (HBW.out.trans (hb5.mono HBW.out.size)); clear HBW; have HBW := HBN; clear HBN; obtain ⟨k0, k1⟩ := HC2.out w5 HBW.out; obtain ⟨n0, n1⟩ := HC2.out w5.drew HBW.out.drew; (try (have cu5 := (hb5.cell (p := ⟨_, jn, none⟩) hg6).trans cu6)); clear hb5)
      | (go_at_call 35; refine (HUN.out _).mono ?_; rintro e w6 ⟨gU, rfl, cu6, hg6, hb6⟩; have HBN := Lib.hid (HBW.out.trans (hb6.mono HBW.out.size)); clear HBW; have HBW := HBN; clear HBN; obtain ⟨m0, m1⟩ := HC2.out w6 HBW.out; clear hb6)
      | (go_at_call 25; refine (HWS.out _ HBW.out).mono ?_; rintro e w7 ⟨rfl, h7⟩; have H7 := Lib.hid h7; clear h7))
    all_goals
      go_wp2_with fail
      go_meet
      exact H7
  case rest =>
  have HW1 := hcut
  clear hcut HW0 HT1 HUN HIT iw1 j0 j1 hjn hj4
  -- the plural
  have g1 := HCELL.out T1 wc HW1.out 1
  go_upto_if 29 with fail
  clear g1
  go_cut [] (fun wc => Hid (TW w1.heap.size w1 T2 wc))
  case first =>
    as_aux_lemma =>
    by_cases h1 : ev = 1
    · have e : T2 = T1 := by rw [HT2.out, h1]; exact ba_nil _
      have HW2 : Hid (TW w1.heap.size w1 T2 wc) := by rw [e]; exact HW1
      subst h1
      clear e HT2 HT3 HT4 HT5 HT6 HT7 HT8 HIW HID HIS HOK HCELL HX HKB HPW HB1 HW1
      go_wp2_with fail
      go_meet
      exact HW2
    · have e : T2 = T1 ++ ⟨#[115]⟩ := by rw [HT2.out]; unfold esW; rw [if_neg h1]
      have HWS := Lib.hid (tw_write ⟨#[115]⟩ HW1.out (by show T1.size + 1 ≤ _; omega))
      rw [← e] at HWS
      have k1 : (ev != 1) = true := bne_iff_ne.2 h1
      clear e HT2 HT3 HT4 HT5 HT6 HT7 HT8 HIW HID HIS HOK HCELL HX HKB HPW HB1 HW1
      go_wp2_with fail
      refine HWS.out.mono ?_
      rintro e w7 ⟨rfl, h7⟩
      have H7 := Lib.hid h7
      clear h7
      go_wp2_with fail
      go_meet
      exact H7
  case rest =>
  have HW2 := hcut
  clear hcut HW1 HT2
  obtain ⟨wc2, rfl⟩ : ∃ x, x = wc := ⟨_, rfl⟩
  -- from
  go_upto_region 9 with fail
  go_cut [] (fun wc => Hid (TW w1.heap.size w1 T3 wc))
  case first =>
    as_aux_lemma =>
    have g2 := HCELL.out T2 wc2 HW2.out 2
    have HD := dayText_cl HOK.out.from_.1 HOK.out.from_.2 wc2 (HPW.out.below HW2.out.below)
    have HTE : Hid (T3 = T2 ++ (⟨#[32, 102, 114, 111, 109, 32]⟩ ++ dtS fr)) := HT3.out
    dsimp only at HD
    generalize dtS fr = S at HD HTE
    have HD := Lib.hid HD
    have HWS : Hid (∀ W, TW w1.heap.size w1 T2 W → S.size ≤ 100 → Calls Tryz.prog 25 #[.pointer (some ⟨w1.heap.size, 0, none⟩), .string (⟨#[32, 102, 114, 111, 109, 32]⟩ ++ S)] W fun e w' => e = .returned (.tuple #[.int .i64 (⟨#[32, 102, 114, 111, 109, 32]⟩ ++ S : ByteArray).size, .nilIface]) ∧ TW w1.heap.size w1 T3 w') := fun W hW hS => by
      rw [HTE.out]
      exact tw_write _ hW (by
        simp only [ByteArray.size_append]
        show T2.size + (6 + S.size) ≤ _
        omega)
    clear HT3 HT4 HT5 HT6 HT7 HT8 HIW HID HIS HOK HCELL HX HKB HPW HB1 HTE
    go_wp2_with fail
    refine HD.out.mono ?_
    rintro e w6 ⟨rfl, hs6, hb6⟩
    have H6 := Lib.hid (HW2.out.step hb6)
    clear hb6
    go_wp2_with fail
    refine (HWS.out _ H6.out hs6).mono ?_
    rintro e w7 ⟨rfl, h7⟩
    have H7 := Lib.hid h7
    clear h7
    go_wp2_with fail
    go_meet
    exact H7
  case rest =>
  have HW3 := hcut
  clear hcut HW2 HT3
  obtain ⟨wc3, rfl⟩ : ∃ x, x = wc := ⟨_, rfl⟩
  -- until
  have g1 := HCELL.out T3 wc3 HW3.out 3
  go_upto_if 39 with fail
  clear g1
  go_cut [] (fun wc => Hid (TW w1.heap.size w1 T4 wc))
  case first =>
    as_aux_lemma =>
    by_cases h1 : 0 ≤ un
    · have g3 := HCELL.out T3 wc3 HW3.out 3
      have HD := dayText_cl h1 HOK.out.until_.2 wc3 (HPW.out.below HW3.out.below)
      have HTE : Hid (T4 = T3 ++ (⟨#[32, 117, 110, 116, 105, 108, 32]⟩ ++ dtS un)) := by
        show _ = _
        rw [HT4.out]
        unfold p4
        rw [if_pos h1]
      generalize dtS un = S at HD HTE
      have HD := Lib.hid HD
      have HWS : Hid (∀ W, TW w1.heap.size w1 T3 W → S.size ≤ 100 → Calls Tryz.prog 25 #[.pointer (some ⟨w1.heap.size, 0, none⟩), .string (⟨#[32, 117, 110, 116, 105, 108, 32]⟩ ++ S)] W fun e w' => e = .returned (.tuple #[.int .i64 (⟨#[32, 117, 110, 116, 105, 108, 32]⟩ ++ S : ByteArray).size, .nilIface]) ∧ TW w1.heap.size w1 T4 w') := fun W hW hS => by
        rw [HTE.out]
        exact tw_write _ hW (by
          simp only [ByteArray.size_append]
          show T3.size + (7 + S.size) ≤ _
          omega)
      clear HT4 HT5 HT6 HT7 HT8 HIW HID HIS HOK HCELL HX HKB HPW HB1 HTE
      go_wp2_with fail
      refine HD.out.mono ?_
      rintro e w6 ⟨rfl, hs6, hb6⟩
      have H6 := Lib.hid (HW3.out.step hb6)
      clear hb6
      go_wp2_with fail
      refine (HWS.out _ H6.out hs6).mono ?_
      rintro e w7 ⟨rfl, h7⟩
      have H7 := Lib.hid h7
      clear h7
      go_wp2_with fail
      go_meet
      exact H7
    · have e : T4 = T3 := by
        rw [HT4.out]
        unfold p4
        rw [if_neg h1]; exact ba_nil _
      have HW4 : Hid (TW w1.heap.size w1 T4 wc3) := by rw [e]; exact HW3
      clear e HT4 HT5 HT6 HT7 HT8 HIW HID HIS HOK HCELL HX HKB HPW HB1 HW3
      go_wp2_with fail
      go_meet
      exact HW4
  case rest =>
  have HW4 := hcut
  clear hcut HW3 HT4
  obtain ⟨wc4, rfl⟩ : ∃ x, x = wc := ⟨_, rfl⟩
  -- times
  have g1 := HCELL.out T4 wc4 HW4.out 4
  go_upto_if 48 with fail
  clear g1
  go_cut [] (fun wc => Hid (TW w1.heap.size w1 T5 wc))
  case first =>
    as_aux_lemma =>
    by_cases h1 : 0 < ct
    · have g3 := HCELL.out T4 wc4 HW4.out 4
      have HD := itoa_cl (n := ct) (by have := HOK.out.count; dsimp only at this; omega) wc4 (HPW.out.below HW4.out.below)
      have HTE : Hid (T5 = T4 ++ (⟨#[32, 116, 105, 109, 101, 115, 32]⟩ ++ wd ct)) := by
        show _ = _
        rw [HT5.out]
        unfold p5
        rw [if_pos h1]
      generalize wd ct = S at HD HTE
      have HD := Lib.hid HD
      have HWS : Hid (∀ W, TW w1.heap.size w1 T4 W → S.size ≤ 100 → Calls Tryz.prog 25 #[.pointer (some ⟨w1.heap.size, 0, none⟩), .string (⟨#[32, 116, 105, 109, 101, 115, 32]⟩ ++ S)] W fun e w' => e = .returned (.tuple #[.int .i64 (⟨#[32, 116, 105, 109, 101, 115, 32]⟩ ++ S : ByteArray).size, .nilIface]) ∧ TW w1.heap.size w1 T5 w') := fun W hW hS => by
        rw [HTE.out]
        exact tw_write _ hW (by
          simp only [ByteArray.size_append]
          show T4.size + (7 + S.size) ≤ _
          omega)
      clear HT5 HT6 HT7 HT8 HIW HID HIS HOK HCELL HX HKB HPW HB1 HTE
      go_wp2_with fail
      refine HD.out.mono ?_
      rintro e w6 ⟨rfl, hs6, hb6⟩
      have H6 := Lib.hid (HW4.out.step hb6)
      clear hb6
      go_wp2_with fail
      refine (HWS.out _ H6.out hs6).mono ?_
      rintro e w7 ⟨rfl, h7⟩
      have H7 := Lib.hid h7
      clear h7
      go_wp2_with fail
      go_meet
      exact H7
    · have e : T5 = T4 := by
        rw [HT5.out]
        unfold p5
        rw [if_neg h1]; exact ba_nil _
      have HW5 : Hid (TW w1.heap.size w1 T5 wc4) := by rw [e]; exact HW4
      clear e HT5 HT6 HT7 HT8 HIW HID HIS HOK HCELL HX HKB HPW HB1 HW4
      go_wp2_with fail
      go_meet
      exact HW5
  case rest =>
  have HW5 := hcut
  clear hcut HW4 HT5
  obtain ⟨wc5, rfl⟩ : ∃ x, x = wc := ⟨_, rfl⟩
  -- on
  have g1 := HCELL.out T5 wc5 HW5.out 7
  go_upto_if 57 with fail
  clear g1
  go_cut [8] (fun s8 wc => s8 = .string (onW nth) ∧ Hid (TW w1.heap.size w1 T5 wc))
  case first =>
    as_aux_lemma =>
    by_cases h1 : nth = 0
    · have e : onW nth = ⟨#[111, 110]⟩ := by unfold onW; rw [if_pos h1]; rfl
      have e := Lib.hid e
      subst h1
      clear HT6 HT7 HT8 HIW HID HIS HOK HCELL HX HKB HPW HB1
      go_wp2_with fail
      go_meet
      exact ⟨by rw [e.out], HW5⟩
    · have g3 := HCELL.out T5 wc5 HW5.out 7
      have HD := itoa_cl (n := nth) (by have := HOK.out.nth; dsimp only at this; omega) wc5 (HPW.out.below HW5.out.below)
      have e : onW nth = ⟨#[111, 110]⟩ ++ (⟨#[32]⟩ ++ wd nth ++ ⟨#[116, 104]⟩) := by unfold onW; rw [if_neg h1]; rfl
      have k1 : (nth != 0) = true := bne_iff_ne.2 h1
      generalize wd nth = S at HD wn e
      have e := Lib.hid e
      have HD := Lib.hid HD
      clear HT6 HT7 HT8 HIW HID HIS HOK HCELL HX HKB HPW HB1 on_z
      go_wp2_with fail
      refine HD.out.mono ?_
      rintro e w6 ⟨rfl, hs6, hb6⟩
      have H6 := Lib.hid (HW5.out.step hb6)
      clear hb6
      go_wp2_with fail
      go_meet
      exact ⟨by rw [e.out], H6⟩
  case rest =>
  obtain ⟨rfl, HW6⟩ := hcut
  clear HW5
  obtain ⟨wc6, rfl⟩ : ∃ x, x = wc := ⟨_, rfl⟩
  have HC1 := part_any 37 wdW (enters_of Tryz.func37 (by kernel_rfl) rfl) wk (fun n hn => wdText_cl (HOK.out.wk n hn)) (onW nth) (by omega) (by have := HOK.out.wl; dsimp only at this; omega) Aw nw cw w1.heap.size w1 T5 wc6 HW6.out (by omega) HIW.out HPW.out
  have e6 : T6 = T5 ++ ptT (onW nth) wdW wk := HT6.out
  rw [← e6] at HC1
  have HC1 := Lib.hid HC1
  have HC2 : Hid (∀ W, TW w1.heap.size w1 T6 W → Calls Tryz.prog 36 #[.string wDates, .slice Ad nd cd, .func (.func 34) #[] #[], .pointer (some ⟨w1.heap.size, 0, none⟩)] W fun e w' => e = .returned (.tuple #[]) ∧ TW w1.heap.size w1 T7 w') := fun W hW => by
    have := part_any 34 wd (enters_of Tryz.func34 (by kernel_rfl) rfl) ds (fun n hn => itoa_cl (by have := HOK.out.ds n hn; omega)) wDates (by decide) (by have := HOK.out.dl; dsimp only at this; omega) Ad nd cd w1.heap.size w1 T6 W hW (by omega) HID.out HPW.out
    rw [← show T7 = T6 ++ ptT wDates wd ds from HT7.out] at this
    exact this
  have HC3 : Hid (∀ W, TW w1.heap.size w1 T7 W → Calls Tryz.prog 36 #[.string wSkip, .slice As ns cs, .func (.func 32) #[] #[], .pointer (some ⟨w1.heap.size, 0, none⟩)] W fun e w' => e = .returned (.tuple #[]) ∧ TW w1.heap.size w1 T8 w') := fun W hW => by
    have := part_any 32 dtS (enters_of Tryz.func32 (by kernel_rfl) rfl) sk (fun n hn => dayText_cl (HOK.out.skip n hn).1 (HOK.out.skip n hn).2) wSkip (by decide) (by have := HOK.out.sl; dsimp only at this; omega) As ns cs w1.heap.size w1 T7 W hW (by omega) HIS.out HPW.out
    rw [← show T8 = T7 ++ ptT wSkip dtS sk from HT8.out] at this
    exact this
  have g5 : wc6.cell? ⟨w.heap.size, 5, none⟩ = some (.slice Aw nw cw) := HCELL.out T5 wc6 HW6.out 5
  generalize onW nth = ON at HC1
  clear e6 HT6 HT7 HT8 HIW HID HIS HOK HX HKB HPW HW6 on_z
  go_wp2_with fail
  refine HC1.out.mono ?_
  rintro e w7 ⟨rfl, h7⟩
  have HC2 := Lib.hid (HC2.out _ h7)
  have g6 : w7.cell? ⟨w.heap.size, 6, none⟩ = some (.slice Ad nd cd) := HCELL.out T6 w7 h7 6
  clear h7 g5 HC1
  unfold wDates at HC2
  go_wp2_with fail
  refine HC2.out.mono ?_
  rintro e w8 ⟨rfl, h8⟩
  have HC3 := Lib.hid (HC3.out _ h8)
  have g8 : w8.cell? ⟨w.heap.size, 8, none⟩ = some (.slice As ns cs) := HCELL.out T7 w8 h8 8
  clear h8 g6 HC2
  unfold wSkip at HC3
  go_wp2_with fail
  refine HC3.out.mono ?_
  rintro e w9 ⟨rfl, h9⟩
  have HLN := lenB_any w1.heap.size _ _ w9 h9.bld
  rw [Lib.strCells_length] at HLN
  have HLN := Lib.hid HLN
  have HST := Lib.hid (string_any w1.heap.size _ _ w9 h9.bld)
  have HB9 : Hid (Below w.heap.size w w9) := HB1.out.trans (h9.below.mono (by omega))
  clear h9 g8 HC3 HCELL
  go_wp2_with fail
  refine HLN.out.mono ?_
  rintro e w10 ⟨rfl, rfl⟩
  by_cases hbig : 2000 < T8.size
  · have j1 : (2000 : Int) < (T8.size : Int) := by omega
    have hr : Hid ((if 2000 < T8.size then ((⟨#[]⟩ : ByteArray), (4 : Int)) else (T8, 0)) = (⟨#[]⟩, 4)) := if_pos hbig
    clear hbig HST
    go_wp2_with fail
    go_ret2
    first | exact ⟨rfl, HB9.out⟩ | (rw [hr.out]; exact ⟨rfl, HB9.out⟩)
  · have j1 : ¬ (2000 : Int) < (T8.size : Int) := by omega
    have hr : Hid ((if 2000 < T8.size then ((⟨#[]⟩ : ByteArray), (4 : Int)) else (T8, 0)) = (T8, 0)) := if_neg hbig
    clear hbig
    go_wp2_with fail
    refine HST.out.mono ?_
    rintro e w11 ⟨rfl, hb11⟩
    have HB11 := Lib.hid (HB9.out.trans (hb11.mono (by omega)))
    clear hb11
    go_wp2_with fail
    go_ret2
    first | exact ⟨rfl, HB11.out⟩ | (rw [hr.out]; exact ⟨rfl, HB11.out⟩)
end Go.Proofs.YtbdcimakdiegnaaGreatDoor
