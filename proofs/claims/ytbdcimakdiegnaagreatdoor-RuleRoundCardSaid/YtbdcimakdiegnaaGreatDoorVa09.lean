/-
  DERIVED. The walks of prop.padded and prop.DateText, to the byte. Conditions: the table of powers of ten is laid; days of the calendar.
  The walks of slices.Clip at values and of prop.CopyValue. Conditions: sizes.
  Values that came in, opened. Conditions: none.
  By an AI agent.
-/
import Derived.Test.YtbdcimakdiegnaaGreatDoorVa05
import Derived.Test.YtbdcimakdiegnaaGreatDoorVa03
import Derived.Test.YtbdcimakdiegnaaGreatDoorVa02
import Derived.Lib.SmallJoins
import Derived.Lib.AppendIntMem
import Derived.Test.YtbdcimakdiegnaaGreatDoorVa06
import Derived.Deep.DeepCutAuto
import Derived.Test.YtbdcimakdiegnaaGreatDoorVa01
namespace Go.Proofs.YtbdcimakdiegnaaGreatDoor
open Go.RowKit cal

set_option maxHeartbeats 1000000 in
theorem dateOf_any (d : Int) (w : World) (h0 : 0 ≤ d) (h1 : d ≤ 100000) :
    Calls Tryz.prog 64 #[.int .i64 d] w fun e w' => ∃ y m k, e = .returned (.tuple #[.int .i64 y, .int .i64 m, .int .i64 k, .int .i64 0]) ∧ IsDate d y m k ∧ Below w.heap.size w w' := by
  go_enter Tryz.func64, Tryz.ntmps64
  go_wp2_with fail
  refine (outside_no d 0 100000 _ h0 h1).mono ?_
  rintro e w1 ⟨rfl, rfl⟩
  go_wp2_with fail
  refine (dateAt_any d _ h0 (by omega)).mono ?_
  rintro e w1 ⟨y, m, k, rfl, hd, hb⟩
  go_wp2
  exact bodyPost_ret (v := .tuple #[.int .i64 y, .int .i64 m, .int .i64 k, .int .i64 0]) (by simp [results, Tryz.results64, go_sem]) rfl ⟨y, m, k, rfl, hd, hb⟩
set_option maxHeartbeats 1000000 in
theorem dateOf_out (d : Int) (w : World) (h : d < 0 ∨ 100000 < d) :
    Calls Tryz.prog 64 #[.int .i64 d] w fun e w' => e = .returned (.tuple #[.int .i64 0, .int .i64 0, .int .i64 0, .int .i64 2]) ∧ Below w.heap.size w w' := by
  go_enter Tryz.func64, Tryz.ntmps64
  go_wp2_with fail
  refine (outside_yes d 0 100000 _ h).mono ?_
  rintro e w1 ⟨rfl, rfl⟩
  go_wp2_with fail
  exact bodyPost_ret (v := .tuple #[.int .i64 0, .int .i64 0, .int .i64 0, .int .i64 2]) (by simp [results, Tryz.results64, go_sem]) rfl ⟨rfl, Below.refl _ _⟩

/-- the table of powers of ten lies in its variable -/
def Pow (w : World) : Prop := Lib.TabIs Tryz.prog w "internal/strconv.uint64pow10" .u64 Lib.pow10Tab
theorem Pow.below {w w' : World} (h : Pow w) (hb : Below w.heap.size w w') : Pow w' :=
  Go.Joins.tab_stays (g := 1) (by kernel_rfl) h hb (Nat.le_refl _)
/-- a number's word -/
def wd (n : Int) : ByteArray := ⟨(Lib.itoa n).toArray⟩
theorem wd_size {n : Int} (h : n.natAbs < 10 ^ 7) : (wd n).size ≤ 8 := by
  show (Lib.itoa n).toArray.size ≤ 8
  simpa using itoa_len h
theorem itoaN_any (n : Int) (h0 : -9223372036854775808 ≤ n) (h1 : n ≤ 9223372036854775807) (w : World) (hP : Pow w) :
    Calls Tryz.prog 34 #[.int .i64 n] w fun e w' => e = .returned (.string (wd n)) ∧ Below w.heap.size w w' := by
  refine (Tryz.strconv_Itoa n h0 h1 w hP).mono ?_
  rintro e w' ⟨rfl, k, os, rfl⟩
  exact ⟨rfl, Lib.below_grow _ _ (Nat.le_refl _) _ _⟩

def padS (n g : Int) : ByteArray := ⟨(padL n g).toArray⟩
noncomputable def dtS (d : Int) : ByteArray := ⟨(datL d).toArray⟩
theorem wd_len (n : Int) : (wd n).size = (Lib.itoa n).length := by
  show (Lib.itoa n).toArray.size = _
  simp
theorem rep_size (c : Nat) : (⟨(Lib.repeatL [48] c).toArray⟩ : ByteArray).size = c := by
  show (Lib.repeatL [48] c).toArray.size = c
  rw [rep_list]
  simp
theorem padS_size {n g : Int} (h : n.natAbs < 10 ^ 7) (hg : g ≤ 4) : (padS n g).size ≤ 20 := by
  have h1 := padL_len n g
  have h2 := itoa_len h
  show (padL n g).toArray.size ≤ 20
  simp
  omega

set_option maxHeartbeats 1000000 in
theorem padded_any (n g : Int) (h0 : 0 ≤ n) (h1 : n ≤ 100000) (hg : g = 2 ∨ g = 4) (w : World) (hP : Pow w) :
    Calls Tryz.prog 65 #[.int .i64 n, .int .i64 g] w fun e w' => e = .returned (.string (padS n g)) ∧ Below w.heap.size w w' := by
  have hz := wd_size (n := n) (by omega)
  have hps : ∀ q : Nat, max 0 (g - ((wd n).size : Int)) = (q : Int) → (⟨(Lib.repeatL [48] q).toArray⟩ : ByteArray) ++ wd n = padS n g := by
    intro q hq
    rw [wd_len] at hq
    have hq' : (g - ((Lib.itoa n).length : Int)).toNat = q := by omega
    apply ByteArray.ext
    unfold padS padL
    rw [hq', rep_list]
    simp [wd]
  have HPS := Lib.hid hps
  have HI := Lib.hid (itoaN_any n (by omega) (by omega) w hP)
  obtain ⟨s, hs⟩ : ∃ s, s = wd n := ⟨_, rfl⟩
  rw [← hs] at hz HI HPS
  clear hs hP hps
  go_enter Tryz.func65, Tryz.ntmps65
  go_wp2_with fail
  refine HI.out.mono ?_
  rintro e w1 ⟨rfl, hb1⟩
  have HB := Lib.hid hb1
  clear hb1 HI
  go_wp2_with fail
  obtain ⟨q, hq, hq4⟩ : ∃ q : Nat, max 0 (g - (s.size : Int)) = (q : Int) ∧ q ≤ 4 := ⟨(max 0 (g - (s.size : Int))).toNat, by omega, by omega⟩
  have HQ := Lib.hid (HPS.out q hq)
  rw [hq]
  have hrz : (⟨(Lib.repeatL [48] q).toArray⟩ : ByteArray).size = q := rep_size q
  refine (Tryz.strings_Repeat ⟨#[48]⟩ q w1 (by omega) (by show 1 * q ≤ _; omega)).mono ?_
  rintro e w2 ⟨rfl, hb2⟩
  rw [show (⟨#[48]⟩ : ByteArray).data.toList = [48] from rfl]
  have HB2 : Hid (Below w.heap.size w w2) := HB.out.trans (hb2.mono HB.out.size)
  obtain ⟨t, ht⟩ : ∃ t, t = (⟨(Lib.repeatL [48] q).toArray⟩ : ByteArray) := ⟨_, rfl⟩
  rw [← ht] at hrz HQ ⊢
  clear hb2 hq ht HPS
  go_wp2_with fail
  go_ret
  exact ⟨by rw [← HQ.out]; rfl, HB2.out⟩

theorem isDate_small {d y m k : Int} (h : IsDate d y m k) (h0 : 0 ≤ d) (h1 : d ≤ 100000) : 2001 ≤ y ∧ y ≤ 2600 ∧ 1 ≤ m ∧ m ≤ 12 ∧ 1 ≤ k ∧ k ≤ 31 := by
  obtain ⟨a0, a1, a2, a3, a4, a5, a6, a7⟩ := h
  have := bef_hi a1 (by omega)
  have := ml_hi y m
  omega

set_option maxHeartbeats 1000000 in
theorem dateText_any (d : Int) (w : World) (hd0 : 0 ≤ d) (hd1 : d ≤ 100000) (hP : Pow w) :
    Calls Tryz.prog 33 #[.int .i64 d] w fun e w' => e = .returned (.tuple #[.string (dtS d), .int .i64 0]) ∧ (dtS d).size ≤ 100 ∧ Below w.heap.size w w' := by
  have HD := Lib.hid (dateOf_any d w hd0 hd1)
  have HPW := Lib.hid hP
  obtain ⟨S, hS⟩ : ∃ S, S = dtS d := ⟨_, rfl⟩
  rw [← hS]
  have HS := Lib.hid hS
  clear hP hS
  go_enter Tryz.func33, Tryz.ntmps33
  go_wp2_with fail
  refine HD.out.mono ?_
  rintro e w1 ⟨y, m, k, rfl, hdt, hb1⟩
  obtain ⟨b0, b1, b2, b3, b4, b5⟩ := isDate_small hdt hd0 hd1
  have HS2 : Hid (S = padS y 4 ++ ⟨#[45]⟩ ++ padS m 2 ++ ⟨#[45]⟩ ++ padS k 2) := by
    show _ = _
    rw [HS.out]
    unfold dtS datL
    rw [ymd_is hdt]
    apply ByteArray.ext
    simp [padS]
  have s1 := padS_size (n := y) (g := 4) (by omega) (by omega)
  have s2 := padS_size (n := m) (g := 2) (by omega) (by omega)
  have s3 := padS_size (n := k) (g := 2) (by omega) (by omega)
  have HB1 := Lib.hid hb1
  have HP1 := Lib.hid (HPW.out.below hb1)
  have A1 := Lib.hid fun w hP => padded_any y 4 (by omega) (by omega) (.inr rfl) w hP
  have A2 := Lib.hid fun w hP => padded_any m 2 (by omega) (by omega) (.inl rfl) w hP
  have A3 := Lib.hid fun w hP => padded_any k 2 (by omega) (by omega) (.inl rfl) w hP
  obtain ⟨S1, hS1⟩ : ∃ S, S = padS y 4 := ⟨_, rfl⟩
  obtain ⟨S2, hS2⟩ : ∃ S, S = padS m 2 := ⟨_, rfl⟩
  obtain ⟨S3, hS3⟩ : ∃ S, S = padS k 2 := ⟨_, rfl⟩
  rw [← hS1] at s1 A1 HS2
  rw [← hS2] at s2 A2 HS2
  rw [← hS3] at s3 A3 HS2
  clear hb1 hdt HD HPW hS1 hS2 hS3 HS
  go_wp2_with fail
  refine (A1.out w1 HP1.out).mono ?_
  rintro e w2 ⟨rfl, hb2⟩
  have HB2 := Lib.hid (HB1.out.trans (hb2.mono HB1.out.size))
  have HP2 := Lib.hid (HP1.out.below hb2)
  clear hb2 HP1 HB1
  go_wp2_with fail
  refine (A2.out w2 HP2.out).mono ?_
  rintro e w3 ⟨rfl, hb3⟩
  have HB3 := Lib.hid (HB2.out.trans (hb3.mono HB2.out.size))
  have HP3 := Lib.hid (HP2.out.below hb3)
  clear hb3 HP2 HB2
  go_wp2_with fail
  refine (A3.out w3 HP3.out).mono ?_
  rintro e w4 ⟨rfl, hb4⟩
  have HB4 := Lib.hid (HB3.out.trans (hb4.mono HB3.out.size))
  clear hb4 HP3 HB3
  go_wp2_with fail
  go_ret2
  refine ⟨by rw [HS2.out]; rfl, ?_, HB4.out⟩
  rw [HS2.out]
  simp only [ByteArray.size_append]
  show _ + 1 + _ + 1 + _ ≤ 100
  omega
end Go.Proofs.YtbdcimakdiegnaaGreatDoor
namespace Go.Proofs.YtbdcimakdiegnaaGreatDoor
open Go.RowKit

set_option maxHeartbeats 400000 in
theorem clipV_any (A : Option Addr) (n c : Nat) (w : World) (hn : n ≤ c) (_h0 : A = none → n = 0 ∧ c = 0) :
    Calls Tryz.prog 51 #[.slice A n c] w fun e w' => e = .returned (.slice A n n) ∧ w' = w := by
  have i0 : (0 : Int) ≤ (n : Int) := by omega
  have i1 : (n : Int) ≤ (c : Int) := by omega
  go_enter Tryz.func51, Tryz.ntmps51
  go_wp2_with fail
  go_ret
  exact ⟨rfl, rfl⟩
def vZ : Value := .agg #[.int .i64 0, .int .i64 0, .int .i64 0, .string ⟨#[]⟩, .slice none 0 0]
theorem val_info : (Tryz.prog.info? 24).map (fun i => (i.zero, i.size, i.bytes)) = some (some vZ, 5, 64) := by kernel_rfl
/-- what copying a value leaves -/
def CopyR (x : Vl) (w : World) (e : Ending) (w' : World) : Prop := (∃ A n c, e = .returned (AV (x, .slice A n c)) ∧ RVX w' (fun b => w.heap.size ≤ b ∧ b < w'.heap.size) (.slice A n c) x.items) ∧ Below w.heap.size w w'
theorem fm_one (M : List (Vl × Value)) (h : ∀ x ∈ M, ∃ A n c, x.2 = .slice A n c) : ∀ u ∈ M.flatMap vlV, u.oneCell' = true := by
  intro u hu
  obtain ⟨x, hx, hu⟩ := List.mem_flatMap.1 hu
  exact vlV_one x (h x hx) u hu

set_option maxRecDepth 100000 in
set_option maxHeartbeats 4000000 in
theorem copyVal_walk (x : Vl × Value) (M : List (Vl × Value)) (A : Option Addr) (n c : Nat) (w : World) (B : Nat) (hB : B ≤ w.heap.size) (hx : x.2 = .slice A n c) (hl : M.map Prod.fst = x.1.items) (h1 : Reads w B 5 A n (M.flatMap vlV)) (hn : n = M.length) (hbig : n * 64 ≤ 140737488351232)
    (hs1 : ∀ x ∈ M, ∃ A n c, x.2 = .slice A n c)
    (hcl : ∀ x ∈ M, ∀ W, Below w.heap.size w W → Calls Tryz.prog 19 #[AV x] W (CopyR x.1 W)) :
    Calls Tryz.prog 19 #[AV x] w (CopyR x.1 w) := by
  obtain ⟨i0, hi, hq0, hq1, hq2⟩ := info_parts val_info
  obtain ⟨⟨k0, i, t, s, l⟩, v⟩ := x
  obtain rfl : v = _ := hx
  obtain rfl : _ = l := hl
  have H1 := Lib.hid h1
  have HN := Lib.hid hn
  have HC := Lib.hid hcl
  have S1 := Lib.hid hs1
  clear h1 hn hcl hs1
  dsimp only [AV, Vl.kind, Vl.int_, Vl.to_, Vl.text]
  obtain ⟨wb, hwb⟩ : ∃ wb, wb = (w.alloc (.cells #[.int .i64 k0, .int .i64 i, .int .i64 t, .string s, .slice A n c] 24)).alloc (.cells #[.int .i64 0, .int .i64 0, .int .i64 0, .string ⟨#[]⟩, .slice none 0 0] 24) := ⟨_, rfl⟩
  have p0 : Blk wb w.heap.size 24 #[.int .i64 k0, .int .i64 i, .int .i64 t, .string s, .slice A n c] := by rw [hwb]; exact (Blk.new w _ _).alloc _
  have p1 : Blk wb (w.heap.size + 1) 24 #[.int .i64 0, .int .i64 0, .int .i64 0, .string ⟨#[]⟩, .slice none 0 0] := by
    rw [hwb]
    have h := Blk.new (w.alloc (.cells #[.int .i64 k0, .int .i64 i, .int .i64 t, .string s, .slice A n c] 24)) 24 #[.int .i64 0, .int .i64 0, .int .i64 0, .string ⟨#[]⟩, .slice none 0 0]
    simpa only [World.size_alloc] using h
  have HWB0 : Hid (Below w.heap.size w wb) := by rw [hwb]; exact ((Below.refl _ _).alloc (Nat.le_refl _) _).alloc (by simp) _
  have hzb : wb.heap.size = w.heap.size + 2 := by rw [hwb]; simp
  have m4 : wb.cell? ⟨w.heap.size, 4, none⟩ = some (.slice A n c) := p0.cell 4
  have P0 := Lib.hid p0
  have P1 := Lib.hid p1
  have HWB := Lib.hid hwb
  have HZB := Lib.hid hzb
  have HS : Hid (OwnX vlV 5 24 NV wb (w.heap.size + 2) (.slice none 0 0) []) := OwnX.start _ _
  clear p0 p1 hwb hzb
  go_enter Tryz.func19, Tryz.ntmps19
  go_upto_region 2 with fail
  rw [← HWB.out]
  go_wp2_with fail
  go_loopg [3, 9] n (fun gg s3 s9 wr => ∃ (k : Nat) (v : Value) (L : List (Vl × Value)), k + gg = n ∧ v = s3 ∧ s9 = .int .i64 (k : Int) ∧ Hid (L.map Prod.fst = (M.map Prod.fst).take k) ∧ Hid (OwnX vlV 5 24 NV wr (w.heap.size + 2) v L) ∧ Hid (Below w.heap.size w wr) ∧ Hid (Blk wr w.heap.size 24 #[.int .i64 k0, .int .i64 i, .int .i64 t, .string s, .slice A n c]) ∧ Hid (Blk wr (w.heap.size + 1) 24 #[.int .i64 0, .int .i64 0, .int .i64 0, .string ⟨#[]⟩, .slice none 0 0]))
  case atStart => exact ⟨0, _, [], by omega, rfl, rfl, rfl, HS, HWB0, P0, P1⟩
  case round =>
    obtain ⟨k, v, L, hkg, rfl, rfl, hL, hown, hbel, hp0, hp1⟩ := hrel
    obtain ⟨W1, rfl⟩ : ∃ W1, W1 = wr := ⟨_, rfl⟩
    have hzr : w.heap.size + 1 < W1.heap.size := hp1.out.lt
    have HLL : Hid (L.length = k) := by
      show _ = _
      have := congrArg List.length hL.out
      rw [List.length_map, List.length_take, List.length_map, ← HN.out] at this
      omega
    by_cases hk : k < n
    · obtain ⟨y, hy⟩ : ∃ y, M[k]? = some y := ⟨_, List.getElem?_eq_getElem (by have := HN.out; omega)⟩
      obtain ⟨b, off, rfl, hbb, hc⟩ := H1.out.plain_at (by omega) vlV_len HN.out hy
      have HLK : Hid ((M.map Prod.fst).take (k + 1) = (M.map Prod.fst).take k ++ [y.1]) := by
        show _ = _
        obtain ⟨hkk, e⟩ := List.getElem?_eq_some_iff.1 hy
        rw [List.take_succ_eq_append_getElem (by rw [List.length_map]; exact hkk), List.getElem_map, e]
      have HX := HC.out y (List.mem_of_getElem? hy)
      obtain ⟨⟨kx, ix, tx, sx, lx⟩, vx⟩ := y
      obtain ⟨Ax, nx, cx, rfl⟩ := S1.out _ (List.mem_of_getElem? hy)
      have g0 : W1.cell? ⟨b, off + k * 5, none⟩ = some (.int .i64 kx) := (hbel.out.cell (p := ⟨b, off + k * 5, none⟩) (by show b < _; omega)).trans (hc 0 _ rfl)
      have g1 : W1.cell? ⟨b, off + k * 5 + 1, none⟩ = some (.int .i64 ix) := (hbel.out.cell (p := ⟨b, off + k * 5 + 1, none⟩) (by show b < _; omega)).trans (hc 1 _ rfl)
      have g2 : W1.cell? ⟨b, off + k * 5 + 2, none⟩ = some (.int .i64 tx) := (hbel.out.cell (p := ⟨b, off + k * 5 + 2, none⟩) (by show b < _; omega)).trans (hc 2 _ rfl)
      have g3 : W1.cell? ⟨b, off + k * 5 + 3, none⟩ = some (.string sx) := (hbel.out.cell (p := ⟨b, off + k * 5 + 3, none⟩) (by show b < _; omega)).trans (hc 3 _ rfl)
      have g4 : W1.cell? ⟨b, off + k * 5 + 4, none⟩ = some (.slice Ax nx cx) := (hbel.out.cell (p := ⟨b, off + k * 5 + 4, none⟩) (by show b < _; omega)).trans (hc 4 _ rfl)
      have j0 : (0 : Int) ≤ (k : Int) := by omega
      have j1 : (k : Int) < (n : Int) := by omega
      obtain ⟨wa, hwa⟩ : ∃ wa, wa = W1.alloc (.cells #[.int .i64 kx, .int .i64 ix, .int .i64 tx, .string sx, .slice Ax nx cx] 24) := ⟨_, rfl⟩
      have hal : Below W1.heap.size W1 wa := by rw [hwa]; exact (Below.refl _ _).alloc (Nat.le_refl _) _
      have hza : W1.heap.size < wa.heap.size := by rw [hwa]; simp
      have q0 : Blk wa W1.heap.size 24 #[.int .i64 kx, .int .i64 ix, .int .i64 tx, .string sx, .slice Ax nx cx] := by rw [hwa]; exact Blk.new _ _ _
      have d0 : wa.cell? ⟨W1.heap.size, 0, none⟩ = some (.int .i64 kx) := q0.cell 0
      have d1 : wa.cell? ⟨W1.heap.size, 1, none⟩ = some (.int .i64 ix) := q0.cell 1
      have d2 : wa.cell? ⟨W1.heap.size, 2, none⟩ = some (.int .i64 tx) := q0.cell 2
      have d3 : wa.cell? ⟨W1.heap.size, 3, none⟩ = some (.string sx) := q0.cell 3
      have d4 : wa.cell? ⟨W1.heap.size, 4, none⟩ = some (.slice Ax nx cx) := q0.cell 4
      have HBA : Hid (Below w.heap.size w wa) := hbel.out.trans (hal.mono hbel.out.size)
      have HX' := Lib.hid (HX wa HBA.out)
      dsimp only [AV, Vl.kind, Vl.int_, Vl.to_, Vl.text] at HX'
      have HOA := Lib.hid (hown.out.below NV_ok hal)
      have HP0A := Lib.hid (hp0.out.below hal (by omega))
      have HP1A := Lib.hid (hp1.out.below hal (by omega))
      have HWA := Lib.hid hwa
      clear hy hc HX hwa hal q0
      go_upto_region 5 with fail
      rw [← HWA.out]
      clear g0 g1 g2 g3 g4
      go_upto_region 5 with fail
      go_wp2_with fail
      refine HX'.out.mono ?_
      rintro e w2 ⟨⟨A', n', c', rfl, hrv⟩, hb⟩
      dsimp only [AV, Vl.kind, Vl.int_, Vl.to_, Vl.text]
      have HB2 : Hid (Below w.heap.size w w2) := HBA.out.trans (hb.mono HBA.out.size)
      have hz2 : wa.heap.size ≤ w2.heap.size := hb.size
      have HO2 := HOA.out.below NV_ok hb
      have HRV := Lib.hid hrv
      have HP02 := Lib.hid (HP0A.out.below hb (by omega))
      have HP12 := Lib.hid (HP1A.out.below hb (by omega))
      have hvb := HOA.out.blocks
      clear hb hrv
      have hal : Below w2.heap.size w2 (w2.alloc (.cells #[.int .i64 kx, .int .i64 ix, .int .i64 tx, .string sx, .slice A' n' c'] 24)) := (Below.refl _ _).alloc (Nat.le_refl _) _
      have q0 : Blk (w2.alloc (.cells #[.int .i64 kx, .int .i64 ix, .int .i64 tx, .string sx, .slice A' n' c'] 24)) w2.heap.size 24 #[.int .i64 kx, .int .i64 ix, .int .i64 tx, .string sx, .slice A' n' c'] := Blk.new _ _ _
      have HOC := Lib.hid (HO2.below NV_ok hal)
      have HBC : Hid (Below w.heap.size w (w2.alloc (.cells #[.int .i64 kx, .int .i64 ix, .int .i64 tx, .string sx, .slice A' n' c'] 24))) := HB2.out.trans (hal.mono HB2.out.size)
      have HRC : Hid (RVX (w2.alloc (.cells #[.int .i64 kx, .int .i64 ix, .int .i64 tx, .string sx, .slice A' n' c'] 24)) (fun b => wa.heap.size ≤ b ∧ b < w2.heap.size) (.slice A' n' c') lx) := HRV.out.keep (fun p hp => hal.cell hp.2)
      have HP0C := Lib.hid (HP02.out.below hal (by omega))
      have HP1C := Lib.hid (HP12.out.below hal (by omega))
      have HRD : Hid (Reads (w2.alloc (.cells #[.int .i64 kx, .int .i64 ix, .int .i64 tx, .string sx, .slice A' n' c'] 24)) (w2.heap.size + 1) 5 (some ⟨w2.heap.size, 0, none⟩) 1 (vlV (Vl.mk kx ix tx sx lx, .slice A' n' c'))) := Reads.blk q0 rfl
      have hkb : (L.length + 1) * 64 ≤ 140737488355328 := by have := HLL.out; omega
      have hkm : L.length + 1 ≤ maxLen := by have := HLL.out; unfold maxLen; omega
      have hbase : w.heap.size + 2 ≤ (w2.alloc (.cells #[.int .i64 kx, .int .i64 ix, .int .i64 tx, .string sx, .slice A' n' c'] 24)).heap.size := by simp; omega
      have hsz : w2.heap.size < (w2.alloc (.cells #[.int .i64 kx, .int .i64 ix, .int .i64 tx, .string sx, .slice A' n' c'] 24)).heap.size := by simp
      have HSZ := Lib.hid hsz
      have HBASE := Lib.hid hbase
      clear hal q0 HO2 hvb hsz hbase
      go_wp2_with (at_builtin; refine wpList_append_any _ rfl _ _ 22 rfl (w.heap.size + 2) 24 i0 vZ 5 64 Tryz.underlying22 hi hq0 hq1 hq2 rfl (by decide) v L.length _ rfl HOC.out.own _ _ 1 1 _ rfl HRD.out (vlV_one _ ⟨_, _, _, rfl⟩) hkm hkb HBASE.out ?_)
      intro v' w3 hown3 hg3 hat3
      have HO3 : Hid (OwnX vlV 5 24 NV w3 (w.heap.size + 2) v' (L ++ [(Vl.mk kx ix tx sx lx, .slice A' n' c')])) := HOC.out.app NV_ok (S := fun b => wa.heap.size ≤ b ∧ b < w2.heap.size) HRC.out (fun b hb => ⟨by omega, by have := HSZ.out; omega, fun e => by have := (HOA.out.blocks b e).2; omega⟩) hown3 hg3 (by rw [World.size_alloc]; exact hat3)
      have hvb : ∀ g, v.ownBlock = some g → w.heap.size + 2 ≤ g := fun g hg => (HOC.out.blocks g hg).1
      have HB3 : Hid (Below w.heap.size w w3) := HBC.out.grown hg3 HBC.out.size (fun g hg => by have := hvb g hg; omega)
      have HP03 := Lib.hid (HP0C.out.grown hg3 (fun e => by have := hvb _ e.symm; omega))
      have HP13 := Lib.hid (HP1C.out.grown hg3 (fun e => by have := hvb _ e.symm; omega))
      have HL3 : Hid ((L ++ [(Vl.mk kx ix tx sx lx, Value.slice A' n' c')]).map Prod.fst = (M.map Prod.fst).take (k + 1)) := by
        show _ = _
        rw [List.map_append, hL.out, HLK.out]; rfl
      clear hown3 hg3 hat3 hvb
      go_wp2_with fail
      go_roundg (n - (k + 1))
      case measure => omega
      case rel => exact ⟨k + 1, v', _, by omega, rfl, by go_num, HL3, HO3, HB3, HP03, HP13⟩
    · obtain rfl : n = k := by omega
      obtain ⟨Ar, cr, rfl, hcr, hrd⟩ := RdX.of_own hown.out.own
      have HL' : Hid (L.map Prod.fst = M.map Prod.fst) := hL.out.trans (by rw [List.take_of_length_le (by rw [List.length_map, ← HN.out]; exact Nat.le_refl _)])
      obtain rfl : L.length = n := HLL.out
      have hnone : Ar = none → L.length = 0 ∧ cr = 0 := fun e => by
        rcases hown.out.own.2 with ⟨h, h0⟩ | ⟨g, cap, cur, h, _⟩
        · injection h with _ _ h2
          omega
        · injection h with h; rw [e] at h; cases h
      have HCL := Lib.hid fun W => clipV_any Ar L.length cr W hcr hnone
      have HRX : Hid (RVX W1 (fun b => w.heap.size ≤ b ∧ b < W1.heap.size ∧ b ≠ w.heap.size ∧ b ≠ w.heap.size + 1) (.slice Ar L.length L.length) (M.map Prod.fst)) := by
        show RVX _ _ _ _
        rw [← HL'.out]
        refine RVX.close rfl (Nat.le_refl _) hbig (hrd.weak fun b hb => ⟨by omega, hb.2.2, by omega, by omega⟩) fun x hx => (hown.out.nest x hx).weak fun b hb => ⟨by omega, hb.2.1, by omega, by omega⟩
      clear hcr hrd hnone
      have e0 := fun i => hp0.out.cell i
      have f0 := fun i => hp0.out.frozen i
      have e1 := fun i => hp1.out.cell i
      have f1 := fun i => hp1.out.frozen i
      go_wp2_with fail
      refine (HCL.out _).mono ?_
      rintro e w4 ⟨rfl, rfl⟩
      go_wp2_with fail
      have PF := (((((hp1.out.far (p := ⟨w.heap.size, 4, none⟩) (by show w.heap.size + 1 ≠ w.heap.size; omega) (.slice Ar L.length L.length)).set_ 0 (.int .i64 k0)).set_ 1 (.int .i64 i)).set_ 2 (.int .i64 t)).set_ 3 (.string s)).set_ 4 (.slice Ar L.length L.length)
      have HBF : Below w.heap.size w _ := (((((hbel.out.setCell (p := ⟨w.heap.size, 4, none⟩) (Nat.le_refl _) (.slice Ar L.length L.length)).setCell (p := ⟨w.heap.size + 1, 0, none⟩) (Nat.le_succ _) (.int .i64 k0)).setCell (p := ⟨w.heap.size + 1, 1, none⟩) (Nat.le_succ _) (.int .i64 i)).setCell (p := ⟨w.heap.size + 1, 2, none⟩) (Nat.le_succ _) (.int .i64 t)).setCell (p := ⟨w.heap.size + 1, 3, none⟩) (Nat.le_succ _) (.string s)).setCell (p := ⟨w.heap.size + 1, 4, none⟩) (Nat.le_succ _) (.slice Ar L.length L.length)
      obtain ⟨F, hF⟩ : ∃ F, F = ((((((w4.setCell ⟨w.heap.size, 4, none⟩ (.slice Ar L.length L.length)).setCell ⟨w.heap.size + 1, 0, none⟩ (.int .i64 k0)).setCell ⟨w.heap.size + 1, 1, none⟩ (.int .i64 i)).setCell ⟨w.heap.size + 1, 2, none⟩ (.int .i64 t)).setCell ⟨w.heap.size + 1, 3, none⟩ (.string s)).setCell ⟨w.heap.size + 1, 4, none⟩ (.slice Ar L.length L.length)) := ⟨_, rfl⟩
      rw [← hF] at PF HBF ⊢
      have hFk : ∀ p : Addr, p.block ≠ w.heap.size → p.block ≠ w.heap.size + 1 → F.cell? p = w4.cell? p := fun p h1 h2 => by
        rw [hF]
        repeat rw [World.cell?_setCell_other _ _ p _ (by intro e; subst e; first | exact h1 rfl | exact h2 rfl)]
      have hFs : F.heap.size = w4.heap.size := by rw [hF]; simp [World.setCell]
      have r0 := PF.cell 0
      have r1 := PF.cell 1
      have r2 := PF.cell 2
      have r3 := PF.cell 3
      have r4 := PF.cell 4
      refine bodyPost_ret (v := AV (.mk k0 i t s (M.map Prod.fst), .slice Ar L.length L.length)) (by simp [results, Tryz.results19, go_sem, r0, r1, r2, r3, r4, AV, Vl.kind, Vl.int_, Vl.to_, Vl.text]) rfl ⟨⟨Ar, L.length, L.length, rfl, ?_⟩, HBF⟩
      exact (HRX.out.keep (fun p hp => hFk p hp.2.2.1 hp.2.2.2)).weak fun b hb => ⟨hb.1, by rw [hFs]; exact hb.2.1⟩
/-- prop.CopyValue -/
theorem copyValue_any : ∀ (d : Nat) (x : Vl × Value) (w : World) (B : Nat), B ≤ w.heap.size → RVd w B d x.2 x.1.items →
    Calls Tryz.prog 19 #[AV x] w (CopyR x.1 w)
  | 0, x, w, B, hB, hx => by
    obtain ⟨A, n, c, M, h1, h2, h3, h4, h5, h6⟩ := hx.deeper
    have e : M = [] := by rw [← List.map_eq_nil_iff, h1]; exact hx.1
    exact copyVal_walk x M A n c w B hB h2 h1 h5 h3 h4.2 (fun z hz => (RV.slice ⟨_, h6 z hz⟩)) (fun z hz => by rw [e] at hz; cases hz)
  | d + 1, x, w, B, hB, ⟨A, n, c, M, h1, h2, h3, h4, h5, h6⟩ =>
    copyVal_walk x M A n c w B hB h2 h1 h5 h3 h4.2 (fun z hz => (RV.slice ⟨_, h6 z hz⟩)) (fun z hz W hW => copyValue_any d z W B (Nat.le_trans hB hW.size) ((h6 z hz).below (hW.mono hB)))
end Go.Proofs.YtbdcimakdiegnaaGreatDoor
namespace Go.Proofs.YtbdcimakdiegnaaGreatDoor
open Go.ChangeShapes Go.WideShapes Go.RowKit

theorem fm_len {α : Type} {en : α → List Value} {c : Nat} (h : ∀ x, (en x).length = c) : ∀ M : List α, (M.flatMap en).length = M.length * c
  | [] => by simp
  | x :: M => by rw [List.flatMap_cons, List.length_append, h, fm_len h M, List.length_cons, Nat.succ_mul]; omega
theorem choose_list {α : Type} {p : Nat → α → Prop} : ∀ (n : Nat), (∀ i, i < n → ∃ a, p i a) → ∃ l : List α, l.length = n ∧ ∀ i a, l[i]? = some a → p i a
  | 0, _ => ⟨[], rfl, by simp⟩
  | n + 1, h => by
    obtain ⟨l, hl, hp⟩ := choose_list n (fun i hi => h i (by omega))
    obtain ⟨a, ha⟩ := h n (by omega)
    refine ⟨l ++ [a], by simp [hl], fun i b hb => ?_⟩
    rcases Nat.lt_or_ge i n with hi | hi
    · rw [List.getElem?_append_left (by omega)] at hb
      exact hp i b hb
    · rw [List.getElem?_append_right (by omega)] at hb
      obtain rfl : i = n := by
        rcases Nat.lt_or_ge (i - l.length) 1 with h1 | h1
        · omega
        · rw [List.getElem?_eq_none (by simpa using h1)] at hb; cases hb
      rw [hl, Nat.sub_self] at hb
      simp at hb
      subst hb
      exact ha

section
variable {H : Type} {enc : TypeId × Value → H} {P : Program} {W : World}
/-- a slice that was read, row by row -/
theorem open_list {α : Type} {en : α → List Value} {C Y : Nat} {Q : Nat → α → Prop} {t e : TypeId} {fuel : Nat} {u : Value} {y : DataW H × List MemPlace} (ht : P.underlying t = some (.slice e)) (hC : P.cellsOf e = C) (hC0 : 0 < C) (hY : P.bytesOf e = Y) (hen : ∀ x, (en x).length = C)
    (hrow : ∀ (m : Nat) (cs : List Value) (z : DataW H × List MemPlace), m < fuel → DataW.trod enc P W 0 (fun _ => true) true m e cs = some z → (∀ x ∈ z.2, x.block < W.heap.size) → Fits P e z.1 → ∃ x, en x = cs ∧ Q m x)
    (h : DataW.trod enc P W 0 (fun _ => true) true fuel t [u] = some y) (hp : ∀ x ∈ y.2, x.block < W.heap.size) (hfit : Fits P t y.1) :
    ∃ A n c, ∃ M : List α, u = .slice A n c ∧ n = M.length ∧ (n ≤ c ∧ n * Y ≤ 140737488351232) ∧ Reads W W.heap.size C A n (M.flatMap en) ∧ ∀ x ∈ M, ∃ m, m < fuel ∧ Q m x := by
  rcases DataW.trod_slice ht h with ⟨hcs, hx⟩ | ⟨a, len, cap, elems, rest, m, rfl, hcs, rfl, _, hl, hcap, hel, hi, hsp, _⟩
  · obtain rfl : u = .slice none 0 0 := by simpa using hcs
    exact ⟨none, 0, 0, [], rfl, rfl, ⟨Nat.le_refl _, by omega⟩, ⟨by simp, fun h => absurd h (by omega)⟩, fun x hx => by cases hx⟩
  · obtain rfl : u = .slice (some a) len cap := by simpa using hcs
    rw [hC] at hi
    have hs := hfit.slice ht
    simp only [List.length_map] at hs
    rw [hel, hY] at hs
    have hs : len * Y ≤ 140737488351232 := Nat.le_trans (Nat.mul_le_mul_right _ (by omega)) hs
    obtain ⟨M, h1, h2⟩ := choose_list (p := fun i x => (∀ j w, (en x)[j]? = some w → W.cell? (a.add (i * C + j)) = some w) ∧ Q m x) len fun i hil => by
      have h1 := hi i hil
      rw [List.getElem?_eq_getElem (by omega)] at h1
      obtain ⟨cs, hc, htr⟩ := Option.bind_eq_some_iff.1 h1
      obtain ⟨_, hrl, hat⟩ := World.cells?_some hc
      obtain ⟨x, hx, hq⟩ := hrow m cs _ (Nat.lt_succ_self m) htr (fun z hz => hp z (List.mem_append_right _ (List.mem_flatMap.2 ⟨_, List.mem_append_left _ (List.getElem_mem _), hz⟩)))
        (hfit.elem ht (List.mem_map.2 ⟨_, List.getElem_mem _, rfl⟩))
      refine ⟨x, fun j w hj => ?_, hq⟩
      rw [hx] at hj
      have hjl : j < C := by rw [← hrl]; exact (List.getElem?_eq_some_iff.1 hj).1
      rw [← add_of_add, hat j hjl, hj]
    refine ⟨some a, len, cap, M, rfl, h1.symm, ⟨hl, hs⟩, ⟨by rw [fm_len hen, h1], fun hn => ⟨a, rfl, ?_, fun k w hk => ?_⟩⟩, fun x hx => ?_⟩
    · exact hp (.cell a.block a.off) (List.mem_append_left _ (MemPlace.mem_row.2 ⟨0, Nat.mul_pos (by omega) (by rw [hC]; exact hC0), by simp⟩))
    · have hkl := (List.getElem?_eq_some_iff.1 hk).1
      rw [fm_len hen] at hkl
      have hkk : k / C * C + k % C = k := by rw [Nat.mul_comm]; exact Nat.div_add_mod k C
      have hd : k / C < M.length := Nat.div_lt_of_lt_mul (by rw [Nat.mul_comm]; exact hkl)
      have hm := Nat.mod_lt k hC0
      obtain ⟨x, hx⟩ : ∃ x, M[k / C]? = some x := ⟨_, List.getElem?_eq_getElem hd⟩
      have h4 := fm_get en C hen M (k / C) (k % C) x hx hm
      rw [hkk, hk] at h4
      have h5 := (h2 _ x hx).1 (k % C) w h4.symm
      rw [hkk] at h5
      exact h5
    · obtain ⟨i, hi', rfl⟩ := List.mem_iff_getElem.1 hx
      exact ⟨m, Nat.lt_succ_self m, (h2 i _ (List.getElem?_eq_getElem hi')).2⟩
end

theorem cellsV : Tryz.prog.cellsOf 24 = 5 := by kernel_rfl
theorem cells_of_int : Tryz.prog.cellsOf 3 = 1 := by kernel_rfl
theorem cells_of_str : Tryz.prog.cellsOf 9 = 1 := by kernel_rfl
theorem cells_of_vals : Tryz.prog.cellsOf 22 = 1 := by kernel_rfl

section
variable {H : Type} {enc : TypeId × Value → H} {W : World}
set_option maxRecDepth 100000 in
theorem val_open : ∀ (fuel : Nat) (cs : List Value) (x : DataW H × List MemPlace),
    DataW.trod enc Tryz.prog W 0 (fun _ => true) true fuel 24 cs = some x → (∀ y ∈ x.2, y.block < W.heap.size) → Fits Tryz.prog 24 x.1 → ∃ v : Vl × Value, vlV v = cs ∧ RVd W W.heap.size fuel v.2 v.1.items := by
  intro fuel
  induction fuel using Nat.strongRecOn with
  | _ fuel ih =>
    intro cs x h hp hfit
    obtain ⟨xs, n, rfl, rfl, hlen, hxl, hf⟩ := DataW.trod_struct Tryz.underlying24 h
    rw [cellsV] at hlen
    match cs, hlen with
    | [u0, u1, u2, u3, u4], _ =>
      match xs, hxl with
      | [y0, y1, y2, y3, y4], _ =>
        have g0 : DataW.trod enc Tryz.prog W 0 (fun _ => true) true n 3 (([u0, u1, u2, u3, u4].drop 0).take (Tryz.prog.cellsOf 3)) = some y0 := hf 0 _ rfl
        have g1 : DataW.trod enc Tryz.prog W 0 (fun _ => true) true n 3 (([u0, u1, u2, u3, u4].drop 1).take (Tryz.prog.cellsOf 3)) = some y1 := hf 1 _ rfl
        have g2 : DataW.trod enc Tryz.prog W 0 (fun _ => true) true n 3 (([u0, u1, u2, u3, u4].drop 2).take (Tryz.prog.cellsOf 3)) = some y2 := hf 2 _ rfl
        have g3 : DataW.trod enc Tryz.prog W 0 (fun _ => true) true n 9 (([u0, u1, u2, u3, u4].drop 3).take (Tryz.prog.cellsOf 9)) = some y3 := hf 3 _ rfl
        have g4 : DataW.trod enc Tryz.prog W 0 (fun _ => true) true n 22 (([u0, u1, u2, u3, u4].drop 4).take (Tryz.prog.cellsOf 22)) = some y4 := hf 4 _ rfl
        rw [cells_of_int] at g0 g1 g2
        rw [cells_of_str] at g3
        rw [cells_of_vals] at g4
        change DataW.trod enc Tryz.prog W 0 (fun _ => true) true n 3 [u0] = some y0 at g0
        change DataW.trod enc Tryz.prog W 0 (fun _ => true) true n 3 [u1] = some y1 at g1
        change DataW.trod enc Tryz.prog W 0 (fun _ => true) true n 3 [u2] = some y2 at g2
        change DataW.trod enc Tryz.prog W 0 (fun _ => true) true n 9 [u3] = some y3 at g3
        change DataW.trod enc Tryz.prog W 0 (fun _ => true) true n 22 [u4] = some y4 at g4
        obtain ⟨k, e0, rfl, _⟩ := DataW.trod_int Tryz.underlying3 g0
        obtain ⟨i, e1, rfl, _⟩ := DataW.trod_int Tryz.underlying3 g1
        obtain ⟨t, e2, rfl, _⟩ := DataW.trod_int Tryz.underlying3 g2
        obtain ⟨s, e3, rfl, _⟩ := DataW.trod_string Tryz.underlying9 g3
        simp at e0 e1 e2 e3
        subst e0 e1 e2 e3
        have hfit4 : Fits Tryz.prog 22 y4.1 := hfit.part Tryz.underlying24 (j := 4) rfl rfl
        have hp4 : ∀ y ∈ y4.2, y.block < W.heap.size := fun y hy => hp y (by simp [hy])
        obtain ⟨A, len, cap, M, rfl, h1, h2, h3, h4⟩ := open_list (en := vlV) (Q := fun m x => RVd W W.heap.size m x.2 x.1.items) Tryz.underlying22 cellsV (by omega) (show _ = 64 by kernel_rfl) vlV_len
          (fun m cs z hm htr hz hft => ih m (by omega) cs z htr hz hft) g4 hp4 hfit4
        exact ⟨(.mk k i t s (M.map Prod.fst), .slice A len cap), rfl, A, len, cap, M, rfl, rfl, h1, h2, h3, fun x hx => by
          obtain ⟨m, hm, hq⟩ := h4 x hx
          exact hq.up (by omega)⟩

end
end Go.Proofs.YtbdcimakdiegnaaGreatDoor
