/-
  DERIVED. The walk of prop.CheckValue. Conditions: sizes.
  A base in a row of the call's own that is turned in place: what its blocks lead to lies elsewhere. Conditions: none.
  Slices of ints: the walk of Clip, what Clone says. Conditions: sizes.
  A base in a row of the call's own whose nested memory lies in blocks of a sort. Conditions: none.
  The reference's walks of Edited and EditError. Conditions: lengths in reach.
  By an AI agent.
-/
import Derived.Test.YtmkicfjcgbfaaaaGreatTg09
import Derived.Test.YtmkicfjcgbfaaaaGreatTg04
import Derived.Laws.IdiomCopy
import Derived.Laws.CopyRow
import Derived.Laws.Tables
import Derived.Test.YtmkicfjcgbfaaaaGreatTg01
import Derived.Test.YtmkicfjcgbfaaaaGreatChecked
import Derived.Deep.DeepCutAuto
import Derived.Test.YtmkicfjcgbfaaaaGreatTg06
namespace Go.Proofs.YtmkicfjcgbfaaaaGreat
open Go.RowKit

mutual
/-- the error of a value -/
def vErr : Vl → Int
  | .mk k i t s l => if outI k 0 7 = true then 10 else if ufB (.mk k i t s l) = false then 1 else if nuErr k i t ≠ 0 then nuErr k i t else if ttErr (k == 6) s ≠ 0 then ttErr (k == 6) s else if 20 < l.length then 4 else itErr l
/-- the error of a list's items -/
def itErr : List Vl → Int
  | [] => 0
  | x :: l => if (x.kind == 0) = true then 10 else if (x.kind == 7) = true then 10 else if vErr x ≠ 0 then vErr x else itErr l
end
theorem vErr_eq (x : Vl) : vErr x = if outI x.kind 0 7 = true then 10 else if ufB x = false then 1 else if nuErr x.kind x.int_ x.to_ ≠ 0 then nuErr x.kind x.int_ x.to_ else if ttErr (x.kind == 6) x.text ≠ 0 then ttErr (x.kind == 6) x.text else if 20 < x.items.length then 4 else itErr x.items := by
  cases x; rw [vErr]; rfl
theorem vErr_out {x : Vl} (h : outI x.kind 0 7 = true) : vErr x = 10 := by rw [vErr_eq, if_pos h]
theorem vErr_form {x : Vl} (h : outI x.kind 0 7 = false) (h1 : ufB x = false) : vErr x = 1 := by
  rw [vErr_eq, if_neg (by rw [h]; decide), if_pos h1]
theorem vErr_num {x : Vl} (h : outI x.kind 0 7 = false) (h1 : ufB x = true) (h2 : nuErr x.kind x.int_ x.to_ ≠ 0) : vErr x = nuErr x.kind x.int_ x.to_ := by
  rw [vErr_eq, if_neg (by rw [h]; decide), if_neg (by rw [h1]; decide), if_pos h2]
theorem vErr_text {x : Vl} (h : outI x.kind 0 7 = false) (h1 : ufB x = true) (h2 : nuErr x.kind x.int_ x.to_ = 0) (h3 : ttErr (x.kind == 6) x.text ≠ 0) : vErr x = ttErr (x.kind == 6) x.text := by
  rw [vErr_eq, if_neg (by rw [h]; decide), if_neg (by rw [h1]; decide), if_neg (fun e => e h2), if_pos h3]
theorem vErr_large {x : Vl} (h : outI x.kind 0 7 = false) (h1 : ufB x = true) (h2 : nuErr x.kind x.int_ x.to_ = 0) (h3 : ttErr (x.kind == 6) x.text = 0) (h4 : 20 < x.items.length) : vErr x = 4 := by
  rw [vErr_eq, if_neg (by rw [h]; decide), if_neg (by rw [h1]; decide), if_neg (fun e => e h2), if_neg (fun e => e h3), if_pos h4]
theorem vErr_items {x : Vl} (h : outI x.kind 0 7 = false) (h1 : ufB x = true) (h2 : nuErr x.kind x.int_ x.to_ = 0) (h3 : ttErr (x.kind == 6) x.text = 0) (h4 : ¬ 20 < x.items.length) : vErr x = itErr x.items := by
  rw [vErr_eq, if_neg (by rw [h]; decide), if_neg (by rw [h1]; decide), if_neg (fun e => e h2), if_neg (fun e => e h3), if_neg h4]
theorem itErr_at {M : List Vl} {k : Nat} {x : Vl} (h : M[k]? = some x) : itErr (M.drop k) = if (x.kind == 0) = true then 10 else if (x.kind == 7) = true then 10 else if vErr x ≠ 0 then vErr x else itErr (M.drop (k + 1)) := by
  obtain ⟨hk, e⟩ := List.getElem?_eq_some_iff.1 h
  rw [List.drop_eq_getElem_cons hk, itErr, e]

set_option maxHeartbeats 4000000 in
theorem checkVal_walk (x : Vl × Value) (M : List (Vl × Value)) (A : Option Addr) (n c : Nat) (w : World) (B : Nat) (hB : B ≤ w.heap.size) (hx : x.2 = .slice A n c) (hl : M.map Prod.fst = x.1.items) (h1 : Reads w B 5 A n (M.flatMap vlV)) (hn : n = M.length)
    (hs1 : ∀ x ∈ M, ∃ A n c, x.2 = .slice A n c)
    (hcl : ∀ x ∈ M, ∀ W, Below w.heap.size w W → Calls Tryz.prog 81 #[AV x] W fun e w' => e = .returned (.int .i64 (vErr x.1)) ∧ Below W.heap.size W w') :
    Calls Tryz.prog 81 #[AV x] w fun e w' => e = .returned (.int .i64 (vErr x.1)) ∧ Below w.heap.size w w' := by
  have hln : n = x.1.items.length := by rw [hn, ← hl, List.length_map]
  have HO : Hid (∀ n a b W, Calls Tryz.prog 137 #[.int .i64 n, .int .i64 a, .int .i64 b] W fun e w' => e = .returned (.bool (outI n a b)) ∧ w' = W) := fun n a b W => outsideP_any n a b W
  have HU : Hid (∀ W, Calls Tryz.prog 138 #[AV x] W fun e w' => e = .returned (.bool (ufB x.1)) ∧ Below W.heap.size W w') := fun W => by
    obtain ⟨x, v⟩ := x
    obtain rfl : v = _ := hx
    exact usesForm_any x A n c W hln
  have HNU : Hid (∀ W, Calls Tryz.prog 139 #[AV x] W fun e w' => e = .returned (.int .i64 (nuErr x.1.kind x.1.int_ x.1.to_)) ∧ Below W.heap.size W w') := fun W => checkNumbers_any x W
  have HTT : Hid (∀ W, Calls Tryz.prog 140 #[AV x] W fun e w' => e = .returned (.int .i64 (ttErr (x.1.kind == 6) x.1.text)) ∧ Below W.heap.size W w') := fun W => checkTextP_any x W ⟨A, n, c, hx⟩
  have V1 : Hid (outI x.1.kind 0 7 = true → vErr x.1 = 10) := vErr_out
  have V2 : Hid (outI x.1.kind 0 7 = false → ufB x.1 = false → vErr x.1 = 1) := vErr_form
  have V3 : Hid (outI x.1.kind 0 7 = false → ufB x.1 = true → nuErr x.1.kind x.1.int_ x.1.to_ ≠ 0 → vErr x.1 = nuErr x.1.kind x.1.int_ x.1.to_) := vErr_num
  have V4 : Hid (outI x.1.kind 0 7 = false → ufB x.1 = true → nuErr x.1.kind x.1.int_ x.1.to_ = 0 → ttErr (x.1.kind == 6) x.1.text ≠ 0 → vErr x.1 = ttErr (x.1.kind == 6) x.1.text) := vErr_text
  have V5 : Hid (outI x.1.kind 0 7 = false → ufB x.1 = true → nuErr x.1.kind x.1.int_ x.1.to_ = 0 → ttErr (x.1.kind == 6) x.1.text = 0 → 20 < n → vErr x.1 = 4) := fun a b c d e => vErr_large a b c d (by omega)
  have V6 : Hid (outI x.1.kind 0 7 = false → ufB x.1 = true → nuErr x.1.kind x.1.int_ x.1.to_ = 0 → ttErr (x.1.kind == 6) x.1.text = 0 → ¬ 20 < n → vErr x.1 = itErr (M.map Prod.fst)) := fun a b c d e => (vErr_items a b c d (by omega)).trans (by rw [hl])
  obtain ⟨V, hV⟩ : ∃ V, V = vErr x.1 := ⟨_, rfl⟩
  obtain ⟨o, ho⟩ : ∃ o, o = outI x.1.kind 0 7 := ⟨_, rfl⟩
  obtain ⟨u, hu⟩ : ∃ u, u = ufB x.1 := ⟨_, rfl⟩
  obtain ⟨nu, hnu⟩ : ∃ u, u = nuErr x.1.kind x.1.int_ x.1.to_ := ⟨_, rfl⟩
  obtain ⟨tt, htt⟩ : ∃ u, u = ttErr (x.1.kind == 6) x.1.text := ⟨_, rfl⟩
  simp only [← hu] at HU V2 V3 V4 V5 V6
  simp only [← ho] at V1 V2 V3 V4 V5 V6
  simp only [← hnu] at HNU V3 V4 V5 V6
  simp only [← htt] at HTT V4 V5 V6
  rw [← hV] at V1 V2 V3 V4 V5 V6 ⊢
  have HO1 : Hid (∀ W, Calls Tryz.prog 137 #[.int .i64 x.1.kind, .int .i64 0, .int .i64 7] W fun e w' => e = .returned (.bool o) ∧ w' = W) := fun W => by rw [ho]; exact HO.out _ _ _ W
  clear hV ho hu hnu htt
  obtain ⟨⟨k, i, t, s, l⟩, v⟩ := x
  obtain rfl : v = _ := hx
  obtain rfl : _ = l := hl
  have H1 := Lib.hid h1
  have HN := Lib.hid hn
  have HC := Lib.hid hcl
  have S1 := Lib.hid hs1
  clear h1 hn hcl hs1 hln HO
  dsimp only [AV, Vl.kind, Vl.int_, Vl.to_, Vl.text] at HU HNU HTT HO1 ⊢
  cases o
  case true =>
    have hv := V1.out rfl
    rw [hv]
    clear hv
    go_enter Tryz.func81, Tryz.ntmps81
    go_wp2_with fail
    refine (HO1.out _).mono ?_
    rintro e w1 ⟨rfl, rfl⟩
    go_wp2_with fail
    go_ret
    exact ⟨rfl, (Below.refl _ _).alloc (Nat.le_refl _) _⟩
  cases u
  case false =>
    have hv := V2.out rfl rfl
    rw [hv]
    clear hv
    go_enter Tryz.func81, Tryz.ntmps81
    go_wp2_with fail
    refine (HO1.out _).mono ?_
    rintro e w1 ⟨rfl, rfl⟩
    go_wp2_with fail
    refine (HU.out _).mono ?_
    rintro e w1 ⟨rfl, hb⟩
    have HB := Lib.hid hb
    clear hb
    go_wp2_with fail
    go_ret
    exact ⟨rfl, ((Below.refl _ _).alloc (Nat.le_refl _) _).trans (HB.out.mono (by simp))⟩
  by_cases hnz : nu = 0
  case neg =>
    have hv := V3.out rfl rfl hnz
    rw [hv]
    clear hv
    have hnz' : (nu != 0) = true := by simpa using hnz
    clear hnz
    go_enter Tryz.func81, Tryz.ntmps81
    go_wp2_with fail
    refine (HO1.out _).mono ?_
    rintro e w1 ⟨rfl, rfl⟩
    go_wp2_with fail
    refine (HU.out _).mono ?_
    rintro e w1 ⟨rfl, hb⟩
    have hc := fun i => hb.cell (p := ⟨w.heap.size, i, none⟩) (by simp)
    have HB : Hid (Below w.heap.size w w1) := ((Below.refl _ _).alloc (Nat.le_refl _) _).trans (hb.mono (by simp))
    clear hb
    go_wp2_with fail
    refine (HNU.out _).mono ?_
    rintro e w2 ⟨rfl, hb⟩
    have HB2 : Hid (Below w.heap.size w w2) := HB.out.trans (hb.mono HB.out.size)
    clear hb
    go_wp2_with fail
    go_ret
    exact ⟨rfl, HB2.out⟩
  case pos =>
  subst hnz
  by_cases htz : tt = 0
  case neg =>
    have hv := V4.out rfl rfl rfl htz
    rw [hv]
    clear hv
    have htz' : (tt != 0) = true := by simpa using htz
    clear htz
    go_enter Tryz.func81, Tryz.ntmps81
    go_wp2_with fail
    refine (HO1.out _).mono ?_
    rintro e w1 ⟨rfl, rfl⟩
    go_wp2_with fail
    refine (HU.out _).mono ?_
    rintro e w1 ⟨rfl, hb⟩
    have hc := fun i => hb.cell (p := ⟨w.heap.size, i, none⟩) (by simp)
    have HB : Hid (Below w.heap.size w w1) := ((Below.refl _ _).alloc (Nat.le_refl _) _).trans (hb.mono (by simp))
    have hz1 : w.heap.size < w1.heap.size := by have := hb.size; simp at this; omega
    clear hb
    go_wp2_with fail
    refine (HNU.out _).mono ?_
    rintro e w2 ⟨rfl, hb⟩
    have hc2 := fun i => hb.cell (p := ⟨w.heap.size, i, none⟩) hz1
    have HB2 : Hid (Below w.heap.size w w2) := HB.out.trans (hb.mono HB.out.size)
    clear hb
    go_wp2_with fail
    refine (HTT.out _).mono ?_
    rintro e w3 ⟨rfl, hb⟩
    have HB3 : Hid (Below w.heap.size w w3) := HB2.out.trans (hb.mono HB2.out.size)
    clear hb
    go_wp2_with fail
    go_ret
    exact ⟨rfl, HB3.out⟩
  case pos =>
  subst htz
  by_cases hbig : 20 < n
  case pos =>
    have hv := V5.out rfl rfl rfl rfl hbig
    rw [hv]
    clear hv
    have hbig' : (20 : Int) < (n : Int) := by omega
    go_enter Tryz.func81, Tryz.ntmps81
    go_wp2_with fail
    refine (HO1.out _).mono ?_
    rintro e w1 ⟨rfl, rfl⟩
    go_wp2_with fail
    refine (HU.out _).mono ?_
    rintro e w1 ⟨rfl, hb⟩
    have hc := fun i => hb.cell (p := ⟨w.heap.size, i, none⟩) (by simp)
    have HB : Hid (Below w.heap.size w w1) := ((Below.refl _ _).alloc (Nat.le_refl _) _).trans (hb.mono (by simp))
    have hz1 : w.heap.size < w1.heap.size := by have := hb.size; simp at this; omega
    clear hb
    go_wp2_with fail
    refine (HNU.out _).mono ?_
    rintro e w2 ⟨rfl, hb⟩
    have hc2 := fun i => hb.cell (p := ⟨w.heap.size, i, none⟩) hz1
    have HB2 : Hid (Below w.heap.size w w2) := HB.out.trans (hb.mono HB.out.size)
    have hz2 : w.heap.size < w2.heap.size := by have := hb.size; omega
    clear hb
    go_wp2_with fail
    refine (HTT.out _).mono ?_
    rintro e w3 ⟨rfl, hb⟩
    have hc3 := fun i => hb.cell (p := ⟨w.heap.size, i, none⟩) hz2
    have HB3 : Hid (Below w.heap.size w w3) := HB2.out.trans (hb.mono HB2.out.size)
    clear hb
    go_wp2_with fail
    go_ret
    exact ⟨rfl, HB3.out⟩
  case neg =>
  have hbig' : ¬ (20 : Int) < (n : Int) := by omega
  have hv := V6.out rfl rfl rfl rfl hbig
  have HV := Lib.hid hv
  clear hv
  go_enter Tryz.func81, Tryz.ntmps81
  go_wp2_with fail
  refine (HO1.out _).mono ?_
  rintro e w1 ⟨rfl, rfl⟩
  go_wp2_with fail
  refine (HU.out _).mono ?_
  rintro e w1 ⟨rfl, hb⟩
  have hc := fun i => hb.cell (p := ⟨w.heap.size, i, none⟩) (by simp)
  have HB : Hid (Below w.heap.size w w1) := ((Below.refl _ _).alloc (Nat.le_refl _) _).trans (hb.mono (by simp))
  have hz1 : w.heap.size < w1.heap.size := by have := hb.size; simp at this; omega
  clear hb
  go_wp2_with fail
  refine (HNU.out _).mono ?_
  rintro e w2 ⟨rfl, hb⟩
  have hc2 := fun i => hb.cell (p := ⟨w.heap.size, i, none⟩) hz1
  have HB2 : Hid (Below w.heap.size w w2) := HB.out.trans (hb.mono HB.out.size)
  have hz2 : w.heap.size < w2.heap.size := by have := hb.size; omega
  clear hb
  go_wp2_with fail
  refine (HTT.out _).mono ?_
  rintro e w3 ⟨rfl, hb⟩
  have hc3 := fun i => hb.cell (p := ⟨w.heap.size, i, none⟩) hz2
  have HB3 : Hid (Below w.heap.size w w3) := HB2.out.trans (hb.mono HB2.out.size)
  clear hb
  go_wp2_with fail
  go_loopg [31] n (fun gg s31 wr => ∃ k : Nat, k + gg = n ∧ s31 = .int .i64 (k : Int) ∧ Hid (V = itErr ((M.map Prod.fst).drop k)) ∧ Hid (Below w.heap.size w wr))
  case atStart => exact ⟨0, by omega, rfl, HV, HB3⟩
  case round =>
    obtain ⟨k, hkg, rfl, hno, hbel⟩ := hrel
    by_cases hk : k < n
    · obtain ⟨x, hx⟩ : ∃ x, M[k]? = some x := ⟨_, List.getElem?_eq_getElem (by have := HN.out; omega)⟩
      obtain ⟨b, off, rfl, hbb, hc⟩ := H1.out.plain_at (by omega) vlV_len HN.out hx
      have HX : Hid (∀ W, Below wr.heap.size wr W → Calls _ _ #[AV x] W _) := fun W hW => HC.out x (List.mem_of_getElem? hx) W (hbel.out.trans (hW.mono hbel.out.size))
      have hst := hno.out.trans (itErr_at (k := k) (x := x.1) (by rw [List.getElem?_map, hx]; rfl))
      obtain ⟨e0, he0⟩ : ∃ q, (x.1.kind == 0) = q := ⟨_, rfl⟩
      obtain ⟨e7, he7⟩ : ∃ q, (x.1.kind == 7) = q := ⟨_, rfl⟩
      rw [he0, he7] at hst
      obtain ⟨⟨kx, ix, tx, sx, lx⟩, vx⟩ := x
      obtain ⟨Ax, nx, cx, rfl⟩ := S1.out _ (List.mem_of_getElem? hx)
      have g0 := (hbel.out.cell (p := ⟨b, off + k * 5, none⟩) (by show b < _; omega)).trans (hc 0 _ rfl)
      have g1 := (hbel.out.cell (p := ⟨b, off + k * 5 + 1, none⟩) (by show b < _; omega)).trans (hc 1 _ rfl)
      have g2 := (hbel.out.cell (p := ⟨b, off + k * 5 + 2, none⟩) (by show b < _; omega)).trans (hc 2 _ rfl)
      have g3 := (hbel.out.cell (p := ⟨b, off + k * 5 + 3, none⟩) (by show b < _; omega)).trans (hc 3 _ rfl)
      have g4 := (hbel.out.cell (p := ⟨b, off + k * 5 + 4, none⟩) (by show b < _; omega)).trans (hc 4 _ rfl)
      have j0 : (0 : Int) ≤ (k : Int) := by omega
      have j1 : (k : Int) < (n : Int) := by omega
      clear hx hc
      dsimp only [AV, Vl.kind, Vl.int_, Vl.to_, Vl.text] at HX g0 g1 g2 g3 he0 he7
      obtain ⟨vk, hvk⟩ : ∃ v, v = vErr (Vl.mk kx ix tx sx lx) := ⟨_, rfl⟩
      rw [← hvk] at hst
      simp only [← hvk] at HX
      clear hvk
      cases e0
      case true =>
        have HV := Lib.hid (hst.trans (if_pos rfl))
        clear hst
        go_wp2_with fail
        go_ret
        exact ⟨by rw [HV.out]; rfl, hbel.out.alloc hbel.out.size _⟩
      cases e7
      case true =>
        have HV := Lib.hid (hst.trans ((if_neg (by decide)).trans (if_pos rfl)))
        clear hst
        go_wp2_with fail
        go_ret
        exact ⟨by rw [HV.out]; rfl, hbel.out.alloc hbel.out.size _⟩
      have hst := hst.trans ((if_neg (by decide)).trans (if_neg (by decide)))
      have hal : Below wr.heap.size wr (wr.alloc (.cells #[.int .i64 kx, .int .i64 ix, .int .i64 tx, .string sx, .slice Ax nx cx] 29)) := (Below.refl _ _).alloc (Nat.le_refl _) _
      by_cases hz : vk = 0
      · have HV := Lib.hid (hst.trans (if_neg (fun e => e hz)))
        subst hz
        have HX' := Lib.hid (HX.out _ hal)
        have HBA := Lib.hid (hbel.out.trans (hal.mono hbel.out.size))
        clear hst hal
        go_wp2_with fail
        refine HX'.out.mono ?_
        rintro e w5 ⟨rfl, hb⟩
        have HB5 : Hid (Below w.heap.size w w5) := HBA.out.trans (hb.mono HBA.out.size)
        clear hb
        go_wp2_with fail
        go_roundg (n - (k + 1))
        case measure => omega
        case rel => exact ⟨k + 1, by omega, by go_num, HV, HB5⟩
      · have HV := Lib.hid (hst.trans (if_pos hz))
        have hz' : (vk != 0) = true := by simpa using hz
        have HX' := Lib.hid (HX.out _ hal)
        have HBA := Lib.hid (hbel.out.trans (hal.mono hbel.out.size))
        clear hst hal hz
        go_wp2_with fail
        refine HX'.out.mono ?_
        rintro e w5 ⟨rfl, hb⟩
        have HB5 : Hid (Below w.heap.size w w5) := HBA.out.trans (hb.mono HBA.out.size)
        clear hb
        go_wp2_with fail
        go_ret
        exact ⟨by rw [HV.out]; rfl, HB5.out⟩
    · obtain rfl : k = n := by omega
      have hz : V = 0 := hno.out.trans (by rw [List.drop_of_length_le (by rw [List.length_map, ← HN.out]; exact Nat.le_refl _), itErr])
      have HZ := Lib.hid hz
      clear hz
      go_wp2_with fail
      go_ret
      exact ⟨by rw [HZ.out]; rfl, hbel.out⟩
/-- prop.CheckValue -/
theorem checkValue_any : ∀ (d : Nat) (x : Vl × Value) (w : World) (B : Nat), B ≤ w.heap.size → RVd w B d x.2 x.1.items →
    Calls Tryz.prog 81 #[AV x] w fun e w' => e = .returned (.int .i64 (vErr x.1)) ∧ Below w.heap.size w w'
  | 0, x, w, B, hB, hx => by
    obtain ⟨A, n, c, M, h1, h2, h3, h4, h5, h6⟩ := hx.deeper
    have e : M = [] := by rw [← List.map_eq_nil_iff, h1]; exact hx.1
    exact checkVal_walk x M A n c w B hB h2 h1 h5 h3 (fun z hz => (RV.slice ⟨_, h6 z hz⟩)) (fun z hz => by rw [e] at hz; cases hz)
  | d + 1, x, w, B, hB, ⟨A, n, c, M, h1, h2, h3, h4, h5, h6⟩ =>
    checkVal_walk x M A n c w B hB h2 h1 h5 h3 (fun z hz => (RV.slice ⟨_, h6 z hz⟩)) (fun z hz W hW => checkValue_any d z W B (Nat.le_trans hB hW.size) ((h6 z hz).below (hW.mono hB)))
end Go.Proofs.YtmkicfjcgbfaaaaGreat
namespace Go.Proofs.YtmkicfjcgbfaaaaGreat
open Go.RowKit

def bZ : Value := .agg #[.int .i64 0, .int .i64 0, .slice none 0 0, .string ⟨#[]⟩, .slice none 0 0]
theorem block_info : (Tryz.prog.info? 38).map (fun i => (i.zero, i.size, i.bytes)) = some (some bZ, 5, 80) := by kernel_rfl
abbrev BK := Bl × Value × Value
/-- blocks in block g, with room for cap -/
structure RowB (w : World) (g cap : Nat) (M : List BK) : Prop where
  row : ∃ sp : List Value, Blk w g 38 (M.flatMap blV ++ sp).toArray ∧ M.length * 5 + sp.length = cap * 5
  room : cap ≤ maxLen
  few : M.length ≤ 100000
  nest : ∀ x ∈ M, NB w (fun b => b < w.heap.size ∧ b ≠ g) x
theorem fmB_len (M : List BK) : (M.flatMap blV).length = M.length * 5 := by
  induction M with
  | nil => rfl
  | cons a M ih => rw [List.flatMap_cons, List.length_append, ih, List.length_cons, blV_len]; omega
theorem szB (M : List BK) (sp : List Value) : (M.flatMap blV ++ sp).toArray.size = M.length * 5 + sp.length := by rw [List.size_toArray, List.length_append, fmB_len]
theorem fmB_set : ∀ (M : List BK) (k j : Nat) (x y : BK) (u : Value), M[k]? = some x → j < 5 → blV y = (blV x).set j u → (M.flatMap blV).set (k * 5 + j) u = (M.set k y).flatMap blV
  | [], k, j, x, y, u, h, _, _ => by simp at h
  | a :: M, 0, j, x, y, u, h, hj, e => by
    obtain rfl : a = x := by simpa using h
    rw [List.set_cons_zero, List.flatMap_cons, List.flatMap_cons, Nat.zero_mul, Nat.zero_add, List.set_append_left _ _ (by rw [blV_len]; exact hj), e]
  | a :: M, k + 1, j, x, y, u, h, hj, e => by
    rw [List.set_cons_succ, List.flatMap_cons, List.flatMap_cons, List.set_append_right _ _ (by rw [blV_len]; omega), blV_len, show (k + 1) * 5 + j - 5 = k * 5 + j by omega, fmB_set M k j x y u (by simpa using h) hj e]
section
variable {w w' : World} {g cap : Nat} {M : List BK}
theorem RowB.lt (h : RowB w g cap M) : g < w.heap.size := by
  obtain ⟨sp, h1, _⟩ := h.row
  exact h1.lt
theorem RowB.len (h : RowB w g cap M) : M.length ≤ cap := by
  obtain ⟨sp, _, h2⟩ := h.row
  omega
theorem RowB.below (h : RowB w g cap M) (hb : Below w.heap.size w w') : RowB w' g cap M := by
  obtain ⟨sp, h1, h2⟩ := h.row
  exact ⟨⟨sp, h1.below hb h1.lt, h2⟩, h.room, h.few, fun x hx => NB_ok _ _ _ _ x (h.nest x hx) (fun p hp => hb.cell hp.1) fun b hb' => ⟨Nat.lt_of_lt_of_le hb'.1 hb.size, hb'.2⟩⟩
theorem RowB.frozen (h : RowB w g cap M) (i : Nat) : w.frozen? ⟨g, i, none⟩ = false := by
  obtain ⟨sp, h1, _⟩ := h.row
  exact h1.frozen i
theorem RowB.cells (h : RowB w g cap M) {j : Nat} {u : Value} (hu : (M.flatMap blV)[j]? = some u) : w.cell? ⟨g, j, none⟩ = some u := by
  obtain ⟨sp, h1, h2⟩ := h.row
  have hj := (List.getElem?_eq_some_iff.1 hu).1
  rw [h1.cell, List.getElem?_toArray, List.getElem?_append_left hj, hu]
theorem RowB.cell (h : RowB w g cap M) {k : Nat} {x : BK} (hx : M[k]? = some x) {i : Nat} {u : Value} (hu : (blV x)[i]? = some u) : w.cell? ⟨g, k * 5 + i, none⟩ = some u := by
  refine h.cells ?_
  have hi := (List.getElem?_eq_some_iff.1 hu).1
  rw [blV_len] at hi
  rw [fm_get blV 5 blV_len M k i x hx hi, hu]
theorem RowB.reads (h : RowB w g cap M) : Reads w w.heap.size 5 (some ⟨g, 0, none⟩) M.length (M.flatMap blV) :=
  ⟨fmB_len M, fun _ => ⟨_, rfl, h.lt, fun j u hu => by rw [Addr.add_lit, Nat.zero_add]; exact h.cells hu⟩⟩
/-- read as a base -/
theorem RowB.rb (h : RowB w g cap M) : RB w w.heap.size (.slice (some ⟨g, 0, none⟩) M.length cap) (M.map Prod.fst) :=
  ⟨_, _, _, M, rfl, rfl, rfl, ⟨h.len, by have := h.few; omega⟩, h.reads, fun x hx => ⟨(h.nest x hx).1.reads fun b hb => hb.1, (h.nest x hx).2.reads fun b hb => hb.1⟩⟩
/-- a field is stored -/
theorem RowB.store (h : RowB w g cap M) {k j : Nat} {x y : BK} {u : Value} (hx : M[k]? = some x) (hj : j < 5) (he : blV y = (blV x).set j u) (hn : NB w (fun b => b < w.heap.size ∧ b ≠ g) y) : RowB (w.setCell ⟨g, k * 5 + j, none⟩ u) g cap (M.set k y) := by
  obtain ⟨sp, h1, h2⟩ := h.row
  have hk := (List.getElem?_eq_some_iff.1 hx).1
  have hsz : (w.setCell ⟨g, k * 5 + j, none⟩ u).heap.size = w.heap.size := by simp [World.setCell]
  have hkeep : ∀ p : Addr, p.block < w.heap.size ∧ p.block ≠ g → (w.setCell ⟨g, k * 5 + j, none⟩ u).cell? p = w.cell? p := fun p hp => World.cell?_setCell_other _ _ p _ (by intro e; subst e; exact hp.2 rfl)
  refine ⟨⟨sp, ?_, by rw [List.length_set]; exact h2⟩, h.room, by rw [List.length_set]; exact h.few, fun z hz => ?_⟩
  · have := h1.set_ (k * 5 + j) u
    rw [List.setIfInBounds_toArray, List.set_append_left _ _ (by rw [fmB_len]; omega), fmB_set M k j x y u hx hj he] at this
    exact this
  · rw [hsz]
    rcases List.mem_or_eq_of_mem_set hz with hz | rfl
    · exact NB_ok _ _ _ _ z (h.nest z hz) hkeep fun b hb => hb
    · exact NB_ok _ _ _ _ z hn hkeep fun b hb => hb
/-- a whole row anew -/
theorem RowB.setRow (h : RowB w g cap M) {M' : List BK} {sp : List Value} (hl : M'.length * 5 + sp.length = cap * 5) (hf : M'.length ≤ 100000) (hn : ∀ x ∈ M', NB w (fun b => b < w.heap.size ∧ b ≠ g) x) : RowB (w.setRow g (M'.flatMap blV ++ sp).toArray) g cap M' := by
  obtain ⟨sp0, h1, h2⟩ := h.row
  have hkeep : ∀ p : Addr, p.block < w.heap.size ∧ p.block ≠ g → (w.setRow g (M'.flatMap blV ++ sp).toArray).cell? p = w.cell? p := fun p hp => cell_setRow_other _ _ _ _ hp.2
  exact ⟨⟨sp, setRow_heap w g _ _ _ _ h1, hl⟩, h.room, hf, fun x hx => by rw [setRow_size]; exact NB_ok _ _ _ _ x (hn x hx) hkeep fun b hb => hb⟩
/-- a row of the call's own, as the append's law has it -/
theorem RowB.own (h : RowB w g cap M) {base : Nat} (hb : base ≤ g) : w.ownsRow base 38 5 (.slice (some ⟨g, 0, none⟩) M.length cap) M.length (M.flatMap blV) := by
  obtain ⟨sp, h1, h2⟩ := h.row
  refine ⟨fmB_len M, .inr ⟨g, cap, _, rfl, hb, h1, h.len, h.room, by rw [szB, h2], ?_⟩⟩
  rw [List.toList_toArray, List.take_append_of_le_length (by rw [fmB_len]; exact Nat.le_refl _), List.take_of_length_le (by rw [fmB_len]; exact Nat.le_refl _)]
theorem RowB.of_own {base : Nat} {v : Value} (h : w.ownsRow base 38 5 v M.length (M.flatMap blV)) (h0 : 0 < M.length) (hf : M.length ≤ 100000) (hn : ∀ x ∈ M, NB w (fun b => b < w.heap.size ∧ v.ownBlock ≠ some b) x) : ∃ g cap, v = .slice (some ⟨g, 0, none⟩) M.length cap ∧ base ≤ g ∧ RowB w g cap M := by
  rcases h.2 with ⟨_, h1⟩ | ⟨g, cap, cur, rfl, hb, hh, hl, hm, hs, ht⟩
  · omega
  · refine ⟨g, cap, rfl, hb, ⟨⟨cur.toList.drop (M.length * 5), ?_, by
      have e : cur.toList.length = cap * 5 := by rw [Array.length_toList]; exact hs
      rw [List.length_drop, e]; omega⟩, hm, hf, fun x hx => NB_ok _ _ _ _ x (hn x hx) (fun _ _ => rfl) fun b hb => ⟨hb.1, fun e => hb.2 (by rw [e]; rfl)⟩⟩⟩
    show w.heap[g]? = _
    rw [hh, ← ht, List.take_append_drop]
end

/-- copy between rows whose elements take more than one cell -/
theorem run_copy_rowN {P : Program} (w : World) (dT sT ty elem : TypeId) (g o dLen dCap : Nat) (a : Addr) (sLen sCap size : Nat) (cur : Array Value) (t : TypeId) (cs : List Value)
    (hu : P.underlying dT = some (.slice elem)) (hs : (P.info? elem).map (·.size) = some size)
    (hg : w.heap[g]? = some (.cells cur t (0, 0))) (hn : cs.length = Nat.min sLen dLen * size)
    (hsrc : ∀ j v, cs[j]? = some v → w.cell? (a.add j) = some v) (hfit : o + cs.length ≤ cur.size) (h1 : ∀ v ∈ cs, v.oneCell' = true) :
    (Builtin.copy_ #[dT, sT] ty #[.slice (some ⟨g, o, none⟩) dLen dCap, .slice (some a) sLen sCap]).run P w =
      .ok (goInt (Nat.min sLen dLen)) (w.setRow g (cur.toList.take o ++ cs ++ cur.toList.drop (o + cs.length)).toArray) := by
  have hl := run_loadCells_list (P := P) w a cs hsrc
  have hst := run_storeCells_at P g o t cs 0 cur w hg (by simpa using hfit) h1
  cases hq : P.info? elem with
  | none => simp [hq] at hs
  | some i =>
    have hi : i.size = size := by simpa [hq] using hs
    simp [Builtin.copy_, run_underlying hu, Builtin.lenOf, Builtin.firstCells, sizeOf, typeInfo, hq, hi, ← hn, hl, hst]
end Go.Proofs.YtmkicfjcgbfaaaaGreat
namespace Go.Proofs.YtmkicfjcgbfaaaaGreat
open Go.RowKit

set_option maxHeartbeats 400000 in
theorem clipI_any (A : Option Addr) (n c : Nat) (w : World) (hn : n ≤ c) (_h0 : A = none → n = 0 ∧ c = 0) :
    Calls Tryz.prog 63 #[.slice A n c] w fun e w' => e = .returned (.slice A n n) ∧ w' = w := by
  have i0 : (0 : Int) ≤ (n : Int) := by omega
  have i1 : (n : Int) ≤ (c : Int) := by omega
  go_enter Tryz.func63, Tryz.ntmps63
  go_wp2_with fail
  go_ret
  exact ⟨rfl, rfl⟩
/-- a row of ints of the call's own -/
theorem RInX.of_own {w : World} {base n : Nat} {v : Value} {l : List Int} (h : w.ownsRow base 3 1 v n (l.map (.int .i64))) (hn : n = l.length) (hb : n * 8 ≤ 140737488351232) (hl : ∀ x ∈ l, I64 x) : ∃ A c, v = .slice A n c ∧ (A = none → n = 0 ∧ c = 0) ∧ RInX w (fun b => v.ownBlock = some b ∧ base ≤ b ∧ b < w.heap.size) (.slice A n c) l ∧ RInX w (fun b => v.ownBlock = some b ∧ base ≤ b ∧ b < w.heap.size) (.slice A n n) l := by
  obtain ⟨A, c, e, hc, hr⟩ := RdX.of_own h
  refine ⟨A, c, e, fun ha => ?_, ⟨A, n, c, rfl, hn, ⟨hc, hb⟩, hr, hl⟩, ⟨A, n, n, rfl, hn, ⟨Nat.le_refl _, hb⟩, hr, hl⟩⟩
  rcases h.2 with ⟨h, h0⟩ | ⟨g, cap, cur, h, _⟩
  · rw [e] at h; injection h with _ h1 h2
    exact ⟨h1, h2⟩
  · rw [e, ha] at h; injection h with h; cases h
/-- what copying ints leaves -/
def IntsR (l : List Int) (w : World) (e : Ending) (w' : World) : Prop := (∃ A n c, e = .returned (.slice A n c) ∧ (A = none → n = 0 ∧ c = 0) ∧ RInX w' (fun b => w.heap.size ≤ b ∧ b < w'.heap.size) (.slice A n c) l ∧ RInX w' (fun b => w.heap.size ≤ b ∧ b < w'.heap.size) (.slice A n n) l ∧ n ≤ c) ∧ Below w.heap.size w w'
theorem RIn.getD {w : World} {B b off n c : Nat} {l : List Int} (h : RIn w B (.slice (some ⟨b, off, none⟩) n c) l) : ∀ j, j < l.length → w.cell? ⟨b, off + j, none⟩ = some (.int .i64 (l.getD j 0)) := by
  intro j hj
  obtain ⟨b', off', e, _, hc⟩ := h.at_ (List.getElem?_eq_getElem hj)
  injection e with e
  injection e with e1 e2
  subst e1 e2
  rw [hc, List.getD_eq_getElem?_getD, List.getElem?_eq_getElem hj]; rfl
theorem cloneI_any (A : Option Addr) (n c : Nat) (l : List Int) (w : World) (B : Nat) (h : RIn w B (.slice A n c) l) :
    Calls Tryz.prog 67 #[.slice A n c] w (IntsR l w) := by
  have hn := h.len
  have hi : ∀ x ∈ l, I64 x := fun x hx => h.i64 hx
  have key : ∀ (v' : Value) (w' : World), w'.ownsRow w.heap.size 3 1 v' n (l.map (.int .i64)) → Below w.heap.size w w' → IntsR l w (.returned v') w' := fun v' w' ho hb => by
    obtain ⟨A', c', rfl, h0, h1, h2⟩ := RInX.of_own ho hn.1 hn.2.2 hi
    refine ⟨⟨A', n, c', rfl, h0, h1.weak fun b hb => hb.2, h2.weak fun b hb => hb.2, ?_⟩, hb⟩
    obtain ⟨_, _, _, e, _, h3, _⟩ := h1
    injection e with _ e1 e2
    omega
  rcases A with _ | ad
  · have h0 : n = 0 := by
      rcases Nat.eq_zero_or_pos n with g | g
      · exact g
      · obtain ⟨ad, e, _⟩ := h.reads.2 g
        cases e
    subst h0
    have hl : l = [] := List.eq_nil_of_length_eq_zero hn.1.symm
    subst hl
    refine (Tryz.slices_Clone_int_nil 0 c w).mono ?_
    rintro e w' ⟨rfl, rfl⟩
    exact key _ _ (World.ownsRow_nil _ _ _ _) (Below.refl _ _)
  · rcases Nat.eq_zero_or_pos n with g | g
    · subst g
      have hl : l = [] := List.eq_nil_of_length_eq_zero hn.1.symm
      subst hl
      refine (Tryz.slices_Clone_int_zero ad c w).mono ?_
      rintro e w' ⟨v', rfl, ho, _, hb⟩
      exact key _ _ ho hb
    · obtain ⟨b, off, e, _, _⟩ := h.reads.plain g (by omega)
      injection e with e
      subst e
      refine (Tryz.slices_Clone_int b off n c l w (by omega) (by omega) h.getD).mono ?_
      rintro e w' ⟨v', rfl, ho, _, hb⟩
      rw [List.take_of_length_le (by omega)] at ho
      exact key _ _ ho hb
theorem int_info : (Tryz.prog.info? 3).map (fun i => (i.zero, i.size, i.bytes)) = some (some (.int .i64 0), 1, 8) := by kernel_rfl
theorem ints_one (L : List Int) : ∀ u ∈ L.map (Value.int .i64), u.oneCell' = true := by
  intro u hu
  obtain ⟨x, _, rfl⟩ := List.mem_map.1 hu
  rfl
/-- a row of ints of the call's own, at the end -/
theorem IntsR.of_own {w w' : World} {n : Nat} {v : Value} {L : List Int} (h : w'.ownsRow w.heap.size 3 1 v n (L.map (.int .i64))) (hn : n = L.length) (hs : n ≤ 100000) (hL : ∀ x ∈ L, I64 x) (hb : Below w.heap.size w w') : IntsR L w (.returned v) w' := by
  obtain ⟨A, c, rfl, h0, h1, h2⟩ := RInX.of_own h hn (by omega) hL
  refine ⟨⟨A, n, c, rfl, h0, h1.weak fun b hb => hb.2, h2.weak fun b hb => hb.2, ?_⟩, hb⟩
  obtain ⟨_, _, _, e, _, h3, _⟩ := h1
  injection e with _ e1 e2
  omega
theorem RInX.reads1 {w : World} {S : Nat → Prop} {A : Option Addr} {n c B : Nat} {L : List Int} (h : RInX w S (.slice A n c) L) (hS : ∀ b, S b → b < B) : Reads w B 1 A n (L.map (.int .i64)) ∧ n = L.length :=
  ⟨(h.reads hS).reads, (h.reads hS).len.1⟩
end Go.Proofs.YtmkicfjcgbfaaaaGreat
namespace Go.Proofs.YtmkicfjcgbfaaaaGreat
open Go.RowKit

/-- a base that is turned in place; what its blocks lead to lies in blocks of the sort S -/
structure RowS (S : Nat → Prop) (w : World) (g cap : Nat) (M : List BK) : Prop extends RowB w g cap M where
  far : ∀ x ∈ M, NB w (fun b => (b < w.heap.size ∧ b ≠ g) ∧ S b) x
section
variable {S : Nat → Prop} {w w' : World} {g cap : Nat} {M : List BK}
theorem RowB.all (h : RowB w g cap M) : RowS (fun _ => True) w g cap M := ⟨h, fun x hx => NB_ok _ _ _ _ x (h.nest x hx) (fun _ _ => rfl) fun _ hb => ⟨hb, trivial⟩⟩
theorem RowS.weak {S' : Nat → Prop} (h : RowS S w g cap M) (hS : ∀ b, b < w.heap.size → S b → S' b) : RowS S' w g cap M := ⟨h.toRowB, fun x hx => NB_ok _ _ _ _ x (h.far x hx) (fun _ _ => rfl) fun b hb => ⟨hb.1, hS b hb.1.1 hb.2⟩⟩
theorem RowS.below (h : RowS S w g cap M) (hb : Below w.heap.size w w') : RowS S w' g cap M :=
  ⟨h.toRowB.below hb, fun x hx => NB_ok _ _ _ _ x (h.far x hx) (fun _ hp => hb.cell hp.1.1) fun _ hb' => ⟨⟨Nat.lt_of_lt_of_le hb'.1.1 hb.size, hb'.1.2⟩, hb'.2⟩⟩
theorem RowS.store (h : RowS S w g cap M) {k j : Nat} {x y : BK} {u : Value} (hx : M[k]? = some x) (hj : j < 5) (he : blV y = (blV x).set j u) (hn : NB w (fun b => (b < w.heap.size ∧ b ≠ g) ∧ S b) y) : RowS S (w.setCell ⟨g, k * 5 + j, none⟩ u) g cap (M.set k y) := by
  have hsz : (w.setCell ⟨g, k * 5 + j, none⟩ u).heap.size = w.heap.size := by simp [World.setCell]
  have hkeep : ∀ p : Addr, (p.block < w.heap.size ∧ p.block ≠ g) ∧ S p.block → (w.setCell ⟨g, k * 5 + j, none⟩ u).cell? p = w.cell? p := fun p hp => World.cell?_setCell_other _ _ p _ (by intro e; subst e; exact hp.1.2 rfl)
  refine ⟨h.toRowB.store hx hj he (NB_ok _ _ _ _ y hn (fun _ _ => rfl) fun b hb => hb.1), fun z hz => ?_⟩
  rw [hsz]
  rcases List.mem_or_eq_of_mem_set hz with hz | rfl
  · exact NB_ok _ _ _ _ z (h.far z hz) hkeep fun b hb => hb
  · exact NB_ok _ _ _ _ z hn hkeep fun b hb => hb
/-- a world in which no block that matters is another one -/
theorem RowS.keep (h : RowS S w g cap M) (hk : ∀ b, b = g ∨ (b < w.heap.size ∧ S b) → w'.heap[b]? = w.heap[b]?) (hz : w.heap.size ≤ w'.heap.size) : RowS S w' g cap M := by
  obtain ⟨sp, h1, h2⟩ := h.row
  have hkeep : ∀ p : Addr, (p.block < w.heap.size ∧ p.block ≠ g) ∧ S p.block → w'.cell? p = w.cell? p := fun p hp => World.cell?_of_block (hk _ (.inr ⟨hp.1.1, hp.2⟩))
  have hf : ∀ x ∈ M, NB w' (fun b => (b < w'.heap.size ∧ b ≠ g) ∧ S b) x := fun x hx => NB_ok _ _ _ _ x (h.far x hx) hkeep fun b hb => ⟨⟨Nat.lt_of_lt_of_le hb.1.1 hz, hb.1.2⟩, hb.2⟩
  exact ⟨⟨⟨sp, (hk g (.inl rfl)).trans h1, h2⟩, h.room, h.few, fun x hx => NB_ok _ _ _ _ x (hf x hx) (fun _ _ => rfl) fun b hb => hb.1⟩, hf⟩
theorem RowS.of_own {base : Nat} {v : Value} (h : w.ownsRow base 38 5 v M.length (M.flatMap blV)) (h0 : 0 < M.length) (hf : M.length ≤ 100000) (hn : ∀ x ∈ M, NB w (fun b => (b < w.heap.size ∧ v.ownBlock ≠ some b) ∧ S b) x) : ∃ g cap, v = .slice (some ⟨g, 0, none⟩) M.length cap ∧ base ≤ g ∧ RowS S w g cap M := by
  obtain ⟨g, cap, rfl, hb, hr⟩ := RowB.of_own h h0 hf fun x hx => NB_ok _ _ _ _ x (hn x hx) (fun _ _ => rfl) fun b hb => hb.1
  exact ⟨g, cap, rfl, hb, hr, fun x hx => NB_ok _ _ _ _ x (hn x hx) (fun _ _ => rfl) fun b hb => ⟨⟨hb.1.1, fun e => hb.1.2 (by rw [e]; rfl)⟩, hb.2⟩⟩
end
end Go.Proofs.YtmkicfjcgbfaaaaGreat
namespace Go.Proofs.YtmkicfjcgbfaaaaGreat
open Go.RowKit

set_option maxHeartbeats 1000000 in
theorem Edited_any (s x : ByteArray) (f t : Int) (w : World) (hs : s.size ≤ 140737488351232) (hx : x.size ≤ 140737488351232) (h0 : 0 ≤ f) (h1 : f ≤ t) (h2 : t ≤ (s.size : Int)) :
    Calls Tryz.prog 85 #[.string s, .agg #[.int .i64 f, .int .i64 t, .string x]] w fun e w' => e = .returned (.string (edS s x f t)) ∧ Below w.heap.size w w' := by
  obtain ⟨a, rfl⟩ := Int.eq_ofNat_of_zero_le h0
  obtain ⟨b, rfl⟩ := Int.eq_ofNat_of_zero_le (Int.le_trans h0 h1)
  go_enter Tryz.func85, Tryz.ntmps85
  go_wp2
  go_quiet (fail)
  go_wp2
  go_ret
  exact ⟨rfl, bdrew ((Below.refl _ _).alloc (Nat.le_refl _) _) _⟩

set_option maxHeartbeats 2000000 in
theorem editError_any (s x : ByteArray) (f t : Int) (w : World) (hs : s.size ≤ 140737488351232) (hx : x.size ≤ 140737488351232) :
    Calls Tryz.prog 79 #[.string s, .agg #[.int .i64 f, .int .i64 t, .string x]] w fun e w' => e = .returned (.int .i64 (edErr s x f t)) ∧ Below w.heap.size w w' := by
  rcases edErr_ways s x f t with ⟨g, h⟩ | ⟨⟨g, g1⟩, h⟩ | ⟨⟨g, g1, g2⟩, h⟩ | ⟨⟨g, g1, g2⟩, g3, h⟩ | ⟨⟨g, g1, g2⟩, g3, g4, h⟩ | ⟨⟨g, g1, g2⟩, g3, g4, h⟩
  all_goals
    rw [h]
    clear h
    go_enter Tryz.func79, Tryz.ntmps79
    go_wp2_with (go_at_call 136; refine (below_any x _ hx).mono ?_; rintro e w' ⟨rfl, rfl⟩)
    go_ret
    exact ⟨rfl, (Below.refl _ _).alloc (Nat.le_refl _) _⟩

end Go.Proofs.YtmkicfjcgbfaaaaGreat
