/-
  DERIVED. Same values: the reference's SameValue. Conditions: sizes.
  The walk of the reference's IsTag, of every text. Conditions: a length in reach.
  A start for the witnesses: the five listed variables hold what their initialisers lay. Conditions: none.
  By an AI agent.
-/
import Derived.Test.YtnlonleljbbgoaaGreatDoorKe07
import Derived.Test.YtnlonleljbbgoaaGreatDoorChecked
import Derived.WalkSpells
import Derived.Deep.QuietTactic
import Derived.BigQuiet
import Derived.Deep.LoopGhost
import Derived.Deep.RegionHeld3
import Derived.Test.YtnlonleljbbgoaaGreatDoorKe26
import Derived.Test.YtnlonleljbbgoaaGreatDoorRows
import Derived.Test.YtnlonleljbbgoaaGreatDoorCards
import Derived.Test.YtnlonleljbbgoaaGreatDoorTie
import Derived.Deep.DeepHandedRow
import Derived.Deep.DeepWitnessRowRef
import Derived.Lib.LaidTab
import Derived.ProofKit
namespace Go.Proofs.YtnlonleljbbgoaaGreatDoor
open Go.RowKit

set_option maxHeartbeats 4000000 in
theorem sameR_walk (x y : Vl × Value) (L M : List (Vl × Value)) (A A' : Option Addr) (n c n' c' : Nat) (w : World) (B : Nat) (hB : B ≤ w.heap.size) (hx : x.2 = .slice A n c) (hy : y.2 = .slice A' n' c') (hxl : L.map Prod.fst = x.1.items) (hyl : M.map Prod.fst = y.1.items) (h1 : Reads w B 5 A n (L.flatMap vlV)) (h2 : Reads w B 5 A' n' (M.flatMap vlV)) (hn : n = L.length) (hn' : n' = M.length) (hbig : n ≤ 140737488351232) (hbig' : n' ≤ 140737488351232)
    (hs1 : ∀ x ∈ L, ∃ A n c, x.2 = .slice A n c) (hs2 : ∀ x ∈ M, ∃ A n c, x.2 = .slice A n c)
    (hcl : ∀ x ∈ L, ∀ y ∈ M, ∀ W, Below w.heap.size w W → Calls Tryz.prog 35 #[AV x, AV y] W fun e w' => e = .returned (.bool (sameV x.1 y.1)) ∧ Below W.heap.size W w') :
    Calls Tryz.prog 35 #[AV x, AV y] w fun e w' => e = .returned (.bool (sameV x.1 y.1)) ∧ Below w.heap.size w w' := by
  obtain ⟨⟨kx, ix, tx, sx, lx⟩, vx⟩ := x
  obtain ⟨⟨ky, iy, ty, sy, ly⟩, vy⟩ := y
  obtain rfl : vx = _ := hx
  obtain rfl : vy = _ := hy
  obtain rfl : _ = lx := hxl
  obtain rfl : _ = ly := hyl
  have H1 := Lib.hid h1
  have H2 := Lib.hid h2
  have HN := Lib.hid hn
  have HN' := Lib.hid hn'
  have HC := Lib.hid hcl
  have S1 := Lib.hid hs1
  have S2 := Lib.hid hs2
  clear h1 h2 hn hn' hcl hs1 hs2
  dsimp only [AV, Vl.kind, Vl.int_, Vl.to_, Vl.text]
  rw [sameV]
  rw [dec_toList sx sy]
  obtain ⟨q1, h1⟩ : ∃ q, (kx == ky) = q := ⟨_, rfl⟩
  obtain ⟨q2, h2⟩ : ∃ q, (ix == iy) = q := ⟨_, rfl⟩
  obtain ⟨q3, h3⟩ : ∃ q, (tx == ty) = q := ⟨_, rfl⟩
  obtain ⟨q4, h4⟩ : ∃ q, (sx.toList == sy.toList) = q := ⟨_, rfl⟩
  rw [h1, h2, h3, h4]
  cases q1
  · have b1 : (kx != ky) = true := congrArg (!·) h1
    go_enter Tryz.func35, Tryz.ntmps35
    go_wp2_with fail
    go_ret
    exact ⟨rfl, ((Below.refl _ _).alloc (Nat.le_refl _) _).alloc (by simp) _⟩
  have b1 : (kx != ky) = false := congrArg (!·) h1
  cases q2
  · have b2 : (ix != iy) = true := congrArg (!·) h2
    go_enter Tryz.func35, Tryz.ntmps35
    go_wp2_with fail
    go_ret
    exact ⟨rfl, ((Below.refl _ _).alloc (Nat.le_refl _) _).alloc (by simp) _⟩
  have b2 : (ix != iy) = false := congrArg (!·) h2
  cases q3
  · have b3 : (tx != ty) = true := congrArg (!·) h3
    go_enter Tryz.func35, Tryz.ntmps35
    go_wp2_with fail
    go_ret
    exact ⟨rfl, ((Below.refl _ _).alloc (Nat.le_refl _) _).alloc (by simp) _⟩
  have b3 : (tx != ty) = false := congrArg (!·) h3
  cases q4
  · have b4 : (sx.toList != sy.toList) = true := congrArg (!·) h4
    go_enter Tryz.func35, Tryz.ntmps35
    go_wp2_with fail
    go_ret
    exact ⟨rfl, ((Below.refl _ _).alloc (Nat.le_refl _) _).alloc (by simp) _⟩
  have b4 : (sx.toList != sy.toList) = false := congrArg (!·) h4
  by_cases hl : n = n'
  · subst hl
    obtain ⟨q, hq⟩ : ∃ q, q = sameL (L.map Prod.fst) (M.map Prod.fst) := ⟨_, rfl⟩
    rw [← hq]
    have HQ := Lib.hid hq
    clear hq
    go_enter Tryz.func35, Tryz.ntmps35
    go_wp2_with fail
    obtain ⟨X, hX⟩ : ∃ X, X = ((w.alloc (.cells #[.int .i64 kx, .int .i64 ix, .int .i64 tx, .string sx, .slice A n c] 24)).alloc (.cells #[.int .i64 ky, .int .i64 iy, .int .i64 ty, .string sy, .slice A' n c'] 24)) := ⟨_, rfl⟩
    have p0 : Blk X w.heap.size 24 #[.int .i64 kx, .int .i64 ix, .int .i64 tx, .string sx, .slice A n c] := by rw [hX]; exact (Blk.new w _ _).alloc _
    have p1 : Blk X (w.heap.size + 1) 24 #[.int .i64 ky, .int .i64 iy, .int .i64 ty, .string sy, .slice A' n c'] := by
      rw [hX]
      have h := Blk.new (w.alloc (.cells #[.int .i64 kx, .int .i64 ix, .int .i64 tx, .string sx, .slice A n c] 24)) 24 #[.int .i64 ky, .int .i64 iy, .int .i64 ty, .string sy, .slice A' n c']
      simpa only [World.size_alloc] using h
    have hbX : Below w.heap.size w X := by rw [hX]; exact ((Below.refl _ _).alloc (Nat.le_refl _) _).alloc (by simp) _
    have hzX : w.heap.size + 1 < X.heap.size := p1.lt
    rw [← hX]
    clear hX
    go_loopg [44] n (fun gg s44 wr => ∃ k : Nat, k + gg = n ∧ s44 = .int .i64 (k : Int) ∧ Hid (∀ i x y, i < k → L[i]? = some x → M[i]? = some y → sameV x.1 y.1 = true) ∧ Hid (Below X.heap.size X wr))
    case atStart => exact ⟨0, by omega, rfl, (fun i x y hi => absurd hi (by omega)), Below.refl _ _⟩
    case round =>
      obtain ⟨k, hkg, rfl, hno, hbel⟩ := hrel
      have hwr : Below w.heap.size w wr := hbX.trans (hbel.out.mono (by omega))
      have hzr := hbel.out.size
      by_cases hk : k < n
      · obtain ⟨x, hx⟩ : ∃ x, L[k]? = some x := ⟨_, List.getElem?_eq_getElem (by have := HN.out; omega)⟩
        obtain ⟨y, hy⟩ : ∃ x, M[k]? = some x := ⟨_, List.getElem?_eq_getElem (by have := HN'.out; omega)⟩
        obtain ⟨b, off, rfl, hbb, hc⟩ := H1.out.plain_at (by omega) vlV_len HN.out hx
        obtain ⟨b', off', rfl, hbb', hc'⟩ := H2.out.plain_at (by omega) vlV_len HN'.out hy
        have HX : Hid (∀ W, Below w.heap.size w W → Calls _ _ #[AV x, AV y] W _) := fun W hW => HC.out x (List.mem_of_getElem? hx) y (List.mem_of_getElem? hy) W hW
        obtain ⟨⟨kx', ix', tx', sx', lx'⟩, vx⟩ := x
        obtain ⟨⟨ky', iy', ty', sy', ly'⟩, vy⟩ := y
        obtain ⟨Ax, nx, cx, rfl⟩ := S1.out _ (List.mem_of_getElem? hx)
        obtain ⟨Ay, ny, cy, rfl⟩ := S2.out _ (List.mem_of_getElem? hy)
        have g0 := (hwr.cell (p := ⟨b, off + k * 5, none⟩) (by show b < _; omega)).trans (hc 0 _ rfl)
        have g1 := (hwr.cell (p := ⟨b, off + k * 5 + 1, none⟩) (by show b < _; omega)).trans (hc 1 _ rfl)
        have g2 := (hwr.cell (p := ⟨b, off + k * 5 + 2, none⟩) (by show b < _; omega)).trans (hc 2 _ rfl)
        have g3 := (hwr.cell (p := ⟨b, off + k * 5 + 3, none⟩) (by show b < _; omega)).trans (hc 3 _ rfl)
        have g4 := (hwr.cell (p := ⟨b, off + k * 5 + 4, none⟩) (by show b < _; omega)).trans (hc 4 _ rfl)
        have k0 := (hwr.cell (p := ⟨b', off' + k * 5, none⟩) (by show b' < _; omega)).trans (hc' 0 _ rfl)
        have k1 := (hwr.cell (p := ⟨b', off' + k * 5 + 1, none⟩) (by show b' < _; omega)).trans (hc' 1 _ rfl)
        have k2 := (hwr.cell (p := ⟨b', off' + k * 5 + 2, none⟩) (by show b' < _; omega)).trans (hc' 2 _ rfl)
        have k3 := (hwr.cell (p := ⟨b', off' + k * 5 + 3, none⟩) (by show b' < _; omega)).trans (hc' 3 _ rfl)
        have k4 := (hwr.cell (p := ⟨b', off' + k * 5 + 4, none⟩) (by show b' < _; omega)).trans (hc' 4 _ rfl)
        have m4 := (hbel.out.cell (p := ⟨w.heap.size, 4, none⟩) (by show w.heap.size < _; omega)).trans (p0.cell 4)
        have o4 := (hbel.out.cell (p := ⟨w.heap.size + 1, 4, none⟩) (by show w.heap.size + 1 < _; omega)).trans (p1.cell 4)
        have j0 : (0 : Int) ≤ (k : Int) := by omega
        have j1 : (k : Int) < (n : Int) := by omega
        have HXK := Lib.hid hx
        have HYK := Lib.hid hy
        clear hx hy hc hc'
        obtain ⟨r, hr⟩ : ∃ r, sameV (Vl.mk kx' ix' tx' sx' lx') (Vl.mk ky' iy' ty' sy' ly') = r := ⟨_, rfl⟩
        simp only [hr] at HX
        have HR := Lib.hid hr
        clear hr
        go_wp2_with fail
        go_region_held3 (fun w' => w'.cell? ⟨w.heap.size, 4, none⟩ = some (.slice (some ⟨b, off, none⟩) n c) ∧ w'.cell? ⟨w.heap.size + 1, 4, none⟩ = some (.slice (some ⟨b', off', none⟩) n c') ∧ w'.cell? ⟨b, off + k * 5, none⟩ = some (.int .i64 kx') ∧ w'.cell? ⟨b, off + k * 5 + 1, none⟩ = some (.int .i64 ix') ∧ w'.cell? ⟨b, off + k * 5 + 2, none⟩ = some (.int .i64 tx') ∧ w'.cell? ⟨b, off + k * 5 + 3, none⟩ = some (.string sx') ∧ w'.cell? ⟨b, off + k * 5 + 4, none⟩ = some (.slice Ax nx cx) ∧ w'.cell? ⟨b', off' + k * 5, none⟩ = some (.int .i64 ky') ∧ w'.cell? ⟨b', off' + k * 5 + 1, none⟩ = some (.int .i64 iy') ∧ w'.cell? ⟨b', off' + k * 5 + 2, none⟩ = some (.int .i64 ty') ∧ w'.cell? ⟨b', off' + k * 5 + 3, none⟩ = some (.string sy') ∧ w'.cell? ⟨b', off' + k * 5 + 4, none⟩ = some (.slice Ay ny cy))
          (first | exact ⟨m4, o4, g0, g1, g2, g3, g4, k0, k1, k2, k3, k4⟩ | (obtain ⟨a0, a1, a2, a3, a4, a5, a6, a7, a8, a9, a10, a11⟩ := ‹_ ∧ _ ∧ _ ∧ _ ∧ _ ∧ _ ∧ _ ∧ _ ∧ _ ∧ _ ∧ _ ∧ _›; exact ⟨(hb2.cell (by show w.heap.size < wr.drew.heap.size; show w.heap.size < wr.heap.size; omega)).trans a0, (hb2.cell (by show w.heap.size + 1 < wr.drew.heap.size; show w.heap.size + 1 < wr.heap.size; omega)).trans a1, (hb2.cell (by show b < wr.heap.size; omega)).trans a2, (hb2.cell (by show b < wr.heap.size; omega)).trans a3, (hb2.cell (by show b < wr.heap.size; omega)).trans a4, (hb2.cell (by show b < wr.heap.size; omega)).trans a5, (hb2.cell (by show b < wr.heap.size; omega)).trans a6, (hb2.cell (by show b' < wr.heap.size; omega)).trans a7, (hb2.cell (by show b' < wr.heap.size; omega)).trans a8, (hb2.cell (by show b' < wr.heap.size; omega)).trans a9, (hb2.cell (by show b' < wr.heap.size; omega)).trans a10, (hb2.cell (by show b' < wr.heap.size; omega)).trans a11⟩))
          (first | (go_at_call 35; refine (HX.out _ hwr.drew).mono ?_; rintro e w2 ⟨rfl, hb2⟩; have HB2 : Hid (Below X.heap.size X w2) := (bdrew hbel.out _).trans (hb2.mono hzr)))
        clear hb2
        cases r
        · go_wp2_with fail
          go_ret
          refine ⟨?_, hbX.trans (HB2.out.mono (by omega))⟩
          rw [HQ.out]
          refine congrArg (fun b => Ending.returned (.bool b)) (Eq.symm (Bool.eq_false_iff.2 fun h => ?_))
          exact Bool.false_ne_true (HR.out.symm.trans (sameL_at h (by rw [List.getElem?_map, HXK.out]; rfl) (by rw [List.getElem?_map, HYK.out]; rfl)))
        · go_wp2_with fail
          go_roundg (n - (k + 1))
          case measure => omega
          case rel =>
            refine ⟨k + 1, by omega, by go_num, ?_, HB2⟩
            intro i x y hi h1 h2
            by_cases e : i = k
            · subst e
              obtain rfl := Option.some.inj (HXK.out.symm.trans h1)
              obtain rfl := Option.some.inj (HYK.out.symm.trans h2)
              exact HR.out
            · exact hno.out i x y (by omega) h1 h2
      · obtain rfl : k = n := by omega
        go_wp2_with fail
        go_ret
        refine ⟨?_, hwr⟩
        rw [HQ.out]
        refine congrArg (fun b => Ending.returned (.bool b)) (Eq.symm (sameL_of (by rw [List.length_map, List.length_map, ← HN.out, HN'.out]) ?_))
        intro i x y h1 h2
        rw [List.getElem?_map, Option.map_eq_some_iff] at h1 h2
        obtain ⟨x', h1, rfl⟩ := h1
        obtain ⟨y', h2, rfl⟩ := h2
        exact hno.out i x' y' (by rw [HN.out]; exact (List.getElem?_eq_some_iff.1 h1).1) h1 h2
  · have hq : sameL (L.map Prod.fst) (M.map Prod.fst) = false := by
      refine Bool.eq_false_iff.2 fun h => hl ?_
      have := sameL_len h
      rw [List.length_map, List.length_map] at this
      rw [HN.out, HN'.out]; exact this
    rw [hq]
    have hl' : ((n : Int) != (n' : Int)) = true := by
      rw [bne_iff_ne]; omega
    clear hq
    go_enter Tryz.func35, Tryz.ntmps35
    go_wp2_with fail
    go_ret
    exact ⟨rfl, ((Below.refl _ _).alloc (Nat.le_refl _) _).alloc (by simp) _⟩
/-- the reference's SameValue -/
theorem sameRef_any : ∀ (d : Nat) (x y : Vl × Value) (w : World) (B : Nat), B ≤ w.heap.size → RVd w B d x.2 x.1.items → RVd w B d y.2 y.1.items →
    Calls Tryz.prog 35 #[AV x, AV y] w fun e w' => e = .returned (.bool (sameV x.1 y.1)) ∧ Below w.heap.size w w'
  | 0, x, y, w, B, hB, hx, hy => by
    obtain ⟨A, n, c, M, h1, h2, h3, h4, h5, h6⟩ := hx.deeper
    obtain ⟨A', n', c', M', k1, k2, k3, k4, k5, k6⟩ := hy.deeper
    have e : M = [] := by rw [← List.map_eq_nil_iff, h1]; exact hx.1
    exact sameR_walk x y M M' A A' n c n' c' w B hB h2 k2 h1 k1 h5 k5 h3 k3 (by omega) (by omega) (fun z hz => (RV.slice ⟨_, h6 z hz⟩)) (fun z hz => (RV.slice ⟨_, k6 z hz⟩)) (fun z hz => by rw [e] at hz; cases hz)
  | d + 1, x, y, w, B, hB, ⟨A, n, c, M, h1, h2, h3, h4, h5, h6⟩, ⟨A', n', c', M', k1, k2, k3, k4, k5, k6⟩ =>
    sameR_walk x y M M' A A' n c n' c' w B hB h2 k2 h1 k1 h5 k5 h3 k3 (by omega) (by omega) (fun z hz => (RV.slice ⟨_, h6 z hz⟩)) (fun z hz => (RV.slice ⟨_, k6 z hz⟩)) (fun z hz u hu W hW => sameRef_any d z u W B (Nat.le_trans hB hW.size) ((h6 z hz).below (hW.mono hB)) ((k6 u hu).below (hW.mono hB)))
end Go.Proofs.YtnlonleljbbgoaaGreatDoor
namespace Go.Proofs.YtnlonleljbbgoaaGreatDoor
open Go.RowKit

set_option maxHeartbeats 4000000 in
set_option maxRecDepth 100000 in
theorem rIsTagNo_any (s : ByteArray) (w : World) (hs : s.size ≤ 4294967280) (K : Nat) (hK : K < s.size) (hall : ∀ i, i < K → tagB (bt s i) = true) (hno : tagB (bt s K) = false) :
    Calls Tryz.prog 90 #[.string s] w fun e w' => e = .returned (.bool false) ∧ w = w' := by
  have HA := Lib.hid hall
  have HNO := Lib.hid hno
  clear hall hno
  go_enter Tryz.func90, Tryz.ntmps90
  go_wp2
  go_loop [3, 4] (fun b i => ∃ k : Nat, k ≤ K ∧ i = .int .i64 k ∧ b = .bool (letTo s k)) (fun _ i => s.size - (intOf i).toNat)
  case atStart => exact ⟨0, Nat.zero_le _, rfl, by unfold letTo; simp⟩
  case round =>
    obtain ⟨k, hk, rfl, rfl⟩ := hrel
    by_cases hlK : k < K
    · have hlt : k < s.size := by omega
      have i0 : (0 : Int) ≤ (k : Int) := by omega
      have i1 : (k : Int) < (s.size : Int) := by omega
      have ht := HA.out k hlK
      have hst := letTo_step hlt
      rw [bt_at hlt] at ht hst
      have c0 : (0 : Int) ≤ (s[k].toNat : Int) := by omega
      have c1 : (s[k].toNat : Int) ≤ 255 := by have := (s[k]).toNat_lt; omega
      obtain ⟨c, hc⟩ : ∃ c : Int, c = (s[k].toNat : Int) := ⟨_, rfl⟩
      have HC := Lib.hid hc
      rw [← hc] at ht hst c0 c1
      rw [tagB_split] at ht
      obtain ⟨b, hb⟩ : ∃ b, b = letTo s k := ⟨_, rfl⟩
      rw [← hb] at hst ⊢
      obtain ⟨b', hb'⟩ : ∃ b', b' = letTo s (k + 1) := ⟨_, rfl⟩
      rw [← hb'] at hst
      have HB' := Lib.hid hb'
      have hcc : (s[k].toNat : Int) = c := hc.symm
      clear hb hb' hc
      cases hl : letB c
      · rw [hl] at ht hst
        cases hd : digB c
        · rw [hd] at ht
          have hw3 : c = 95 ∨ c = 45 ∨ c = 47 := by simpa [or_assoc] using ht
          have n1 : (c != 95) = !(c == 95) := rfl
          rcases hw3 with e3 | e3 | e3
          · have q1 : (c != 95) = false := by rw [e3]; rfl
            have q2 : (c != 45) = true := by rw [e3]; rfl
            have q3 : (c != 47) = true := by rw [e3]; rfl
            clear e3 n1
            have HH := Lib.hid hst
            clear hst ht
            cases b
            · skip
              go_wp2_with fail
              refine (rLetter_any _ _ c0 c1).mono ?_
              rintro e w1 ⟨rfl, hw⟩
              rw [hl, ← hw]
              clear hw
              go_wp2_with fail
              refine (rDigit_any _ _ c0 c1).mono ?_
              rintro e w1 ⟨rfl, hw⟩
              rw [hd, ← hw]
              clear hw
              go_wp2_with fail
              refine (rLetter_any _ _ c0 c1).mono ?_
              rintro e w1 ⟨rfl, hw⟩
              rw [hl, ← hw]
              clear hw
              go_wp2_with fail
              go_round
              case rel => exact ⟨k + 1, by omega, by go_num, by rw [← HB'.out, HH.out]; rfl⟩
              case measure => simp [intOf]; omega
            · skip
              go_wp2_with fail
              refine (rLetter_any _ _ c0 c1).mono ?_
              rintro e w1 ⟨rfl, hw⟩
              rw [hl, ← hw]
              clear hw
              go_wp2_with fail
              refine (rDigit_any _ _ c0 c1).mono ?_
              rintro e w1 ⟨rfl, hw⟩
              rw [hd, ← hw]
              clear hw
              go_wp2_with fail
              go_round
              case rel => exact ⟨k + 1, by omega, by go_num, by rw [← HB'.out, HH.out]; rfl⟩
              case measure => simp [intOf]; omega
          · have q1 : (c != 95) = true := by rw [e3]; rfl
            have q2 : (c != 45) = false := by rw [e3]; rfl
            have q3 : (c != 47) = true := by rw [e3]; rfl
            clear e3 n1
            have HH := Lib.hid hst
            clear hst ht
            cases b
            · skip
              go_wp2_with fail
              refine (rLetter_any _ _ c0 c1).mono ?_
              rintro e w1 ⟨rfl, hw⟩
              rw [hl, ← hw]
              clear hw
              go_wp2_with fail
              refine (rDigit_any _ _ c0 c1).mono ?_
              rintro e w1 ⟨rfl, hw⟩
              rw [hd, ← hw]
              clear hw
              go_wp2_with fail
              refine (rLetter_any _ _ c0 c1).mono ?_
              rintro e w1 ⟨rfl, hw⟩
              rw [hl, ← hw]
              clear hw
              go_wp2_with fail
              go_round
              case rel => exact ⟨k + 1, by omega, by go_num, by rw [← HB'.out, HH.out]; rfl⟩
              case measure => simp [intOf]; omega
            · skip
              go_wp2_with fail
              refine (rLetter_any _ _ c0 c1).mono ?_
              rintro e w1 ⟨rfl, hw⟩
              rw [hl, ← hw]
              clear hw
              go_wp2_with fail
              refine (rDigit_any _ _ c0 c1).mono ?_
              rintro e w1 ⟨rfl, hw⟩
              rw [hd, ← hw]
              clear hw
              go_wp2_with fail
              go_round
              case rel => exact ⟨k + 1, by omega, by go_num, by rw [← HB'.out, HH.out]; rfl⟩
              case measure => simp [intOf]; omega
          · have q1 : (c != 95) = true := by rw [e3]; rfl
            have q2 : (c != 45) = true := by rw [e3]; rfl
            have q3 : (c != 47) = false := by rw [e3]; rfl
            clear e3 n1
            have HH := Lib.hid hst
            clear hst ht
            cases b
            · skip
              go_wp2_with fail
              refine (rLetter_any _ _ c0 c1).mono ?_
              rintro e w1 ⟨rfl, hw⟩
              rw [hl, ← hw]
              clear hw
              go_wp2_with fail
              refine (rDigit_any _ _ c0 c1).mono ?_
              rintro e w1 ⟨rfl, hw⟩
              rw [hd, ← hw]
              clear hw
              go_wp2_with fail
              refine (rLetter_any _ _ c0 c1).mono ?_
              rintro e w1 ⟨rfl, hw⟩
              rw [hl, ← hw]
              clear hw
              go_wp2_with fail
              go_round
              case rel => exact ⟨k + 1, by omega, by go_num, by rw [← HB'.out, HH.out]; rfl⟩
              case measure => simp [intOf]; omega
            · skip
              go_wp2_with fail
              refine (rLetter_any _ _ c0 c1).mono ?_
              rintro e w1 ⟨rfl, hw⟩
              rw [hl, ← hw]
              clear hw
              go_wp2_with fail
              refine (rDigit_any _ _ c0 c1).mono ?_
              rintro e w1 ⟨rfl, hw⟩
              rw [hd, ← hw]
              clear hw
              go_wp2_with fail
              go_round
              case rel => exact ⟨k + 1, by omega, by go_num, by rw [← HB'.out, HH.out]; rfl⟩
              case measure => simp [intOf]; omega
        · skip
          have HH := Lib.hid hst
          clear hst ht
          cases b
          · skip
            go_wp2_with fail
            refine (rLetter_any _ _ c0 c1).mono ?_
            rintro e w1 ⟨rfl, hw⟩
            rw [hl, ← hw]
            clear hw
            go_wp2_with fail
            refine (rDigit_any _ _ c0 c1).mono ?_
            rintro e w1 ⟨rfl, hw⟩
            rw [hd, ← hw]
            clear hw
            go_wp2_with fail
            refine (rLetter_any _ _ c0 c1).mono ?_
            rintro e w1 ⟨rfl, hw⟩
            rw [hl, ← hw]
            clear hw
            go_wp2_with fail
            go_round
            case rel => exact ⟨k + 1, by omega, by go_num, by rw [← HB'.out, HH.out]; rfl⟩
            case measure => simp [intOf]; omega
          · skip
            go_wp2_with fail
            refine (rLetter_any _ _ c0 c1).mono ?_
            rintro e w1 ⟨rfl, hw⟩
            rw [hl, ← hw]
            clear hw
            go_wp2_with fail
            refine (rDigit_any _ _ c0 c1).mono ?_
            rintro e w1 ⟨rfl, hw⟩
            rw [hd, ← hw]
            clear hw
            go_wp2_with fail
            go_round
            case rel => exact ⟨k + 1, by omega, by go_num, by rw [← HB'.out, HH.out]; rfl⟩
            case measure => simp [intOf]; omega
      · rw [hl] at hst
        have HH := Lib.hid hst
        clear hst ht
        cases b
        · skip
          go_wp2_with fail
          refine (rLetter_any _ _ c0 c1).mono ?_
          rintro e w1 ⟨rfl, hw⟩
          rw [hl, ← hw]
          clear hw
          go_wp2_with fail
          refine (rLetter_any _ _ c0 c1).mono ?_
          rintro e w1 ⟨rfl, hw⟩
          rw [hl, ← hw]
          clear hw
          go_wp2_with fail
          go_round
          case rel => exact ⟨k + 1, by omega, by go_num, by rw [← HB'.out, HH.out]; rfl⟩
          case measure => simp [intOf]; omega
        · skip
          go_wp2_with fail
          refine (rLetter_any _ _ c0 c1).mono ?_
          rintro e w1 ⟨rfl, hw⟩
          rw [hl, ← hw]
          clear hw
          go_wp2_with fail
          go_round
          case rel => exact ⟨k + 1, by omega, by go_num, by rw [← HB'.out, HH.out]; rfl⟩
          case measure => simp [intOf]; omega
    · obtain rfl : k = K := by omega
      have i0 : (0 : Int) ≤ (k : Int) := by omega
      have i1 : (k : Int) < (s.size : Int) := by omega
      have hn := HNO.out
      rw [bt_at hK, tagB_split] at hn
      have c0 : (0 : Int) ≤ (s[k].toNat : Int) := by omega
      have c1 : (s[k].toNat : Int) ≤ 255 := by have := (s[k]).toNat_lt; omega
      obtain ⟨c, hc⟩ : ∃ c : Int, c = (s[k].toNat : Int) := ⟨_, rfl⟩
      rw [← hc] at hn c0 c1
      have hcc : (s[k].toNat : Int) = c := hc.symm
      simp only [Bool.or_eq_false_iff] at hn
      obtain ⟨⟨⟨⟨hl, hd⟩, h5⟩, h6⟩, h7⟩ := hn
      have q1 : (c != 95) = true := congrArg (!·) h5
      have q2 : (c != 45) = true := congrArg (!·) h6
      have q3 : (c != 47) = true := congrArg (!·) h7
      clear h5 h6 h7 hc
      go_wp2_with fail
      refine (rLetter_any _ _ c0 c1).mono ?_
      rintro e w1 ⟨rfl, hw⟩
      rw [hl, ← hw]
      clear hw
      go_wp2_with fail
      refine (rDigit_any _ _ c0 c1).mono ?_
      rintro e w1 ⟨rfl, hw⟩
      rw [hd, ← hw]
      clear hw
      go_wp2_with fail
      go_ret
      exact ⟨rfl, rfl⟩

set_option maxHeartbeats 1000000 in
theorem rIsTagNil_any (w : World) :
    Calls Tryz.prog 90 #[.string ⟨#[]⟩] w fun e w' => e = .returned (.bool false) ∧ w = w' := by
  go_enter Tryz.func90, Tryz.ntmps90
  go_wp2
  go_loop [3, 4] (fun b i => i = .int .i64 0 ∧ b = .bool false) (fun _ _ => 0)
  case atStart => exact ⟨rfl, rfl⟩
  case round =>
    obtain ⟨rfl, rfl⟩ := hrel
    go_wp2_with fail
    go_ret
    exact ⟨rfl, rfl⟩
/-- the reference's IsTag -/
theorem rIsTagG_any (s : ByteArray) (w : World) (hs : s.size ≤ 4294967280) :
    Calls Tryz.prog 90 #[.string s] w fun e w' => e = .returned (.bool (tagFull s)) ∧ w = w' := by
  have hle := upto_le (stop := notB tagB) (s := s) (i := 0) (Nat.zero_le _)
  have hmid : ∀ i, i < upto (notB tagB) s 0 → tagB (bt s i) = true := fun i hi => by
    have := upto_mid (stop := notB tagB) (s := s) (i := 0) (Nat.zero_le i) hi
    unfold notB at this
    simpa using this
  by_cases h : upto (notB tagB) s 0 = s.size
  · by_cases h0 : s.size = 0
    · obtain rfl : s = ⟨#[]⟩ := by cases s with | mk d => rw [show d = #[] from Array.eq_empty_of_size_eq_zero h0]
      have : tagFull ⟨#[]⟩ = false := by decide
      rw [this]
      exact rIsTagNil_any w
    · have : tagFull s = isTagB s := by unfold tagFull; rw [decide_eq_true h]; rfl
      rw [this]
      exact rIsTag_any s w hs (by omega) fun i hi => hmid i (by omega)
  · have : tagFull s = false := by unfold tagFull; rw [decide_eq_false h]; rfl
    rw [this]
    have ha := upto_at (stop := notB tagB) (s := s) (i := 0) (by omega)
    exact rIsTagNo_any s w hs (upto (notB tagB) s 0) (by omega) hmid (by have h2 : (!tagB (bt s (upto (notB tagB) s 0))) = true := ha; simpa using h2)
end Go.Proofs.YtnlonleljbbgoaaGreatDoor
namespace Go.Proofs.YtnlonleljbbgoaaGreatDoor
open Go.RowKit

/-- the witness: the settled world with two blocks more (the two errors), the five variables holding what their initialisers lay -/
noncomputable def laidWorld (os : Os) : World :=
  let N := (World.settled Tryz.prog os).heap.size
  let w0 := World.holding Tryz.prog os ⟨#[.cells #[.string "value out of range".toUTF8] 319, .cells #[.string "invalid syntax".toUTF8] 319], #[], []⟩
  let put (h : Array Obj) (g : Nat) (cs : Array Value) : Array Obj := h.modify g fun
    | .cells _ t frozen => .cells cs t frozen
    | o => o
  let h1 := put w0.heap 2 ((([0, 1, 28, 2, 29, 14, 24, 3, 30, 22, 20, 15, 25, 17, 4, 8, 31, 27, 13, 23, 21, 19, 16, 7, 26, 12, 18, 6, 11, 5, 10, 9] : List Int)).map (Value.int .u8)).toArray
  let h2 := put h1 3 ((([0, 1, 56, 2, 57, 49, 28, 3, 61, 58, 42, 50, 38, 29, 17, 4, 62, 47, 59, 36, 45, 43, 51, 22, 53, 39, 33, 30, 24, 18, 12, 5, 63, 55, 48, 27, 60, 41, 37, 16, 46, 35, 44, 21, 52, 32, 23, 11, 54, 26, 40, 15, 34, 20, 31, 10, 25, 14, 19, 9, 13, 8, 7, 6] : List Int)).map (Value.int .u8)).toArray
  let h3 := put h2 1 (((List.range 20).map fun k => Value.int .u64 ((10 ^ k : Nat) : Int))).toArray
  let h4 := put h3 7 #[.iface 317 (.pointer (some ⟨N, 0, none⟩))]
  let h5 := put h4 6 #[.iface 317 (.pointer (some ⟨N + 1, 0, none⟩))]
  { w0 with heap := h5 }
end Go.Proofs.YtnlonleljbbgoaaGreatDoor
