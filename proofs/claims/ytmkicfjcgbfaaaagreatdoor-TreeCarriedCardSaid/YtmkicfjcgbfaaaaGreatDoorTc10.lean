/-
  DERIVED. Same values: tree.sameValue, the reference's SameValue. Conditions: sizes.
  A base in a row of the call's own whose nested memory lies in blocks of a sort. Conditions: none.
  DERIVED: THE SHELF's CONTRACTS AT THIS DUMP, IN PLAIN WORDS (tools/lay-plain.mjs out of 'TrydOut.lean', which tools/lay-shelf.mjs wrote): THE SAME DECLARATIONS UNDER THE SAME NAMES: 'import', 'namespace', 'open', 'def', 'theorem' AND NOTHING ELSE: no command of the shelf's: FOR A HAND-IN. Each laying: the table of numbers ('.._ren') and one theorem, a field a fact of the dump's own or the kernel's comparison; each contract: ONE APPLICATION.
  By an AI agent.
-/
import Derived.Test.YtmkicfjcgbfaaaaGreatDoorTc03
import Derived.Test.YtmkicfjcgbfaaaaGreatDoorChecked
import Derived.WalkSpells
import Derived.Deep.QuietTactic
import Derived.BigQuiet
import Derived.Deep.LoopGhost
import Derived.Test.YtmkicfjcgbfaaaaGreatDoorTc08
import Derived.Shelf.Strings.Trim
import Derived.Shelf.Small.Wraps
import Derived.Shelf.Strings.Cut
import Derived.Shelf.Strings.Prefix
import Derived.Shelf.Strings.Split
import Derived.Test.YtmkicfjcgbfaaaaGreatDoorProg
namespace Go.Proofs.YtmkicfjcgbfaaaaGreatDoor
open Go.RowKit

set_option maxHeartbeats 2000000 in
theorem eqVals_any (L M : List (Vl × Value)) (A A' : Option Addr) (n c n' c' : Nat) (w : World) (B : Nat) (hB : B ≤ w.heap.size) (h1 : Reads w B 5 A n (L.flatMap vlV)) (h2 : Reads w B 5 A' n' (M.flatMap vlV)) (hn : n = L.length) (hn' : n' = M.length) (hbig : n ≤ 140737488351232) (hbig' : n' ≤ 140737488351232)
    (hs1 : ∀ x ∈ L, ∃ A n c, x.2 = .slice A n c) (hs2 : ∀ x ∈ M, ∃ A n c, x.2 = .slice A n c)
    (hcl : ∀ x ∈ L, ∀ y ∈ M, ∀ W, Below w.heap.size w W → Calls Tryz.prog 104 #[AV x, AV y] W fun e w' => e = .returned (.bool (sameV x.1 y.1)) ∧ Below W.heap.size W w') :
    Calls Tryz.prog 118 #[.slice A n c, .slice A' n' c', .func (.func 104) #[] #[]] w fun e w' => e = .returned (.bool (sameL (L.map Prod.fst) (M.map Prod.fst))) ∧ Below w.heap.size w w' := by
  by_cases hl : n = n'
  · subst hl
    have H1 := Lib.hid h1
    have H2 := Lib.hid h2
    have HN := Lib.hid hn
    have HN' := Lib.hid hn'
    have HC := Lib.hid hcl
    have S1 := Lib.hid hs1
    have S2 := Lib.hid hs2
    clear h1 h2 hn hn' hcl hs1 hs2
    obtain ⟨q, hq⟩ : ∃ q, q = sameL (L.map Prod.fst) (M.map Prod.fst) := ⟨_, rfl⟩
    rw [← hq]
    have HQ := Lib.hid hq
    clear hq
    go_enter Tryz.func118, Tryz.ntmps118
    go_wp2_with fail
    go_loopg [17] n (fun gg s17 wr => ∃ k : Nat, k + gg = n ∧ s17 = .int .i64 (k : Int) ∧ Hid (∀ i x y, i < k → L[i]? = some x → M[i]? = some y → sameV x.1 y.1 = true) ∧ Hid (Below w.heap.size w wr))
    case atStart => exact ⟨0, by omega, rfl, (fun i x y hi => absurd hi (by omega)), Below.refl _ _⟩
    case round =>
      obtain ⟨k, hkg, rfl, hno, hbel⟩ := hrel
      by_cases hk : k < n
      · obtain ⟨x, hx⟩ : ∃ x, L[k]? = some x := ⟨_, List.getElem?_eq_getElem (by have := HN.out; omega)⟩
        obtain ⟨y, hy⟩ : ∃ x, M[k]? = some x := ⟨_, List.getElem?_eq_getElem (by have := HN'.out; omega)⟩
        obtain ⟨b, off, rfl, hbb, hc⟩ := H1.out.plain_at (by omega) vlV_len HN.out hx
        obtain ⟨b', off', rfl, hbb', hc'⟩ := H2.out.plain_at (by omega) vlV_len HN'.out hy
        have HX : Hid (∀ W, Below wr.heap.size wr W → Calls _ _ #[AV x, AV y] W _) := fun W hW => HC.out x (List.mem_of_getElem? hx) y (List.mem_of_getElem? hy) W (hbel.out.trans (hW.mono hbel.out.size))
        obtain ⟨⟨kx, ix, tx, sx, lx⟩, vx⟩ := x
        obtain ⟨⟨ky, iy, ty, sy, ly⟩, vy⟩ := y
        obtain ⟨Ax, nx, cx, rfl⟩ := S1.out _ (List.mem_of_getElem? hx)
        obtain ⟨Ay, ny, cy, rfl⟩ := S2.out _ (List.mem_of_getElem? hy)
        have g0 := (hbel.out.cell (p := ⟨b, off + k * 5, none⟩) (by show b < _; omega)).trans (hc 0 _ rfl)
        have g1 := (hbel.out.cell (p := ⟨b, off + k * 5 + 1, none⟩) (by show b < _; omega)).trans (hc 1 _ rfl)
        have g2 := (hbel.out.cell (p := ⟨b, off + k * 5 + 2, none⟩) (by show b < _; omega)).trans (hc 2 _ rfl)
        have g3 := (hbel.out.cell (p := ⟨b, off + k * 5 + 3, none⟩) (by show b < _; omega)).trans (hc 3 _ rfl)
        have g4 := (hbel.out.cell (p := ⟨b, off + k * 5 + 4, none⟩) (by show b < _; omega)).trans (hc 4 _ rfl)
        have k0 := fun o => (World.cell?_alloc_lt wr o ⟨b', off' + k * 5, none⟩ (by show b' < _; have := hbel.out.size; omega)).trans ((hbel.out.cell (p := ⟨b', off' + k * 5, none⟩) (by show b' < _; omega)).trans (hc' 0 _ rfl))
        have k1 := fun o => (World.cell?_alloc_lt wr o ⟨b', off' + k * 5 + 1, none⟩ (by show b' < _; have := hbel.out.size; omega)).trans ((hbel.out.cell (p := ⟨b', off' + k * 5 + 1, none⟩) (by show b' < _; omega)).trans (hc' 1 _ rfl))
        have k2 := fun o => (World.cell?_alloc_lt wr o ⟨b', off' + k * 5 + 2, none⟩ (by show b' < _; have := hbel.out.size; omega)).trans ((hbel.out.cell (p := ⟨b', off' + k * 5 + 2, none⟩) (by show b' < _; omega)).trans (hc' 2 _ rfl))
        have k3 := fun o => (World.cell?_alloc_lt wr o ⟨b', off' + k * 5 + 3, none⟩ (by show b' < _; have := hbel.out.size; omega)).trans ((hbel.out.cell (p := ⟨b', off' + k * 5 + 3, none⟩) (by show b' < _; omega)).trans (hc' 3 _ rfl))
        have k4 := fun o => (World.cell?_alloc_lt wr o ⟨b', off' + k * 5 + 4, none⟩ (by show b' < _; have := hbel.out.size; omega)).trans ((hbel.out.cell (p := ⟨b', off' + k * 5 + 4, none⟩) (by show b' < _; omega)).trans (hc' 4 _ rfl))
        have j0 : (0 : Int) ≤ (k : Int) := by omega
        have j1 : (k : Int) < (n : Int) := by omega
        have HXK := Lib.hid hx
        have HYK := Lib.hid hy
        clear hx hy hc hc'
        obtain ⟨r, hr⟩ : ∃ r, sameV (Vl.mk kx ix tx sx lx) (Vl.mk ky iy ty sy ly) = r := ⟨_, rfl⟩
        simp only [hr] at HX
        have HR := Lib.hid hr
        clear hr
        go_wp2_with fail
        refine (HX.out _ ((Below.refl _ _).alloc (Nat.le_refl _) _ |>.alloc (by simp) _)).mono ?_
        rintro e w2 ⟨rfl, hb2⟩
        have HB2 : Hid (Below w.heap.size w w2) := hbel.out.trans ((((Below.refl _ _).alloc (Nat.le_refl _) _ |>.alloc (by simp) _).trans (hb2.mono (by simp; omega))).mono hbel.out.size)
        clear hb2
        cases r
        · go_wp2_with fail
          go_ret
          refine ⟨?_, HB2.out⟩
          rw [HQ.out]
          refine congrArg (fun b => Ending.returned (.bool b)) (Eq.symm (Bool.eq_false_iff.2 fun h => ?_))
          exact Bool.false_ne_true (HR.out.symm.trans (sameL_at h (by rw [List.getElem?_map, HXK.out]; rfl) (by rw [List.getElem?_map, HYK.out]; rfl)))
        · go_wp2_with fail
          go_roundg (n - (k + 1))
          case measure => omega
          case rel =>
            refine ⟨k + 1, by omega, by go_num, ?_, HB2⟩
            intro i x y hi h1 h2
            by_cases e : i = k
            · subst e
              obtain rfl := Option.some.inj (HXK.out.symm.trans h1)
              obtain rfl := Option.some.inj (HYK.out.symm.trans h2)
              exact HR.out
            · exact hno.out i x y (by omega) h1 h2
      · obtain rfl : k = n := by omega
        go_wp2_with fail
        go_ret
        refine ⟨?_, hbel.out⟩
        rw [HQ.out]
        refine congrArg (fun b => Ending.returned (.bool b)) (Eq.symm (sameL_of (by rw [List.length_map, List.length_map, ← HN.out, HN'.out]) ?_))
        intro i x y h1 h2
        rw [List.getElem?_map, Option.map_eq_some_iff] at h1 h2
        obtain ⟨x', h1, rfl⟩ := h1
        obtain ⟨y', h2, rfl⟩ := h2
        exact hno.out i x' y' (by rw [HN.out]; exact (List.getElem?_eq_some_iff.1 h1).1) h1 h2
  · have hq : sameL (L.map Prod.fst) (M.map Prod.fst) = false := by
      refine Bool.eq_false_iff.2 fun h => hl ?_
      have := sameL_len h
      rw [List.length_map, List.length_map] at this
      omega
    rw [hq]
    have hl' : ((n : Int) == (n' : Int)) = false := by
      rw [beq_eq_false_iff_ne]; omega
    clear h1 h2 hn hn' hcl hs1 hs2 hq
    go_enter Tryz.func118, Tryz.ntmps118
    go_wp2_with fail
    go_ret
    exact ⟨rfl, Below.refl _ _⟩
/-- the walk of sameValue, its items' comparison laid -/
theorem sameVal_walk (x y : Vl × Value) (w : World) (Ax Ay : Option Addr) (nx cx ny cy : Nat) (hx : x.2 = .slice Ax nx cx) (hy : y.2 = .slice Ay ny cy)
    (hq : ∀ W, Below w.heap.size w W → Calls Tryz.prog 118 #[x.2, y.2, .func (.func 104) #[] #[]] W fun e w' => e = .returned (.bool (sameL x.1.items y.1.items)) ∧ Below W.heap.size W w') :
    Calls Tryz.prog 104 #[AV x, AV y] w fun e w' => e = .returned (.bool (sameV x.1 y.1)) ∧ Below w.heap.size w w' := by
  obtain ⟨⟨kx, ix, tx, sx, lx⟩, vx⟩ := x
  obtain ⟨⟨ky, iy, ty, sy, ly⟩, vy⟩ := y
  obtain rfl : vx = _ := hx
  obtain rfl : vy = _ := hy
  have HE := Lib.hid hq
  rw [sameV]
  obtain ⟨q, hq⟩ : ∃ q, q = sameL lx ly := ⟨_, rfl⟩
  simp only [Vl.items, ← hq] at HE ⊢
  obtain ⟨q1, h1⟩ : ∃ q, (kx == ky) = q := ⟨_, rfl⟩
  obtain ⟨q2, h2⟩ : ∃ q, (ix == iy) = q := ⟨_, rfl⟩
  obtain ⟨q3, h3⟩ : ∃ q, (tx == ty) = q := ⟨_, rfl⟩
  rw [dec_toList sx sy]
  obtain ⟨q4, h4⟩ : ∃ q, (sx.toList == sy.toList) = q := ⟨_, rfl⟩
  rw [h1, h2, h3, h4]
  clear hq
  dsimp only [AV, Vl.kind, Vl.int_, Vl.to_, Vl.text]
  cases q1
  · go_enter Tryz.func104, Tryz.ntmps104
    go_wp2_with fail
    go_ret
    exact ⟨rfl, ((Below.refl _ _).alloc (Nat.le_refl _) _).alloc (by simp) _⟩
  cases q2
  · go_enter Tryz.func104, Tryz.ntmps104
    go_wp2_with fail
    go_ret
    exact ⟨rfl, ((Below.refl _ _).alloc (Nat.le_refl _) _).alloc (by simp) _⟩
  cases q3
  · go_enter Tryz.func104, Tryz.ntmps104
    go_wp2_with fail
    go_ret
    exact ⟨rfl, ((Below.refl _ _).alloc (Nat.le_refl _) _).alloc (by simp) _⟩
  cases q4
  · go_enter Tryz.func104, Tryz.ntmps104
    go_wp2_with fail
    go_ret
    exact ⟨rfl, ((Below.refl _ _).alloc (Nat.le_refl _) _).alloc (by simp) _⟩
  go_enter Tryz.func104, Tryz.ntmps104
  go_wp2_with fail
  refine (HE.out _ (((Below.refl _ _).alloc (Nat.le_refl _) _).alloc (by simp) _)).mono ?_
  rintro e w2 ⟨rfl, hb2⟩
  have HB2 : Hid (Below w.heap.size w w2) := (((Below.refl _ _).alloc (Nat.le_refl _) _).alloc (by simp) _).trans (hb2.mono (by simp; omega))
  clear hb2
  go_wp2_with fail
  go_ret
  exact ⟨rfl, HB2.out⟩
/-- tree.sameValue -/
theorem sameVal_any : ∀ (d : Nat) (x y : Vl × Value) (w : World) (B : Nat), B ≤ w.heap.size → RVd w B d x.2 x.1.items → RVd w B d y.2 y.1.items →
    Calls Tryz.prog 104 #[AV x, AV y] w fun e w' => e = .returned (.bool (sameV x.1 y.1)) ∧ Below w.heap.size w w'
  | 0, x, y, w, B, hB, hx, hy => by
    obtain ⟨A, n, c, M, h1, h2, h3, h4, h5, h6⟩ := hx.deeper
    obtain ⟨A', n', c', M', k1, k2, k3, k4, k5, k6⟩ := hy.deeper
    refine sameVal_walk x y w _ _ _ _ _ _ h2 k2 fun W hW => ?_
    rw [h2, k2, ← h1, ← k1]
    have e : M = [] := by rw [← List.map_eq_nil_iff, h1]; exact hx.1
    exact eqVals_any M M' A A' n c n' c' W B (Nat.le_trans hB hW.size) (h5.below (hW.mono hB)) (k5.below (hW.mono hB)) h3 k3 (by omega) (by omega) (fun z hz => (RV.slice ⟨_, h6 z hz⟩)) (fun z hz => (RV.slice ⟨_, k6 z hz⟩)) (fun z hz => by rw [e] at hz; cases hz)
  | d + 1, x, y, w, B, hB, ⟨A, n, c, M, h1, h2, h3, h4, h5, h6⟩, ⟨A', n', c', M', k1, k2, k3, k4, k5, k6⟩ => by
    refine sameVal_walk x y w _ _ _ _ _ _ h2 k2 fun W hW => ?_
    rw [h2, k2, ← h1, ← k1]
    exact eqVals_any M M' A A' n c n' c' W B (Nat.le_trans hB hW.size) (h5.below (hW.mono hB)) (k5.below (hW.mono hB)) h3 k3 (by omega) (by omega) (fun z hz => (RV.slice ⟨_, h6 z hz⟩)) (fun z hz => (RV.slice ⟨_, k6 z hz⟩)) (fun z hz u hu W' hW' => sameVal_any d z u W' B (by have := hW.size; have := hW'.size; omega) (((h6 z hz).below (hW.mono hB)).below (hW'.mono (Nat.le_trans hB hW.size))) (((k6 u hu).below (hW.mono hB)).below (hW'.mono (Nat.le_trans hB hW.size))) )
end Go.Proofs.YtmkicfjcgbfaaaaGreatDoor
namespace Go.Proofs.YtmkicfjcgbfaaaaGreatDoor
open Go.RowKit

/-- a base that is turned in place; what its blocks lead to lies in blocks of the sort S -/
structure RowS (S : Nat → Prop) (w : World) (g cap : Nat) (M : List BK) : Prop extends RowB w g cap M where
  far : ∀ x ∈ M, NB w (fun b => (b < w.heap.size ∧ b ≠ g) ∧ S b) x
section
variable {S : Nat → Prop} {w w' : World} {g cap : Nat} {M : List BK}
theorem RowB.all (h : RowB w g cap M) : RowS (fun _ => True) w g cap M := ⟨h, fun x hx => NB_ok _ _ _ _ x (h.nest x hx) (fun _ _ => rfl) fun _ hb => ⟨hb, trivial⟩⟩
theorem RowS.weak {S' : Nat → Prop} (h : RowS S w g cap M) (hS : ∀ b, b < w.heap.size → S b → S' b) : RowS S' w g cap M := ⟨h.toRowB, fun x hx => NB_ok _ _ _ _ x (h.far x hx) (fun _ _ => rfl) fun b hb => ⟨hb.1, hS b hb.1.1 hb.2⟩⟩
theorem RowS.below (h : RowS S w g cap M) (hb : Below w.heap.size w w') : RowS S w' g cap M :=
  ⟨h.toRowB.below hb, fun x hx => NB_ok _ _ _ _ x (h.far x hx) (fun _ hp => hb.cell hp.1.1) fun _ hb' => ⟨⟨Nat.lt_of_lt_of_le hb'.1.1 hb.size, hb'.1.2⟩, hb'.2⟩⟩
theorem RowS.store (h : RowS S w g cap M) {k j : Nat} {x y : BK} {u : Value} (hx : M[k]? = some x) (hj : j < 5) (he : blV y = (blV x).set j u) (hn : NB w (fun b => (b < w.heap.size ∧ b ≠ g) ∧ S b) y) : RowS S (w.setCell ⟨g, k * 5 + j, none⟩ u) g cap (M.set k y) := by
  have hsz : (w.setCell ⟨g, k * 5 + j, none⟩ u).heap.size = w.heap.size := by simp [World.setCell]
  have hkeep : ∀ p : Addr, (p.block < w.heap.size ∧ p.block ≠ g) ∧ S p.block → (w.setCell ⟨g, k * 5 + j, none⟩ u).cell? p = w.cell? p := fun p hp => World.cell?_setCell_other _ _ p _ (by intro e; subst e; exact hp.1.2 rfl)
  refine ⟨h.toRowB.store hx hj he (NB_ok _ _ _ _ y hn (fun _ _ => rfl) fun b hb => hb.1), fun z hz => ?_⟩
  rw [hsz]
  rcases List.mem_or_eq_of_mem_set hz with hz | rfl
  · exact NB_ok _ _ _ _ z (h.far z hz) hkeep fun b hb => hb
  · exact NB_ok _ _ _ _ z hn hkeep fun b hb => hb
/-- a world in which no block that matters is another one -/
theorem RowS.keep (h : RowS S w g cap M) (hk : ∀ b, b = g ∨ (b < w.heap.size ∧ S b) → w'.heap[b]? = w.heap[b]?) (hz : w.heap.size ≤ w'.heap.size) : RowS S w' g cap M := by
  obtain ⟨sp, h1, h2⟩ := h.row
  have hkeep : ∀ p : Addr, (p.block < w.heap.size ∧ p.block ≠ g) ∧ S p.block → w'.cell? p = w.cell? p := fun p hp => World.cell?_of_block (hk _ (.inr ⟨hp.1.1, hp.2⟩))
  have hf : ∀ x ∈ M, NB w' (fun b => (b < w'.heap.size ∧ b ≠ g) ∧ S b) x := fun x hx => NB_ok _ _ _ _ x (h.far x hx) hkeep fun b hb => ⟨⟨Nat.lt_of_lt_of_le hb.1.1 hz, hb.1.2⟩, hb.2⟩
  exact ⟨⟨⟨sp, (hk g (.inl rfl)).trans h1, h2⟩, h.room, h.few, fun x hx => NB_ok _ _ _ _ x (hf x hx) (fun _ _ => rfl) fun b hb => hb.1⟩, hf⟩
theorem RowS.of_own {base : Nat} {v : Value} (h : w.ownsRow base 52 5 v M.length (M.flatMap blV)) (h0 : 0 < M.length) (hf : M.length ≤ 100000) (hn : ∀ x ∈ M, NB w (fun b => (b < w.heap.size ∧ v.ownBlock ≠ some b) ∧ S b) x) : ∃ g cap, v = .slice (some ⟨g, 0, none⟩) M.length cap ∧ base ≤ g ∧ RowS S w g cap M := by
  obtain ⟨g, cap, rfl, hb, hr⟩ := RowB.of_own h h0 hf fun x hx => NB_ok _ _ _ _ x (hn x hx) (fun _ _ => rfl) fun b hb => hb.1
  exact ⟨g, cap, rfl, hb, hr, fun x hx => NB_ok _ _ _ _ x (hn x hx) (fun _ _ => rfl) fun b hb => ⟨⟨hb.1.1, fun e => hb.1.2 (by rw [e]; rfl)⟩, hb.2⟩⟩
end
end Go.Proofs.YtmkicfjcgbfaaaaGreatDoor
namespace Go.Proofs
open Go.Shelf

def Tryz.lays161_ren : Go.Shelf.Ren := ⟨fun | 161 => 19 | 231 => 37 | 227 => 38 | 233 => 39 | 235 => 40 | 228 => 55 | 197 => 56 | 151 => 57 | 260 => 79 | 152 => 80 | 137 => 98 | 119 => 99 | 224 => 77 | 225 => 76 | 217 => 75 | 266 => 96 | n => n, fun | 9 => 9 | 4 => 4 | 3 => 3 | 5 => 5 | 117 => 85 | 116 => 84 | 0 => 0 | 124 => 88 | 105 => 106 | 21 => 21 | 119 => 144 | 46 => 73 | 139 => 147 | 138 => 146 | n => n, fun | 3 => 1 | 4 => 2 | n => n⟩
theorem Tryz.lays161 : Go.Proofs.Lays.n161 Tryz.prog Tryz.lays161_ren := {
  mixed := by kernel_rfl
  f119 := Tryz.func99.trans (congrArg some (by kernel_rfl))
  f137 := Tryz.func98.trans (congrArg some (by kernel_rfl))
  f151 := Tryz.func57.trans (congrArg some (by kernel_rfl))
  f152 := Tryz.func80.trans (congrArg some (by kernel_rfl))
  f161 := Tryz.func19.trans (congrArg some (by kernel_rfl))
  f197 := Tryz.func56.trans (congrArg some (by kernel_rfl))
  f217 := Tryz.func75.trans (congrArg some (by kernel_rfl))
  f224 := Tryz.func77.trans (congrArg some (by kernel_rfl))
  f225 := Tryz.func76.trans (congrArg some (by kernel_rfl))
  f227 := Tryz.func38.trans (congrArg some (by kernel_rfl))
  f228 := Tryz.func55.trans (congrArg some (by kernel_rfl))
  f231 := Tryz.func37.trans (congrArg some (by kernel_rfl))
  f233 := Tryz.func39.trans (congrArg some (by kernel_rfl))
  f235 := Tryz.func40.trans (congrArg some (by kernel_rfl))
  f260 := Tryz.func79.trans (congrArg some (by kernel_rfl))
  f266 := Tryz.func96.trans (congrArg some (by kernel_rfl))
  t0 := Tryz.underlying0
  a0 := Tryz.isAgg0
  z0 := Tryz.sizeOf0
  v0 := Tryz.zeroValue0
  t3 := Tryz.underlying3
  a3 := Tryz.isAgg3
  z3 := Tryz.sizeOf3
  v3 := Tryz.zeroValue3
  t4 := Tryz.underlying4
  a4 := Tryz.isAgg4
  z4 := Tryz.sizeOf4
  v4 := Tryz.zeroValue4
  t5 := Tryz.underlying5
  a5 := Tryz.isAgg5
  z5 := Tryz.sizeOf5
  v5 := Tryz.zeroValue5
  t9 := Tryz.underlying9
  a9 := Tryz.isAgg9
  z9 := Tryz.sizeOf9
  v9 := Tryz.zeroValue9
  t21 := Tryz.underlying21
  a21 := Tryz.isAgg21
  z21 := Tryz.sizeOf21
  v21 := Tryz.zeroValue21
  t46 := Tryz.underlying73
  a46 := Tryz.isAgg73
  z46 := Tryz.sizeOf73
  v46 := Tryz.zeroValue73
  t105 := Tryz.underlying106
  a105 := Tryz.isAgg106
  z105 := Tryz.sizeOf106
  v105 := Tryz.zeroValue106
  t116 := Tryz.underlying84
  a116 := Tryz.isAgg84
  z116 := Tryz.sizeOf84
  t117 := Tryz.underlying85
  a117 := Tryz.isAgg85
  z117 := Tryz.sizeOf85
  v117 := Tryz.zeroValue85
  t119 := Tryz.underlying144
  a119 := Tryz.isAgg144
  z119 := Tryz.sizeOf144
  t124 := Tryz.underlying88
  a124 := Tryz.isAgg88
  z124 := Tryz.sizeOf88
  v124 := Tryz.zeroValue88
  t138 := Tryz.underlying146
  a138 := Tryz.isAgg146
  z138 := Tryz.sizeOf146
  v138 := Tryz.zeroValue146
  t139 := Tryz.underlying147
  a139 := Tryz.isAgg147
  z139 := Tryz.sizeOf147
  v139 := Tryz.zeroValue147
  g3 := by kernel_rfl
  g4 := by kernel_rfl }
open Go.RowKit in
theorem Tryz.strings_TrimLeft_one (s : ByteArray) (c : UInt8) (hc : c.toNat < 128) (w : World) :
    Calls Tryz.prog 19 #[.string s, .string ⟨#[c]⟩] w fun e w' => e = .returned (.string ⟨(Lib.trimLeftB s.data.toList c).toArray⟩) ∧ w' = w := Any.strings_TrimLeft_one Tryz.lays161 s c hc w
def Tryz.lays145_ren : Go.Shelf.Ren := ⟨fun | 145 => 18 | 220 => 36 | 219 => 54 | 217 => 75 | 225 => 76 | 224 => 77 | 267 => 78 | 266 => 96 | 314 => 97 | n => n, fun | 9 => 9 | 4 => 4 | 59 => 55 | 3 => 3 | 5 => 5 | 46 => 73 | 146 => 99 | 51 => 98 | n => n, fun | 1 => 0 | n => n⟩
theorem Tryz.lays145 : Go.Proofs.Lays.n145 Tryz.prog Tryz.lays145_ren := {
  mixed := by kernel_rfl
  f145 := Tryz.func18.trans (congrArg some (by kernel_rfl))
  f217 := Tryz.func75.trans (congrArg some (by kernel_rfl))
  f219 := Tryz.func54.trans (congrArg some (by kernel_rfl))
  f220 := Tryz.func36.trans (congrArg some (by kernel_rfl))
  f224 := Tryz.func77.trans (congrArg some (by kernel_rfl))
  f225 := Tryz.func76.trans (congrArg some (by kernel_rfl))
  f266 := Tryz.func96.trans (congrArg some (by kernel_rfl))
  f267 := Tryz.func78.trans (congrArg some (by kernel_rfl))
  f314 := Tryz.func97.trans (congrArg some (by kernel_rfl))
  t3 := Tryz.underlying3
  a3 := Tryz.isAgg3
  z3 := Tryz.sizeOf3
  v3 := Tryz.zeroValue3
  t4 := Tryz.underlying4
  a4 := Tryz.isAgg4
  z4 := Tryz.sizeOf4
  v4 := Tryz.zeroValue4
  t5 := Tryz.underlying5
  a5 := Tryz.isAgg5
  z5 := Tryz.sizeOf5
  v5 := Tryz.zeroValue5
  t9 := Tryz.underlying9
  a9 := Tryz.isAgg9
  z9 := Tryz.sizeOf9
  v9 := Tryz.zeroValue9
  t46 := Tryz.underlying73
  a46 := Tryz.isAgg73
  z46 := Tryz.sizeOf73
  v46 := Tryz.zeroValue73
  t51 := Tryz.underlying98
  a51 := Tryz.isAgg98
  z51 := Tryz.sizeOf98
  v51 := Tryz.zeroValue98
  t59 := Tryz.underlying55
  a59 := Tryz.isAgg55
  z59 := Tryz.sizeOf55
  v59 := Tryz.zeroValue55
  t146 := Tryz.underlying99
  a146 := Tryz.isAgg99
  z146 := Tryz.sizeOf99
  v146 := Tryz.zeroValue99
  g1 := by kernel_rfl }
open Go.RowKit Go.Lib in
theorem Tryz.strings_Cut (s sep : ByteArray) (m : Int) (w : World) (hs : s.size < 4294967281) (hm : w.cell? ⟨0, 0, none⟩ = some (.int .i64 m)) :
    Calls Tryz.prog 18 #[.string s, .string sep] w fun e w' => e = .returned (.tuple #[.string ⟨(Lib.cut s.data.toList sep.data.toList).1.toArray⟩, .string ⟨(Lib.cut s.data.toList sep.data.toList).2.1.toArray⟩, .bool (Lib.cut s.data.toList sep.data.toList).2.2]) ∧ ∃ n, w' = w.drewN n := Any.strings_Cut Tryz.lays145 s sep m w hs hm
def Tryz.lays99_ren : Go.Shelf.Ren := ⟨fun | 99 => 20 | 206 => 41 | n => n, fun | 9 => 9 | 4 => 4 | 3 => 3 | n => n, fun | n => n⟩
theorem Tryz.lays99 : Go.Proofs.Lays.n99 Tryz.prog Tryz.lays99_ren := {
  mixed := by kernel_rfl
  f99 := Tryz.func20.trans (congrArg some (by kernel_rfl))
  f206 := Tryz.func41.trans (congrArg some (by kernel_rfl))
  t3 := Tryz.underlying3
  a3 := Tryz.isAgg3
  z3 := Tryz.sizeOf3
  v3 := Tryz.zeroValue3
  t4 := Tryz.underlying4
  a4 := Tryz.isAgg4
  z4 := Tryz.sizeOf4
  v4 := Tryz.zeroValue4
  t9 := Tryz.underlying9
  a9 := Tryz.isAgg9
  z9 := Tryz.sizeOf9
  v9 := Tryz.zeroValue9 }
open Go.RowKit Go.Lib in
theorem Tryz.strings_HasPrefix (s p : ByteArray) (w : World) :
    Calls Tryz.prog 20 #[.string s, .string p] w fun e w' => e = .returned (.bool (Lib.hasPrefix s.data.toList p.data.toList)) ∧ w' = w := Any.strings_HasPrefix Tryz.lays99 s p w
end Go.Proofs
