/-
  DERIVED. Lists of properties that came in, opened: values, properties. Conditions: none.
  Same values: the reference's SameValue. Conditions: sizes.
  By an AI agent.
-/
import Derived.Test.YtmkicfjcgbfaaaaGreatTg08
import Derived.Test.YtmkicfjcgbfaaaaGreatTg03
import Derived.Test.YtmkicfjcgbfaaaaGreatTg10
import Derived.Deep.RegionHeld3
namespace Go.Proofs.YtmkicfjcgbfaaaaGreat
open Go.ChangeShapes Go.WideShapes Go.RowKit

theorem fm_len {α : Type} {en : α → List Value} {c : Nat} (h : ∀ x, (en x).length = c) : ∀ M : List α, (M.flatMap en).length = M.length * c
  | [] => by simp
  | x :: M => by rw [List.flatMap_cons, List.length_append, h, fm_len h M, List.length_cons, Nat.succ_mul]; omega
theorem choose_list {α : Type} {p : Nat → α → Prop} : ∀ (n : Nat), (∀ i, i < n → ∃ a, p i a) → ∃ l : List α, l.length = n ∧ ∀ i a, l[i]? = some a → p i a
  | 0, _ => ⟨[], rfl, by simp⟩
  | n + 1, h => by
    obtain ⟨l, hl, hp⟩ := choose_list n (fun i hi => h i (by omega))
    obtain ⟨a, ha⟩ := h n (by omega)
    refine ⟨l ++ [a], by simp [hl], fun i b hb => ?_⟩
    rcases Nat.lt_or_ge i n with hi | hi
    · rw [List.getElem?_append_left (by omega)] at hb
      exact hp i b hb
    · rw [List.getElem?_append_right (by omega)] at hb
      obtain rfl : i = n := by
        rcases Nat.lt_or_ge (i - l.length) 1 with h1 | h1
        · omega
        · rw [List.getElem?_eq_none (by simpa using h1)] at hb; cases hb
      rw [hl, Nat.sub_self] at hb
      simp at hb
      subst hb
      exact ha

section
variable {H : Type} {enc : TypeId × Value → H} {P : Program} {W : World}
/-- a slice that was read, row by row -/
theorem open_list {α : Type} {en : α → List Value} {C Y : Nat} {Q : Nat → α → Prop} {t e : TypeId} {fuel : Nat} {u : Value} {y : DataW H × List MemPlace} (ht : P.underlying t = some (.slice e)) (hC : P.cellsOf e = C) (hC0 : 0 < C) (hY : P.bytesOf e = Y) (hen : ∀ x, (en x).length = C)
    (hrow : ∀ (m : Nat) (cs : List Value) (z : DataW H × List MemPlace), m < fuel → DataW.trod enc P W 0 (fun _ => true) true m e cs = some z → (∀ x ∈ z.2, x.block < W.heap.size) → Fits P e z.1 → ∃ x, en x = cs ∧ Q m x)
    (h : DataW.trod enc P W 0 (fun _ => true) true fuel t [u] = some y) (hp : ∀ x ∈ y.2, x.block < W.heap.size) (hfit : Fits P t y.1) :
    ∃ A n c, ∃ M : List α, u = .slice A n c ∧ n = M.length ∧ (n ≤ c ∧ n * Y ≤ 140737488351232) ∧ Reads W W.heap.size C A n (M.flatMap en) ∧ ∀ x ∈ M, ∃ m, m < fuel ∧ Q m x := by
  rcases DataW.trod_slice ht h with ⟨hcs, hx⟩ | ⟨a, len, cap, elems, rest, m, rfl, hcs, rfl, _, hl, hcap, hel, hi, hsp, _⟩
  · obtain rfl : u = .slice none 0 0 := by simpa using hcs
    exact ⟨none, 0, 0, [], rfl, rfl, ⟨Nat.le_refl _, by omega⟩, ⟨by simp, fun h => absurd h (by omega)⟩, fun x hx => by cases hx⟩
  · obtain rfl : u = .slice (some a) len cap := by simpa using hcs
    rw [hC] at hi
    have hs := hfit.slice ht
    simp only [List.length_map] at hs
    rw [hel, hY] at hs
    have hs : len * Y ≤ 140737488351232 := Nat.le_trans (Nat.mul_le_mul_right _ (by omega)) hs
    obtain ⟨M, h1, h2⟩ := choose_list (p := fun i x => (∀ j w, (en x)[j]? = some w → W.cell? (a.add (i * C + j)) = some w) ∧ Q m x) len fun i hil => by
      have h1 := hi i hil
      rw [List.getElem?_eq_getElem (by omega)] at h1
      obtain ⟨cs, hc, htr⟩ := Option.bind_eq_some_iff.1 h1
      obtain ⟨_, hrl, hat⟩ := World.cells?_some hc
      obtain ⟨x, hx, hq⟩ := hrow m cs _ (Nat.lt_succ_self m) htr (fun z hz => hp z (List.mem_append_right _ (List.mem_flatMap.2 ⟨_, List.mem_append_left _ (List.getElem_mem _), hz⟩)))
        (hfit.elem ht (List.mem_map.2 ⟨_, List.getElem_mem _, rfl⟩))
      refine ⟨x, fun j w hj => ?_, hq⟩
      rw [hx] at hj
      have hjl : j < C := by rw [← hrl]; exact (List.getElem?_eq_some_iff.1 hj).1
      rw [← add_of_add, hat j hjl, hj]
    refine ⟨some a, len, cap, M, rfl, h1.symm, ⟨hl, hs⟩, ⟨by rw [fm_len hen, h1], fun hn => ⟨a, rfl, ?_, fun k w hk => ?_⟩⟩, fun x hx => ?_⟩
    · exact hp (.cell a.block a.off) (List.mem_append_left _ (MemPlace.mem_row.2 ⟨0, Nat.mul_pos (by omega) (by rw [hC]; exact hC0), by simp⟩))
    · have hkl := (List.getElem?_eq_some_iff.1 hk).1
      rw [fm_len hen] at hkl
      have hkk : k / C * C + k % C = k := by rw [Nat.mul_comm]; exact Nat.div_add_mod k C
      have hd : k / C < M.length := Nat.div_lt_of_lt_mul (by rw [Nat.mul_comm]; exact hkl)
      have hm := Nat.mod_lt k hC0
      obtain ⟨x, hx⟩ : ∃ x, M[k / C]? = some x := ⟨_, List.getElem?_eq_getElem hd⟩
      have h4 := fm_get en C hen M (k / C) (k % C) x hx hm
      rw [hkk, hk] at h4
      have h5 := (h2 _ x hx).1 (k % C) w h4.symm
      rw [hkk] at h5
      exact h5
    · obtain ⟨i, hi', rfl⟩ := List.mem_iff_getElem.1 hx
      exact ⟨m, Nat.lt_succ_self m, (h2 i _ (List.getElem?_eq_getElem hi')).2⟩
end

theorem cellsV : Tryz.prog.cellsOf 29 = 5 := by kernel_rfl
theorem cellsP : Tryz.prog.cellsOf 116 = 6 := by kernel_rfl
theorem cells_of_int : Tryz.prog.cellsOf 3 = 1 := by kernel_rfl
theorem cells_of_str : Tryz.prog.cellsOf 9 = 1 := by kernel_rfl
theorem cells_of_vals : Tryz.prog.cellsOf 27 = 1 := by kernel_rfl
theorem cells_of_props : Tryz.prog.cellsOf 36 = 1 := by kernel_rfl

section
variable {H : Type} {enc : TypeId × Value → H} {W : World}
set_option maxRecDepth 100000 in
theorem val_open : ∀ (fuel : Nat) (cs : List Value) (x : DataW H × List MemPlace),
    DataW.trod enc Tryz.prog W 0 (fun _ => true) true fuel 29 cs = some x → (∀ y ∈ x.2, y.block < W.heap.size) → Fits Tryz.prog 29 x.1 → ∃ v : Vl × Value, vlV v = cs ∧ RVd W W.heap.size fuel v.2 v.1.items := by
  intro fuel
  induction fuel using Nat.strongRecOn with
  | _ fuel ih =>
    intro cs x h hp hfit
    obtain ⟨xs, n, rfl, rfl, hlen, hxl, hf⟩ := DataW.trod_struct Tryz.underlying29 h
    rw [cellsV] at hlen
    match cs, hlen with
    | [u0, u1, u2, u3, u4], _ =>
      match xs, hxl with
      | [y0, y1, y2, y3, y4], _ =>
        have g0 : DataW.trod enc Tryz.prog W 0 (fun _ => true) true n 3 (([u0, u1, u2, u3, u4].drop 0).take (Tryz.prog.cellsOf 3)) = some y0 := hf 0 _ rfl
        have g1 : DataW.trod enc Tryz.prog W 0 (fun _ => true) true n 3 (([u0, u1, u2, u3, u4].drop 1).take (Tryz.prog.cellsOf 3)) = some y1 := hf 1 _ rfl
        have g2 : DataW.trod enc Tryz.prog W 0 (fun _ => true) true n 3 (([u0, u1, u2, u3, u4].drop 2).take (Tryz.prog.cellsOf 3)) = some y2 := hf 2 _ rfl
        have g3 : DataW.trod enc Tryz.prog W 0 (fun _ => true) true n 9 (([u0, u1, u2, u3, u4].drop 3).take (Tryz.prog.cellsOf 9)) = some y3 := hf 3 _ rfl
        have g4 : DataW.trod enc Tryz.prog W 0 (fun _ => true) true n 27 (([u0, u1, u2, u3, u4].drop 4).take (Tryz.prog.cellsOf 27)) = some y4 := hf 4 _ rfl
        rw [cells_of_int] at g0 g1 g2
        rw [cells_of_str] at g3
        rw [cells_of_vals] at g4
        change DataW.trod enc Tryz.prog W 0 (fun _ => true) true n 3 [u0] = some y0 at g0
        change DataW.trod enc Tryz.prog W 0 (fun _ => true) true n 3 [u1] = some y1 at g1
        change DataW.trod enc Tryz.prog W 0 (fun _ => true) true n 3 [u2] = some y2 at g2
        change DataW.trod enc Tryz.prog W 0 (fun _ => true) true n 9 [u3] = some y3 at g3
        change DataW.trod enc Tryz.prog W 0 (fun _ => true) true n 27 [u4] = some y4 at g4
        obtain ⟨k, e0, rfl, _⟩ := DataW.trod_int Tryz.underlying3 g0
        obtain ⟨i, e1, rfl, _⟩ := DataW.trod_int Tryz.underlying3 g1
        obtain ⟨t, e2, rfl, _⟩ := DataW.trod_int Tryz.underlying3 g2
        obtain ⟨s, e3, rfl, _⟩ := DataW.trod_string Tryz.underlying9 g3
        simp at e0 e1 e2 e3
        subst e0 e1 e2 e3
        have hfit4 : Fits Tryz.prog 27 y4.1 := hfit.part Tryz.underlying29 (j := 4) rfl rfl
        have hp4 : ∀ y ∈ y4.2, y.block < W.heap.size := fun y hy => hp y (by simp [hy])
        obtain ⟨A, len, cap, M, rfl, h1, h2, h3, h4⟩ := open_list (en := vlV) (Q := fun m x => RVd W W.heap.size m x.2 x.1.items) Tryz.underlying27 cellsV (by omega) (show _ = 64 by kernel_rfl) vlV_len
          (fun m cs z hm htr hz hft => ih m (by omega) cs z htr hz hft) g4 hp4 hfit4
        exact ⟨(.mk k i t s (M.map Prod.fst), .slice A len cap), rfl, A, len, cap, M, rfl, rfl, h1, h2, h3, fun x hx => by
          obtain ⟨m, hm, hq⟩ := h4 x hx
          exact hq.up (by omega)⟩

set_option maxRecDepth 100000 in
theorem prop_open (fuel : Nat) (cs : List Value) (x : DataW H × List MemPlace)
    (h : DataW.trod enc Tryz.prog W 0 (fun _ => true) true fuel 116 cs = some x) (hp : ∀ y ∈ x.2, y.block < W.heap.size) (hfit : Fits Tryz.prog 116 x.1) : ∃ p : Pr × Value, prV p = cs ∧ RV W W.heap.size p.2 p.1.val.items := by
  obtain ⟨xs, n, rfl, rfl, hlen, hxl, hf⟩ := DataW.trod_struct Tryz.underlying116 h
  rw [cellsP] at hlen
  match cs, hlen with
  | [u0, u1, u2, u3, u4, u5], _ =>
    match xs, hxl with
    | [y0, y1], _ =>
      have g0 : DataW.trod enc Tryz.prog W 0 (fun _ => true) true n 9 (([u0, u1, u2, u3, u4, u5].drop 0).take (Tryz.prog.cellsOf 9)) = some y0 := hf 0 _ rfl
      have g1 : DataW.trod enc Tryz.prog W 0 (fun _ => true) true n 29 (([u0, u1, u2, u3, u4, u5].drop 1).take (Tryz.prog.cellsOf 29)) = some y1 := hf 1 _ rfl
      rw [cells_of_str] at g0
      rw [cellsV] at g1
      change DataW.trod enc Tryz.prog W 0 (fun _ => true) true n 9 [u0] = some y0 at g0
      change DataW.trod enc Tryz.prog W 0 (fun _ => true) true n 29 [u1, u2, u3, u4, u5] = some y1 at g1
      obtain ⟨s, e0, rfl, _⟩ := DataW.trod_string Tryz.underlying9 g0
      simp at e0
      subst e0
      obtain ⟨v, hv, hq⟩ := val_open n _ y1 g1 (fun y hy => hp y (by simp [hy])) (hfit.part Tryz.underlying116 (j := 1) rfl rfl)
      exact ⟨(⟨s, v.1⟩, v.2), by rw [prV]; exact congrArg _ hv, n, hq⟩

set_option maxRecDepth 100000 in
theorem props_open {fuel : Nat} {u : Value} {y : DataW H × List MemPlace} (h : DataW.trod enc Tryz.prog W 0 (fun _ => true) true fuel 36 [u] = some y) (hp : ∀ x ∈ y.2, x.block < W.heap.size) (hfit : Fits Tryz.prog 36 y.1) : ∃ ps, RPr W W.heap.size u ps := by
  obtain ⟨A, len, cap, M, rfl, h1, h2, h3, h4⟩ := open_list (en := prV) (Q := fun _ x => RV W W.heap.size x.2 x.1.val.items) Tryz.underlying36 cellsP (by omega) (show _ = 80 by kernel_rfl) prV_len
    (fun m cs z hm htr hz hft => prop_open m cs z htr hz hft) h hp hfit
  exact ⟨M.map Prod.fst, A, len, cap, M, rfl, rfl, h1, h2, h3, fun x hx => by
    obtain ⟨m, _, hq⟩ := h4 x hx
    exact hq⟩

end
end Go.Proofs.YtmkicfjcgbfaaaaGreat
namespace Go.Proofs.YtmkicfjcgbfaaaaGreat
open Go.RowKit

set_option maxHeartbeats 4000000 in
theorem sameR_walk (x y : Vl × Value) (L M : List (Vl × Value)) (A A' : Option Addr) (n c n' c' : Nat) (w : World) (B : Nat) (hB : B ≤ w.heap.size) (hx : x.2 = .slice A n c) (hy : y.2 = .slice A' n' c') (hxl : L.map Prod.fst = x.1.items) (hyl : M.map Prod.fst = y.1.items) (h1 : Reads w B 5 A n (L.flatMap vlV)) (h2 : Reads w B 5 A' n' (M.flatMap vlV)) (hn : n = L.length) (hn' : n' = M.length) (hbig : n ≤ 140737488351232) (hbig' : n' ≤ 140737488351232)
    (hs1 : ∀ x ∈ L, ∃ A n c, x.2 = .slice A n c) (hs2 : ∀ x ∈ M, ∃ A n c, x.2 = .slice A n c)
    (hcl : ∀ x ∈ L, ∀ y ∈ M, ∀ W, Below w.heap.size w W → Calls Tryz.prog 108 #[AV x, AV y] W fun e w' => e = .returned (.bool (sameV x.1 y.1)) ∧ Below W.heap.size W w') :
    Calls Tryz.prog 108 #[AV x, AV y] w fun e w' => e = .returned (.bool (sameV x.1 y.1)) ∧ Below w.heap.size w w' := by
  obtain ⟨⟨kx, ix, tx, sx, lx⟩, vx⟩ := x
  obtain ⟨⟨ky, iy, ty, sy, ly⟩, vy⟩ := y
  obtain rfl : vx = _ := hx
  obtain rfl : vy = _ := hy
  obtain rfl : _ = lx := hxl
  obtain rfl : _ = ly := hyl
  have H1 := Lib.hid h1
  have H2 := Lib.hid h2
  have HN := Lib.hid hn
  have HN' := Lib.hid hn'
  have HC := Lib.hid hcl
  have S1 := Lib.hid hs1
  have S2 := Lib.hid hs2
  clear h1 h2 hn hn' hcl hs1 hs2
  dsimp only [AV, Vl.kind, Vl.int_, Vl.to_, Vl.text]
  rw [sameV]
  rw [dec_toList sx sy]
  obtain ⟨q1, h1⟩ : ∃ q, (kx == ky) = q := ⟨_, rfl⟩
  obtain ⟨q2, h2⟩ : ∃ q, (ix == iy) = q := ⟨_, rfl⟩
  obtain ⟨q3, h3⟩ : ∃ q, (tx == ty) = q := ⟨_, rfl⟩
  obtain ⟨q4, h4⟩ : ∃ q, (sx.toList == sy.toList) = q := ⟨_, rfl⟩
  rw [h1, h2, h3, h4]
  cases q1
  · have b1 : (kx != ky) = true := congrArg (!·) h1
    go_enter Tryz.func108, Tryz.ntmps108
    go_wp2_with fail
    go_ret
    exact ⟨rfl, ((Below.refl _ _).alloc (Nat.le_refl _) _).alloc (by simp) _⟩
  have b1 : (kx != ky) = false := congrArg (!·) h1
  cases q2
  · have b2 : (ix != iy) = true := congrArg (!·) h2
    go_enter Tryz.func108, Tryz.ntmps108
    go_wp2_with fail
    go_ret
    exact ⟨rfl, ((Below.refl _ _).alloc (Nat.le_refl _) _).alloc (by simp) _⟩
  have b2 : (ix != iy) = false := congrArg (!·) h2
  cases q3
  · have b3 : (tx != ty) = true := congrArg (!·) h3
    go_enter Tryz.func108, Tryz.ntmps108
    go_wp2_with fail
    go_ret
    exact ⟨rfl, ((Below.refl _ _).alloc (Nat.le_refl _) _).alloc (by simp) _⟩
  have b3 : (tx != ty) = false := congrArg (!·) h3
  cases q4
  · have b4 : (sx.toList != sy.toList) = true := congrArg (!·) h4
    go_enter Tryz.func108, Tryz.ntmps108
    go_wp2_with fail
    go_ret
    exact ⟨rfl, ((Below.refl _ _).alloc (Nat.le_refl _) _).alloc (by simp) _⟩
  have b4 : (sx.toList != sy.toList) = false := congrArg (!·) h4
  by_cases hl : n = n'
  · subst hl
    obtain ⟨q, hq⟩ : ∃ q, q = sameL (L.map Prod.fst) (M.map Prod.fst) := ⟨_, rfl⟩
    rw [← hq]
    have HQ := Lib.hid hq
    clear hq
    go_enter Tryz.func108, Tryz.ntmps108
    go_wp2_with fail
    obtain ⟨X, hX⟩ : ∃ X, X = ((w.alloc (.cells #[.int .i64 kx, .int .i64 ix, .int .i64 tx, .string sx, .slice A n c] 29)).alloc (.cells #[.int .i64 ky, .int .i64 iy, .int .i64 ty, .string sy, .slice A' n c'] 29)) := ⟨_, rfl⟩
    have p0 : Blk X w.heap.size 29 #[.int .i64 kx, .int .i64 ix, .int .i64 tx, .string sx, .slice A n c] := by rw [hX]; exact (Blk.new w _ _).alloc _
    have p1 : Blk X (w.heap.size + 1) 29 #[.int .i64 ky, .int .i64 iy, .int .i64 ty, .string sy, .slice A' n c'] := by
      rw [hX]
      have h := Blk.new (w.alloc (.cells #[.int .i64 kx, .int .i64 ix, .int .i64 tx, .string sx, .slice A n c] 29)) 29 #[.int .i64 ky, .int .i64 iy, .int .i64 ty, .string sy, .slice A' n c']
      simpa only [World.size_alloc] using h
    have hbX : Below w.heap.size w X := by rw [hX]; exact ((Below.refl _ _).alloc (Nat.le_refl _) _).alloc (by simp) _
    have hzX : w.heap.size + 1 < X.heap.size := p1.lt
    rw [← hX]
    clear hX
    go_loopg [44] n (fun gg s44 wr => ∃ k : Nat, k + gg = n ∧ s44 = .int .i64 (k : Int) ∧ Hid (∀ i x y, i < k → L[i]? = some x → M[i]? = some y → sameV x.1 y.1 = true) ∧ Hid (Below X.heap.size X wr))
    case atStart => exact ⟨0, by omega, rfl, (fun i x y hi => absurd hi (by omega)), Below.refl _ _⟩
    case round =>
      obtain ⟨k, hkg, rfl, hno, hbel⟩ := hrel
      have hwr : Below w.heap.size w wr := hbX.trans (hbel.out.mono (by omega))
      have hzr := hbel.out.size
      by_cases hk : k < n
      · obtain ⟨x, hx⟩ : ∃ x, L[k]? = some x := ⟨_, List.getElem?_eq_getElem (by have := HN.out; omega)⟩
        obtain ⟨y, hy⟩ : ∃ x, M[k]? = some x := ⟨_, List.getElem?_eq_getElem (by have := HN'.out; omega)⟩
        obtain ⟨b, off, rfl, hbb, hc⟩ := H1.out.plain_at (by omega) vlV_len HN.out hx
        obtain ⟨b', off', rfl, hbb', hc'⟩ := H2.out.plain_at (by omega) vlV_len HN'.out hy
        have HX : Hid (∀ W, Below w.heap.size w W → Calls _ _ #[AV x, AV y] W _) := fun W hW => HC.out x (List.mem_of_getElem? hx) y (List.mem_of_getElem? hy) W hW
        obtain ⟨⟨kx', ix', tx', sx', lx'⟩, vx⟩ := x
        obtain ⟨⟨ky', iy', ty', sy', ly'⟩, vy⟩ := y
        obtain ⟨Ax, nx, cx, rfl⟩ := S1.out _ (List.mem_of_getElem? hx)
        obtain ⟨Ay, ny, cy, rfl⟩ := S2.out _ (List.mem_of_getElem? hy)
        have g0 := (hwr.cell (p := ⟨b, off + k * 5, none⟩) (by show b < _; omega)).trans (hc 0 _ rfl)
        have g1 := (hwr.cell (p := ⟨b, off + k * 5 + 1, none⟩) (by show b < _; omega)).trans (hc 1 _ rfl)
        have g2 := (hwr.cell (p := ⟨b, off + k * 5 + 2, none⟩) (by show b < _; omega)).trans (hc 2 _ rfl)
        have g3 := (hwr.cell (p := ⟨b, off + k * 5 + 3, none⟩) (by show b < _; omega)).trans (hc 3 _ rfl)
        have g4 := (hwr.cell (p := ⟨b, off + k * 5 + 4, none⟩) (by show b < _; omega)).trans (hc 4 _ rfl)
        have k0 := (hwr.cell (p := ⟨b', off' + k * 5, none⟩) (by show b' < _; omega)).trans (hc' 0 _ rfl)
        have k1 := (hwr.cell (p := ⟨b', off' + k * 5 + 1, none⟩) (by show b' < _; omega)).trans (hc' 1 _ rfl)
        have k2 := (hwr.cell (p := ⟨b', off' + k * 5 + 2, none⟩) (by show b' < _; omega)).trans (hc' 2 _ rfl)
        have k3 := (hwr.cell (p := ⟨b', off' + k * 5 + 3, none⟩) (by show b' < _; omega)).trans (hc' 3 _ rfl)
        have k4 := (hwr.cell (p := ⟨b', off' + k * 5 + 4, none⟩) (by show b' < _; omega)).trans (hc' 4 _ rfl)
        have m4 := (hbel.out.cell (p := ⟨w.heap.size, 4, none⟩) (by show w.heap.size < _; omega)).trans (p0.cell 4)
        have o4 := (hbel.out.cell (p := ⟨w.heap.size + 1, 4, none⟩) (by show w.heap.size + 1 < _; omega)).trans (p1.cell 4)
        have j0 : (0 : Int) ≤ (k : Int) := by omega
        have j1 : (k : Int) < (n : Int) := by omega
        have HXK := Lib.hid hx
        have HYK := Lib.hid hy
        clear hx hy hc hc'
        obtain ⟨r, hr⟩ : ∃ r, sameV (Vl.mk kx' ix' tx' sx' lx') (Vl.mk ky' iy' ty' sy' ly') = r := ⟨_, rfl⟩
        simp only [hr] at HX
        have HR := Lib.hid hr
        clear hr
        go_wp2_with fail
        go_region_held3 (fun w' => w'.cell? ⟨w.heap.size, 4, none⟩ = some (.slice (some ⟨b, off, none⟩) n c) ∧ w'.cell? ⟨w.heap.size + 1, 4, none⟩ = some (.slice (some ⟨b', off', none⟩) n c') ∧ w'.cell? ⟨b, off + k * 5, none⟩ = some (.int .i64 kx') ∧ w'.cell? ⟨b, off + k * 5 + 1, none⟩ = some (.int .i64 ix') ∧ w'.cell? ⟨b, off + k * 5 + 2, none⟩ = some (.int .i64 tx') ∧ w'.cell? ⟨b, off + k * 5 + 3, none⟩ = some (.string sx') ∧ w'.cell? ⟨b, off + k * 5 + 4, none⟩ = some (.slice Ax nx cx) ∧ w'.cell? ⟨b', off' + k * 5, none⟩ = some (.int .i64 ky') ∧ w'.cell? ⟨b', off' + k * 5 + 1, none⟩ = some (.int .i64 iy') ∧ w'.cell? ⟨b', off' + k * 5 + 2, none⟩ = some (.int .i64 ty') ∧ w'.cell? ⟨b', off' + k * 5 + 3, none⟩ = some (.string sy') ∧ w'.cell? ⟨b', off' + k * 5 + 4, none⟩ = some (.slice Ay ny cy))
          (first | exact ⟨m4, o4, g0, g1, g2, g3, g4, k0, k1, k2, k3, k4⟩ | (obtain ⟨a0, a1, a2, a3, a4, a5, a6, a7, a8, a9, a10, a11⟩ := ‹_ ∧ _ ∧ _ ∧ _ ∧ _ ∧ _ ∧ _ ∧ _ ∧ _ ∧ _ ∧ _ ∧ _›; exact ⟨(hb2.cell (by show w.heap.size < wr.drew.heap.size; show w.heap.size < wr.heap.size; omega)).trans a0, (hb2.cell (by show w.heap.size + 1 < wr.drew.heap.size; show w.heap.size + 1 < wr.heap.size; omega)).trans a1, (hb2.cell (by show b < wr.heap.size; omega)).trans a2, (hb2.cell (by show b < wr.heap.size; omega)).trans a3, (hb2.cell (by show b < wr.heap.size; omega)).trans a4, (hb2.cell (by show b < wr.heap.size; omega)).trans a5, (hb2.cell (by show b < wr.heap.size; omega)).trans a6, (hb2.cell (by show b' < wr.heap.size; omega)).trans a7, (hb2.cell (by show b' < wr.heap.size; omega)).trans a8, (hb2.cell (by show b' < wr.heap.size; omega)).trans a9, (hb2.cell (by show b' < wr.heap.size; omega)).trans a10, (hb2.cell (by show b' < wr.heap.size; omega)).trans a11⟩))
          (first | (go_at_call 108; refine (HX.out _ hwr.drew).mono ?_; rintro e w2 ⟨rfl, hb2⟩; have HB2 : Hid (Below X.heap.size X w2) := (bdrew hbel.out _).trans (hb2.mono hzr)))
        clear hb2
        cases r
        · go_wp2_with fail
          go_ret
          refine ⟨?_, hbX.trans (HB2.out.mono (by omega))⟩
          rw [HQ.out]
          refine congrArg (fun b => Ending.returned (.bool b)) (Eq.symm (Bool.eq_false_iff.2 fun h => ?_))
          exact Bool.false_ne_true (HR.out.symm.trans (sameL_at h (by rw [List.getElem?_map, HXK.out]; rfl) (by rw [List.getElem?_map, HYK.out]; rfl)))
        · go_wp2_with fail
          go_roundg (n - (k + 1))
          case measure => omega
          case rel =>
            refine ⟨k + 1, by omega, by go_num, ?_, HB2⟩
            intro i x y hi h1 h2
            by_cases e : i = k
            · subst e
              obtain rfl := Option.some.inj (HXK.out.symm.trans h1)
              obtain rfl := Option.some.inj (HYK.out.symm.trans h2)
              exact HR.out
            · exact hno.out i x y (by omega) h1 h2
      · obtain rfl : k = n := by omega
        go_wp2_with fail
        go_ret
        refine ⟨?_, hwr⟩
        rw [HQ.out]
        refine congrArg (fun b => Ending.returned (.bool b)) (Eq.symm (sameL_of (by rw [List.length_map, List.length_map, ← HN.out, HN'.out]) ?_))
        intro i x y h1 h2
        rw [List.getElem?_map, Option.map_eq_some_iff] at h1 h2
        obtain ⟨x', h1, rfl⟩ := h1
        obtain ⟨y', h2, rfl⟩ := h2
        exact hno.out i x' y' (by rw [HN.out]; exact (List.getElem?_eq_some_iff.1 h1).1) h1 h2
  · have hq : sameL (L.map Prod.fst) (M.map Prod.fst) = false := by
      refine Bool.eq_false_iff.2 fun h => hl ?_
      have := sameL_len h
      rw [List.length_map, List.length_map] at this
      rw [HN.out, HN'.out]; exact this
    rw [hq]
    have hl' : ((n : Int) != (n' : Int)) = true := by
      rw [bne_iff_ne]; omega
    clear hq
    go_enter Tryz.func108, Tryz.ntmps108
    go_wp2_with fail
    go_ret
    exact ⟨rfl, ((Below.refl _ _).alloc (Nat.le_refl _) _).alloc (by simp) _⟩
/-- the reference's SameValue -/
theorem sameRef_any : ∀ (d : Nat) (x y : Vl × Value) (w : World) (B : Nat), B ≤ w.heap.size → RVd w B d x.2 x.1.items → RVd w B d y.2 y.1.items →
    Calls Tryz.prog 108 #[AV x, AV y] w fun e w' => e = .returned (.bool (sameV x.1 y.1)) ∧ Below w.heap.size w w'
  | 0, x, y, w, B, hB, hx, hy => by
    obtain ⟨A, n, c, M, h1, h2, h3, h4, h5, h6⟩ := hx.deeper
    obtain ⟨A', n', c', M', k1, k2, k3, k4, k5, k6⟩ := hy.deeper
    have e : M = [] := by rw [← List.map_eq_nil_iff, h1]; exact hx.1
    exact sameR_walk x y M M' A A' n c n' c' w B hB h2 k2 h1 k1 h5 k5 h3 k3 (by omega) (by omega) (fun z hz => (RV.slice ⟨_, h6 z hz⟩)) (fun z hz => (RV.slice ⟨_, k6 z hz⟩)) (fun z hz => by rw [e] at hz; cases hz)
  | d + 1, x, y, w, B, hB, ⟨A, n, c, M, h1, h2, h3, h4, h5, h6⟩, ⟨A', n', c', M', k1, k2, k3, k4, k5, k6⟩ =>
    sameR_walk x y M M' A A' n c n' c' w B hB h2 k2 h1 k1 h5 k5 h3 k3 (by omega) (by omega) (fun z hz => (RV.slice ⟨_, h6 z hz⟩)) (fun z hz => (RV.slice ⟨_, k6 z hz⟩)) (fun z hz u hu W hW => sameRef_any d z u W B (Nat.le_trans hB hW.size) ((h6 z hz).below (hW.mono hB)) ((k6 u hu).below (hW.mono hB)))
end Go.Proofs.YtmkicfjcgbfaaaaGreat
