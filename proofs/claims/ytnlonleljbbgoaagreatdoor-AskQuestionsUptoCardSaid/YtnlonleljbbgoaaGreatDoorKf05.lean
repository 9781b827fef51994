/-
  DERIVED. The walks of slices.IndexFunc and slices.ContainsFunc at sorts, with the closure of ask.CheckQuestion. Conditions: sizes.
  A condition that came in, in memory; its bulk. Conditions: none.
  A question that came in, in memory; its bulk. Conditions: none.
  By an AI agent.
-/
import Derived.Test.YtnlonleljbbgoaaGreatDoorKf04
import Derived.Test.YtnlonleljbbgoaaGreatDoorKe07
import Derived.Test.YtnlonleljbbgoaaGreatDoorKe14
import Derived.Test.YtnlonleljbbgoaaGreatDoorRows
namespace Go.Proofs.YtnlonleljbbgoaaGreatDoor
open Go.RowKit

set_option maxHeartbeats 400000 in
/-- the closure: a sort by the same name -/
theorem srCl_any (y1 : ByteArray) (y2 : Bool) (P : Nat) (s : ByteArray) (dn : Bool) (w : World) (hP : P < w.heap.size) (h0 : w.cell? ⟨P, 0, none⟩ = some (.string s)) (h1 : w.cell? ⟨P, 1, none⟩ = some (.bool dn)) :
    Calls Tryz.prog 30 #[.agg #[.string y1, .bool y2], .pointer (some ⟨P, 0, none⟩)] w fun e w' => e = .returned (.bool (y1.toList == s.toList)) ∧ Below w.heap.size w w' := by
  have g0 : ∀ o, (w.alloc o).cell? ⟨P, 0, none⟩ = some (.string s) := fun o => (World.cell?_alloc_lt _ _ _ hP).trans h0
  have g1 : ∀ o, (w.alloc o).cell? ⟨P, 1, none⟩ = some (.bool dn) := fun o => (World.cell?_alloc_lt _ _ _ hP).trans h1
  go_enter Tryz.func30, Tryz.ntmps30
  go_wp2_with fail
  go_ret
  exact ⟨rfl, (Below.refl _ _).alloc (Nat.le_refl _) _⟩
set_option maxHeartbeats 2000000 in
/-- slices.IndexFunc at sorts -/
theorem indexSr_any (l : List (ByteArray × Bool)) (A : Option Addr) (n c P : Nat) (s : ByteArray) (dn : Bool) (w : World) (B : Nat) (hB : B ≤ w.heap.size) (hP : P < w.heap.size) (h0 : w.cell? ⟨P, 0, none⟩ = some (.string s)) (h1 : w.cell? ⟨P, 1, none⟩ = some (.bool dn)) (h : RSr w B (.slice A n c) l) :
    Calls Tryz.prog 69 #[.slice A n c, .func (.func 30) #[] #[.pointer (some ⟨P, 0, none⟩)]] w fun e w' => e = .returned (.int .i64 (posSr l s 0)) ∧ Below w.heap.size w w' := by
  obtain ⟨V, hV⟩ : ∃ V, V = posSr l s 0 := ⟨_, rfl⟩
  rw [← hV]
  have HV : Hid (V = posSr (l.drop 0) s 0) := hV
  have HN := Lib.hid h.len
  have H := Lib.hid h
  have HP0 := Lib.hid h0
  have HP1 := Lib.hid h1
  clear h hV h0 h1
  go_enter Tryz.func69, Tryz.ntmps69
  go_wp2_with fail
  go_loopg [8] n (fun gg s8 wr => ∃ k : Nat, k + gg = n ∧ s8 = .int .i64 (k : Int) ∧ Hid (V = posSr (l.drop k) s k) ∧ Hid (Below w.heap.size w wr))
  case atStart => exact ⟨0, by omega, rfl, HV, Below.refl _ _⟩
  case round =>
    obtain ⟨k, hkg, rfl, hno, hbel⟩ := hrel
    have hbg : n * 24 ≤ 140737488351232 := HN.out.2.2
    by_cases hk : k < n
    · obtain ⟨x, hx⟩ : ∃ x, l[k]? = some x := ⟨_, List.getElem?_eq_getElem (by have := HN.out.1; omega)⟩
      obtain ⟨b, off, rfl, hbb, g0, g1⟩ := (H.out.below (hbel.out.mono hB)).at_ hx
      have hst := hno.out.trans (posSr_at hx s)
      have HX := Lib.hid (srCl_any x.1 x.2 P s dn wr (Nat.lt_of_lt_of_le hP hbel.out.size) ((hbel.out.cell (p := ⟨P, 0, none⟩) hP).trans HP0.out) ((hbel.out.cell (p := ⟨P, 1, none⟩) hP).trans HP1.out))
      have j0 : (0 : Int) ≤ (k : Int) := by omega
      have j1 : (k : Int) < (n : Int) := by omega
      clear hx
      obtain ⟨q, hq⟩ : ∃ q, (x.1.toList == s.toList) = q := ⟨_, rfl⟩
      rw [hq] at HX hst
      cases q
      · have HS := Lib.hid (hst.trans (if_neg (by decide)))
        clear hst hq
        go_wp2_with fail
        refine HX.out.mono ?_
        rintro e w2 ⟨rfl, hb⟩
        have HB2 : Hid (Below w.heap.size w w2) := hbel.out.trans (hb.mono hbel.out.size)
        clear hb
        go_wp2_with fail
        go_roundg (n - (k + 1))
        case measure => omega
        case rel => exact ⟨k + 1, by omega, by go_num, HS, HB2⟩
      · have HS := Lib.hid (hst.trans (if_pos rfl))
        clear hst hq
        go_wp2_with fail
        refine HX.out.mono ?_
        rintro e w2 ⟨rfl, hb⟩
        have HB2 : Hid (Below w.heap.size w w2) := hbel.out.trans (hb.mono hbel.out.size)
        clear hb
        go_wp2_with fail
        go_ret
        exact ⟨by rw [HS.out]; rfl, HB2.out⟩
    · obtain rfl : n = k := by omega
      have HZ : Hid (V = -1) := hno.out.trans (by rw [List.drop_of_length_le (by rw [← HN.out.1]; exact Nat.le_refl _)]; rfl)
      go_wp2_with fail
      go_ret
      exact ⟨by rw [HZ.out]; rfl, hbel.out⟩
set_option maxHeartbeats 1000000 in
/-- slices.ContainsFunc at sorts -/
theorem containsSr_any (l : List (ByteArray × Bool)) (A : Option Addr) (n c P : Nat) (s : ByteArray) (dn : Bool) (w : World) (B : Nat) (hB : B ≤ w.heap.size) (hP : P < w.heap.size) (h0 : w.cell? ⟨P, 0, none⟩ = some (.string s)) (h1 : w.cell? ⟨P, 1, none⟩ = some (.bool dn)) (h : RSr w B (.slice A n c) l) :
    Calls Tryz.prog 29 #[.slice A n c, .func (.func 30) #[] #[.pointer (some ⟨P, 0, none⟩)]] w fun e w' => e = .returned (.bool (l.any fun y => y.1.toList == s.toList)) ∧ Below w.heap.size w w' := by
  have HIX := Lib.hid (indexSr_any l A n c P s dn w B hB hP h0 h1 h)
  rw [← posSr_any l s 0]
  obtain ⟨q, hq⟩ : ∃ q, q = posSr l s 0 := ⟨_, rfl⟩
  rw [← hq] at HIX ⊢
  clear hq h h0 h1
  go_enter Tryz.func29, Tryz.ntmps29
  go_wp2_with fail
  refine HIX.out.mono ?_
  rintro e w1 ⟨rfl, hb⟩
  have HB := Lib.hid hb
  clear hb
  go_wp2_with fail
  go_ret
  exact ⟨rfl, HB.out⟩
end Go.Proofs.YtnlonleljbbgoaaGreatDoor
namespace Go.Proofs.YtnlonleljbbgoaaGreatDoor
open Go.ChangeShapes Go.WideShapes Go.RowKit

theorem cellsCd : Tryz.prog.cellsOf 27 = 10 := by kernel_rfl
theorem cells_of_conds : Tryz.prog.cellsOf 25 = 1 := by kernel_rfl
theorem RCdd.deeper {W : World} {B : Nat} : ∀ {d : Nat} {v : Value} {l : List Cd}, RCdd W B d v l → RCdd W B (d + 1) v l
  | 0, _, _, ⟨h1, A, c, h2⟩ => ⟨A, 0, c, [], by rw [h1]; rfl, h2, rfl, ⟨Nat.zero_le _, by omega⟩, ⟨rfl, fun h => absurd h (by omega)⟩, fun x hx => by cases hx⟩
  | d + 1, _, _, ⟨A, n, c, M, h1, h2, h3, h4, h5, h6⟩ => ⟨A, n, c, M, h1, h2, h3, h4, h5, fun x hx => ⟨(h6 x hx).1, RCdd.deeper (h6 x hx).2⟩⟩
theorem RCdd.up {W : World} {B d d' : Nat} {v : Value} {l : List Cd} (h : RCdd W B d v l) (hd : d ≤ d') : RCdd W B d' v l := by
  obtain ⟨k, rfl⟩ : ∃ k, d' = d + k := ⟨d' - d, by omega⟩
  clear hd
  induction k with
  | zero => exact h
  | succ k ih => exact ih.deeper
section
variable {H : Type} {enc : TypeId × Value → H} {P : Program} {W : World}
/-- a slice that was read, row by row, each row with its reading -/
theorem open_listB {α : Type} {en : α → List Value} {C Y : Nat} {Q : Nat → α → DataW H → Prop} {t e : TypeId} {fuel : Nat} {u : Value} {y : DataW H × List MemPlace} (ht : P.underlying t = some (.slice e)) (hC : P.cellsOf e = C) (hC0 : 0 < C) (hY : P.bytesOf e = Y) (hen : ∀ x, (en x).length = C)
    (hrow : ∀ (m : Nat) (cs : List Value) (z : DataW H × List MemPlace), m < fuel → DataW.trod enc P W 0 (fun _ => true) true m e cs = some z → (∀ x ∈ z.2, x.block < W.heap.size) → Fits P e z.1 → ∃ x, en x = cs ∧ Q m x z.1)
    (h : DataW.trod enc P W 0 (fun _ => true) true fuel t [u] = some y) (hp : ∀ x ∈ y.2, x.block < W.heap.size) (hfit : Fits P t y.1) :
    ∃ A n c, ∃ M : List α, u = .slice A n c ∧ n = M.length ∧ (n ≤ c ∧ n * Y ≤ 140737488351232) ∧ Reads W W.heap.size C A n (M.flatMap en) ∧ ((M = [] ∧ y.1 = .nil) ∨ ∃ (es rs : List (DataW H)) (m : Nat), m < fuel ∧ y.1 = .slice es rs ∧ es.length = M.length ∧ ∀ (i : Nat) (x : α), M[i]? = some x → ∃ z, es[i]? = some z ∧ Q m x z) := by
  rcases DataW.trod_slice ht h with ⟨hcs, hx⟩ | ⟨a, len, cap, elems, rest, m, rfl, hcs, rfl, _, hl, hcap, hel, hi, hsp, _⟩
  · obtain rfl : u = .slice none 0 0 := by simpa using hcs
    exact ⟨none, 0, 0, [], rfl, rfl, ⟨Nat.le_refl _, by omega⟩, ⟨by simp, fun h => absurd h (by omega)⟩, .inl ⟨rfl, by rw [hx]⟩⟩
  · obtain rfl : u = .slice (some a) len cap := by simpa using hcs
    rw [hC] at hi
    have hs := hfit.slice ht
    simp only [List.length_map] at hs
    rw [hel, hY] at hs
    have hs : len * Y ≤ 140737488351232 := Nat.le_trans (Nat.mul_le_mul_right _ (by omega)) hs
    obtain ⟨M, h1, h2⟩ := choose_list (p := fun i x => (∀ j w, (en x)[j]? = some w → W.cell? (a.add (i * C + j)) = some w) ∧ ∃ z, (elems.map (·.1))[i]? = some z ∧ Q m x z) len fun i hil => by
      have h1 := hi i hil
      rw [List.getElem?_eq_getElem (by omega)] at h1
      obtain ⟨cs, hc, htr⟩ := Option.bind_eq_some_iff.1 h1
      obtain ⟨_, hrl, hat⟩ := World.cells?_some hc
      obtain ⟨x, hx, hq⟩ := hrow m cs _ (Nat.lt_succ_self m) htr (fun z hz => hp z (List.mem_append_right _ (List.mem_flatMap.2 ⟨_, List.mem_append_left _ (List.getElem_mem _), hz⟩)))
        (hfit.elem ht (List.mem_map.2 ⟨_, List.getElem_mem _, rfl⟩))
      refine ⟨x, fun j w hj => ?_, _, ?_, hq⟩
      · rw [hx] at hj
        have hjl : j < C := by rw [← hrl]; exact (List.getElem?_eq_some_iff.1 hj).1
        rw [← add_of_add, hat j hjl, hj]
      · rw [List.getElem?_map, List.getElem?_eq_getElem (by omega)]; rfl
    refine ⟨some a, len, cap, M, rfl, h1.symm, ⟨hl, hs⟩, ⟨by rw [fm_len hen, h1], fun hn => ⟨a, rfl, ?_, fun k w hk => ?_⟩⟩, .inr ⟨_, _, m, Nat.lt_succ_self m, rfl, by rw [List.length_map, hel, h1], fun i x hx => (h2 i x hx).2⟩⟩
    · exact hp (.cell a.block a.off) (List.mem_append_left _ (MemPlace.mem_row.2 ⟨0, Nat.mul_pos (by omega) (by rw [hC]; exact hC0), by simp⟩))
    · have hkl := (List.getElem?_eq_some_iff.1 hk).1
      rw [fm_len hen] at hkl
      have hkk : k / C * C + k % C = k := by rw [Nat.mul_comm]; exact Nat.div_add_mod k C
      have hd : k / C < M.length := Nat.div_lt_of_lt_mul (by rw [Nat.mul_comm]; exact hkl)
      have hm := Nat.mod_lt k hC0
      obtain ⟨x, hx⟩ : ∃ x, M[k / C]? = some x := ⟨_, List.getElem?_eq_getElem hd⟩
      have h4 := fm_get en C hen M (k / C) (k % C) x hx hm
      rw [hkk, hk] at h4
      have h5 := (h2 _ x hx).1 (k % C) w h4.symm
      rw [hkk] at h5
      exact h5
theorem bulk_all {H : Type} : ∀ {M : List (Cd × Value × Value)} {es : List (DataW H)}, es.length = M.length → (∀ (i : Nat) (x : Cd × Value × Value), M[i]? = some x → ∃ z, es[i]? = some z ∧ cdB x.1 ≤ Rows.uptoBulk z) → cdBs (M.map Prod.fst) ≤ Rows.uptoBulkAll es
  | [], es, hl, _ => by
    obtain rfl : es = [] := List.eq_nil_of_length_eq_zero hl
    rw [List.map_nil, cdBs]; exact Nat.zero_le _
  | x :: M, [], hl, _ => by cases hl
  | x :: M, e :: es, hl, h => by
    obtain ⟨z, hz, hb⟩ := h 0 x rfl
    obtain rfl : e = z := by simpa using hz
    have ih := bulk_all (M := M) (es := es) (by simpa using hl) fun i y hy => by simpa using h (i + 1) y (by simpa using hy)
    rw [List.map_cons, cdBs, Rows.uptoBulkAll]
    omega
end
section
variable {H : Type} {enc : TypeId × Value → H} {W : World}
set_option maxRecDepth 100000 in
theorem cond_open : ∀ (fuel : Nat) (cs : List Value) (x : DataW H × List MemPlace),
    DataW.trod enc Tryz.prog W 0 (fun _ => true) true fuel 27 cs = some x → (∀ y ∈ x.2, y.block < W.heap.size) → Fits Tryz.prog 27 x.1 → ∃ c : Cd × Value × Value, cdV c = cs ∧ RCd W W.heap.size fuel c.2.1 c.2.2 c.1 ∧ cdB c.1 ≤ Rows.uptoBulk x.1 := by
  intro fuel
  induction fuel using Nat.strongRecOn with
  | _ fuel ih =>
    intro cs x h hp hfit
    obtain ⟨xs, n, rfl, rfl, hlen, hxl, hf⟩ := DataW.trod_struct Tryz.underlying27 h
    rw [cellsCd] at hlen
    match cs, hlen with
    | [u0, u1, u2, u3, u4, u5, u6, u7, u8, u9], _ =>
      match xs, hxl with
      | [y0, y1, y2, y3, y4, y5], _ =>
        have g0 : DataW.trod enc Tryz.prog W 0 (fun _ => true) true n 3 (([u0, u1, u2, u3, u4, u5, u6, u7, u8, u9].drop 0).take (Tryz.prog.cellsOf 3)) = some y0 := hf 0 _ rfl
        have g1 : DataW.trod enc Tryz.prog W 0 (fun _ => true) true n 9 (([u0, u1, u2, u3, u4, u5, u6, u7, u8, u9].drop 1).take (Tryz.prog.cellsOf 9)) = some y1 := hf 1 _ rfl
        have g2 : DataW.trod enc Tryz.prog W 0 (fun _ => true) true n 9 (([u0, u1, u2, u3, u4, u5, u6, u7, u8, u9].drop 2).take (Tryz.prog.cellsOf 9)) = some y2 := hf 2 _ rfl
        have g3 : DataW.trod enc Tryz.prog W 0 (fun _ => true) true n 24 (([u0, u1, u2, u3, u4, u5, u6, u7, u8, u9].drop 3).take (Tryz.prog.cellsOf 24)) = some y3 := hf 3 _ rfl
        have g4 : DataW.trod enc Tryz.prog W 0 (fun _ => true) true n 3 (([u0, u1, u2, u3, u4, u5, u6, u7, u8, u9].drop 8).take (Tryz.prog.cellsOf 3)) = some y4 := hf 4 _ rfl
        have g5 : DataW.trod enc Tryz.prog W 0 (fun _ => true) true n 25 (([u0, u1, u2, u3, u4, u5, u6, u7, u8, u9].drop 9).take (Tryz.prog.cellsOf 25)) = some y5 := hf 5 _ rfl
        rw [cells_of_int] at g0 g4
        rw [cells_of_str] at g1 g2
        rw [cellsV] at g3
        rw [cells_of_conds] at g5
        change DataW.trod enc Tryz.prog W 0 (fun _ => true) true n 3 [u0] = some y0 at g0
        change DataW.trod enc Tryz.prog W 0 (fun _ => true) true n 9 [u1] = some y1 at g1
        change DataW.trod enc Tryz.prog W 0 (fun _ => true) true n 9 [u2] = some y2 at g2
        change DataW.trod enc Tryz.prog W 0 (fun _ => true) true n 24 [u3, u4, u5, u6, u7] = some y3 at g3
        change DataW.trod enc Tryz.prog W 0 (fun _ => true) true n 3 [u8] = some y4 at g4
        change DataW.trod enc Tryz.prog W 0 (fun _ => true) true n 25 [u9] = some y5 at g5
        obtain ⟨o, e0, rfl, _⟩ := DataW.trod_int Tryz.underlying3 g0
        obtain ⟨s, e1, rfl, _⟩ := DataW.trod_string Tryz.underlying9 g1
        obtain ⟨t, e2, rfl, _⟩ := DataW.trod_string Tryz.underlying9 g2
        obtain ⟨k, e4, rfl, _⟩ := DataW.trod_int Tryz.underlying3 g4
        simp at e0 e1 e2 e4
        subst e0 e1 e2 e4
        obtain ⟨⟨v, vi⟩, hv, hr⟩ := val_open n _ y3 g3 (fun y hy => hp y (by simp [hy])) (hfit.part Tryz.underlying27 (j := 3) rfl rfl)
        obtain ⟨A, len, cap, M, rfl, h1, h2, h3, h4⟩ := open_listB (en := cdV) (Q := fun m x z => RCd W W.heap.size m x.2.1 x.2.2 x.1 ∧ cdB x.1 ≤ Rows.uptoBulk z) Tryz.underlying25 cellsCd (by omega) (show _ = 136 by kernel_rfl) cdV_len
          (fun m cs z hm htr hz hft => ih m (by omega) cs z htr hz hft) g5 (fun y hy => hp y (by simp [hy])) (hfit.part Tryz.underlying27 (j := 5) rfl rfl)
        have hup : ∀ {m d : Nat} {v : Value} {l : List Cd}, RCdd W W.heap.size m v l → m ≤ d → RCdd W W.heap.size d v l := fun h hd => RCdd.up h hd
        refine ⟨(.mk o s t v k (M.map Prod.fst), vi, .slice A len cap), ?_, ⟨⟨n, hr⟩, ?_⟩, ?_⟩
        · have hv' : cdV (.mk o s t v k (M.map Prod.fst), vi, .slice A len cap) = [.int .i64 o, .string s, .string t] ++ vlV (v, vi) ++ [.int .i64 k, .slice A len cap] := rfl
          rw [hv', hv]; rfl
        · refine ⟨A, len, cap, M, rfl, rfl, h1, h2, h3, fun x hx => ?_⟩
          rcases h4 with ⟨rfl, _⟩ | ⟨es, rs, m, hm, _, _, h5⟩
          · cases hx
          · obtain ⟨i, hi, e⟩ := List.mem_iff_getElem.1 hx
            obtain ⟨z, _, hq, _⟩ := h5 i x (by rw [List.getElem?_eq_getElem hi, e])
            exact ⟨hq.1, hup hq.2 (by omega)⟩
        · have hk : cdBs (M.map Prod.fst) ≤ Rows.uptoBulk y5.1 := by
            rcases h4 with ⟨rfl, _⟩ | ⟨es, rs, m, hm, he, hl, h5⟩
            · rw [List.map_nil, cdBs]; exact Nat.zero_le _
            · rw [he, Rows.uptoBulk]
              have := bulk_all hl fun i x hx => by
                obtain ⟨z, hz, _, hq⟩ := h5 i x hx
                exact ⟨z, hz, hq⟩
              omega
          rw [cdB_eq]
          show 1 + t.size + cdBs (M.map Prod.fst) ≤ _
          have ht : t.data.toList.length = t.size := Array.length_toList
          simp only [List.map_cons, List.map_nil, Rows.uptoBulk, Rows.uptoBulkAll]
          omega
end
end Go.Proofs.YtnlonleljbbgoaaGreatDoor
namespace Go.Proofs.YtnlonleljbbgoaaGreatDoor
open Go.ChangeShapes Go.WideShapes Go.RowKit

theorem cellsSr : Tryz.prog.cellsOf 58 = 2 := by kernel_rfl
theorem cellsQu : Tryz.prog.cellsOf 30 = 13 := by kernel_rfl
theorem cells_of_sorts : Tryz.prog.cellsOf 28 = 1 := by kernel_rfl
theorem cells_of_bool : Tryz.prog.cellsOf 4 = 1 := by kernel_rfl
section
variable {H : Type} {enc : TypeId × Value → H} {W : World}
set_option maxRecDepth 100000 in
theorem sort_open (fuel : Nat) (cs : List Value) (x : DataW H × List MemPlace) (h : DataW.trod enc Tryz.prog W 0 (fun _ => true) true fuel 58 cs = some x) : ∃ s : ByteArray × Bool, srV s = cs := by
  obtain ⟨xs, n, rfl, rfl, hlen, hxl, hf⟩ := DataW.trod_struct Tryz.underlying58 h
  rw [cellsSr] at hlen
  match cs, hlen with
  | [u0, u1], _ =>
    match xs, hxl with
    | [y0, y1], _ =>
      have g0 : DataW.trod enc Tryz.prog W 0 (fun _ => true) true n 9 (([u0, u1].drop 0).take (Tryz.prog.cellsOf 9)) = some y0 := hf 0 _ rfl
      have g1 : DataW.trod enc Tryz.prog W 0 (fun _ => true) true n 4 (([u0, u1].drop 1).take (Tryz.prog.cellsOf 4)) = some y1 := hf 1 _ rfl
      rw [cells_of_str] at g0
      rw [cells_of_bool] at g1
      change DataW.trod enc Tryz.prog W 0 (fun _ => true) true n 9 [u0] = some y0 at g0
      change DataW.trod enc Tryz.prog W 0 (fun _ => true) true n 4 [u1] = some y1 at g1
      obtain ⟨s, e0, rfl, _⟩ := DataW.trod_string Tryz.underlying9 g0
      obtain ⟨b, e1, rfl⟩ := DataW.trod_bool Tryz.underlying4 g1
      simp at e0 e1
      subst e0 e1
      exact ⟨(s, b), rfl⟩
set_option maxRecDepth 100000 in
/-- a question that came in -/
theorem question_arg {r : Reach} {b0 : Nat} {v : Value} {d : DataW H} {p : List MemPlace} (hv : Value.okWide Tryz.prog W r b0 30 v) (h : DataW.Trod enc Tryz.prog W 0 (fun _ => true) true 30 v d p) (hp : ∀ x ∈ p, x.block < W.heap.size) (hfit : Fits Tryz.prog 30 d) :
    ∃ dd c Ai ni ci Ak nk ck l As ns cs g m, v = .agg #[.int .i64 c.op, .string c.name, .string c.text, .int .i64 c.val.kind, .int .i64 c.val.int_, .int .i64 c.val.to_, .string c.val.text, .slice Ai ni ci, .int .i64 c.num, .slice Ak nk ck, .slice As ns cs, .string g, .int .i64 m] ∧ RCd W W.heap.size dd (.slice Ai ni ci) (.slice Ak nk ck) c ∧ RSr W W.heap.size (.slice As ns cs) l ∧ cdB c ≤ Rows.uptoBulk d := by
  obtain ⟨cs, rfl, _⟩ := okWide_struct Tryz.underlying30 hv
  obtain ⟨fuel, hf⟩ := h
  obtain ⟨xs, n, rfl, hdp, hlen, hxl, hg⟩ := DataW.trod_struct Tryz.underlying30 hf
  injection hdp with hd1 hd2
  subst hd1 hd2
  rw [cellsQu] at hlen
  obtain ⟨cl⟩ := cs
  match cl, hlen with
  | [u0, u1, u2, u3, u4, u5, u6, u7, u8, u9, u10, u11, u12], _ =>
    match xs, hxl with
    | [y0, y1, y2, y3], _ =>
      have g0 : DataW.trod enc Tryz.prog W 0 (fun _ => true) true n 27 (([u0, u1, u2, u3, u4, u5, u6, u7, u8, u9, u10, u11, u12].drop 0).take (Tryz.prog.cellsOf 27)) = some y0 := hg 0 _ rfl
      have g1 : DataW.trod enc Tryz.prog W 0 (fun _ => true) true n 28 (([u0, u1, u2, u3, u4, u5, u6, u7, u8, u9, u10, u11, u12].drop 10).take (Tryz.prog.cellsOf 28)) = some y1 := hg 1 _ rfl
      have g2 : DataW.trod enc Tryz.prog W 0 (fun _ => true) true n 9 (([u0, u1, u2, u3, u4, u5, u6, u7, u8, u9, u10, u11, u12].drop 11).take (Tryz.prog.cellsOf 9)) = some y2 := hg 2 _ rfl
      have g3 : DataW.trod enc Tryz.prog W 0 (fun _ => true) true n 3 (([u0, u1, u2, u3, u4, u5, u6, u7, u8, u9, u10, u11, u12].drop 12).take (Tryz.prog.cellsOf 3)) = some y3 := hg 3 _ rfl
      rw [cellsCd] at g0
      rw [cells_of_sorts] at g1
      rw [cells_of_str] at g2
      rw [cells_of_int] at g3
      change DataW.trod enc Tryz.prog W 0 (fun _ => true) true n 27 [u0, u1, u2, u3, u4, u5, u6, u7, u8, u9] = some y0 at g0
      change DataW.trod enc Tryz.prog W 0 (fun _ => true) true n 28 [u10] = some y1 at g1
      change DataW.trod enc Tryz.prog W 0 (fun _ => true) true n 9 [u11] = some y2 at g2
      change DataW.trod enc Tryz.prog W 0 (fun _ => true) true n 3 [u12] = some y3 at g3
      obtain ⟨g, e2, rfl, _⟩ := DataW.trod_string Tryz.underlying9 g2
      obtain ⟨m, e3, rfl, _⟩ := DataW.trod_int Tryz.underlying3 g3
      simp at e2 e3
      subst e2 e3
      obtain ⟨⟨c, vi, vk⟩, hx, hr, hb⟩ := cond_open n _ y0 g0 (fun y hy => hp y (by simp [hy])) (hfit.part Tryz.underlying30 (j := 0) rfl rfl)
      obtain ⟨As, ns, cs, M, rfl, h1, h2, h3, _⟩ := open_listB (en := srV) (Q := fun _ _ _ => True) Tryz.underlying28 cellsSr (by omega) (show _ = 24 by kernel_rfl) srV_len
        (fun m cs z _ htr _ _ => (sort_open m cs z htr).imp fun _ h => ⟨h, trivial⟩) g1 (fun y hy => hp y (by simp [hy])) (hfit.part Tryz.underlying30 (j := 1) rfl rfl)
      obtain ⟨Ai, ni, ci, e1⟩ := hr.1.slice
      obtain ⟨Ak, nk, ck, e2⟩ := hr.2.slice
      dsimp only at e1 e2
      subst e1 e2
      refine ⟨n, c, Ai, ni, ci, Ak, nk, ck, M, As, ns, cs, g, m, ?_, hr, ⟨As, ns, cs, rfl, h1, h2, h3⟩, ?_⟩
      · simp only [cdV, List.cons.injEq, and_true] at hx
        obtain ⟨rfl, rfl, rfl, rfl, rfl, rfl, rfl, rfl, rfl, rfl⟩ := hx
        rfl
      · dsimp only at hb
        simp only [List.map_cons, List.map_nil, Rows.uptoBulk, Rows.uptoBulkAll]
        omega
end
end Go.Proofs.YtnlonleljbbgoaaGreatDoor
