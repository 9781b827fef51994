/-
  DERIVED. The walk of tree.attach on a base that is turned in place. Conditions: sizes; ids that rise.
  The walk of tree.detach on a base that is turned in place. Conditions: sizes; ids that rise.
  By an AI agent.
-/
import Derived.Test.YtmkicfjcgbfaaaaGreatDoorTc13
import Derived.Test.YtmkicfjcgbfaaaaGreatDoorTc10
import Derived.Test.YtmkicfjcgbfaaaaGreatDoorTc20
import Derived.Test.YtmkicfjcgbfaaaaGreatDoorTc04
import Derived.Test.YtmkicfjcgbfaaaaGreatDoorTc05
import Derived.Sort.OwnSortedInts
namespace Go.Proofs.YtmkicfjcgbfaaaaGreatDoor
open Go.RowKit

/-- slices.Clone at ints: a row of the call's own -/
theorem cloneI_own (A : Option Addr) (n c : Nat) (l : List Int) (w : World) (B : Nat) (h : RIn w B (.slice A n c) l) :
    Calls Tryz.prog 72 #[.slice A n c] w fun e w' => ∃ v', e = .returned v' ∧ w'.ownsRow w.heap.size 3 1 v' n (l.map (.int .i64)) ∧ Below w.heap.size w w' := by
  have hn := h.len
  rcases A with _ | ad
  · have h0 : n = 0 := by
      rcases Nat.eq_zero_or_pos n with g | g
      · exact g
      · obtain ⟨ad, e, _⟩ := h.reads.2 g
        cases e
    subst h0
    have hl : l = [] := List.eq_nil_of_length_eq_zero hn.1.symm
    subst hl
    refine (Tryz.slices_Clone_int_nil 0 c w).mono ?_
    rintro e w' ⟨rfl, rfl⟩
    exact ⟨_, rfl, World.ownsRow_nil _ _ _ _, Below.refl _ _⟩
  · rcases Nat.eq_zero_or_pos n with g | g
    · subst g
      have hl : l = [] := List.eq_nil_of_length_eq_zero hn.1.symm
      subst hl
      refine (Tryz.slices_Clone_int_zero ad c w).mono ?_
      rintro e w' ⟨v', rfl, ho, _, hb⟩
      exact ⟨_, rfl, ho, hb⟩
    · obtain ⟨b, off, e, _, _⟩ := h.reads.plain g (by omega)
      injection e with e
      subst e
      refine (Tryz.slices_Clone_int b off n c l w (by omega) (by omega) h.getD).mono ?_
      rintro e w' ⟨v', rfl, ho, _, hb⟩
      rw [List.take_of_length_le (by omega)] at ho
      exact ⟨_, rfl, ho, hb⟩
theorem plus_map (l : List Int) (i : Nat) (n : Int) : (plusK l i n).map (Value.int .i64) = (l.map (Value.int .i64)).take (i * 1) ++ [.int .i64 n] ++ (l.map (Value.int .i64)).drop (i * 1) := by
  unfold plusK
  rw [Nat.mul_one, List.map_append, List.map_cons, List.map_take, List.map_drop, List.append_assoc]; rfl
theorem grown_put {w w' : World} (h : Below w.heap.size w w') (g i : Nat) (u : Value) : w.grownBy (w'.setCell ⟨g, i, none⟩ u) (some g) :=
  ⟨h.os, h.tape, h.output, by simp only [World.setCell, Array.size_modify]; exact h.size, fun k hk hn => by
    have hne : k ≠ g := fun e => hn (by rw [e])
    rw [← h.block k hk]
    simp only [World.setCell, Array.getElem?_modify, if_neg (Ne.symm hne)]⟩
/-- what a turn of one block's kids leaves -/
def KidsR (S : Nat → Prop) (w : World) (g cap : Nat) (M : List BK) (q : Nat) (y : BK) (ks : List Int) (e : Ending) (w' : World) : Prop :=
  e = .returned (.tuple #[]) ∧ (∃ kv, RowS S w' g cap (M.set q (y.1.withKids ks, kv, y.2.2))) ∧ w.grownBy w' (some g)

set_option maxRecDepth 100000 in
set_option maxHeartbeats 4000000 in
/-- tree.attach -/
theorem attach_any {S : Nat → Prop} (w : World) (hS : ∀ b, w.heap.size ≤ b → S b) (g cap : Nat) (M : List BK) (h : RowS S w g cap M) (hr : Rise (M.map Prod.fst)) (hi : IdsIn (M.map Prod.fst)) (id : Int) (i p q : Nat) (x y : BK) (hx : M[p]? = some x) (hxi : x.1.id = id) (hy : M[q]? = some y) (hyi : y.1.id = x.1.parent) (hat : i ≤ y.1.kids.length) (hk : y.1.kids.length ≤ 500) :
    Calls Tryz.prog 67 #[.slice (some ⟨g, 0, none⟩) M.length cap, .int .i64 id, .int .i64 i] w (KidsR S w g cap M q y (plusK y.1.kids i id)) := by
  have HSS := Lib.hid hS
  clear hS
  have hml := h.few
  have hpx : (M.map Prod.fst)[p]? = some x.1 := by rw [List.getElem?_map, hx]; rfl
  have hqy : (M.map Prod.fst)[q]? = some y.1 := by rw [List.getElem?_map, hy]; rfl
  have hp : posOf (M.map Prod.fst) id = (p : Int) := by rw [← hxi]; exact posOf_of hr hpx
  have hq : posOf (M.map Prod.fst) x.1.parent = (q : Int) := by rw [← hyi]; exact posOf_of hr hqy
  have hidr := hi x.1 (List.mem_of_getElem? hpx)
  have hpar := hi y.1 (List.mem_of_getElem? hqy)
  rw [hxi] at hidr
  rw [hyi] at hpar
  have hid64 : I64 id := by unfold I64; omega
  have hpn : p < M.length := (List.getElem?_eq_some_iff.1 hx).1
  have hqn : q < M.length := (List.getElem?_eq_some_iff.1 hy).1
  obtain ⟨y1, yk, yp⟩ := y
  obtain ⟨⟨xid, xpar, xks, xtx, xps⟩, xk, xpv⟩ := x
  have hxi : xid = id := hxi
  have hnst := h.far _ (List.mem_of_getElem? hy)
  obtain ⟨hkx, hpxx⟩ := hnst
  obtain ⟨Ak, nk, ck, rfl⟩ : ∃ A n c, yk = .slice A n c := by
    obtain ⟨A, n, c, e, _⟩ := hkx
    exact ⟨A, n, c, e⟩
  have hkr := hkx.reads (B := w.heap.size) fun b hb => hb.1.1
  have hkl := hkr.len
  have HIX := Lib.hid (index_any (M.map Prod.fst) (some ⟨g, 0, none⟩) M.length cap id w w.heap.size (Nat.le_refl _) h.rb hr hi hid64)
  rw [hp] at HIX
  have HIP : Hid (∀ W, Below w.heap.size w W → Calls Tryz.prog 16 #[.slice (some ⟨g, 0, none⟩) M.length cap, .int .i64 xpar] W fun e w' => e = .returned (.int .i64 (q : Int)) ∧ Below W.heap.size W w') := fun W hW => by
    have := index_any (M.map Prod.fst) (some ⟨g, 0, none⟩) M.length cap xpar W W.heap.size (Nat.le_refl _) (h.below hW).rb hr hi (by have hpar : 0 ≤ xpar ∧ xpar ≤ 1000000 := hpar; unfold I64; omega)
    have hq : posOf (M.map Prod.fst) xpar = (q : Int) := hq
    rwa [hq] at this
  have H := Lib.hid h
  have HX := Lib.hid hx
  have HY := Lib.hid hy
  have HKR := Lib.hid hkr
  have HPX := Lib.hid hpxx
  have hgw := h.lt
  have i0 : (0 : Int) ≤ (p : Int) := by omega
  have i1 : (p : Int) < (M.length : Int) := by omega
  have i2 : (0 : Int) ≤ (q : Int) := by omega
  have i3 : (q : Int) < (M.length : Int) := by omega
  have H64 : Hid (∀ z ∈ plusK y1.kids i id, I64 z) := fun z hz => by
    rcases (plus_mem _ _ _ _).1 hz with rfl | hz
    · exact hid64
    · exact hkr.i64 hz
  obtain ⟨n, hn⟩ : ∃ n, n = M.length := ⟨_, rfl⟩
  rw [← hn] at HIX HIP i1 i3 hml ⊢
  have HNN := Lib.hid hn
  have HK1 : Hid (nk = y1.kids.length) := hkl.1
  have hkl1 : nk ≤ 500 := by have := HK1.out; omega
  have hat1 : i ≤ nk := by have := HK1.out; omega
  clear hkl hk hat h hx hy hp hq hpx hqy hidr hpar hkr hkx hpxx hr hi hn hxi hyi
  go_enter Tryz.func67, Tryz.ntmps67
  go_wp2_with fail
  refine HIX.out.mono ?_
  rintro e w1 ⟨rfl, hb1⟩
  have HB1 := Lib.hid hb1
  have H1 := Lib.hid (H.out.below hb1)
  have c1 : w1.cell? ⟨g, p * 5 + 1, none⟩ = some (.int .i64 xpar) := H1.out.cell HX.out rfl
  clear hb1
  go_wp2_with fail
  refine (HIP.out w1 HB1.out).mono ?_
  rintro e w2 ⟨rfl, hb⟩
  have HB2 : Hid (Below w.heap.size w w2) := HB1.out.trans (hb.mono HB1.out.size)
  have H2 := Lib.hid (H.out.below HB2.out)
  have c2 : w2.cell? ⟨g, q * 5 + 2, none⟩ = some (.slice Ak nk ck) := H2.out.cell HY.out rfl
  have HCL := Lib.hid (cloneI_own Ak nk ck y1.kids w2 w.heap.size (HKR.out.below HB2.out))
  clear hb c1
  go_wp2_with fail
  refine HCL.out.mono ?_
  rintro e w3 ⟨v3, rfl, hown3, hb3⟩
  have HB3 : Hid (Below w.heap.size w w3) := HB2.out.trans (hb3.mono HB2.out.size)
  have hz3 : w2.heap.size ≤ w3.heap.size := hb3.size
  have hz2 : w.heap.size ≤ w2.heap.size := HB2.out.size
  have HO3 := Lib.hid hown3
  obtain ⟨A3, c3, rfl⟩ : ∃ A c, v3 = .slice A nk c := by
    obtain ⟨A, c, e, _⟩ := RdX.of_own hown3
    exact ⟨A, c, e⟩
  have hob := own_block_lt hown3
  have HINS : Hid (Calls Tryz.prog 89 #[.slice A3 nk c3, .int .i64 i, .slice (some ⟨w3.heap.size, 0, none⟩) 1 1] (w3.alloc (.cells #[.int .i64 id] 3)) (InsR w2.heap.size 3 1 nk (y1.kids.map (.int .i64)) [.int .i64 id] i (w3.alloc (.cells #[.int .i64 id] 3)) (.slice A3 nk c3))) :=
    insI_own (.slice A3 nk c3) nk (y1.kids.map (.int .i64)) w2.heap.size i w3.heap.size [.int .i64 id] _ (hown3.alloc _) (by omega) (by omega) rfl (Blk.new w3 3 #[.int .i64 id]) (fun e => by have := (hob _ e).2; omega) (ints_one _) (ints_one [id]) (by simp; omega)
  clear hb3 hown3 c2
  go_wp2_with fail
  refine HINS.out.mono ?_
  rintro e w4 ⟨v4, rfl, hown4, hg4, hat4⟩
  have HB4 : Hid (Below w.heap.size w w4) := (HB3.out.alloc HB3.out.size (.cells #[.int .i64 id] 3)).grown hg4 (by simp; omega) (fun gg hgg => by have := (hob gg hgg).1; omega)
  obtain ⟨A4, c4, rfl, hc4, hr4⟩ := RdX.of_own hown4
  have hnone : A4 = none → nk + 1 = 0 ∧ c4 = 0 := fun e => by
    rcases hown4.2 with ⟨h, h0⟩ | ⟨g, cap, cur, h, _⟩
    · omega
    · injection h with h; rw [e] at h; cases h
  have HCP := Lib.hid fun W => clipI_any A4 (nk + 1) c4 W hc4 hnone
  have hkid : RInX w4 (fun b => (b < w4.heap.size ∧ b ≠ g) ∧ S b) (.slice A4 (nk + 1) (nk + 1)) (plusK y1.kids i id) :=
    ⟨A4, nk + 1, nk + 1, rfl, by rw [plus_len, HK1.out], ⟨Nat.le_refl _, by omega⟩, by rw [plus_map]; exact hr4.weak fun b hb => ⟨⟨hb.2.2, by have := hb.2.1; omega⟩, HSS.out b (Nat.le_trans hz2 hb.2.1)⟩, H64.out⟩
  have HKD := Lib.hid hkid
  have H4 := Lib.hid (H.out.below HB4.out)
  clear hown4 hg4 hat4 hc4 hr4 hnone hkid
  go_wp2_with fail
  refine (HCP.out _).mono ?_
  rintro e w5 ⟨rfl, rfl⟩
  have f2 := H4.out.frozen (q * 5 + 2)
  have c2 : w5.cell? ⟨g, q * 5 + 2, none⟩ = some (.slice Ak nk ck) := H4.out.cell HY.out rfl
  go_wp2_with fail
  go_end0
  refine ⟨rfl, ⟨.slice A4 (nk + 1) (nk + 1), ?_⟩, ?_⟩
  · refine H4.out.store HY.out (j := 2) (by omega) rfl ⟨HKD.out, ?_⟩
    exact (HPX.out.keep fun p hp => HB4.out.cell hp.1.1).weak fun b hb => ⟨⟨Nat.lt_of_lt_of_le hb.1.1 HB4.out.size, hb.1.2⟩, hb.2⟩
  · exact grown_put HB4.out g _ _
end Go.Proofs.YtmkicfjcgbfaaaaGreatDoor
namespace Go.Proofs.YtmkicfjcgbfaaaaGreatDoor
open Go.RowKit Go.Sort Go.Lib

theorem detach1_any (k id : Int) (B : Nat) (W : World) (hc : W.cell? ⟨B, 0, none⟩ = some (.int .i64 id)) :
    FnGives Tryz.prog 91 #[.pointer (some ⟨B, 0, none⟩)] #[.int .i64 k] (.bool (k == id)) W := by
  show Calls Tryz.prog 91 #[.int .i64 k, .pointer (some ⟨B, 0, none⟩)] W _
  go_enter Tryz.func91, Tryz.ntmps91
  go_wp2
  go_ret
  exact ⟨rfl, 0, rfl⟩

/-- slices.DeleteFunc at ints with detach's own closure -/
theorem delI_own (g cap : Nat) (cur : Array Value) (l : List Int) (id : Int) (B base : Nat) (w : World) (hb : w.heap[g]? = some (.cells cur 3 (0, 0))) (hl : l.length ≤ cap) (hm : cap ≤ maxLen) (hs : cur.size = cap * 1) (ht : cur.toList.take (l.length * 1) = l.map (.int .i64)) (hB : B < w.heap.size) (hne : B ≠ g) (hcell : w.cell? ⟨B, 0, none⟩ = some (.int .i64 id)) (hbase : base ≤ g) :
    Calls Tryz.prog 90 #[.slice (some ⟨g, 0, none⟩) l.length cap, .func (.func 91) #[] #[.pointer (some ⟨B, 0, none⟩)]] w fun e w' =>
      e = .returned (.slice (some ⟨g, 0, none⟩) (lessK l id).length cap) ∧ w'.ownsRow base 3 1 (.slice (some ⟨g, 0, none⟩) (lessK l id).length cap) (lessK l id).length ((lessK l id).map (.int .i64)) ∧ w.grownBy w' (some g) := by
  have eg : ∀ args w, (callFunc 91 args).run Tryz.prog w = .ok (.enter 91 args) w := enters_of Tryz.func91 (by kernel_rfl) rfl
  rw [Nat.mul_one] at ht
  have hH := holds_of_blockI hb ht
  have hcon := AnyE.slices_DeleteFunc Tryz.delI (Value.int .i64) (fun _ => rfl) (fun x => x == id) 91 #[.pointer (some ⟨B, 0, none⟩)] eg 0 Tryz.zeroValue3 g 0 cap l.toArray w
    (fun W x hb => detach1_any x id B W ((hb.cell (p := ⟨B, 0, none⟩) hB).trans hcell))
    (fun n os dk x _ => detach1_any x id B _ (by
      unfold sortWorld
      rw [cell?_grow _ _ _ (by show B < (putRow _ _ _ _ _).heap.size; rw [Sort.size_putRow]; exact hB), cell?_putRow_other _ _ g 0 _ _ (Or.inl hne)]
      exact hcell)) hH (by rw [List.size_toArray]; unfold maxLen at hm; omega) (by rw [List.size_toArray]; exact hl)
  change Calls Tryz.prog 90 _ _ _ at hcon
  rw [List.size_toArray] at hcon
  refine hcon.mono ?_
  rintro e w' ⟨rfl, q, rfl⟩
  have hle := less_len l id
  have e1 : (l.toArray.toList.filter fun x => !(x == id)) = lessK l id := rfl
  rw [e1]
  obtain ⟨D, hD⟩ : ∃ D, D = lessK l id ++ List.replicate (l.length - (lessK l id).length) 0 := ⟨_, rfl⟩
  have hDl : D.length = l.length := by rw [hD, List.length_append, List.length_replicate]; omega
  rw [← hD]
  have hh := heap_sortedI (n := q) (os := #[]) D.toArray hb
  have hg := grownBy_sortedI (w := w) (g := g) (n := q) (os := #[]) D.toArray
  rw [grow_empty] at hh hg
  have htk := take_putCellsI cur D (by rw [hDl, hs]; omega)
  refine ⟨rfl, ⟨by rw [List.length_map, Nat.mul_one], .inr ⟨g, cap, _, rfl, hbase, hh, by omega, hm, by simp [putCells, hs], ?_⟩⟩, hg⟩
  have e2 : ((putCells (Value.int .i64) 0 D.toArray cur).toList.take D.length).take (lessK l id).length = (D.map (Value.int .i64)).take (lessK l id).length := by rw [htk]
  rw [List.take_take, Nat.min_eq_left (by omega)] at e2
  rw [Nat.mul_one, e2, hD, List.map_append, List.take_append_of_le_length (by rw [List.length_map]; exact Nat.le_refl _), List.take_of_length_le (by rw [List.length_map]; exact Nat.le_refl _)]

set_option maxRecDepth 100000 in
set_option maxHeartbeats 4000000 in
/-- tree.detach -/
theorem detach_any {S : Nat → Prop} (w0 : World) (hS : ∀ b, w0.heap.size ≤ b → S b) (g cap : Nat) (M : List BK) (h0 : RowS S w0 g cap M) (hr : Rise (M.map Prod.fst)) (hi : IdsIn (M.map Prod.fst)) (id : Int) (p q : Nat) (x y : BK) (hx : M[p]? = some x) (hxi : x.1.id = id) (hy : M[q]? = some y) (hyi : y.1.id = x.1.parent) (hin : id ∈ y.1.kids) (hk : y.1.kids.length ≤ 500) :
    Calls Tryz.prog 68 #[.slice (some ⟨g, 0, none⟩) M.length cap, .int .i64 id] w0 (KidsR S w0 g cap M q y (lessK y.1.kids id)) := by
  have HSS := Lib.hid hS
  clear hS
  have hbA : Below w0.heap.size w0 (w0.alloc (.cells #[.int .i64 id] 3)) := (Below.refl _ _).alloc (Nat.le_refl _) _
  have HBA := Lib.hid hbA
  have hcA : (w0.alloc (.cells #[.int .i64 id] 3)).cell? ⟨w0.heap.size, 0, none⟩ = some (.int .i64 id) := by simp
  have hzA : w0.heap.size < (w0.alloc (.cells #[.int .i64 id] 3)).heap.size := by simp
  obtain ⟨B, hBe⟩ : ∃ B, B = w0.heap.size := ⟨_, rfl⟩
  obtain ⟨w, hwe⟩ : ∃ w, w = w0.alloc (.cells #[.int .i64 id] 3) := ⟨_, rfl⟩
  have h := h0.below hbA
  have hml := h.few
  have hpx : (M.map Prod.fst)[p]? = some x.1 := by rw [List.getElem?_map, hx]; rfl
  have hqy : (M.map Prod.fst)[q]? = some y.1 := by rw [List.getElem?_map, hy]; rfl
  have hp : posOf (M.map Prod.fst) id = (p : Int) := by rw [← hxi]; exact posOf_of hr hpx
  have hq : posOf (M.map Prod.fst) x.1.parent = (q : Int) := by rw [← hyi]; exact posOf_of hr hqy
  have hidr := hi x.1 (List.mem_of_getElem? hpx)
  have hpar := hi y.1 (List.mem_of_getElem? hqy)
  rw [hxi] at hidr
  rw [hyi] at hpar
  have hid64 : I64 id := by unfold I64; omega
  have hpn : p < M.length := (List.getElem?_eq_some_iff.1 hx).1
  have hqn : q < M.length := (List.getElem?_eq_some_iff.1 hy).1
  obtain ⟨y1, yk, yp⟩ := y
  obtain ⟨⟨xid, xpar, xks, xtx, xps⟩, xk, xpv⟩ := x
  have hxi : xid = id := hxi
  have hnst := h.far _ (List.mem_of_getElem? hy)
  obtain ⟨hkx, hpxx⟩ := hnst
  obtain ⟨Ak, nk, ck, rfl⟩ : ∃ A n c, yk = .slice A n c := by
    obtain ⟨A, n, c, e, _⟩ := hkx
    exact ⟨A, n, c, e⟩
  rw [← hwe] at h hkx hpxx HBA
  rw [← hwe, ← hBe] at hcA
  rw [← hwe, ← hBe] at hzA
  have hkr := hkx.reads (B := w.heap.size) fun b hb => hb.1.1
  have hkl := hkr.len
  have HIX := Lib.hid (index_any (M.map Prod.fst) (some ⟨g, 0, none⟩) M.length cap id w w.heap.size (Nat.le_refl _) h.rb hr hi hid64)
  rw [hp] at HIX
  have HIP : Hid (∀ W, Below w.heap.size w W → Calls Tryz.prog 16 #[.slice (some ⟨g, 0, none⟩) M.length cap, .int .i64 xpar] W fun e w' => e = .returned (.int .i64 (q : Int)) ∧ Below W.heap.size W w') := fun W hW => by
    have := index_any (M.map Prod.fst) (some ⟨g, 0, none⟩) M.length cap xpar W W.heap.size (Nat.le_refl _) (h.below hW).rb hr hi (by have hpar : 0 ≤ xpar ∧ xpar ≤ 1000000 := hpar; unfold I64; omega)
    have hq : posOf (M.map Prod.fst) xpar = (q : Int) := hq
    rwa [hq] at this
  have H := Lib.hid h
  have HX := Lib.hid hx
  have HY := Lib.hid hy
  have HKR := Lib.hid hkr
  have HPX := Lib.hid hpxx
  have hgw := h.lt
  have hg0 : g < B := by rw [hBe]; exact h0.lt
  have i0 : (0 : Int) ≤ (p : Int) := by omega
  have i1 : (p : Int) < (M.length : Int) := by omega
  have i2 : (0 : Int) ≤ (q : Int) := by omega
  have i3 : (q : Int) < (M.length : Int) := by omega
  have H64 : Hid (∀ z ∈ lessK y1.kids id, I64 z) := fun z hz => hkr.i64 ((less_mem _ _ _).1 hz).1
  have HIN := Lib.hid hin
  obtain ⟨n, hn⟩ : ∃ n, n = M.length := ⟨_, rfl⟩
  rw [← hn] at HIX HIP i1 i3 hml ⊢
  have HNN := Lib.hid hn
  have HK1 : Hid (nk = y1.kids.length) := hkl.1
  have hkl1 : nk ≤ 500 := by have := HK1.out; omega
  have HC : Hid (w.cell? ⟨B, 0, none⟩ = some (.int .i64 id)) := hcA
  have HBE := Lib.hid hBe
  have HZ0 : Hid (w0.heap.size ≤ w.heap.size) := HBA.out.size
  clear hbA h0 hkl hk hin h hx hy hp hq hpx hqy hidr hpar hkr hkx hpxx hr hi hn hxi hyi
  go_enter Tryz.func68, Tryz.ntmps68
  go_upto_region 1 with fail
  rw [← hwe, ← hBe]
  clear hwe hBe
  go_wp2_with fail
  refine HIX.out.mono ?_
  rintro e w1 ⟨rfl, hb1⟩
  have HB1 := Lib.hid hb1
  have H1 := Lib.hid (H.out.below hb1)
  have c1 : w1.cell? ⟨g, p * 5 + 1, none⟩ = some (.int .i64 xpar) := H1.out.cell HX.out rfl
  clear hb1 hcA
  go_wp2_with fail
  refine (HIP.out w1 HB1.out).mono ?_
  rintro e w2 ⟨rfl, hb⟩
  have HB2 : Hid (Below w.heap.size w w2) := HB1.out.trans (hb.mono HB1.out.size)
  have H2 := Lib.hid (H.out.below HB2.out)
  have c2 : w2.cell? ⟨g, q * 5 + 2, none⟩ = some (.slice Ak nk ck) := H2.out.cell HY.out rfl
  have HCL := Lib.hid (cloneI_own Ak nk ck y1.kids w2 w.heap.size (HKR.out.below HB2.out))
  clear hb c1
  go_wp2_with fail
  refine HCL.out.mono ?_
  rintro e w3 ⟨v3, rfl, hown3, hb3⟩
  have HB3 : Hid (Below w.heap.size w w3) := HB2.out.trans (hb3.mono HB2.out.size)
  have hz3 : w2.heap.size ≤ w3.heap.size := hb3.size
  have hz2 : w.heap.size ≤ w2.heap.size := HB2.out.size
  obtain ⟨g3, c3, rfl, hg3, HDEL⟩ : ∃ g3 c3, v3 = .slice (some ⟨g3, 0, none⟩) nk c3 ∧ w2.heap.size ≤ g3 ∧ Hid (Calls Tryz.prog 90 #[.slice (some ⟨g3, 0, none⟩) nk c3, .func (.func 91) #[] #[.pointer (some ⟨B, 0, none⟩)]] w3 fun e w' =>
      e = .returned (.slice (some ⟨g3, 0, none⟩) (lessK y1.kids id).length c3) ∧ w'.ownsRow w2.heap.size 3 1 (.slice (some ⟨g3, 0, none⟩) (lessK y1.kids id).length c3) (lessK y1.kids id).length ((lessK y1.kids id).map (.int .i64)) ∧ w3.grownBy w' (some g3)) := by
    have hpos : 0 < nk := by rw [HK1.out]; exact List.length_pos_of_mem HIN.out
    rcases hown3.2 with ⟨_, hz⟩ | ⟨g3, c3, cur, rfl, hg, hh, hnc, hcm, hcs, hct⟩
    · omega
    · have hk1 := HK1.out
      have := delI_own g3 c3 cur y1.kids id B w2.heap.size w3 hh (by omega) hcm hcs (by rw [← hk1]; exact hct) (by omega) (by omega) (by rw [HB3.out.cell (p := ⟨B, 0, none⟩) (by show B < w.heap.size; omega)]; exact HC.out) hg
      rw [← hk1] at this
      exact ⟨g3, c3, rfl, hg, this⟩
  clear hb3 hown3 c2
  go_wp2_with fail
  refine HDEL.out.mono ?_
  rintro e w4 ⟨rfl, hown4, hg4⟩
  have HB4 : Hid (Below w.heap.size w w4) := HB3.out.grown hg4 HB3.out.size (fun gg hgg => by injection hgg with e; omega)
  obtain ⟨A4, c4, e4, hc4, hr4⟩ := RdX.of_own hown4
  injection e4 with e41 e42 e43
  subst e41 e43
  have hll := less_len y1.kids id
  have hk1 := HK1.out
  have hkid : RInX w4 (fun b => (b < w4.heap.size ∧ b ≠ g) ∧ S b) (.slice (some ⟨g3, 0, none⟩) (lessK y1.kids id).length c3) (lessK y1.kids id) :=
    ⟨_, _, _, rfl, rfl, ⟨hc4, by omega⟩, hr4.weak fun b hb => ⟨⟨hb.2.2, by have := hb.2.1; omega⟩, HSS.out b (Nat.le_trans HZ0.out (Nat.le_trans hz2 hb.2.1))⟩, H64.out⟩
  have HKD := Lib.hid hkid
  have H4 := Lib.hid (H.out.below HB4.out)
  have f2 := H4.out.frozen (q * 5 + 2)
  have c2 : w4.cell? ⟨g, q * 5 + 2, none⟩ = some (.slice Ak nk ck) := H4.out.cell HY.out rfl
  clear hown4 hg4 hc4 hr4 hkid hll hk1
  go_wp2_with fail
  go_end0
  refine ⟨rfl, ⟨.slice (some ⟨g3, 0, none⟩) (lessK y1.kids id).length c3, ?_⟩, ?_⟩
  · refine H4.out.store HY.out (j := 2) (by omega) rfl ⟨HKD.out, ?_⟩
    exact (HPX.out.keep fun p hp => HB4.out.cell hp.1.1).weak fun b hb => ⟨⟨Nat.lt_of_lt_of_le hb.1.1 HB4.out.size, hb.1.2⟩, hb.2⟩
  · exact grown_put (HBA.out.trans (HB4.out.mono HZ0.out)) g _ _
end Go.Proofs.YtmkicfjcgbfaaaaGreatDoor
