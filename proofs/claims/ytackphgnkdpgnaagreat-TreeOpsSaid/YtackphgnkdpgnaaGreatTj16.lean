/-
  DERIVED. The walk of tree.attach on a base that is turned in place. Conditions: sizes; ids that rise.
  DERIVED: slices.DeleteFunc at ints, laid at this program in plain words (lay-plain.mjs, shelf_marks.py).
  The walk of tree.detach on a base that is turned in place. Conditions: sizes; ids that rise.
  The walk of slices.Delete of one element at blocks, over a row of the call's own. Conditions: sizes.
  The walk of slices.BinarySearchFunc at blocks with done's own closure: the place for an id. Conditions: ids that rise within their bounds.
  By an AI agent.
-/
import Derived.Test.YtackphgnkdpgnaaGreatTj11
import Derived.Test.YtackphgnkdpgnaaGreatTj06
import Derived.Test.YtackphgnkdpgnaaGreatTj02
import Derived.Test.YtackphgnkdpgnaaGreatTj15
import Derived.Shelf.SlicesE.DeleteFunc
import Derived.Ground.SlgfProg
import Derived.Test.YtackphgnkdpgnaaGreatProg
import Derived.Sort.OwnSortedInts
namespace Go.Proofs.YtackphgnkdpgnaaGreat
open Go.RowKit

/-- slices.Clone at ints: a row of the call's own -/
theorem cloneI_own (A : Option Addr) (n c : Nat) (l : List Int) (w : World) (B : Nat) (h : RIn w B (.slice A n c) l) :
    Calls Tryz.prog 71 #[.slice A n c] w fun e w' => ∃ v', e = .returned v' ∧ w'.ownsRow w.heap.size 3 1 v' n (l.map (.int .i64)) ∧ Below w.heap.size w w' := by
  have hn := h.len
  rcases A with _ | ad
  · have h0 : n = 0 := by
      rcases Nat.eq_zero_or_pos n with g | g
      · exact g
      · obtain ⟨ad, e, _⟩ := h.reads.2 g
        cases e
    subst h0
    have hl : l = [] := List.eq_nil_of_length_eq_zero hn.1.symm
    subst hl
    refine (Tryz.slices_Clone_int_nil 0 c w).mono ?_
    rintro e w' ⟨rfl, rfl⟩
    exact ⟨_, rfl, World.ownsRow_nil _ _ _ _, Below.refl _ _⟩
  · rcases Nat.eq_zero_or_pos n with g | g
    · subst g
      have hl : l = [] := List.eq_nil_of_length_eq_zero hn.1.symm
      subst hl
      refine (Tryz.slices_Clone_int_zero ad c w).mono ?_
      rintro e w' ⟨v', rfl, ho, _, hb⟩
      exact ⟨_, rfl, ho, hb⟩
    · obtain ⟨b, off, e, _, _⟩ := h.reads.plain g (by omega)
      injection e with e
      subst e
      refine (Tryz.slices_Clone_int b off n c l w (by omega) (by omega) h.getD).mono ?_
      rintro e w' ⟨v', rfl, ho, _, hb⟩
      rw [List.take_of_length_le (by omega)] at ho
      exact ⟨_, rfl, ho, hb⟩
theorem plus_map (l : List Int) (i : Nat) (n : Int) : (plusK l i n).map (Value.int .i64) = (l.map (Value.int .i64)).take (i * 1) ++ [.int .i64 n] ++ (l.map (Value.int .i64)).drop (i * 1) := by
  unfold plusK
  rw [Nat.mul_one, List.map_append, List.map_cons, List.map_take, List.map_drop, List.append_assoc]; rfl
theorem grown_put {w w' : World} (h : Below w.heap.size w w') (g i : Nat) (u : Value) : w.grownBy (w'.setCell ⟨g, i, none⟩ u) (some g) :=
  ⟨h.os, h.tape, h.output, by simp only [World.setCell, Array.size_modify]; exact h.size, fun k hk hn => by
    have hne : k ≠ g := fun e => hn (by rw [e])
    rw [← h.block k hk]
    simp only [World.setCell, Array.getElem?_modify, if_neg (Ne.symm hne)]⟩
/-- what a turn of one block's kids leaves -/
def KidsR (w : World) (g cap : Nat) (M : List BK) (q : Nat) (y : BK) (ks : List Int) (e : Ending) (w' : World) : Prop :=
  e = .returned (.tuple #[]) ∧ (∃ kv, RowB w' g cap (M.set q (y.1.withKids ks, kv, y.2.2))) ∧ w.grownBy w' (some g)

set_option maxRecDepth 100000 in
set_option maxHeartbeats 4000000 in
/-- tree.attach -/
theorem attach_any (w : World) (g cap : Nat) (M : List BK) (h : RowB w g cap M) (hr : Rise (M.map Prod.fst)) (hi : IdsIn (M.map Prod.fst)) (id : Int) (i p q : Nat) (x y : BK) (hx : M[p]? = some x) (hxi : x.1.id = id) (hy : M[q]? = some y) (hyi : y.1.id = x.1.parent) (hat : i ≤ y.1.kids.length) (hk : y.1.kids.length ≤ 500) :
    Calls Tryz.prog 61 #[.slice (some ⟨g, 0, none⟩) M.length cap, .int .i64 id, .int .i64 i] w (KidsR w g cap M q y (plusK y.1.kids i id)) := by
  have hml := h.few
  have hpx : (M.map Prod.fst)[p]? = some x.1 := by rw [List.getElem?_map, hx]; rfl
  have hqy : (M.map Prod.fst)[q]? = some y.1 := by rw [List.getElem?_map, hy]; rfl
  have hp : posOf (M.map Prod.fst) id = (p : Int) := by rw [← hxi]; exact posOf_of hr hpx
  have hq : posOf (M.map Prod.fst) x.1.parent = (q : Int) := by rw [← hyi]; exact posOf_of hr hqy
  have hidr := hi x.1 (List.mem_of_getElem? hpx)
  have hpar := hi y.1 (List.mem_of_getElem? hqy)
  rw [hxi] at hidr
  rw [hyi] at hpar
  have hid64 : I64 id := by unfold I64; omega
  have hpn : p < M.length := (List.getElem?_eq_some_iff.1 hx).1
  have hqn : q < M.length := (List.getElem?_eq_some_iff.1 hy).1
  obtain ⟨y1, yk, yp⟩ := y
  obtain ⟨⟨xid, xpar, xks, xtx, xps⟩, xk, xpv⟩ := x
  have hxi : xid = id := hxi
  have hnst := h.nest _ (List.mem_of_getElem? hy)
  obtain ⟨hkx, hpxx⟩ := hnst
  obtain ⟨Ak, nk, ck, rfl⟩ : ∃ A n c, yk = .slice A n c := by
    obtain ⟨A, n, c, e, _⟩ := hkx
    exact ⟨A, n, c, e⟩
  have hkr := hkx.reads (B := w.heap.size) fun b hb => hb.1
  have hkl := hkr.len
  have HIX := Lib.hid (index_any (M.map Prod.fst) (some ⟨g, 0, none⟩) M.length cap id w w.heap.size (Nat.le_refl _) h.rb hr hi hid64)
  rw [hp] at HIX
  have HIP : Hid (∀ W, Below w.heap.size w W → Calls Tryz.prog 54 #[.slice (some ⟨g, 0, none⟩) M.length cap, .int .i64 xpar] W fun e w' => e = .returned (.int .i64 (q : Int)) ∧ Below W.heap.size W w') := fun W hW => by
    have := index_any (M.map Prod.fst) (some ⟨g, 0, none⟩) M.length cap xpar W W.heap.size (Nat.le_refl _) (h.below hW).rb hr hi (by have hpar : 0 ≤ xpar ∧ xpar ≤ 1000000 := hpar; unfold I64; omega)
    have hq : posOf (M.map Prod.fst) xpar = (q : Int) := hq
    rwa [hq] at this
  have H := Lib.hid h
  have HX := Lib.hid hx
  have HY := Lib.hid hy
  have HKR := Lib.hid hkr
  have HPX := Lib.hid hpxx
  have hgw := h.lt
  have i0 : (0 : Int) ≤ (p : Int) := by omega
  have i1 : (p : Int) < (M.length : Int) := by omega
  have i2 : (0 : Int) ≤ (q : Int) := by omega
  have i3 : (q : Int) < (M.length : Int) := by omega
  have H64 : Hid (∀ z ∈ plusK y1.kids i id, I64 z) := fun z hz => by
    rcases (plus_mem _ _ _ _).1 hz with rfl | hz
    · exact hid64
    · exact hkr.i64 hz
  obtain ⟨n, hn⟩ : ∃ n, n = M.length := ⟨_, rfl⟩
  rw [← hn] at HIX HIP i1 i3 hml ⊢
  have HNN := Lib.hid hn
  have HK1 : Hid (nk = y1.kids.length) := hkl.1
  have hkl1 : nk ≤ 500 := by have := HK1.out; omega
  have hat1 : i ≤ nk := by have := HK1.out; omega
  clear hkl hk hat h hx hy hp hq hpx hqy hidr hpar hkr hkx hpxx hr hi hn hxi hyi
  go_enter Tryz.func61, Tryz.ntmps61
  go_wp2_with fail
  refine HIX.out.mono ?_
  rintro e w1 ⟨rfl, hb1⟩
  have HB1 := Lib.hid hb1
  have H1 := Lib.hid (H.out.below hb1)
  have c1 : w1.cell? ⟨g, p * 5 + 1, none⟩ = some (.int .i64 xpar) := H1.out.cell HX.out rfl
  clear hb1
  go_wp2_with fail
  refine (HIP.out w1 HB1.out).mono ?_
  rintro e w2 ⟨rfl, hb⟩
  have HB2 : Hid (Below w.heap.size w w2) := HB1.out.trans (hb.mono HB1.out.size)
  have H2 := Lib.hid (H.out.below HB2.out)
  have c2 : w2.cell? ⟨g, q * 5 + 2, none⟩ = some (.slice Ak nk ck) := H2.out.cell HY.out rfl
  have HCL := Lib.hid (cloneI_own Ak nk ck y1.kids w2 w.heap.size (HKR.out.below HB2.out))
  clear hb c1
  go_wp2_with fail
  refine HCL.out.mono ?_
  rintro e w3 ⟨v3, rfl, hown3, hb3⟩
  have HB3 : Hid (Below w.heap.size w w3) := HB2.out.trans (hb3.mono HB2.out.size)
  have hz3 : w2.heap.size ≤ w3.heap.size := hb3.size
  have hz2 : w.heap.size ≤ w2.heap.size := HB2.out.size
  have HO3 := Lib.hid hown3
  obtain ⟨A3, c3, rfl⟩ : ∃ A c, v3 = .slice A nk c := by
    obtain ⟨A, c, e, _⟩ := RdX.of_own hown3
    exact ⟨A, c, e⟩
  have hob := own_block_lt hown3
  have HINS : Hid (Calls Tryz.prog 86 #[.slice A3 nk c3, .int .i64 i, .slice (some ⟨w3.heap.size, 0, none⟩) 1 1] (w3.alloc (.cells #[.int .i64 id] 3)) (InsR w2.heap.size 3 1 nk (y1.kids.map (.int .i64)) [.int .i64 id] i (w3.alloc (.cells #[.int .i64 id] 3)) (.slice A3 nk c3))) :=
    insI_own (.slice A3 nk c3) nk (y1.kids.map (.int .i64)) w2.heap.size i w3.heap.size [.int .i64 id] _ (hown3.alloc _) (by omega) (by omega) rfl (Blk.new w3 3 #[.int .i64 id]) (fun e => by have := (hob _ e).2; omega) (ints_one _) (ints_one [id]) (by simp; omega)
  clear hb3 hown3 c2
  go_wp2_with fail
  refine HINS.out.mono ?_
  rintro e w4 ⟨v4, rfl, hown4, hg4, hat4⟩
  have HB4 : Hid (Below w.heap.size w w4) := (HB3.out.alloc HB3.out.size (.cells #[.int .i64 id] 3)).grown hg4 (by simp; omega) (fun gg hgg => by have := (hob gg hgg).1; omega)
  obtain ⟨A4, c4, rfl, hc4, hr4⟩ := RdX.of_own hown4
  have hnone : A4 = none → nk + 1 = 0 ∧ c4 = 0 := fun e => by
    rcases hown4.2 with ⟨h, h0⟩ | ⟨g, cap, cur, h, _⟩
    · omega
    · injection h with h; rw [e] at h; cases h
  have HCP := Lib.hid fun W => clipI_any A4 (nk + 1) c4 W hc4 hnone
  have hkid : RInX w4 (fun b => b < w4.heap.size ∧ b ≠ g) (.slice A4 (nk + 1) (nk + 1)) (plusK y1.kids i id) :=
    ⟨A4, nk + 1, nk + 1, rfl, by rw [plus_len, HK1.out], ⟨Nat.le_refl _, by omega⟩, by rw [plus_map]; exact hr4.weak fun b hb => ⟨hb.2.2, by have := hb.2.1; omega⟩, H64.out⟩
  have HKD := Lib.hid hkid
  have H4 := Lib.hid (H.out.below HB4.out)
  clear hown4 hg4 hat4 hc4 hr4 hnone hkid
  go_wp2_with fail
  refine (HCP.out _).mono ?_
  rintro e w5 ⟨rfl, rfl⟩
  have f2 := H4.out.frozen (q * 5 + 2)
  have c2 : w5.cell? ⟨g, q * 5 + 2, none⟩ = some (.slice Ak nk ck) := H4.out.cell HY.out rfl
  go_wp2_with fail
  go_end0
  refine ⟨rfl, ⟨.slice A4 (nk + 1) (nk + 1), ?_⟩, ?_⟩
  · refine H4.out.store HY.out (j := 2) (by omega) rfl ⟨HKD.out, ?_⟩
    exact (HPX.out.keep fun p hp => HB4.out.cell hp.1).weak fun b hb => ⟨Nat.lt_of_lt_of_le hb.1 HB4.out.size, hb.2⟩
  · exact grown_put HB4.out g _ _
end Go.Proofs.YtackphgnkdpgnaaGreat
namespace Go.Proofs
open Go.Shelf

def Tryz.delI_ren : Go.Shelf.Ren := ⟨fun | 10 => 87 | 6 => 100 | n => n, fun | 22 => 42 | 23 => 3 | 25 => 106 | 3 => 3 | 4 => 4 | 0 => 0 | n => n, fun | n => n⟩
theorem Tryz.delI : Go.Proofs.SlLaysH.n10 Tryz.prog Tryz.delI_ren := {
  mixed := by kernel_rfl
  f6 := ⟨Tryz.f100.name, by decide, Tryz.func100.trans (congrArg some (by kernel_rfl))⟩
  f10 := ⟨Tryz.f87.name, by decide, Tryz.func87.trans (congrArg some (by kernel_rfl))⟩
  t0 := Tryz.underlying0
  a0 := Tryz.isAgg0
  z0 := Tryz.sizeOf0
  v0 := Tryz.zeroValue0
  t3 := Tryz.underlying3
  a3 := Tryz.isAgg3
  z3 := Tryz.sizeOf3
  v3 := Tryz.zeroValue3
  t4 := Tryz.underlying4
  a4 := Tryz.isAgg4
  z4 := Tryz.sizeOf4
  v4 := Tryz.zeroValue4
  t22 := Tryz.underlying42
  a22 := Tryz.isAgg42
  z22 := Tryz.sizeOf42
  v22 := Tryz.zeroValue42
  a23 := Tryz.isAgg3
  z23 := Tryz.sizeOf3
  t25 := Tryz.underlying106
  a25 := Tryz.isAgg106
  z25 := Tryz.sizeOf106
  v25 := Tryz.zeroValue106 }
end Go.Proofs
namespace Go.Proofs.YtackphgnkdpgnaaGreat
open Go.RowKit Go.Sort Go.Lib

theorem detach1_any (k id : Int) (B : Nat) (W : World) (hc : W.cell? ⟨B, 0, none⟩ = some (.int .i64 id)) :
    FnGives Tryz.prog 88 #[.pointer (some ⟨B, 0, none⟩)] #[.int .i64 k] (.bool (k == id)) W := by
  show Calls Tryz.prog 88 #[.int .i64 k, .pointer (some ⟨B, 0, none⟩)] W _
  go_enter Tryz.func88, Tryz.ntmps88
  go_wp2
  go_ret
  exact ⟨rfl, 0, rfl⟩

/-- slices.DeleteFunc at ints with detach's own closure -/
theorem delI_own (g cap : Nat) (cur : Array Value) (l : List Int) (id : Int) (B base : Nat) (w : World) (hb : w.heap[g]? = some (.cells cur 3 (0, 0))) (hl : l.length ≤ cap) (hm : cap ≤ maxLen) (hs : cur.size = cap * 1) (ht : cur.toList.take (l.length * 1) = l.map (.int .i64)) (hB : B < w.heap.size) (hne : B ≠ g) (hcell : w.cell? ⟨B, 0, none⟩ = some (.int .i64 id)) (hbase : base ≤ g) :
    Calls Tryz.prog 87 #[.slice (some ⟨g, 0, none⟩) l.length cap, .func (.func 88) #[] #[.pointer (some ⟨B, 0, none⟩)]] w fun e w' =>
      e = .returned (.slice (some ⟨g, 0, none⟩) (lessK l id).length cap) ∧ w'.ownsRow base 3 1 (.slice (some ⟨g, 0, none⟩) (lessK l id).length cap) (lessK l id).length ((lessK l id).map (.int .i64)) ∧ w.grownBy w' (some g) := by
  have eg : ∀ args w, (callFunc 88 args).run Tryz.prog w = .ok (.enter 88 args) w := enters_of Tryz.func88 (by kernel_rfl) rfl
  rw [Nat.mul_one] at ht
  have hH := holds_of_blockI hb ht
  have hcon := AnyE.slices_DeleteFunc Tryz.delI (Value.int .i64) (fun _ => rfl) (fun x => x == id) 88 #[.pointer (some ⟨B, 0, none⟩)] eg 0 Tryz.zeroValue3 g 0 cap l.toArray w
    (fun W x hb => detach1_any x id B W ((hb.cell (p := ⟨B, 0, none⟩) hB).trans hcell))
    (fun n os dk x _ => detach1_any x id B _ (by
      unfold sortWorld
      rw [cell?_grow _ _ _ (by show B < (putRow _ _ _ _ _).heap.size; rw [Sort.size_putRow]; exact hB), cell?_putRow_other _ _ g 0 _ _ (Or.inl hne)]
      exact hcell)) hH (by rw [List.size_toArray]; unfold maxLen at hm; omega) (by rw [List.size_toArray]; exact hl)
  change Calls Tryz.prog 87 _ _ _ at hcon
  rw [List.size_toArray] at hcon
  refine hcon.mono ?_
  rintro e w' ⟨rfl, q, rfl⟩
  have hle := less_len l id
  have e1 : (l.toArray.toList.filter fun x => !(x == id)) = lessK l id := rfl
  rw [e1]
  obtain ⟨D, hD⟩ : ∃ D, D = lessK l id ++ List.replicate (l.length - (lessK l id).length) 0 := ⟨_, rfl⟩
  have hDl : D.length = l.length := by rw [hD, List.length_append, List.length_replicate]; omega
  rw [← hD]
  have hh := heap_sortedI (n := q) (os := #[]) D.toArray hb
  have hg := grownBy_sortedI (w := w) (g := g) (n := q) (os := #[]) D.toArray
  rw [grow_empty] at hh hg
  have htk := take_putCellsI cur D (by rw [hDl, hs]; omega)
  refine ⟨rfl, ⟨by rw [List.length_map, Nat.mul_one], .inr ⟨g, cap, _, rfl, hbase, hh, by omega, hm, by simp [putCells, hs], ?_⟩⟩, hg⟩
  have e2 : ((putCells (Value.int .i64) 0 D.toArray cur).toList.take D.length).take (lessK l id).length = (D.map (Value.int .i64)).take (lessK l id).length := by rw [htk]
  rw [List.take_take, Nat.min_eq_left (by omega)] at e2
  rw [Nat.mul_one, e2, hD, List.map_append, List.take_append_of_le_length (by rw [List.length_map]; exact Nat.le_refl _), List.take_of_length_le (by rw [List.length_map]; exact Nat.le_refl _)]

set_option maxRecDepth 100000 in
set_option maxHeartbeats 4000000 in
/-- tree.detach -/
theorem detach_any (w0 : World) (g cap : Nat) (M : List BK) (h0 : RowB w0 g cap M) (hr : Rise (M.map Prod.fst)) (hi : IdsIn (M.map Prod.fst)) (id : Int) (p q : Nat) (x y : BK) (hx : M[p]? = some x) (hxi : x.1.id = id) (hy : M[q]? = some y) (hyi : y.1.id = x.1.parent) (hin : id ∈ y.1.kids) (hk : y.1.kids.length ≤ 500) :
    Calls Tryz.prog 62 #[.slice (some ⟨g, 0, none⟩) M.length cap, .int .i64 id] w0 (KidsR w0 g cap M q y (lessK y.1.kids id)) := by
  have hbA : Below w0.heap.size w0 (w0.alloc (.cells #[.int .i64 id] 3)) := (Below.refl _ _).alloc (Nat.le_refl _) _
  have HBA := Lib.hid hbA
  have hcA : (w0.alloc (.cells #[.int .i64 id] 3)).cell? ⟨w0.heap.size, 0, none⟩ = some (.int .i64 id) := by simp
  have hzA : w0.heap.size < (w0.alloc (.cells #[.int .i64 id] 3)).heap.size := by simp
  obtain ⟨B, hBe⟩ : ∃ B, B = w0.heap.size := ⟨_, rfl⟩
  obtain ⟨w, hwe⟩ : ∃ w, w = w0.alloc (.cells #[.int .i64 id] 3) := ⟨_, rfl⟩
  have h := h0.below hbA
  have hml := h.few
  have hpx : (M.map Prod.fst)[p]? = some x.1 := by rw [List.getElem?_map, hx]; rfl
  have hqy : (M.map Prod.fst)[q]? = some y.1 := by rw [List.getElem?_map, hy]; rfl
  have hp : posOf (M.map Prod.fst) id = (p : Int) := by rw [← hxi]; exact posOf_of hr hpx
  have hq : posOf (M.map Prod.fst) x.1.parent = (q : Int) := by rw [← hyi]; exact posOf_of hr hqy
  have hidr := hi x.1 (List.mem_of_getElem? hpx)
  have hpar := hi y.1 (List.mem_of_getElem? hqy)
  rw [hxi] at hidr
  rw [hyi] at hpar
  have hid64 : I64 id := by unfold I64; omega
  have hpn : p < M.length := (List.getElem?_eq_some_iff.1 hx).1
  have hqn : q < M.length := (List.getElem?_eq_some_iff.1 hy).1
  obtain ⟨y1, yk, yp⟩ := y
  obtain ⟨⟨xid, xpar, xks, xtx, xps⟩, xk, xpv⟩ := x
  have hxi : xid = id := hxi
  have hnst := h.nest _ (List.mem_of_getElem? hy)
  obtain ⟨hkx, hpxx⟩ := hnst
  obtain ⟨Ak, nk, ck, rfl⟩ : ∃ A n c, yk = .slice A n c := by
    obtain ⟨A, n, c, e, _⟩ := hkx
    exact ⟨A, n, c, e⟩
  rw [← hwe] at h hkx hpxx HBA
  rw [← hwe, ← hBe] at hcA
  rw [← hwe, ← hBe] at hzA
  have hkr := hkx.reads (B := w.heap.size) fun b hb => hb.1
  have hkl := hkr.len
  have HIX := Lib.hid (index_any (M.map Prod.fst) (some ⟨g, 0, none⟩) M.length cap id w w.heap.size (Nat.le_refl _) h.rb hr hi hid64)
  rw [hp] at HIX
  have HIP : Hid (∀ W, Below w.heap.size w W → Calls Tryz.prog 54 #[.slice (some ⟨g, 0, none⟩) M.length cap, .int .i64 xpar] W fun e w' => e = .returned (.int .i64 (q : Int)) ∧ Below W.heap.size W w') := fun W hW => by
    have := index_any (M.map Prod.fst) (some ⟨g, 0, none⟩) M.length cap xpar W W.heap.size (Nat.le_refl _) (h.below hW).rb hr hi (by have hpar : 0 ≤ xpar ∧ xpar ≤ 1000000 := hpar; unfold I64; omega)
    have hq : posOf (M.map Prod.fst) xpar = (q : Int) := hq
    rwa [hq] at this
  have H := Lib.hid h
  have HX := Lib.hid hx
  have HY := Lib.hid hy
  have HKR := Lib.hid hkr
  have HPX := Lib.hid hpxx
  have hgw := h.lt
  have hg0 : g < B := by rw [hBe]; exact h0.lt
  have i0 : (0 : Int) ≤ (p : Int) := by omega
  have i1 : (p : Int) < (M.length : Int) := by omega
  have i2 : (0 : Int) ≤ (q : Int) := by omega
  have i3 : (q : Int) < (M.length : Int) := by omega
  have H64 : Hid (∀ z ∈ lessK y1.kids id, I64 z) := fun z hz => hkr.i64 ((less_mem _ _ _).1 hz).1
  have HIN := Lib.hid hin
  obtain ⟨n, hn⟩ : ∃ n, n = M.length := ⟨_, rfl⟩
  rw [← hn] at HIX HIP i1 i3 hml ⊢
  have HNN := Lib.hid hn
  have HK1 : Hid (nk = y1.kids.length) := hkl.1
  have hkl1 : nk ≤ 500 := by have := HK1.out; omega
  have HC : Hid (w.cell? ⟨B, 0, none⟩ = some (.int .i64 id)) := hcA
  have HBE := Lib.hid hBe
  have HZ0 : Hid (w0.heap.size ≤ w.heap.size) := HBA.out.size
  clear hbA h0 hkl hk hin h hx hy hp hq hpx hqy hidr hpar hkr hkx hpxx hr hi hn hxi hyi
  go_enter Tryz.func62, Tryz.ntmps62
  go_upto_region 1 with fail
  rw [← hwe, ← hBe]
  clear hwe hBe
  go_wp2_with fail
  refine HIX.out.mono ?_
  rintro e w1 ⟨rfl, hb1⟩
  have HB1 := Lib.hid hb1
  have H1 := Lib.hid (H.out.below hb1)
  have c1 : w1.cell? ⟨g, p * 5 + 1, none⟩ = some (.int .i64 xpar) := H1.out.cell HX.out rfl
  clear hb1 hcA
  go_wp2_with fail
  refine (HIP.out w1 HB1.out).mono ?_
  rintro e w2 ⟨rfl, hb⟩
  have HB2 : Hid (Below w.heap.size w w2) := HB1.out.trans (hb.mono HB1.out.size)
  have H2 := Lib.hid (H.out.below HB2.out)
  have c2 : w2.cell? ⟨g, q * 5 + 2, none⟩ = some (.slice Ak nk ck) := H2.out.cell HY.out rfl
  have HCL := Lib.hid (cloneI_own Ak nk ck y1.kids w2 w.heap.size (HKR.out.below HB2.out))
  clear hb c1
  go_wp2_with fail
  refine HCL.out.mono ?_
  rintro e w3 ⟨v3, rfl, hown3, hb3⟩
  have HB3 : Hid (Below w.heap.size w w3) := HB2.out.trans (hb3.mono HB2.out.size)
  have hz3 : w2.heap.size ≤ w3.heap.size := hb3.size
  have hz2 : w.heap.size ≤ w2.heap.size := HB2.out.size
  obtain ⟨g3, c3, rfl, hg3, HDEL⟩ : ∃ g3 c3, v3 = .slice (some ⟨g3, 0, none⟩) nk c3 ∧ w2.heap.size ≤ g3 ∧ Hid (Calls Tryz.prog 87 #[.slice (some ⟨g3, 0, none⟩) nk c3, .func (.func 88) #[] #[.pointer (some ⟨B, 0, none⟩)]] w3 fun e w' =>
      e = .returned (.slice (some ⟨g3, 0, none⟩) (lessK y1.kids id).length c3) ∧ w'.ownsRow w2.heap.size 3 1 (.slice (some ⟨g3, 0, none⟩) (lessK y1.kids id).length c3) (lessK y1.kids id).length ((lessK y1.kids id).map (.int .i64)) ∧ w3.grownBy w' (some g3)) := by
    have hpos : 0 < nk := by rw [HK1.out]; exact List.length_pos_of_mem HIN.out
    rcases hown3.2 with ⟨_, hz⟩ | ⟨g3, c3, cur, rfl, hg, hh, hnc, hcm, hcs, hct⟩
    · omega
    · have hk1 := HK1.out
      have := delI_own g3 c3 cur y1.kids id B w2.heap.size w3 hh (by omega) hcm hcs (by rw [← hk1]; exact hct) (by omega) (by omega) (by rw [HB3.out.cell (p := ⟨B, 0, none⟩) (by show B < w.heap.size; omega)]; exact HC.out) hg
      rw [← hk1] at this
      exact ⟨g3, c3, rfl, hg, this⟩
  clear hb3 hown3 c2
  go_wp2_with fail
  refine HDEL.out.mono ?_
  rintro e w4 ⟨rfl, hown4, hg4⟩
  have HB4 : Hid (Below w.heap.size w w4) := HB3.out.grown hg4 HB3.out.size (fun gg hgg => by injection hgg with e; omega)
  obtain ⟨A4, c4, e4, hc4, hr4⟩ := RdX.of_own hown4
  injection e4 with e41 e42 e43
  subst e41 e43
  have hll := less_len y1.kids id
  have hk1 := HK1.out
  have hkid : RInX w4 (fun b => b < w4.heap.size ∧ b ≠ g) (.slice (some ⟨g3, 0, none⟩) (lessK y1.kids id).length c3) (lessK y1.kids id) :=
    ⟨_, _, _, rfl, rfl, ⟨hc4, by omega⟩, hr4.weak fun b hb => ⟨hb.2.2, by have := hb.2.1; omega⟩, H64.out⟩
  have HKD := Lib.hid hkid
  have H4 := Lib.hid (H.out.below HB4.out)
  have f2 := H4.out.frozen (q * 5 + 2)
  have c2 : w4.cell? ⟨g, q * 5 + 2, none⟩ = some (.slice Ak nk ck) := H4.out.cell HY.out rfl
  clear hown4 hg4 hc4 hr4 hkid hll hk1
  go_wp2_with fail
  go_end0
  refine ⟨rfl, ⟨.slice (some ⟨g3, 0, none⟩) (lessK y1.kids id).length c3, ?_⟩, ?_⟩
  · refine H4.out.store HY.out (j := 2) (by omega) rfl ⟨HKD.out, ?_⟩
    exact (HPX.out.keep fun p hp => HB4.out.cell hp.1).weak fun b hb => ⟨Nat.lt_of_lt_of_le hb.1 HB4.out.size, hb.2⟩
  · exact grown_put (HBA.out.trans (HB4.out.mono HZ0.out)) g _ _
end Go.Proofs.YtackphgnkdpgnaaGreat
namespace Go.Proofs.YtackphgnkdpgnaaGreat
open Go.RowKit

theorem Blk.setCells {t : TypeId} {g : Nat} : ∀ (vs : List Value) (o : Nat) (w : World) (cs : Array Value), Blk w g t cs → ∃ cs' : Array Value, Blk (w.setCells g o vs) g t cs' ∧ cs'.size = cs.size ∧ cs'.toList.take o = cs.toList.take o
  | [], o, w, cs, h => ⟨cs, h, rfl, rfl⟩
  | v :: r, o, w, cs, h => by
    obtain ⟨cs', h1, h2, h3⟩ := Blk.setCells r (o + 1) (w.setCell ⟨g, o, none⟩ v) _ (h.set_ o v)
    refine ⟨cs', h1, by rw [h2, Array.size_setIfInBounds], ?_⟩
    have h4 : (cs'.toList.take (o + 1)).take o = ((cs.setIfInBounds o v).toList.take (o + 1)).take o := by rw [h3]
    rw [List.take_take, List.take_take, Nat.min_eq_left (Nat.le_succ o), Array.toList_setIfInBounds, List.take_set_of_le (Nat.le_refl o)] at h4
    exact h4
theorem setCells_other : ∀ (vs : List Value) (o g k : Nat) (w : World), k ≠ g → (w.setCells g o vs).heap[k]? = w.heap[k]?
  | [], _, _, _, _, _ => rfl
  | v :: r, o, g, k, w, h => by
    show ((w.setCell ⟨g, o, none⟩ v).setCells g (o + 1) r).heap[k]? = _
    rw [setCells_other r (o + 1) g k _ h]
    exact Below.heap_setCell w _ v k h
theorem setCells_size : ∀ (vs : List Value) (o g : Nat) (w : World), (w.setCells g o vs).heap.size = w.heap.size
  | [], _, _, _ => rfl
  | v :: r, o, g, w => by
    show ((w.setCell ⟨g, o, none⟩ v).setCells g (o + 1) r).heap.size = _
    rw [setCells_size r (o + 1) g _]; simp [World.setCell]
theorem setCells_rest : ∀ (vs : List Value) (o g : Nat) (w : World), (w.setCells g o vs).os = w.os ∧ (w.setCells g o vs).output = w.output ∧ (w.setCells g o vs).tape = w.tape
  | [], _, _, _ => ⟨rfl, rfl, rfl⟩
  | v :: r, o, g, w => setCells_rest r (o + 1) g (w.setCell ⟨g, o, none⟩ v)
theorem clearB_run (W : World) (g o cap : Nat) (cur : Array Value) (h : Blk W g 45 cur) (ho : o * 5 + 5 ≤ cur.size) (ty : TypeId) :
    (Builtin.clear_ #[22] ty #[.slice (some ⟨g, o * 5, none⟩) 1 cap]).run Tryz.prog W = .ok (.tuple #[]) (W.setCells g (o * 5) (Builtin.zeroCells bZ.cells 1).toList) := by
  have hv : ∀ w, (zeroValue 45).run Tryz.prog w = .ok bZ w := fun w => by
    obtain ⟨i0, hi0, hz0, hz1, hz2⟩ := info_parts block_info
    simp [zeroValue, typeInfo, hi0, hz0]
  have hl : (Builtin.zeroCells bZ.cells 1).toList.length = 5 := by
    simp [Builtin.zeroCells, bZ, Value.cells]
  have hst := run_storeCells_cells (P := Tryz.prog) g (o * 5) (Builtin.zeroCells bZ.cells 1).toList 0 W
    (fun j hj => by
      rw [hl] at hj
      rw [h.cell, Array.getElem?_eq_getElem (by omega)]; rfl)
    (fun j _ => h.frozen _)
    (fun v hv => by
      simp only [Builtin.zeroCells, Array.toList_map, List.mem_map] at hv
      obtain ⟨q, _, rfl⟩ := hv
      have hq : q % bZ.cells.size = 0 ∨ q % bZ.cells.size = 1 ∨ q % bZ.cells.size = 2 ∨ q % bZ.cells.size = 3 ∨ q % bZ.cells.size = 4 := by
        show q % 5 = 0 ∨ q % 5 = 1 ∨ q % 5 = 2 ∨ q % 5 = 3 ∨ q % 5 = 4
        omega
      rcases hq with e | e | e | e | e <;> rw [e] <;> rfl)
  simp only [Nat.add_zero] at hst
  simp [Builtin.clear_, run_underlying Tryz.underlying22, hv, hst]

/-- an append whose run is known, as one step of a region that draws -/
theorem step_append_runI {P : Program} {ops : Array Oper} {o : Oper} {a : Act} {w : World} {K : Act → World → Prop} {Q : Exit → Act → World → Prop} {E : Prop}
    (hg : o.guard = none) (s x : Operand) (t tn : TypeId) (hop : o.op = Op.call { callee := Callee.builtin Builtin.append, args := #[s, x], argTypes := #[t, tn] })
    (v u : Value) (hs : a.eval s = v) (hx : a.eval x = u) {v' : Value} {w' : World} (hr : (Builtin.append_ #[t, tn] o.type #[v, u]).run P w = .ok v' w') (hK : K (a.put o.dst v') w') :
    if Region.wanted o (yielded ops a.tmps) = true then Oper.wp P o a w K Q else E := by
  have hw : Region.wanted o (yielded ops a.tmps) = true := by simp [Region.wanted, hg]
  rw [if_pos hw]
  exact Lib.wp_append_run w s x t tn hop v u hs hx _ _ hr hK
/-- what a delete leaves -/
def DelR (base : Nat) (n : Nat) (xs : List Value) (i : Nat) (w : World) (v : Value) (e : Ending) (w' : World) : Prop :=
  ∃ v', e = .returned v' ∧ w'.ownsRow base 45 5 v' (n - 1) (xs.take (i * 5) ++ xs.drop ((i + 1) * 5)) ∧ w.grownBy w' v.ownBlock ∧ v'.ownBlock = v.ownBlock

set_option maxRecDepth 100000 in
set_option maxHeartbeats 4000000 in
/-- slices.Delete of one element at blocks -/
theorem deleteB_own (v : Value) (n : Nat) (xs : List Value) (base i : Nat) (w : World) (h : w.ownsRow base 45 5 v n xs) (hi : i < n) (hn : n ≤ 100000) (h1x : ∀ u ∈ xs, u.oneCell' = true) :
    Calls Tryz.prog 63 #[v, .int .i64 i, .int .i64 ((i : Int) + 1)] w (DelR base n xs i w v) := by
  obtain ⟨i0, hi0, hq0, hq1, hq2⟩ := info_parts block_info
  have hxl : xs.length = n * 5 := h.1
  rcases h.2 with ⟨_, h0⟩ | ⟨g, cap, cur, rfl, hg, hh, hnc, hcm, hcs, hct⟩
  · omega
  have hcell : ∀ j u, xs[j]? = some u → w.cell? ⟨g, j, none⟩ = some u := fun j u hu => by
    have hj := (List.getElem?_eq_some_iff.1 hu).1
    rw [Blk.cell (t := 45) (cs := cur) hh, ← hu, ← hct, List.getElem?_take, if_pos (by omega)]; simp
  have hcl : cur.toList.length = cap * 5 := by rw [Array.length_toList]; exact hcs
  have hdl : (xs.drop ((i + 1) * 5)).length = (n - (i + 1)) * 5 := by rw [List.length_drop, hxl]; omega
  have htl : (xs.take (i * 5)).length = i * 5 := by rw [List.length_take, hxl]; omega
  have hct2 : cur.toList.take (i * 5) = xs.take (i * 5) := by rw [← hct, List.take_take]; congr 1; omega
  have hgw : g < w.heap.size := Blk.lt (t := 45) (cs := cur) hh
  obtain ⟨R1, hR1⟩ : ∃ R1, R1 = cur.toList.take (i * 5) ++ xs.drop ((i + 1) * 5) ++ cur.toList.drop (i * 5 + (n - (i + 1)) * 5) := ⟨_, rfl⟩
  have hR1l : R1.length = cap * 5 := by
    rw [hR1, List.length_append, List.length_append, List.length_take, hdl, List.length_drop, hcl]; omega
  have hh1 : Blk (w.drew.setRow g R1.toArray) g 45 R1.toArray := setRow_heap w.drew g _ _ _ _ hh
  obtain ⟨Z, hZ⟩ : ∃ Z, Z = (Builtin.zeroCells bZ.cells 1).toList := ⟨_, rfl⟩
  have hcr : ∀ ty cc, (Builtin.clear_ #[22] ty #[.slice (some ⟨g, (n - 1) * 5, none⟩) 1 cc]).run Tryz.prog (w.drew.setRow g R1.toArray) = .ok (.tuple #[]) ((w.drew.setRow g R1.toArray).setCells g ((n - 1) * 5) Z) := fun ty cc => by
    rw [hZ]; exact clearB_run _ g (n - 1) cc _ hh1 (by rw [List.size_toArray, hR1l]; omega) ty
  have hap : ∀ ty c0 (ad : Addr), (0 < n - (i + 1) → ad = ⟨g, (i + 1) * 5, none⟩) → (Builtin.append_ #[22, 22] ty #[.slice (some ⟨g, 0, none⟩) i cap, .slice (some ad) (n - (i + 1)) c0]).run Tryz.prog w.drew = .ok (.slice (some ⟨g, 0, none⟩) (n - 1) cap) (w.drew.setRow g R1.toArray) := fun ty c0 ad had => by
    have := run_append_room (P := Tryz.prog) (ty := ty) w.drew 22 45 i0 Tryz.underlying22 hi0 g i cap cur hh ad (n - (i + 1)) c0 (xs.drop ((i + 1) * 5)) (by rw [hdl, hq1])
      (fun j v hj => by
        have hjl := (List.getElem?_eq_some_iff.1 hj).1
        rw [hdl] at hjl
        rw [had (by omega), Addr.add_lit]; exact hcell _ _ (by rwa [List.getElem?_drop] at hj)) (fun v hv => h1x v (List.mem_of_mem_drop hv)) (by omega) (by rw [hdl, hq1, hcs]; omega)
    rw [hq1, hdl, ← hR1, show i + (n - (i + 1)) = n - 1 by omega] at this
    exact this
  have hfin : DelR base n xs i w (.slice (some ⟨g, 0, none⟩) n cap) (.returned (.slice (some ⟨g, 0, none⟩) (n - 1) cap)) ((w.drew.setRow g R1.toArray).setCells g ((n - 1) * 5) Z) := by
    obtain ⟨cs', k1, k2, k3⟩ := Blk.setCells Z ((n - 1) * 5) _ _ hh1
    have hlen : (xs.take (i * 5) ++ xs.drop ((i + 1) * 5)).length = (n - 1) * 5 := by
      rw [List.length_append, htl, hdl]; omega
    obtain ⟨r1, r2, r3⟩ := setCells_rest Z ((n - 1) * 5) g (w.drew.setRow g R1.toArray)
    refine ⟨_, rfl, ⟨hlen, .inr ⟨g, cap, cs', rfl, hg, k1, by omega, hcm, by rw [k2, List.size_toArray, hR1l], ?_⟩⟩, ⟨r1, r3, r2, ?_, fun k hk hne => ?_⟩, rfl⟩
    · rw [k3, List.toList_toArray, hR1, hct2, ← hlen, List.take_append_of_le_length (Nat.le_refl _), List.take_length]
    · rw [setCells_size, setRow_size]; exact Nat.le_refl _
    · have hkg : k ≠ g := fun e => hne (by rw [e]; rfl)
      rw [setCells_other _ _ _ _ _ hkg, setRow_other _ _ _ _ hkg]; rfl
  have HF := Lib.hid hfin
  have hc63 : cap ≤ 9223372036854775807 := by unfold maxLen at hcm; omega
  have z1 : ¬ ((i : Int) = (i : Int) + 1) := by omega
  have z2 : (i : Int) ≤ (n : Int) := by omega
  have z3 : (i : Int) + 1 ≤ (n : Int) := by omega
  have w1 : IntKind.i64.wrap ((i : Int) + 1) = (i : Int) + 1 := IntWalk.i64_in _ (by omega)
  have w2 : (0 : Int) ≤ (i : Int) + 1 := by omega
  have w3 : ((i : Int) + 1).toNat = i + 1 := by omega
  have w4 : (i : Int) ≤ (cap : Int) := by omega
  have w5 : n - (n - 1) = 1 := by omega
  have mixed : Tryz.prog.follows Departure.mixedOrders = true := by kernel_rfl
  have z9 : ¬ (cap = n - 1) := by omega
  clear hfin hZ hR1 hR1l hct hct2 hcl hdl htl hxl hcell hh1 h1x h hh hcs
  have hcb : ∀ c : Nat, Builtin.clear_ #[22] c = Builtin.clear_ #[22] c := fun _ => rfl
  clear hcb
  by_cases hc : cap = i + 1
  · have HAP : ∀ ty c0, (Builtin.append_ #[22, 22] ty #[.slice (some ⟨g, 0, none⟩) i cap, .slice (some ⟨g, 0, none⟩) (n - (i + 1)) c0]).run Tryz.prog w.drew = .ok (.slice (some ⟨g, 0, none⟩) (n - 1) cap) (w.drew.setRow g R1.toArray) := fun ty c0 => hap ty c0 _ (by omega)
    clear hap
    subst hc
    have e0 : n - (i + 1) = 0 := by omega
    simp only [e0] at HAP
    clear e0
    have z11 : (i : Int) ≤ (i : Int) + 1 := by omega
    go_enter Tryz.func63, Tryz.ntmps63
    go_upto_region 5 with fail
    go_region_law_o (refine step_append_runI rfl _ _ 22 22 rfl (.slice (some ⟨g, 0, none⟩) i (i + 1)) (.slice (some ⟨g, 0, none⟩) 0 0) (by simp [Act.eval, Act.put]) (by simp [Act.eval, Act.put]) (HAP _ _) ?_)
    go_wp2_with fail
    go_ret
    exact HF.out
  · have HAP : ∀ ty c0, (Builtin.append_ #[22, 22] ty #[.slice (some ⟨g, 0, none⟩) i cap, .slice (some ⟨g, (i + 1) * 5, none⟩) (n - (i + 1)) c0]).run Tryz.prog w.drew = .ok (.slice (some ⟨g, 0, none⟩) (n - 1) cap) (w.drew.setRow g R1.toArray) := fun ty c0 => hap ty c0 _ (fun _ => rfl)
    clear hap
    have z11 : (i : Int) + 1 ≤ (n : Int) := by omega
    go_enter Tryz.func63, Tryz.ntmps63
    go_upto_region 5 with fail
    go_region_law_o (refine step_append_runI rfl _ _ 22 22 rfl (.slice (some ⟨g, 0, none⟩) i cap) (.slice (some ⟨g, (i + 1) * 5, none⟩) (n - (i + 1)) (cap - (i + 1))) (by simp [Act.eval, Act.put]) (by simp [Act.eval, Act.put]) (HAP _ _) ?_)
    go_wp2_with fail
    go_ret
    exact HF.out
end Go.Proofs.YtackphgnkdpgnaaGreat
namespace Go.Proofs.YtackphgnkdpgnaaGreat
open Go.RowKit

/-- the place for an id: all ahead of it are less, none from there on is -/
def LowB (l : List Bl) (id : Int) (i : Nat) : Prop := i ≤ l.length ∧ (∀ (k : Nat) (x : Bl), k < i → l[k]? = some x → x.id < id) ∧ ∀ (k : Nat) (x : Bl), i ≤ k → l[k]? = some x → id ≤ x.id
set_option maxHeartbeats 400000 in
theorem done1_any (i p t : Int) (s : ByteArray) (Ak Ap : Option Addr) (nk ck np cp : Nat) (w : World) :
    Calls Tryz.prog 59 #[.agg #[.int .i64 i, .int .i64 p, .slice Ak nk ck, .string s, .slice Ap np cp], .int .i64 t] w fun e w' => e = .returned (.int .i64 (cmpI i t)) ∧ Below w.heap.size w w' := by
  unfold cmpI
  go_enter Tryz.func59, Tryz.ntmps59
  go_wp2_with fail
  go_ret
  exact ⟨rfl, (Below.refl _ _).alloc (Nat.le_refl _) _⟩
theorem low_half {l : List Bl} (hr : Rise l) (hi : IdsIn l) {id : Int} (hid : 0 ≤ id ∧ id ≤ 1000000) {q : Nat} {x : Bl} (hx : l[q]? = some x) : (cmpI x.id id < 0 → ∀ (k : Nat) (y : Bl), k < q + 1 → l[k]? = some y → y.id < id) ∧ (¬ cmpI x.id id < 0 → ∀ (k : Nat) (y : Bl), q ≤ k → l[k]? = some y → id ≤ y.id) := by
  have ha := hi x (List.mem_of_getElem? hx)
  rw [cmpI_near ha hid]
  refine ⟨fun h k y hk hy => ?_, fun h k y hk hy => ?_⟩
  · rcases Nat.lt_or_ge k q with g | g
    · have := hr _ _ _ _ g hy hx; omega
    · obtain rfl : k = q := by omega
      rw [hx] at hy; obtain rfl := Option.some.inj hy; omega
  · rcases Nat.lt_or_ge q k with g | g
    · have := hr _ _ _ _ g hx hy; omega
    · obtain rfl : k = q := by omega
      rw [hx] at hy; obtain rfl := Option.some.inj hy; omega
/-- what the search returns -/
def LowR (l : List Bl) (id : Int) (e : Ending) : Prop := ∃ (i : Nat) (b : Bool), e = .returned (.tuple #[.int .i64 i, .bool b]) ∧ LowB l id i
set_option maxHeartbeats 1000000 in
theorem binD_any (l : List Bl) (A : Option Addr) (n c : Nat) (id : Int) (w : World) (B : Nat) (hB : B ≤ w.heap.size) (h : RB w B (.slice A n c) l) (hr : Rise l) (hi : IdsIn l) (hid : 0 ≤ id ∧ id ≤ 1000000) :
    Calls Tryz.prog 58 #[.slice A n c, .int .i64 id, .func (.func 59) #[] #[]] w fun e w' => LowR l id e ∧ Below w.heap.size w w' := by
  have HN := Lib.hid h.len
  have H := Lib.hid h
  clear h
  go_enter Tryz.func58, Tryz.ntmps58
  go_wp2_with fail
  go_loopg [9, 10] n (fun gg s9 s10 wr => ∃ i j : Nat, i ≤ j ∧ j ≤ n ∧ j - i ≤ gg ∧ s9 = .int .i64 (i : Int) ∧ s10 = .int .i64 (j : Int) ∧ Hid ((∀ (k : Nat) (x : Bl), k < i → l[k]? = some x → x.id < id) ∧ ∀ (k : Nat) (x : Bl), j ≤ k → l[k]? = some x → id ≤ x.id) ∧ Hid (Below w.heap.size w wr))
  case atStart => exact ⟨0, n, by omega, by omega, by omega, rfl, rfl, ⟨fun k x hk _ => absurd hk (by omega), fun k x hk hx => absurd (List.getElem?_eq_some_iff.1 hx).1 (by have := HN.out.1; omega)⟩, Below.refl _ _⟩
  case round =>
    obtain ⟨i, j, hij, hjn, hg, rfl, rfl, hno, hbel⟩ := hrel
    have hbg : n * 80 ≤ 140737488351232 := HN.out.2.2
    have HL : Hid (n = l.length) := HN.out.1
    by_cases hk : i < j
    · have j1 : (i : Int) < (j : Int) := by omega
      have j2 : (0 : Int) ≤ (i : Int) := by omega
      obtain ⟨q, hh, h1, h2⟩ : ∃ q : Nat, ((i : Int) + (j : Int)) / 2 = (q : Int) ∧ i ≤ q ∧ q < j := ⟨(i + j) / 2, by omega, by omega, by omega⟩
      obtain ⟨x, hx⟩ : ∃ x, l[q]? = some x := ⟨_, List.getElem?_eq_getElem (by have := HL.out; omega)⟩
      obtain ⟨b, off, Ak, nk, ck, Ap, np, cp, rfl, hbb, g0, g1, g2, g3, g4, _, _⟩ := (H.out.below (hbel.out.mono hB)).at_ hx
      have HF := Lib.hid (low_half hr hi hid hx)
      have HI := Lib.hid fun W => done1_any x.id x.parent id x.text Ak Ap nk ck np cp W
      have q0 : (0 : Int) ≤ (q : Int) := by omega
      have q1 : (q : Int) < (n : Int) := by omega
      clear hx
      obtain ⟨d, hd⟩ : ∃ d, d = cmpI x.id id := ⟨_, rfl⟩
      simp only [← hd] at HF HI
      clear hd
      by_cases hz : d < 0
      all_goals
        go_wp2_with fail
        refine (HI.out _).mono ?_
        rintro e w2 ⟨rfl, hb⟩
        have HB2 : Hid (Below w.heap.size w w2) := hbel.out.trans (hb.mono hbel.out.size)
        clear hb
        go_wp2_with fail
      · go_roundg (j - (q + 1))
        case measure => omega
        case rel => exact ⟨q + 1, j, by omega, by omega, by omega, by go_num, rfl, ⟨HF.out.1 hz, hno.out.2⟩, HB2⟩
      · go_roundg (q - i)
        case measure => omega
        case rel => exact ⟨i, q, by omega, by omega, by omega, rfl, rfl, ⟨hno.out.1, HF.out.2 hz⟩, HB2⟩
    · obtain rfl : i = j := by omega
      have HE : Hid (LowB l id i) := ⟨by have := HL.out; omega, hno.out.1, hno.out.2⟩
      clear hno
      by_cases hin : i < n
      · have q0 : (0 : Int) ≤ (i : Int) := by omega
        have q1 : (i : Int) < (n : Int) := by omega
        obtain ⟨x, hx⟩ : ∃ x, l[i]? = some x := ⟨_, List.getElem?_eq_getElem (by have := HL.out; omega)⟩
        obtain ⟨b, off, Ak, nk, ck, Ap, np, cp, rfl, hbb, g0, g1, g2, g3, g4, _, _⟩ := (H.out.below (hbel.out.mono hB)).at_ hx
        have HI := Lib.hid fun W => done1_any x.id x.parent id x.text Ak Ap nk ck np cp W
        obtain ⟨z, hz⟩ : ∃ z, z = (cmpI x.id id == 0) := ⟨_, rfl⟩
        obtain ⟨d, hd⟩ : ∃ d, d = cmpI x.id id := ⟨_, rfl⟩
        simp only [← hd] at hz HI
        have hz' := hz.symm
        clear hd hx hz
        go_wp2_with fail
        refine (HI.out _).mono ?_
        rintro e w2 ⟨rfl, hb⟩
        have HB2 : Hid (Below w.heap.size w w2) := hbel.out.trans (hb.mono hbel.out.size)
        clear hb
        go_wp2_with fail
        go_ret2
        exact ⟨⟨i, z, rfl, HE.out⟩, HB2.out⟩
      · have q1 : ¬ (i : Int) < (n : Int) := by omega
        go_wp2_with fail
        go_ret2
        exact ⟨⟨i, _, rfl, HE.out⟩, hbel.out⟩
end Go.Proofs.YtackphgnkdpgnaaGreat
