/-
  DERIVED. The walks of day.checkValues at pairs of names and values, and of the closures that look for a name. Conditions: sizes; the names are right and each of its own. By an AI agent.
-/
import Derived.Test.YtghadhdmbcigpaaDoorTpRead
namespace Go.Proofs.YtghadhdmbcigpaaDoor
open Go.RowKit Go.Lib

abbrev Pr := ByteArray × ByteArray
def prV (x : Pr) : List Value := [.string x.1, .string x.2]
def rowsV (M : List Pr) : List Value := M.flatMap prV
theorem prV_len (x : Pr) : (prV x).length = 2 := rfl
def isNm (n : ByteArray) (x : Pr) : Bool := x.1.toList == n.toList
theorem tl_inj {a b : ByteArray} (h : a.toList = b.toList) : a = b := by
  rw [ByteArray.toList_eq, ByteArray.toList_eq] at h
  cases a with | mk x => cases b with | mk y => cases x; cases y; simp at h; rw [h]

set_option maxHeartbeats 1000000 in
/-- the closure of checkValues -/
theorem vals1_any (x : Pr) (n v : ByteArray) (pb : Nat) (w : World) (h0 : w.cell? ⟨pb, 0, none⟩ = some (.string n)) (h1 : w.cell? ⟨pb, 1, none⟩ = some (.string v)) (hpb : pb < w.heap.size) :
    Calls Tryd.prog 35 (#[.agg (prV x).toArray] ++ #[.pointer (some ⟨pb, 0, none⟩)]) w fun e w' => e = .returned (.bool (isNm n x)) ∧ Below w.heap.size w w' := by
  have hne : ∀ o, (w.alloc o).cell? ⟨pb, 0, none⟩ = some (.string n) := fun o => (World.cell?_alloc_lt w o _ hpb).trans h0
  unfold prV isNm
  clear h1
  go_enter Tryd.func35, Tryd.ntmps35
  go_wp2_with fail
  go_ret
  exact ⟨rfl, (Below.refl _ _).alloc (Nat.le_refl _) _⟩

set_option maxHeartbeats 1000000 in
/-- the closure of Fill -/
theorem fill1_any (x : Pr) (n : ByteArray) (pb : Nat) (w : World) (h1 : w.cell? ⟨pb, 1, none⟩ = some (.string n)) (hpb : pb < w.heap.size) :
    Calls Tryd.prog 19 (#[.agg (prV x).toArray] ++ #[.pointer (some ⟨pb, 0, none⟩)]) w fun e w' => e = .returned (.bool (isNm n x)) ∧ Below w.heap.size w w' := by
  have hne : ∀ o, (w.alloc o).cell? ⟨pb, 1, none⟩ = some (.string n) := fun o => (World.cell?_alloc_lt w o _ hpb).trans h1
  unfold prV isNm
  go_enter Tryd.func19, Tryd.ntmps19
  go_wp2_with fail
  go_ret
  exact ⟨rfl, (Below.refl _ _).alloc (Nat.le_refl _) _⟩

theorem prV_one (x : Pr) : ∀ v ∈ prV x, v.oneCell' = true := by
  intro v hv
  unfold prV at hv
  simp only [List.mem_cons, List.not_mem_nil, or_false] at hv
  rcases hv with rfl | rfl <;> rfl

/-- slices.ContainsFunc by the closure of checkValues, over the pairs ahead of one -/
theorem contains_any (vs : List Pr) (b off k c pb : Nat) (n v : ByteArray) (w : World) (hk : k ≤ vs.length) (hbig : vs.length ≤ 40) (hb : b < w.heap.size)
    (hc : ∀ j, j < vs.length → ∀ i u, (prV vs[j]!)[i]? = some u → w.cell? ⟨b, off + j * 2 + i, none⟩ = some u) (h0 : w.cell? ⟨pb, 0, none⟩ = some (.string n)) (h1 : w.cell? ⟨pb, 1, none⟩ = some (.string v)) (hpb : pb < w.heap.size) :
    Calls Tryd.prog 34 #[.slice (some ⟨b, off, none⟩) k c, .func (.func 35) #[] #[.pointer (some ⟨pb, 0, none⟩)]] w fun e w' => e = .returned (.bool ((vs.take k).any (isNm n))) ∧ Below w.heap.size w w' :=
  AnyQ.slices_ContainsFunc Tryd.ctnF 2 Tryd.isAgg28 Tryd.sizeOf28 prV prV_len (isNm n) 35 #[.pointer (some ⟨pb, 0, none⟩)] (enters_of Tryd.func35 (by kernel_rfl) rfl) b off k c vs w
    (fun W x hb => ((vals1_any x n v pb W ((hb.cell (p := ⟨pb, 0, none⟩) hpb).trans h0) ((hb.cell (p := ⟨pb, 1, none⟩) hpb).trans h1) (Nat.lt_of_lt_of_le hpb hb.size)).mono fun _ _ ⟨he, hb'⟩ => ⟨he, hb.trans (hb'.mono hb.size)⟩))
    hk (by omega) hb hc

/-- slices.IndexFunc by the closure of Fill -/
theorem index_any (vs : List Pr) (b off k c pb : Nat) (n : ByteArray) (w : World) (hk : k ≤ vs.length) (hbig : k ≤ 1000) (hb : b < w.heap.size)
    (hc : ∀ j, j < vs.length → ∀ i u, (prV vs[j]!)[i]? = some u → w.cell? ⟨b, off + j * 2 + i, none⟩ = some u) (h1 : w.cell? ⟨pb, 1, none⟩ = some (.string n)) (hpb : pb < w.heap.size) :
    Calls Tryd.prog 18 #[.slice (some ⟨b, off, none⟩) k c, .func (.func 19) #[] #[.pointer (some ⟨pb, 0, none⟩)]] w fun e w' => e = .returned (.int .i64 (Lib.idxBy (fun _ y => isNm n y) (vs.take k) default)) ∧ Below w.heap.size w w' :=
  AnyQ.slices_IndexFunc Tryd.idxF 2 Tryd.isAgg28 Tryd.sizeOf28 prV prV_len (isNm n) 19 #[.pointer (some ⟨pb, 0, none⟩)] (enters_of Tryd.func19 (by kernel_rfl) rfl) b off k c vs w
    (fun W x hb => ((fill1_any x n pb W ((hb.cell (p := ⟨pb, 1, none⟩) hpb).trans h1) (Nat.lt_of_lt_of_le hpb hb.size)).mono fun _ _ ⟨he, hb'⟩ => ⟨he, hb.trans (hb'.mono hb.size)⟩))
    hk (by omega) hb hc

theorem bt_mid (s : ByteArray) (i : Nat) (h : s.size ≤ i) : inN (bt s i) = false := by rw [bt_out h]; rfl

set_option maxHeartbeats 4000000 in
set_option maxRecDepth 100000 in
theorem checkValues_any (vs : List Pr) (A : Option Addr) (c n : Nat) (w : World) (B : Nat) (hr : Reads w B 2 A n (rowsV vs)) (hB : B ≤ w.heap.size) (hn : n = vs.length) (hl : n ≤ 40) (hnc : n ≤ c) (hok : ∀ x ∈ vs, okN x.1) (hnd : (vs.map (·.1)).Nodup) :
    Calls Tryd.prog 13 #[.slice A n c] w fun e w' => (e = .returned (.int .i64 0) ∨ e = .returned (.int .i64 4)) ∧ Below w.heap.size w w' := by
  have HR := Lib.hid hr
  have HN := Lib.hid hn
  have HO := Lib.hid hok
  have HD := Lib.hid hnd
  clear hr hn hok hnd
  have h0 : ¬ (40 : Int) < (n : Int) := by omega
  go_enter Tryd.func13, Tryd.ntmps13
  go_wp2_with fail
  go_loopg [10] n (fun gg s10 wr => ∃ k : Nat, k + gg = n ∧ s10 = .int .i64 (k : Int) ∧ Below w.heap.size w wr)
  case atStart => exact ⟨0, by omega, rfl, Below.refl _ _⟩
  case round =>
    obtain ⟨k, hkg, rfl, hbel⟩ := hrel
    by_cases hk : k < n
    · obtain ⟨x, hkM⟩ : ∃ x, vs[k]? = some x := ⟨_, List.getElem?_eq_getElem (by have := HN.out; omega)⟩
      obtain ⟨b, off, rfl, hbB, hc⟩ := Reads.plain_at (by decide) prV_len HR.out HN.out hkM
      have hbw : b < w.heap.size := by omega
      have c0 := (hbel.cell (p := ⟨b, off + k * 2, none⟩) hbw).trans (hc 0 _ rfl)
      have c1 := (hbel.cell (p := ⟨b, off + k * 2 + 1, none⟩) hbw).trans (hc 1 _ rfl)
      have hall : ∀ j, j < vs.length → ∀ i u, (prV vs[j]!)[i]? = some u → w.cell? ⟨b, off + j * 2 + i, none⟩ = some u := fun j hj i u hu => by
        obtain ⟨b', off', e, _, h⟩ := Reads.plain_at (by decide) prV_len HR.out HN.out (k := j) (x := vs[j]!) (by rw [List.getElem?_eq_getElem hj, getElem!_pos vs j hj])
        cases e
        exact h i u hu
      have hany : (vs.take k).any (isNm x.1) = false := by
        rw [List.any_eq_false]
        intro y hy he
        have e1 : y.1 = x.1 := tl_inj (by simpa [isNm] using he)
        obtain ⟨j, hj, rfl⟩ := List.mem_iff_getElem.1 hy
        rw [List.length_take] at hj
        have hkl : k < vs.length := (List.getElem?_eq_some_iff.1 hkM).1
        have hxk : vs[k] = x := (List.getElem?_eq_some_iff.1 hkM).2
        have := (List.nodup_iff_pairwise_ne.1 HD.out)
        rw [List.pairwise_map] at this
        have h3 := List.pairwise_iff_getElem.1 this j k (by omega) hkl (by omega)
        rw [hxk] at h3
        rw [List.getElem_take] at e1
        exact h3 e1
      have HALL := Lib.hid hall
      have HANY := Lib.hid hany
      clear hall hany
      have hx := HO.out x (List.mem_of_getElem? hkM)
      have j0 : (0 : Int) ≤ (k : Int) := by omega
      have j1 : (k : Int) < (n : Int) := by omega
      have j1' : (k : Int) ≤ (n : Int) := by omega
      have j1c : (n : Int) ≤ (c : Int) := by omega
      have j1d : (k : Int) ≤ (c : Int) := by omega
      have j2 : x.1.toList.isEmpty = false := notEmpty_of hx.1
      have j3 : ¬ (20 : Int) < (x.1.size : Int) := by have := hx.2.1; omega
      have HNA := Lib.hid (fun w1 => nameAt_same x.1 0 x.1.size w1 (by have := hx.2.1; omega) (Nat.zero_le _) (Nat.le_refl _) (fun i _ h => hx.2.2 i h) (.inl rfl))
      have hzz := hbel.size
      have HB := Lib.hid hbel
      have HX := Lib.hid hx
      have HKM := Lib.hid hkM
      clear hc hkM hbel hx
      go_wp2_with fail
      go_quiet (refine (HNA.out _).mono (fun _ _ h => ⟨h.1, _, h.2⟩))
      go_wp2_with fail
      have HB1 : Hid (Below w.heap.size w ((wr.alloc (.cells #[.string x.1, .string x.2] 28)).drewN nq)) := bdrew (HB.out.alloc hzz _) _
      have hblk : Blk ((wr.alloc (.cells #[.string x.1, .string x.2] 28)).drewN nq) wr.heap.size 28 #[.string x.1, .string x.2] := (Blk.new wr 28 #[.string x.1, .string x.2]).drewN nq
      have HBK := Lib.hid hblk
      clear hblk
      obtain ⟨W1, hW1⟩ : ∃ W1, W1 = (wr.alloc (.cells #[.string x.1, .string x.2] 28)).drewN nq := ⟨_, rfl⟩
      have hsz1 : W1.heap.size = wr.heap.size + 1 := by rw [hW1]; simp
      rw [← hW1] at HB1 HBK ⊢
      have HW1 := Lib.hid hW1
      have HSZ := Lib.hid hsz1
      clear hW1 hsz1 c0 c1
      refine (contains_any vs b off k c wr.heap.size x.1 x.2 W1 (by have := HN.out; omega) (by have := HN.out; omega) (by have := HSZ.out; omega) (fun j hj i u hu => (HB1.out.cell (p := ⟨b, off + j * 2 + i, none⟩) hbw).trans (HALL.out j hj i u hu)) (HBK.out.cell 0) (HBK.out.cell 1) (by have := HSZ.out; omega)).mono ?_
      rintro e w2 ⟨rfl, hb2⟩
      rw [HANY.out]
      have hblk2 := HBK.out.below hb2 (by have := HSZ.out; omega)
      have d1 := hblk2.cell 1
      have HB2 : Hid (Below w.heap.size w w2) := HB1.out.trans (hb2.mono HB1.out.size)
      clear hb2 hblk2
      by_cases hv : 2000 < x.2.size
      · have i1 : (2000 : Int) < (x.2.size : Int) := by omega
        go_wp2_with fail
        go_ret
        exact ⟨.inr rfl, HB2.out⟩
      · have i1 : ¬ (2000 : Int) < (x.2.size : Int) := by omega
        go_wp2_with fail
        go_roundg (n - (k + 1))
        case measure => omega
        case rel => exact ⟨k + 1, by omega, by go_num, HB2.out⟩
    · have i1 : ¬ (k : Int) < (n : Int) := by omega
      go_wp2_with fail
      go_ret
      exact ⟨.inl rfl, hbel⟩
end Go.Proofs.YtghadhdmbcigpaaDoor
