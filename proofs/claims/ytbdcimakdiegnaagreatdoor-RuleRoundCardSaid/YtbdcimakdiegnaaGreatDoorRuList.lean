/-
  DERIVED. The walks of day.reader's list and of the closures that it takes. Conditions: sizes; the table of powers of ten is laid. By an AI agent.
-/
import Derived.Test.YtbdcimakdiegnaaGreatDoorRuRead2
import Derived.Test.YtbdcimakdiegnaaGreatDoorVa06
import Derived.Test.YtbdcimakdiegnaaGreatDoorRvQuoW
namespace Go.Proofs.YtbdcimakdiegnaaGreatDoor
open Go.RowKit
open cal

/-- a closure that reads a number -/
def RdCl (g : Nat) (x : ByteArray) (o : Option Int) : Prop := ∀ W, Pow W → Calls Tryz.prog g #[.string x] W fun e w' => ∃ n', e = .returned (.tuple #[.int .i64 n', .bool o.isSome]) ∧ (∀ n, o = some n → n' = n) ∧ Below W.heap.size W w'
theorem plain_cl {x : ByteArray} (hz : x.size ≤ 400000) : RdCl 73 x (plM x.data.toList) := fun W hP => plainNumberD_any x W hz hP
set_option maxHeartbeats 1000000 in
theorem date_cl {d : Int} (h0 : 0 ≤ d) (h1 : d ≤ 100000) : RdCl 79 (dtS d) (some d) := fun W _ => by
  have HD := Lib.hid (readDate_dt h0 h1 W)
  generalize dtS d = x at HD ⊢
  clear h0 h1
  go_enter Tryz.func79, Tryz.ntmps79
  go_wp2_with fail
  refine HD.out.mono ?_
  rintro e w1 ⟨rfl, hb⟩
  have HB := Lib.hid hb
  clear hb
  go_wp2_with fail
  go_ret2
  exact ⟨d, rfl, fun n h => (by injection h), HB.out⟩
theorem wdS_at {j : Nat} {y : ByteArray} (hy : [wdW 0, wdW 1, wdW 2, wdW 3, wdW 4, wdW 5, wdW 6][j]? = some y) : y = wdW (j : Int) ∧ j < 7 := by
  have hj := (List.getElem?_eq_some_iff.1 hy).1
  simp only [List.length_cons, List.length_nil] at hj
  refine ⟨?_, by omega⟩
  rcases (show j = 0 ∨ j = 1 ∨ j = 2 ∨ j = 3 ∨ j = 4 ∨ j = 5 ∨ j = 6 by omega) with rfl | rfl | rfl | rfl | rfl | rfl | rfl <;> (simp at hy; subst hy; rfl)
/-- the place of a word among the weekdays -/
theorem wdIdx (x : ByteArray) (m : Nat) (hm : m ≤ 7) (hne : ∀ j : Nat, j < m → wdW (j : Int) ≠ x) (hq : m < 7 → wdW (m : Int) = x) (W : World) : Calls Tryz.prog 38 #[] W fun e w' => ∃ g', e = .returned (.slice (some ⟨g', 0, none⟩) 7 7) ∧ Below W.heap.size W w' ∧ Calls Tryz.prog 78 #[.slice (some ⟨g', 0, none⟩) 7 7, .string x] w' fun e w2 => e = .returned (.int .i64 (if m < 7 then (m : Int) else -1)) ∧ w2 = w' := by
  refine (weekdayWords_any W).mono ?_
  rintro e w' ⟨rfl, h2, h3, h4⟩
  refine ⟨_, rfl, h4, ?_⟩
  refine indexS_any [wdW 0, wdW 1, wdW 2, wdW 3, wdW 4, wdW 5, wdW 6] x W.heap.size 7 m w' rfl (by omega) (fun j y hy => ?_) hm (fun j y hj hy => ?_) (fun h => ?_)
  · obtain ⟨rfl, hj⟩ := wdS_at hy
    exact h2 j hj
  · obtain ⟨rfl, _⟩ := wdS_at hy
    exact hne j hj
  · rw [← hq h]
    rcases (show m = 0 ∨ m = 1 ∨ m = 2 ∨ m = 3 ∨ m = 4 ∨ m = 5 ∨ m = 6 by omega) with rfl | rfl | rfl | rfl | rfl | rfl | rfl <;> rfl
set_option maxHeartbeats 1000000 in
theorem wd_cl0 (x : ByteArray) (R : Int) (HI : ∀ W, Calls Tryz.prog 38 #[] W fun e w' => ∃ g', e = .returned (.slice (some ⟨g', 0, none⟩) 7 7) ∧ Below W.heap.size W w' ∧ Calls Tryz.prog 78 #[.slice (some ⟨g', 0, none⟩) 7 7, .string x] w' fun e w2 => e = .returned (.int .i64 R) ∧ w2 = w') :
    RdCl 77 x (if 0 ≤ R then some R else none) := fun W _ => by
  have HI := Lib.hid (HI W)
  obtain ⟨q, hq⟩ : ∃ q, decide (0 ≤ R) = q := ⟨_, rfl⟩
  have ho : (if 0 ≤ R then some R else none).isSome = q := by rw [← hq]; by_cases h : 0 ≤ R <;> simp [h]
  have ho2 : ∀ n, (if 0 ≤ R then some R else none) = some n → R = n := fun n h => by
    by_cases h0 : 0 ≤ R
    · rw [if_pos h0] at h; injection h
    · rw [if_neg h0] at h; cases h
  generalize (if 0 ≤ R then some R else none) = o at ho ho2 ⊢
  rw [ho]
  have HO2 := Lib.hid ho2
  have HQ := Lib.hid hq
  clear ho ho2 hq
  go_enter Tryz.func77, Tryz.ntmps77
  go_wp2_with fail
  refine HI.out.mono ?_
  rintro e w1 ⟨g', rfl, hb, hix⟩
  have HB := Lib.hid hb
  have HIX := Lib.hid hix
  clear hb hix
  go_wp2_with fail
  refine HIX.out.mono ?_
  rintro e w2 ⟨rfl, rfl⟩
  go_wp2_with fail
  go_ret2
  exact ⟨R, by rw [← HQ.out]; rfl, HO2.out, HB.out⟩
theorem wd_cl {n : Int} (h : 0 ≤ n ∧ n ≤ 6) : RdCl 77 (wdW n) (some n) := by
  obtain ⟨m, rfl⟩ : ∃ m : Nat, n = (m : Int) := ⟨n.toNat, by omega⟩
  have := wd_cl0 (wdW (m : Int)) (m : Int) fun W => by
    have := wdIdx (wdW (m : Int)) m (by omega) (fun j hj e => by have := wdW_inj (by omega) h e; omega) (fun _ => rfl) W
    rw [if_pos (by omega)] at this
    exact this
  rw [if_pos (by omega)] at this
  exact this
theorem wd_skip : RdCl 77 wSkip none := by
  have := wd_cl0 wSkip (-1) fun W => by
    have := wdIdx wSkip 7 (by omega) (fun j hj e => by
      rcases (show j = 0 ∨ j = 1 ∨ j = 2 ∨ j = 3 ∨ j = 4 ∨ j = 5 ∨ j = 6 by omega) with rfl | rfl | rfl | rfl | rfl | rfl | rfl <;> revert e <;> decide) (fun h => absurd h (by omega)) W
    rw [if_neg (by omega)] at this
    exact this
  rw [if_neg (by omega)] at this
  exact this
theorem wd_dates : RdCl 77 wDates none := by
  have := wd_cl0 wDates (-1) fun W => by
    have := wdIdx wDates 7 (by omega) (fun j hj e => by
      rcases (show j = 0 ∨ j = 1 ∨ j = 2 ∨ j = 3 ∨ j = 4 ∨ j = 5 ∨ j = 6 by omega) with rfl | rfl | rfl | rfl | rfl | rfl | rfl <;> revert e <;> decide) (fun h => absurd h (by omega)) W
    rw [if_neg (by omega)] at this
    exact this
  rw [if_neg (by omega)] at this
  exact this
theorem newCellsR (w : World) (cs : List Value) (t : TypeId) : ∀ j u, cs[j]? = some u → (w.alloc (.cells cs.toArray t)).cell? ((⟨w.heap.size, 0, none⟩ : Addr).add j) = some u := by
  intro j u hu
  rw [Addr.add_lit, Nat.zero_add, (Blk.new w t cs.toArray).cell j]
  simpa using hu
theorem int_info : (Tryz.prog.info? 3).map (fun i => (i.zero, i.size, i.bytes)) = some (some (.int .i64 0), 1, 8) := by kernel_rfl

set_option maxHeartbeats 4000000 in
set_option maxRecDepth 100000 in
theorem list_any' (g : Nat) (f : Int → ByteArray) (hent : ∀ args w, (callFunc g args).run Tryz.prog w = .ok (.enter g args) w) (ns : List Int) (rest : List ByteArray) (rb gw : Nat) (w : World) (hf : ∀ n ∈ ns, RdCl g (f n) (some n)) (hr : ∀ y, rest.head? = some y → RdCl g y none) (hn0 : ns ≠ []) (h64 : ∀ n ∈ ns, I64 n) (h : RW w rb gw (ns.map f ++ rest)) (hP : ∀ W, w.grownBy W (some rb) → Pow W) :
    Calls Tryz.prog 76 #[.pointer (some ⟨rb, 0, none⟩), .func (.func g) #[] #[]] w fun e w' => (∃ A n c, e = .returned (.slice A n c) ∧ RInX w' (fun b => w.heap.size ≤ b ∧ b < w'.heap.size) (.slice A n c) ns) ∧ RW w' rb gw rest ∧ w.grownBy w' (some rb) := by
  obtain ⟨i0, hi, xq0, xq1, xq2⟩ := info_parts int_info
  have hrlt := h.rlt
  have hglt := h.lt
  have hlen := h.len
  rw [List.length_append, List.length_map] at hlen
  obtain ⟨N, hN⟩ : ∃ N, N = ns.length := ⟨_, rfl⟩
  have hNz : N ≠ 0 := fun e => hn0 (List.length_eq_zero_iff.1 (by omega))
  have hN1 : N ≤ 1000 := by omega
  have HN := Lib.hid hN
  have HH := Lib.hid h
  have HF := Lib.hid hf
  have HRS := Lib.hid hr
  have HP := Lib.hid hP
  have H64 := Lib.hid h64
  have HO : Hid (w.ownsRow w.heap.size 3 1 (.slice none 0 0) 0 (([] : List Int).map (.int .i64))) := World.ownsRow_nil w w.heap.size 3 1
  have jN : ((N : Int) == 0) = false := by rw [beq_eq_false_iff_ne]; omega
  clear h hf hr hP hN hn0 hlen h64
  go_enter Tryz.func76, Tryz.ntmps76
  go_wp2_with fail
  go_loopg [5] N (fun gg s5 wr => ∃ (k : Nat) (v : Value), k + gg = N ∧ v = s5 ∧ Hid (wr.ownsRow w.heap.size 3 1 v k ((ns.take k).map (.int .i64))) ∧ Hid (RW wr rb gw ((ns.drop k).map f ++ rest)) ∧ Hid (w.grownBy wr (some rb)))
  case atStart => exact ⟨0, _, by omega, rfl, by rw [List.take_zero]; exact HO, by rw [List.drop_zero]; exact HH, World.grownBy.refl _ _⟩
  case round =>
    obtain ⟨k, v, hkg, rfl, hown, hrw, hgr⟩ := hrel
    obtain ⟨W1, rfl⟩ : ∃ W1, W1 = wr := ⟨_, rfl⟩
    have hz1 : w.heap.size ≤ W1.heap.size := hgr.out.size
    by_cases hk : k < N
    · obtain ⟨n, hn⟩ : ∃ n, ns[k]? = some n := ⟨_, List.getElem?_eq_getElem (by have := HN.out; omega)⟩
      obtain ⟨hkk, en⟩ := List.getElem?_eq_some_iff.1 hn
      obtain ⟨R2, hR2⟩ : ∃ R2, R2 = (ns.drop (k + 1)).map f ++ rest := ⟨_, rfl⟩
      have hdr : (ns.drop k).map f ++ rest = f n :: R2 := by rw [List.drop_eq_getElem_cons hkk, en, hR2]; rfl
      have HLK : Hid ((ns.take (k + 1)).map (Value.int .i64) = (ns.take k).map (.int .i64) ++ [.int .i64 n]) := by
        show _ = _
        rw [List.take_succ_eq_append_getElem hkk, en, List.map_append]
        rfl
      rw [hdr] at hrw
      have HCL := Lib.hid (HF.out n (List.mem_of_getElem? hn) W1 (HP.out W1 hgr.out))
      generalize f n = y at HCL hrw
      obtain ⟨off, c, k1, k2, k3⟩ := hrw.out.rd
      have c0 : W1.cell? ⟨rb, 0, none⟩ = some (.slice (some ⟨gw, off, none⟩) (R2.length + 1) c) := k1.cell 0
      have cx : W1.cell? ⟨gw, off, none⟩ = some (.string y) := k3 0 y rfl
      have HR2 := Lib.hid hR2
      clear hn en hkk hR2 hdr k1 k2 k3
      go_wp2_with fail
      refine HCL.out.mono ?_
      rintro e w2 ⟨n', rfl, hn', hb2⟩
      obtain rfl := hn' n rfl
      have HO2 := Lib.hid (own_below hown.out hb2)
      have HW2 := Lib.hid (hrw.out.below hb2)
      have HG2 := Lib.hid (gr_below hgr.out hb2)
      have hz2 : w.heap.size ≤ w2.heap.size := HG2.out.size
      have hvl : Hid (∀ b, v.ownBlock = some b → w.heap.size ≤ b) := fun b hb => (own_block_lt hown.out b hb).1
      have hkm : k + 1 ≤ maxLen := by unfold maxLen; omega
      have hkb : (k + 1) * 8 ≤ 140737488355328 := by omega
      clear hn' hb2 hown hrw hgr HCL c0 cx
      go_wp2_with (at_builtin; refine wpList_append_own_at _ rfl _ _ 38 rfl w.heap.size 3 i0 (.int .i64 0) 1 8 Tryz.underlying38 hi xq0 xq1 xq2 rfl (by decide) v k _ rfl (HO2.out.alloc _) ⟨w2.heap.size, 0, none⟩ 1 1 [.int .i64 n'] rfl rfl (newCellsR _ _ _) (by intro u hu; simp at hu; subst hu; rfl) hkm hkb (by simp; omega) ?_)
      intro v' w3 hown3 hg3 hxx3 hat3
      clear hxx3
      have hb3 : Below w.heap.size w2 w3 := ((Below.refl _ _).alloc hz2 _).grown hg3 (by simp; omega) hvl.out
      have hrw3 : RW w3 rb gw (y :: R2) := HW2.out.keep hb3.size (hb3.block _ hrlt) (hb3.block _ hglt)
      have HG3 := Lib.hid (gr_keep HG2.out hb3 (Nat.le_refl _))
      obtain ⟨off, c, k1, k2, k3⟩ := hrw3.rd
      have c0 : w3.cell? ⟨rb, 0, none⟩ = some (.slice (some ⟨gw, off, none⟩) (R2.length + 1) c) := k1.cell 0
      have f0 : w3.frozen? ⟨rb, 0, none⟩ = false := k1.frozen 0
      have hc : R2.length + 1 ≤ c := k2
      have HO3 : Hid (w3.ownsRow w.heap.size 3 1 v' (k + 1) ((ns.take (k + 1)).map (.int .i64))) := by show World.ownsRow _ _ _ _ _ _ _; rw [HLK.out, List.map_take]; exact hown3
      have HF : Hid (∀ off' c', R2.length ≤ c' → (R2.length ≠ 0 → off' = off + 1) → RW (w3.setCell ⟨rb, 0, none⟩ (.slice (some ⟨gw, off', none⟩) R2.length c')) rb gw ((ns.drop (k + 1)).map f ++ rest) ∧ w.grownBy (w3.setCell ⟨rb, 0, none⟩ (.slice (some ⟨gw, off', none⟩) R2.length c')) (some rb) ∧ (w3.setCell ⟨rb, 0, none⟩ (.slice (some ⟨gw, off', none⟩) R2.length c')).ownsRow w.heap.size 3 1 v' (k + 1) ((ns.take (k + 1)).map (.int .i64))) := fun off' c' hc' ho => by
        refine ⟨?_, gr_set HG3.out 0 _, ownsRow_setCell_below HO3.out (a := ⟨rb, 0, none⟩) hrlt _⟩
        rw [← HR2.out]
        refine ⟨⟨off', c', k1.set_ 0 _, hc', fun j z hz => ?_⟩, hrw3.ne, by simpa [World.setCell] using hrw3.lt, by have := hrw3.len; simp only [List.length_cons] at this; omega⟩
        have hj := (List.getElem?_eq_some_iff.1 hz).1
        have := k3 (j + 1) z hz
        rw [ho (by omega), show off + 1 + j = off + (j + 1) by omega]
        exact (World.cell?_of_block (a := ⟨gw, off + (j + 1), none⟩) (Below.heap_setCell _ ⟨rb, _, none⟩ _ gw hrw3.ne)).trans this
      have iw1 : IntKind.i64.wrap ((k : Int) + 1) = ((k + 1 : Nat) : Int) := by rw [IntWalk.i64_in _ (by omega)]; omega
      clear hown3 hg3 hat3 hb3 hrw3 k1 k2 k3 HO2 HW2 HG2 hvl hkm hkb HLK HR2 HO3 HG3
      go_wp2_with fail
      all_goals
        go_roundg (N - (k + 1))
        case measure => omega
        case rel =>
          exact ⟨k + 1, v', by omega, rfl, (HF.out _ _ (by omega) (by omega)).2.2, (HF.out _ _ (by omega) (by omega)).1, (HF.out _ _ (by omega) (by omega)).2.1⟩
    · obtain rfl : k = N := by omega
      have hd0 : ns.drop k = [] := List.drop_eq_nil_of_le (by rw [← HN.out]; exact Nat.le_refl _)
      have ht0 : ns.take k = ns := List.take_of_length_le (by rw [← HN.out]; exact Nat.le_refl _)
      rw [hd0] at hrw
      rw [ht0] at hown
      have hrw : Hid (RW W1 rb gw rest) := hrw
      obtain ⟨A, cc, rfl, hcc, hrd⟩ := RdX.of_own hown.out
      have HX : Hid (RInX W1 (fun b => w.heap.size ≤ b ∧ b < W1.heap.size) (.slice A k cc) ns) := ⟨A, k, cc, rfl, HN.out, ⟨hcc, by omega⟩, hrd.weak fun b hb => ⟨hb.2.1, hb.2.2⟩, H64.out⟩
      have hend : Hid (∀ W, Below W1.heap.size W1 W → (RInX (W.setCell ⟨rb, 1, none⟩ (.bool false)) (fun b => w.heap.size ≤ b ∧ b < (W.setCell ⟨rb, 1, none⟩ (.bool false)).heap.size) (.slice A k cc) ns) ∧ RW (W.setCell ⟨rb, 1, none⟩ (.bool false)) rb gw rest ∧ w.grownBy (W.setCell ⟨rb, 1, none⟩ (.bool false)) (some rb)) := fun W hW => by
        have hrW := hrw.out.below hW
        refine ⟨?_, ?_, gr_set (gr_below hgr.out hW) 1 _⟩
        · refine (HX.out.keep fun p hp => ?_).weak fun b hb => ⟨hb.1, by simpa [World.setCell] using Nat.lt_of_lt_of_le hb.2 hW.size⟩
          exact (World.cell?_of_block (a := p) (Below.heap_setCell _ ⟨rb, 1, none⟩ _ p.block (fun e => by have := hp.1; rw [e] at this; exact absurd (show w.heap.size ≤ rb from this) (by omega)))).trans (hW.cell hp.2)
        · obtain ⟨off, c, k1, k2, k3⟩ := hrW.rd
          refine ⟨⟨off, c, k1.set_ 1 _, k2, fun j z hz => ?_⟩, hrW.ne, by simpa [World.setCell] using hrW.lt, hrW.len⟩
          exact (World.cell?_of_block (a := ⟨gw, off + j, none⟩) (Below.heap_setCell _ ⟨rb, _, none⟩ _ gw hrW.ne)).trans (k3 j z hz)
      have hcl : Hid (∀ y r, rest = y :: r → Calls Tryz.prog g #[.string y] W1 fun e w' => ∃ n', e = .returned (.tuple #[.int .i64 n', .bool false]) ∧ Below W1.heap.size W1 w' ∧ w'.cell? ⟨rb, 1, none⟩ = some (.bool false) ∧ w'.frozen? ⟨rb, 1, none⟩ = false) := fun y r e => by
        refine (HRS.out y (by rw [e]; rfl) W1 (HP.out W1 hgr.out)).mono ?_
        rintro e w' ⟨n', h1, _, h2⟩
        obtain ⟨off, c, k1, k2, k3⟩ := (hrw.out.below h2).rd
        exact ⟨n', h1, h2, k1.cell 1, k1.frozen 1⟩
      obtain ⟨off, c, k1, k2, k3⟩ := hrw.out.rd
      clear HRS HF HH HP
      cases rest with
      | nil =>
        have c0 : W1.cell? ⟨rb, 0, none⟩ = some (.slice (some ⟨gw, off, none⟩) 0 c) := k1.cell 0
        have c1 : W1.cell? ⟨rb, 1, none⟩ = some (.bool false) := k1.cell 1
        have f1 : W1.frozen? ⟨rb, 1, none⟩ = false := k1.frozen 1
        have HEN := Lib.hid (hend.out W1 (Below.refl _ _))
        clear k1 k2 k3 hcl hend HX hown hrw hgr hrd hcc hd0 ht0
        go_wp2_with fail
        go_ret
        exact ⟨⟨A, k, cc, rfl, HEN.out.1⟩, HEN.out.2⟩
      | cons y R2 =>
        have c0 : W1.cell? ⟨rb, 0, none⟩ = some (.slice (some ⟨gw, off, none⟩) (R2.length + 1) c) := k1.cell 0
        have cx : W1.cell? ⟨gw, off, none⟩ = some (.string y) := k3 0 y rfl
        have HCL := Lib.hid (hcl.out y R2 rfl)
        have HEN := hend.out
        have HEN := Lib.hid HEN
        clear k1 k2 k3 hcl hend HX hown hrw hgr hrd hcc hd0 ht0
        go_wp2_with fail
        refine HCL.out.mono ?_
        rintro e w2 ⟨n', rfl, hb2, c1, f1⟩
        have HE2 := Lib.hid (HEN.out w2 hb2)
        clear hb2 HEN HCL
        go_wp2_with fail
        go_ret
        exact ⟨⟨A, k, cc, rfl, HE2.out.1⟩, HE2.out.2⟩
end Go.Proofs.YtbdcimakdiegnaaGreatDoor
