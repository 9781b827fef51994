/-
  DERIVED. The walk of the reference's with: a list with a number at a place. Conditions: sizes.
  By an AI agent.
-/
import Derived.Test.YtmkicfjcgbfaaaaGreatTg27
import Derived.Test.YtmkicfjcgbfaaaaGreatTg29
import Derived.Deep.RegionLaw
namespace Go.Proofs.YtmkicfjcgbfaaaaGreat
open Go.RowKit

theorem own_of {a g o n c : Nat} (h : (Value.slice (some ⟨a, o, none⟩) n c).ownBlock = some g) : g = a := (Option.some.inj h).symm
set_option maxRecDepth 100000 in
set_option maxHeartbeats 4000000 in
theorem with_some (l : List Int) (b off n c i : Nat) (x : Int) (w : World) (B : Nat) (hB : B ≤ w.heap.size) (h : RIn w B (.slice (some ⟨b, off, none⟩) n c) l) (hi : i ≤ n) (hs : n ≤ 99999) (hx : I64 x) :
    Calls Tryz.prog 84 #[.slice (some ⟨b, off, none⟩) n c, .int .i64 i, .int .i64 x] w (IntsR (plusK l i x) w) := by
  obtain ⟨i0, hi0, hq0, hq1, hq2⟩ := info_parts int_info
  have hln := h.len.1
  have hcl : ∀ j u, (l.map (Value.int .i64))[j]? = some u → w.cell? ((⟨b, off, none⟩ : Addr).add j) = some u := fun j u hu => by
    obtain ⟨ad, e, _, hc⟩ := h.reads.2 (by have := (List.getElem?_eq_some_iff.1 hu).1; rw [List.length_map] at this; omega)
    obtain rfl := Option.some.inj e
    exact hc j u hu
  have hlt : 0 < n → b < B := fun h0 => by
    obtain ⟨ad, e, hb, _⟩ := h.reads.2 h0
    obtain rfl := Option.some.inj e
    exact hb
  have hall : ∀ y ∈ l, I64 y := fun y hy => h.i64 hy
  have hnc := h.len.2.1
  have k0 : (0 : Int) ≤ (i : Int) := by omega
  have k1 : (i : Int) ≤ (c : Int) := by omega
  have k2 : (i : Int) ≤ (n : Int) := by omega
  have k3 : (n : Int) ≤ (c : Int) := by omega
  have HT : Hid (Reads w B 1 (some ⟨b, off, none⟩) i ((l.take i).map (Value.int .i64))) := ⟨by rw [List.length_map, List.length_take]; omega, fun h0 => ⟨_, rfl, hlt (by omega), fun j u hu => by
    rw [List.getElem?_map, List.getElem?_take] at hu
    split at hu
    · exact hcl j u (by rw [List.getElem?_map]; exact hu)
    · cases hu⟩⟩
  have HD : Hid (Reads w B 1 (if c = i then some ⟨b, off, none⟩ else some ⟨b, off + i, none⟩) (n - i) ((l.drop i).map (Value.int .i64))) := ⟨by rw [List.length_map, List.length_drop]; omega, fun h0 => by
    rw [if_neg (by omega)]
    refine ⟨_, rfl, hlt (by omega), fun j u hu => ?_⟩
    rw [List.getElem?_map, List.getElem?_drop] at hu
    have := hcl (i + j) u (by rw [List.getElem?_map]; exact hu)
    rw [Addr.add_lit] at this ⊢
    rw [Nat.add_assoc]
    exact this⟩
  have HO1 : Hid (∀ u ∈ (l.take i).map (Value.int .i64), u.oneCell' = true) := ints_one _
  have HO2 : Hid (∀ u ∈ [Value.int .i64 x], u.oneCell' = true) := ints_one [x]
  have HO3 : Hid (∀ u ∈ (l.drop i).map (Value.int .i64), u.oneCell' = true) := ints_one _
  have HC1 : Hid (0 + i ≤ maxLen) := by show _ ≤ _; unfold maxLen; omega
  have HC2 : Hid ((0 + i) * 8 ≤ 140737488355328) := by show _ ≤ _; omega
  have HC3 : Hid (0 + i + 1 ≤ maxLen) := by show _ ≤ _; unfold maxLen; omega
  have HC4 : Hid ((0 + i + 1) * 8 ≤ 140737488355328) := by show _ ≤ _; omega
  have HC5 : Hid (0 + i + 1 + (n - i) ≤ maxLen) := by show _ ≤ _; unfold maxLen; omega
  have HC6 : Hid ((0 + i + 1 + (n - i)) * 8 ≤ 140737488355328) := by show _ ≤ _; omega
  have HFIN : Hid (∀ v4 w4, w4.ownsRow w.heap.size 3 1 v4 (0 + i + 1 + (n - i)) ([] ++ (l.take i).map (Value.int .i64) ++ [.int .i64 x] ++ (l.drop i).map (Value.int .i64)) → Below w.heap.size w w4 → IntsR (plusK l i x) w (.returned v4) w4) := fun v4 w4 ho hb => by
    have e : [] ++ (l.take i).map (Value.int .i64) ++ [Value.int .i64 x] ++ (l.drop i).map (Value.int .i64) = (plusK l i x).map (.int .i64) := by unfold plusK; simp
    rw [e] at ho
    refine IntsR.of_own ho ?_ (by omega) ?_ hb
    · unfold plusK; rw [List.length_append, List.length_cons, List.length_take, List.length_drop]; omega
    · intro y hy
      unfold plusK at hy
      rcases List.mem_append.1 hy with hy | hy
      · exact hall y (List.mem_of_mem_take hy)
      · rcases List.mem_cons.1 hy with rfl | hy
        · exact hx
        · exact hall y (List.mem_of_mem_drop hy)
  have Ba : Hid (Below w.heap.size w (w.alloc (.cells #[] 3)).drew) := ((Below.refl _ _).alloc (Nat.le_refl _) _).drew
  have Oa : Hid (((w.alloc (.cells #[] 3)).drew).ownsRow w.heap.size 3 1 (.slice (some ⟨w.heap.size, 0, none⟩) 0 0) 0 []) := own_empty (Nat.le_refl _) (Blk.new _ _ _).drew
  have Ra : Hid (Reads ((w.alloc (.cells #[] 3)).drew) B 1 (some ⟨b, off, none⟩) i ((l.take i).map (Value.int .i64))) := HT.out.below (Ba.out.mono hB)
  have Za : Hid (w.heap.size ≤ ((w.alloc (.cells #[] 3)).drew).heap.size) := Ba.out.size
  have Bb : Hid (Below w.heap.size w ((w.alloc (.cells #[] 3)).alloc (.cells #[.int .i64 x] 3)).drew) := (((Below.refl _ _).alloc (Nat.le_refl _) _).alloc (by simp) _).drew
  have Ob : Hid ((((w.alloc (.cells #[] 3)).alloc (.cells #[.int .i64 x] 3)).drew).ownsRow w.heap.size 3 1 (.slice (some ⟨w.heap.size, 0, none⟩) 0 0) 0 []) := own_empty (Nat.le_refl _) ((Blk.new _ _ _).alloc _).drew
  have Rb : Hid (Reads (((w.alloc (.cells #[] 3)).alloc (.cells #[.int .i64 x] 3)).drew) B 1 (some ⟨b, off, none⟩) i ((l.take i).map (Value.int .i64))) := HT.out.below (Bb.out.mono hB)
  have Zb : Hid (w.heap.size ≤ (((w.alloc (.cells #[] 3)).alloc (.cells #[.int .i64 x] 3)).drew).heap.size) := Bb.out.size
  have Bc : Hid (Below w.heap.size w ((w.alloc (.cells #[.int .i64 x] 3)).alloc (.cells #[] 3)).drew) := (((Below.refl _ _).alloc (Nat.le_refl _) _).alloc (by simp) _).drew
  have Oc : Hid ((((w.alloc (.cells #[.int .i64 x] 3)).alloc (.cells #[] 3)).drew).ownsRow w.heap.size 3 1 (.slice (some ⟨w.heap.size + 1, 0, none⟩) 0 0) 0 []) := own_empty (Nat.le_succ _) (by have h := Blk.new (w.alloc (.cells #[.int .i64 x] 3)) 3 #[]; simp only [World.size_alloc] at h; exact h.drew)
  have Rc : Hid (Reads (((w.alloc (.cells #[.int .i64 x] 3)).alloc (.cells #[] 3)).drew) B 1 (some ⟨b, off, none⟩) i ((l.take i).map (Value.int .i64))) := HT.out.below (Bc.out.mono hB)
  have Zc : Hid (w.heap.size ≤ (((w.alloc (.cells #[.int .i64 x] 3)).alloc (.cells #[] 3)).drew).heap.size) := Bc.out.size
  have Xb : Hid (Blk (((w.alloc (.cells #[] 3)).alloc (.cells #[.int .i64 x] 3)).drew) (w.heap.size + 1) 3 #[.int .i64 x]) := by
    have h := Blk.new (w.alloc (.cells #[] 3)) 3 #[.int .i64 x]
    simp only [World.size_alloc] at h
    exact h.drew
  have Xc : Hid (Blk (((w.alloc (.cells #[.int .i64 x] 3)).alloc (.cells #[] 3)).drew) w.heap.size 3 #[.int .i64 x]) := ((Blk.new _ _ _).alloc _).drew
  clear hcl hlt hall hln
  go_enter Tryz.func84, Tryz.ntmps84
  go_upto_region 1 with fail
  go_region_law (first
    | (refine step_append_any _ (by rfl) _ _ _ (by rfl) w.heap.size 3 i0 (.int .i64 0) 1 8 Tryz.underlying34 hi0 hq0 hq1 hq2 rfl (by decide) (.slice (some ⟨w.heap.size, 0, none⟩) 0 0) 0 [] (by rfl) Oa.out B (some ⟨b, off, none⟩) i c ((l.take i).map (Value.int .i64)) (by rfl) Ra.out HO1.out HC1.out HC2.out Za.out ?_; intro v2 w2 hown2 hg2 hat2; have OW2a := Lib.hid (hown2.alloc (.cells #[.int .i64 x] 3)); have RX2a : Hid (Reads (w2.alloc (.cells #[.int .i64 x] 3)) (w2.heap.size + 1) 1 (some ⟨w2.heap.size, 0, none⟩) 1 [.int .i64 x]) := Reads.blk (Blk.new _ _ _) rfl; have HB2 : Hid (Below w.heap.size w (w2.alloc (.cells #[.int .i64 x] 3))) := (Ba.out.grown hg2 Ba.out.size (fun g hg => by have := own_of hg; omega)).alloc (Nat.le_trans Ba.out.size hg2.size) _; have Z2 : Hid (w.heap.size ≤ (w2.alloc (.cells #[.int .i64 x] 3)).heap.size) := HB2.out.size; have V2 : Hid (∀ g, v2.ownBlock = some g → w.heap.size ≤ g) := fun g hg => (own_block_lt hown2 g hg).1; clear hown2 hg2 hat2)
    | (refine step_append_any _ (by rfl) _ _ _ (by rfl) w.heap.size 3 i0 (.int .i64 0) 1 8 Tryz.underlying34 hi0 hq0 hq1 hq2 rfl (by decide) (.slice (some ⟨w.heap.size, 0, none⟩) 0 0) 0 [] (by rfl) Ob.out B (some ⟨b, off, none⟩) i c ((l.take i).map (Value.int .i64)) (by rfl) Rb.out HO1.out HC1.out HC2.out Zb.out ?_; intro v2 w2 hown2 hg2 hat2; have OW2b := Lib.hid hown2; have RX2b : Hid (Reads w2 (w.heap.size + 1 + 1) 1 (some ⟨w.heap.size + 1, 0, none⟩) 1 [.int .i64 x]) := Reads.blk (Xb.out.grown hg2 (fun e => by have := own_of e.symm; omega)) rfl; have HB2 : Hid (Below w.heap.size w w2) := Bb.out.grown hg2 Bb.out.size (fun g hg => by have := own_of hg; omega); have Z2 : Hid (w.heap.size ≤ w2.heap.size) := HB2.out.size; have V2 : Hid (∀ g, v2.ownBlock = some g → w.heap.size ≤ g) := fun g hg => (own_block_lt hown2 g hg).1; clear hown2 hg2 hat2)
    | (refine step_append_any _ (by rfl) _ _ _ (by rfl) w.heap.size 3 i0 (.int .i64 0) 1 8 Tryz.underlying34 hi0 hq0 hq1 hq2 rfl (by decide) (.slice (some ⟨w.heap.size + 1, 0, none⟩) 0 0) 0 [] (by rfl) Oc.out B (some ⟨b, off, none⟩) i c ((l.take i).map (Value.int .i64)) (by rfl) Rc.out HO1.out HC1.out HC2.out Zc.out ?_; intro v2 w2 hown2 hg2 hat2; have OW2c := Lib.hid hown2; have RX2c : Hid (Reads w2 (w.heap.size + 1) 1 (some ⟨w.heap.size, 0, none⟩) 1 [.int .i64 x]) := Reads.blk (Xc.out.grown hg2 (fun e => by have := own_of e.symm; omega)) rfl; have HB2 : Hid (Below w.heap.size w w2) := Bc.out.grown hg2 Bc.out.size (fun g hg => by have := own_of hg; omega); have Z2 : Hid (w.heap.size ≤ w2.heap.size) := HB2.out.size; have V2 : Hid (∀ g, v2.ownBlock = some g → w.heap.size ≤ g) := fun g hg => (own_block_lt hown2 g hg).1; clear hown2 hg2 hat2)
    | (refine step_append_any _ (by rfl) _ _ _ (by rfl) w.heap.size 3 i0 (.int .i64 0) 1 8 Tryz.underlying34 hi0 hq0 hq1 hq2 rfl (by decide) v2 (0 + i) ([] ++ (l.take i).map (Value.int .i64)) (by rfl) OW2a.out (w2.heap.size + 1) (some ⟨w2.heap.size, 0, none⟩) 1 1 [.int .i64 x] (by rfl) RX2a.out HO2.out HC3.out HC4.out Z2.out ?_; intro v3 w3 hown3 hg3 hat3; have OW3 := Lib.hid hown3; have HB3 : Hid (Below w.heap.size w w3) := HB2.out.grown hg3 HB2.out.size (fun g hg => V2.out g hg); have R3 := Lib.hid (HD.out.below (HB3.out.mono hB)); have Z3 : Hid (w.heap.size ≤ w3.heap.size) := HB3.out.size; clear hown3 hg3 hat3)
    | (refine step_append_any _ (by rfl) _ _ _ (by rfl) w.heap.size 3 i0 (.int .i64 0) 1 8 Tryz.underlying34 hi0 hq0 hq1 hq2 rfl (by decide) v2 (0 + i) ([] ++ (l.take i).map (Value.int .i64)) (by rfl) OW2b.out (w.heap.size + 1 + 1) (some ⟨w.heap.size + 1, 0, none⟩) 1 1 [.int .i64 x] (by rfl) RX2b.out HO2.out HC3.out HC4.out Z2.out ?_; intro v3 w3 hown3 hg3 hat3; have OW3 := Lib.hid hown3; have HB3 : Hid (Below w.heap.size w w3) := HB2.out.grown hg3 HB2.out.size (fun g hg => V2.out g hg); have R3 := Lib.hid (HD.out.below (HB3.out.mono hB)); have Z3 : Hid (w.heap.size ≤ w3.heap.size) := HB3.out.size; clear hown3 hg3 hat3)
    | (refine step_append_any _ (by rfl) _ _ _ (by rfl) w.heap.size 3 i0 (.int .i64 0) 1 8 Tryz.underlying34 hi0 hq0 hq1 hq2 rfl (by decide) v2 (0 + i) ([] ++ (l.take i).map (Value.int .i64)) (by rfl) OW2c.out (w.heap.size + 1) (some ⟨w.heap.size, 0, none⟩) 1 1 [.int .i64 x] (by rfl) RX2c.out HO2.out HC3.out HC4.out Z2.out ?_; intro v3 w3 hown3 hg3 hat3; have OW3 := Lib.hid hown3; have HB3 : Hid (Below w.heap.size w w3) := HB2.out.grown hg3 HB2.out.size (fun g hg => V2.out g hg); have R3 := Lib.hid (HD.out.below (HB3.out.mono hB)); have Z3 : Hid (w.heap.size ≤ w3.heap.size) := HB3.out.size; clear hown3 hg3 hat3)
    | (refine step_append_any _ (by rfl) _ _ _ (by rfl) w.heap.size 3 i0 (.int .i64 0) 1 8 Tryz.underlying34 hi0 hq0 hq1 hq2 rfl (by decide) v3 (0 + i + 1) ([] ++ (l.take i).map (Value.int .i64) ++ [.int .i64 x]) (by rfl) OW3.out B (if c = i then some ⟨b, off, none⟩ else some ⟨b, off + i, none⟩) (n - i) (c - i) ((l.drop i).map (Value.int .i64)) (by rfl) R3.out HO3.out HC5.out HC6.out Z3.out ?_; intro v4 w4 hown4 hg4 hat4; have OW4 := Lib.hid hown4; have HB4 : Hid (Below w.heap.size w w4) := HB3.out.grown hg4 HB3.out.size (fun g hg => (own_block_lt OW3.out g hg).1); clear hown4 hg4 hat4))
  all_goals
    go_wp2_with fail
    all_goals
      go_ret
      exact HFIN.out _ _ OW4.out HB4.out

set_option maxRecDepth 100000 in
set_option maxHeartbeats 4000000 in
theorem with_none (c : Nat) (x : Int) (w : World) (hx : I64 x) :
    Calls Tryz.prog 84 #[.slice none 0 c, .int .i64 0, .int .i64 x] w (IntsR [x] w) := by
  obtain ⟨i0, hi0, hq0, hq1, hq2⟩ := info_parts int_info
  have k1 : (0 : Int) ≤ (c : Int) := by omega
  have HT : Hid (Reads w 0 1 none 0 ([] : List Value)) := ⟨rfl, fun h => absurd h (by omega)⟩
  have HD : Hid (Reads w 0 1 none 0 ([] : List Value)) := ⟨rfl, fun h => absurd h (by omega)⟩
  have HO1 : Hid (∀ u ∈ ([] : List Value), u.oneCell' = true) := fun u hu => by cases hu
  have HO2 : Hid (∀ u ∈ [Value.int .i64 x], u.oneCell' = true) := ints_one [x]
  have HO3 : Hid (∀ u ∈ ([] : List Value), u.oneCell' = true) := fun u hu => by cases hu
  have HC1 : Hid (0 + 0 ≤ maxLen) := Nat.zero_le _
  have HC2 : Hid ((0 + 0) * 8 ≤ 140737488355328) := by show _ ≤ _; omega
  have HC3 : Hid (0 + 0 + 1 ≤ maxLen) := by show _ ≤ _; unfold maxLen; omega
  have HC4 : Hid ((0 + 0 + 1) * 8 ≤ 140737488355328) := by show _ ≤ _; omega
  have HC5 : Hid (0 + 0 + 1 + 0 ≤ maxLen) := by show _ ≤ _; unfold maxLen; omega
  have HC6 : Hid ((0 + 0 + 1 + 0) * 8 ≤ 140737488355328) := by show _ ≤ _; omega
  have HFIN : Hid (∀ v4 w4, w4.ownsRow w.heap.size 3 1 v4 (0 + 0 + 1 + 0) ([] ++ ([] : List Value) ++ [.int .i64 x] ++ ([] : List Value)) → Below w.heap.size w w4 → IntsR [x] w (.returned v4) w4) := fun v4 w4 ho hb =>
    IntsR.of_own (L := [x]) ho rfl (by omega) (fun y hy => by obtain rfl := List.mem_singleton.1 hy; exact hx) hb
  have Ba : Hid (Below w.heap.size w (w.alloc (.cells #[] 3)).drew) := ((Below.refl _ _).alloc (Nat.le_refl _) _).drew
  have Oa : Hid (((w.alloc (.cells #[] 3)).drew).ownsRow w.heap.size 3 1 (.slice (some ⟨w.heap.size, 0, none⟩) 0 0) 0 []) := own_empty (Nat.le_refl _) (Blk.new _ _ _).drew
  have Ra : Hid (Reads ((w.alloc (.cells #[] 3)).drew) 0 1 none 0 (([] : List Value))) := HT.out.below (Ba.out.mono (Nat.zero_le _))
  have Za : Hid (w.heap.size ≤ ((w.alloc (.cells #[] 3)).drew).heap.size) := Ba.out.size
  have Bb : Hid (Below w.heap.size w ((w.alloc (.cells #[] 3)).alloc (.cells #[.int .i64 x] 3)).drew) := (((Below.refl _ _).alloc (Nat.le_refl _) _).alloc (by simp) _).drew
  have Ob : Hid ((((w.alloc (.cells #[] 3)).alloc (.cells #[.int .i64 x] 3)).drew).ownsRow w.heap.size 3 1 (.slice (some ⟨w.heap.size, 0, none⟩) 0 0) 0 []) := own_empty (Nat.le_refl _) ((Blk.new _ _ _).alloc _).drew
  have Rb : Hid (Reads (((w.alloc (.cells #[] 3)).alloc (.cells #[.int .i64 x] 3)).drew) 0 1 none 0 (([] : List Value))) := HT.out.below (Bb.out.mono (Nat.zero_le _))
  have Zb : Hid (w.heap.size ≤ (((w.alloc (.cells #[] 3)).alloc (.cells #[.int .i64 x] 3)).drew).heap.size) := Bb.out.size
  have Bc : Hid (Below w.heap.size w ((w.alloc (.cells #[.int .i64 x] 3)).alloc (.cells #[] 3)).drew) := (((Below.refl _ _).alloc (Nat.le_refl _) _).alloc (by simp) _).drew
  have Oc : Hid ((((w.alloc (.cells #[.int .i64 x] 3)).alloc (.cells #[] 3)).drew).ownsRow w.heap.size 3 1 (.slice (some ⟨w.heap.size + 1, 0, none⟩) 0 0) 0 []) := own_empty (Nat.le_succ _) (by have h := Blk.new (w.alloc (.cells #[.int .i64 x] 3)) 3 #[]; simp only [World.size_alloc] at h; exact h.drew)
  have Rc : Hid (Reads (((w.alloc (.cells #[.int .i64 x] 3)).alloc (.cells #[] 3)).drew) 0 1 none 0 (([] : List Value))) := HT.out.below (Bc.out.mono (Nat.zero_le _))
  have Zc : Hid (w.heap.size ≤ (((w.alloc (.cells #[.int .i64 x] 3)).alloc (.cells #[] 3)).drew).heap.size) := Bc.out.size
  have Xb : Hid (Blk (((w.alloc (.cells #[] 3)).alloc (.cells #[.int .i64 x] 3)).drew) (w.heap.size + 1) 3 #[.int .i64 x]) := by
    have h := Blk.new (w.alloc (.cells #[] 3)) 3 #[.int .i64 x]
    simp only [World.size_alloc] at h
    exact h.drew
  have Xc : Hid (Blk (((w.alloc (.cells #[.int .i64 x] 3)).alloc (.cells #[] 3)).drew) w.heap.size 3 #[.int .i64 x]) := ((Blk.new _ _ _).alloc _).drew
  go_enter Tryz.func84, Tryz.ntmps84
  go_upto_region 1 with fail
  go_region_law (first
    | (refine step_append_any _ (by rfl) _ _ _ (by rfl) w.heap.size 3 i0 (.int .i64 0) 1 8 Tryz.underlying34 hi0 hq0 hq1 hq2 rfl (by decide) (.slice (some ⟨w.heap.size, 0, none⟩) 0 0) 0 [] (by rfl) Oa.out 0 none 0 c (([] : List Value)) (by rfl) Ra.out HO1.out HC1.out HC2.out Za.out ?_; intro v2 w2 hown2 hg2 hat2; have OW2a := Lib.hid (hown2.alloc (.cells #[.int .i64 x] 3)); have RX2a : Hid (Reads (w2.alloc (.cells #[.int .i64 x] 3)) (w2.heap.size + 1) 1 (some ⟨w2.heap.size, 0, none⟩) 1 [.int .i64 x]) := Reads.blk (Blk.new _ _ _) rfl; have HB2 : Hid (Below w.heap.size w (w2.alloc (.cells #[.int .i64 x] 3))) := (Ba.out.grown hg2 Ba.out.size (fun g hg => by have := own_of hg; omega)).alloc (Nat.le_trans Ba.out.size hg2.size) _; have Z2 : Hid (w.heap.size ≤ (w2.alloc (.cells #[.int .i64 x] 3)).heap.size) := HB2.out.size; have V2 : Hid (∀ g, v2.ownBlock = some g → w.heap.size ≤ g) := fun g hg => (own_block_lt hown2 g hg).1; clear hown2 hg2 hat2)
    | (refine step_append_any _ (by rfl) _ _ _ (by rfl) w.heap.size 3 i0 (.int .i64 0) 1 8 Tryz.underlying34 hi0 hq0 hq1 hq2 rfl (by decide) (.slice (some ⟨w.heap.size, 0, none⟩) 0 0) 0 [] (by rfl) Ob.out 0 none 0 c (([] : List Value)) (by rfl) Rb.out HO1.out HC1.out HC2.out Zb.out ?_; intro v2 w2 hown2 hg2 hat2; have OW2b := Lib.hid hown2; have RX2b : Hid (Reads w2 (w.heap.size + 1 + 1) 1 (some ⟨w.heap.size + 1, 0, none⟩) 1 [.int .i64 x]) := Reads.blk (Xb.out.grown hg2 (fun e => by have := own_of e.symm; omega)) rfl; have HB2 : Hid (Below w.heap.size w w2) := Bb.out.grown hg2 Bb.out.size (fun g hg => by have := own_of hg; omega); have Z2 : Hid (w.heap.size ≤ w2.heap.size) := HB2.out.size; have V2 : Hid (∀ g, v2.ownBlock = some g → w.heap.size ≤ g) := fun g hg => (own_block_lt hown2 g hg).1; clear hown2 hg2 hat2)
    | (refine step_append_any _ (by rfl) _ _ _ (by rfl) w.heap.size 3 i0 (.int .i64 0) 1 8 Tryz.underlying34 hi0 hq0 hq1 hq2 rfl (by decide) (.slice (some ⟨w.heap.size + 1, 0, none⟩) 0 0) 0 [] (by rfl) Oc.out 0 none 0 c (([] : List Value)) (by rfl) Rc.out HO1.out HC1.out HC2.out Zc.out ?_; intro v2 w2 hown2 hg2 hat2; have OW2c := Lib.hid hown2; have RX2c : Hid (Reads w2 (w.heap.size + 1) 1 (some ⟨w.heap.size, 0, none⟩) 1 [.int .i64 x]) := Reads.blk (Xc.out.grown hg2 (fun e => by have := own_of e.symm; omega)) rfl; have HB2 : Hid (Below w.heap.size w w2) := Bc.out.grown hg2 Bc.out.size (fun g hg => by have := own_of hg; omega); have Z2 : Hid (w.heap.size ≤ w2.heap.size) := HB2.out.size; have V2 : Hid (∀ g, v2.ownBlock = some g → w.heap.size ≤ g) := fun g hg => (own_block_lt hown2 g hg).1; clear hown2 hg2 hat2)
    | (refine step_append_any _ (by rfl) _ _ _ (by rfl) w.heap.size 3 i0 (.int .i64 0) 1 8 Tryz.underlying34 hi0 hq0 hq1 hq2 rfl (by decide) v2 (0 + 0) ([] ++ ([] : List Value)) (by rfl) OW2a.out (w2.heap.size + 1) (some ⟨w2.heap.size, 0, none⟩) 1 1 [.int .i64 x] (by rfl) RX2a.out HO2.out HC3.out HC4.out Z2.out ?_; intro v3 w3 hown3 hg3 hat3; have OW3 := Lib.hid hown3; have HB3 : Hid (Below w.heap.size w w3) := HB2.out.grown hg3 HB2.out.size (fun g hg => V2.out g hg); have R3 := Lib.hid (HD.out.below (HB3.out.mono (Nat.zero_le _))); have Z3 : Hid (w.heap.size ≤ w3.heap.size) := HB3.out.size; clear hown3 hg3 hat3)
    | (refine step_append_any _ (by rfl) _ _ _ (by rfl) w.heap.size 3 i0 (.int .i64 0) 1 8 Tryz.underlying34 hi0 hq0 hq1 hq2 rfl (by decide) v2 (0 + 0) ([] ++ ([] : List Value)) (by rfl) OW2b.out (w.heap.size + 1 + 1) (some ⟨w.heap.size + 1, 0, none⟩) 1 1 [.int .i64 x] (by rfl) RX2b.out HO2.out HC3.out HC4.out Z2.out ?_; intro v3 w3 hown3 hg3 hat3; have OW3 := Lib.hid hown3; have HB3 : Hid (Below w.heap.size w w3) := HB2.out.grown hg3 HB2.out.size (fun g hg => V2.out g hg); have R3 := Lib.hid (HD.out.below (HB3.out.mono (Nat.zero_le _))); have Z3 : Hid (w.heap.size ≤ w3.heap.size) := HB3.out.size; clear hown3 hg3 hat3)
    | (refine step_append_any _ (by rfl) _ _ _ (by rfl) w.heap.size 3 i0 (.int .i64 0) 1 8 Tryz.underlying34 hi0 hq0 hq1 hq2 rfl (by decide) v2 (0 + 0) ([] ++ ([] : List Value)) (by rfl) OW2c.out (w.heap.size + 1) (some ⟨w.heap.size, 0, none⟩) 1 1 [.int .i64 x] (by rfl) RX2c.out HO2.out HC3.out HC4.out Z2.out ?_; intro v3 w3 hown3 hg3 hat3; have OW3 := Lib.hid hown3; have HB3 : Hid (Below w.heap.size w w3) := HB2.out.grown hg3 HB2.out.size (fun g hg => V2.out g hg); have R3 := Lib.hid (HD.out.below (HB3.out.mono (Nat.zero_le _))); have Z3 : Hid (w.heap.size ≤ w3.heap.size) := HB3.out.size; clear hown3 hg3 hat3)
    | (refine step_append_any _ (by rfl) _ _ _ (by rfl) w.heap.size 3 i0 (.int .i64 0) 1 8 Tryz.underlying34 hi0 hq0 hq1 hq2 rfl (by decide) v3 (0 + 0 + 1) ([] ++ ([] : List Value) ++ [.int .i64 x]) (by rfl) OW3.out 0 none 0 c (([] : List Value)) (by rfl) R3.out HO3.out HC5.out HC6.out Z3.out ?_; intro v4 w4 hown4 hg4 hat4; have OW4 := Lib.hid hown4; have HB4 : Hid (Below w.heap.size w w4) := HB3.out.grown hg4 HB3.out.size (fun g hg => (own_block_lt OW3.out g hg).1); clear hown4 hg4 hat4))
  all_goals
    go_wp2_with fail
    all_goals
      go_ret
      exact HFIN.out _ _ OW4.out HB4.out
set_option maxRecDepth 100000 in
set_option maxHeartbeats 4000000 in
theorem with_empty (ad : Addr) (c : Nat) (x : Int) (w : World) (hx : I64 x) :
    Calls Tryz.prog 84 #[.slice (some ad) 0 c, .int .i64 0, .int .i64 x] w (IntsR [x] w) := by
  obtain ⟨i0, hi0, hq0, hq1, hq2⟩ := info_parts int_info
  have k1 : (0 : Int) ≤ (c : Int) := by omega
  have HT : Hid (Reads w 0 1 (some ad) 0 ([] : List Value)) := ⟨rfl, fun h => absurd h (by omega)⟩
  have HD : Hid (Reads w 0 1 (some ad) 0 ([] : List Value)) := ⟨rfl, fun h => absurd h (by omega)⟩
  have HO1 : Hid (∀ u ∈ ([] : List Value), u.oneCell' = true) := fun u hu => by cases hu
  have HO2 : Hid (∀ u ∈ [Value.int .i64 x], u.oneCell' = true) := ints_one [x]
  have HO3 : Hid (∀ u ∈ ([] : List Value), u.oneCell' = true) := fun u hu => by cases hu
  have HC1 : Hid (0 + 0 ≤ maxLen) := Nat.zero_le _
  have HC2 : Hid ((0 + 0) * 8 ≤ 140737488355328) := by show _ ≤ _; omega
  have HC3 : Hid (0 + 0 + 1 ≤ maxLen) := by show _ ≤ _; unfold maxLen; omega
  have HC4 : Hid ((0 + 0 + 1) * 8 ≤ 140737488355328) := by show _ ≤ _; omega
  have HC5 : Hid (0 + 0 + 1 + 0 ≤ maxLen) := by show _ ≤ _; unfold maxLen; omega
  have HC6 : Hid ((0 + 0 + 1 + 0) * 8 ≤ 140737488355328) := by show _ ≤ _; omega
  have HFIN : Hid (∀ v4 w4, w4.ownsRow w.heap.size 3 1 v4 (0 + 0 + 1 + 0) ([] ++ ([] : List Value) ++ [.int .i64 x] ++ ([] : List Value)) → Below w.heap.size w w4 → IntsR [x] w (.returned v4) w4) := fun v4 w4 ho hb =>
    IntsR.of_own (L := [x]) ho rfl (by omega) (fun y hy => by obtain rfl := List.mem_singleton.1 hy; exact hx) hb
  have Ba : Hid (Below w.heap.size w (w.alloc (.cells #[] 3)).drew) := ((Below.refl _ _).alloc (Nat.le_refl _) _).drew
  have Oa : Hid (((w.alloc (.cells #[] 3)).drew).ownsRow w.heap.size 3 1 (.slice (some ⟨w.heap.size, 0, none⟩) 0 0) 0 []) := own_empty (Nat.le_refl _) (Blk.new _ _ _).drew
  have Ra : Hid (Reads ((w.alloc (.cells #[] 3)).drew) 0 1 (some ad) 0 (([] : List Value))) := HT.out.below (Ba.out.mono (Nat.zero_le _))
  have Za : Hid (w.heap.size ≤ ((w.alloc (.cells #[] 3)).drew).heap.size) := Ba.out.size
  have Bb : Hid (Below w.heap.size w ((w.alloc (.cells #[] 3)).alloc (.cells #[.int .i64 x] 3)).drew) := (((Below.refl _ _).alloc (Nat.le_refl _) _).alloc (by simp) _).drew
  have Ob : Hid ((((w.alloc (.cells #[] 3)).alloc (.cells #[.int .i64 x] 3)).drew).ownsRow w.heap.size 3 1 (.slice (some ⟨w.heap.size, 0, none⟩) 0 0) 0 []) := own_empty (Nat.le_refl _) ((Blk.new _ _ _).alloc _).drew
  have Rb : Hid (Reads (((w.alloc (.cells #[] 3)).alloc (.cells #[.int .i64 x] 3)).drew) 0 1 (some ad) 0 (([] : List Value))) := HT.out.below (Bb.out.mono (Nat.zero_le _))
  have Zb : Hid (w.heap.size ≤ (((w.alloc (.cells #[] 3)).alloc (.cells #[.int .i64 x] 3)).drew).heap.size) := Bb.out.size
  have Bc : Hid (Below w.heap.size w ((w.alloc (.cells #[.int .i64 x] 3)).alloc (.cells #[] 3)).drew) := (((Below.refl _ _).alloc (Nat.le_refl _) _).alloc (by simp) _).drew
  have Oc : Hid ((((w.alloc (.cells #[.int .i64 x] 3)).alloc (.cells #[] 3)).drew).ownsRow w.heap.size 3 1 (.slice (some ⟨w.heap.size + 1, 0, none⟩) 0 0) 0 []) := own_empty (Nat.le_succ _) (by have h := Blk.new (w.alloc (.cells #[.int .i64 x] 3)) 3 #[]; simp only [World.size_alloc] at h; exact h.drew)
  have Rc : Hid (Reads (((w.alloc (.cells #[.int .i64 x] 3)).alloc (.cells #[] 3)).drew) 0 1 (some ad) 0 (([] : List Value))) := HT.out.below (Bc.out.mono (Nat.zero_le _))
  have Zc : Hid (w.heap.size ≤ (((w.alloc (.cells #[.int .i64 x] 3)).alloc (.cells #[] 3)).drew).heap.size) := Bc.out.size
  have Xb : Hid (Blk (((w.alloc (.cells #[] 3)).alloc (.cells #[.int .i64 x] 3)).drew) (w.heap.size + 1) 3 #[.int .i64 x]) := by
    have h := Blk.new (w.alloc (.cells #[] 3)) 3 #[.int .i64 x]
    simp only [World.size_alloc] at h
    exact h.drew
  have Xc : Hid (Blk (((w.alloc (.cells #[.int .i64 x] 3)).alloc (.cells #[] 3)).drew) w.heap.size 3 #[.int .i64 x]) := ((Blk.new _ _ _).alloc _).drew
  go_enter Tryz.func84, Tryz.ntmps84
  go_upto_region 1 with fail
  go_region_law (first
    | (refine step_append_any _ (by rfl) _ _ _ (by rfl) w.heap.size 3 i0 (.int .i64 0) 1 8 Tryz.underlying34 hi0 hq0 hq1 hq2 rfl (by decide) (.slice (some ⟨w.heap.size, 0, none⟩) 0 0) 0 [] (by rfl) Oa.out 0 (some ad) 0 c (([] : List Value)) (by rfl) Ra.out HO1.out HC1.out HC2.out Za.out ?_; intro v2 w2 hown2 hg2 hat2; have OW2a := Lib.hid (hown2.alloc (.cells #[.int .i64 x] 3)); have RX2a : Hid (Reads (w2.alloc (.cells #[.int .i64 x] 3)) (w2.heap.size + 1) 1 (some ⟨w2.heap.size, 0, none⟩) 1 [.int .i64 x]) := Reads.blk (Blk.new _ _ _) rfl; have HB2 : Hid (Below w.heap.size w (w2.alloc (.cells #[.int .i64 x] 3))) := (Ba.out.grown hg2 Ba.out.size (fun g hg => by have := own_of hg; omega)).alloc (Nat.le_trans Ba.out.size hg2.size) _; have Z2 : Hid (w.heap.size ≤ (w2.alloc (.cells #[.int .i64 x] 3)).heap.size) := HB2.out.size; have V2 : Hid (∀ g, v2.ownBlock = some g → w.heap.size ≤ g) := fun g hg => (own_block_lt hown2 g hg).1; clear hown2 hg2 hat2)
    | (refine step_append_any _ (by rfl) _ _ _ (by rfl) w.heap.size 3 i0 (.int .i64 0) 1 8 Tryz.underlying34 hi0 hq0 hq1 hq2 rfl (by decide) (.slice (some ⟨w.heap.size, 0, none⟩) 0 0) 0 [] (by rfl) Ob.out 0 (some ad) 0 c (([] : List Value)) (by rfl) Rb.out HO1.out HC1.out HC2.out Zb.out ?_; intro v2 w2 hown2 hg2 hat2; have OW2b := Lib.hid hown2; have RX2b : Hid (Reads w2 (w.heap.size + 1 + 1) 1 (some ⟨w.heap.size + 1, 0, none⟩) 1 [.int .i64 x]) := Reads.blk (Xb.out.grown hg2 (fun e => by have := own_of e.symm; omega)) rfl; have HB2 : Hid (Below w.heap.size w w2) := Bb.out.grown hg2 Bb.out.size (fun g hg => by have := own_of hg; omega); have Z2 : Hid (w.heap.size ≤ w2.heap.size) := HB2.out.size; have V2 : Hid (∀ g, v2.ownBlock = some g → w.heap.size ≤ g) := fun g hg => (own_block_lt hown2 g hg).1; clear hown2 hg2 hat2)
    | (refine step_append_any _ (by rfl) _ _ _ (by rfl) w.heap.size 3 i0 (.int .i64 0) 1 8 Tryz.underlying34 hi0 hq0 hq1 hq2 rfl (by decide) (.slice (some ⟨w.heap.size + 1, 0, none⟩) 0 0) 0 [] (by rfl) Oc.out 0 (some ad) 0 c (([] : List Value)) (by rfl) Rc.out HO1.out HC1.out HC2.out Zc.out ?_; intro v2 w2 hown2 hg2 hat2; have OW2c := Lib.hid hown2; have RX2c : Hid (Reads w2 (w.heap.size + 1) 1 (some ⟨w.heap.size, 0, none⟩) 1 [.int .i64 x]) := Reads.blk (Xc.out.grown hg2 (fun e => by have := own_of e.symm; omega)) rfl; have HB2 : Hid (Below w.heap.size w w2) := Bc.out.grown hg2 Bc.out.size (fun g hg => by have := own_of hg; omega); have Z2 : Hid (w.heap.size ≤ w2.heap.size) := HB2.out.size; have V2 : Hid (∀ g, v2.ownBlock = some g → w.heap.size ≤ g) := fun g hg => (own_block_lt hown2 g hg).1; clear hown2 hg2 hat2)
    | (refine step_append_any _ (by rfl) _ _ _ (by rfl) w.heap.size 3 i0 (.int .i64 0) 1 8 Tryz.underlying34 hi0 hq0 hq1 hq2 rfl (by decide) v2 (0 + 0) ([] ++ ([] : List Value)) (by rfl) OW2a.out (w2.heap.size + 1) (some ⟨w2.heap.size, 0, none⟩) 1 1 [.int .i64 x] (by rfl) RX2a.out HO2.out HC3.out HC4.out Z2.out ?_; intro v3 w3 hown3 hg3 hat3; have OW3 := Lib.hid hown3; have HB3 : Hid (Below w.heap.size w w3) := HB2.out.grown hg3 HB2.out.size (fun g hg => V2.out g hg); have R3 := Lib.hid (HD.out.below (HB3.out.mono (Nat.zero_le _))); have Z3 : Hid (w.heap.size ≤ w3.heap.size) := HB3.out.size; clear hown3 hg3 hat3)
    | (refine step_append_any _ (by rfl) _ _ _ (by rfl) w.heap.size 3 i0 (.int .i64 0) 1 8 Tryz.underlying34 hi0 hq0 hq1 hq2 rfl (by decide) v2 (0 + 0) ([] ++ ([] : List Value)) (by rfl) OW2b.out (w.heap.size + 1 + 1) (some ⟨w.heap.size + 1, 0, none⟩) 1 1 [.int .i64 x] (by rfl) RX2b.out HO2.out HC3.out HC4.out Z2.out ?_; intro v3 w3 hown3 hg3 hat3; have OW3 := Lib.hid hown3; have HB3 : Hid (Below w.heap.size w w3) := HB2.out.grown hg3 HB2.out.size (fun g hg => V2.out g hg); have R3 := Lib.hid (HD.out.below (HB3.out.mono (Nat.zero_le _))); have Z3 : Hid (w.heap.size ≤ w3.heap.size) := HB3.out.size; clear hown3 hg3 hat3)
    | (refine step_append_any _ (by rfl) _ _ _ (by rfl) w.heap.size 3 i0 (.int .i64 0) 1 8 Tryz.underlying34 hi0 hq0 hq1 hq2 rfl (by decide) v2 (0 + 0) ([] ++ ([] : List Value)) (by rfl) OW2c.out (w.heap.size + 1) (some ⟨w.heap.size, 0, none⟩) 1 1 [.int .i64 x] (by rfl) RX2c.out HO2.out HC3.out HC4.out Z2.out ?_; intro v3 w3 hown3 hg3 hat3; have OW3 := Lib.hid hown3; have HB3 : Hid (Below w.heap.size w w3) := HB2.out.grown hg3 HB2.out.size (fun g hg => V2.out g hg); have R3 := Lib.hid (HD.out.below (HB3.out.mono (Nat.zero_le _))); have Z3 : Hid (w.heap.size ≤ w3.heap.size) := HB3.out.size; clear hown3 hg3 hat3)
    | (refine step_append_any _ (by rfl) _ _ _ (by rfl) w.heap.size 3 i0 (.int .i64 0) 1 8 Tryz.underlying34 hi0 hq0 hq1 hq2 rfl (by decide) v3 (0 + 0 + 1) ([] ++ ([] : List Value) ++ [.int .i64 x]) (by rfl) OW3.out 0 (some ad) 0 c (([] : List Value)) (by rfl) R3.out HO3.out HC5.out HC6.out Z3.out ?_; intro v4 w4 hown4 hg4 hat4; have OW4 := Lib.hid hown4; have HB4 : Hid (Below w.heap.size w w4) := HB3.out.grown hg4 HB3.out.size (fun g hg => (own_block_lt OW3.out g hg).1); clear hown4 hg4 hat4))
  all_goals
    go_wp2_with fail
    all_goals
      go_ret
      exact HFIN.out _ _ OW4.out HB4.out
/-- the reference's with -/
theorem withI_any (l : List Int) (A : Option Addr) (n c i : Nat) (x : Int) (w : World) (B : Nat) (hB : B ≤ w.heap.size) (h : RIn w B (.slice A n c) l) (hi : i ≤ n) (hs : n ≤ 99999) (hx : I64 x) :
    Calls Tryz.prog 84 #[.slice A n c, .int .i64 i, .int .i64 x] w (IntsR (plusK l i x) w) := by
  cases A with
  | none =>
    have h0 : n = 0 := Nat.eq_zero_of_not_pos fun h0 => by
      obtain ⟨ad, e, _⟩ := h.reads.2 h0
      cases e
    subst h0
    obtain rfl : i = 0 := Nat.le_zero.1 hi
    obtain rfl : l = [] := List.eq_nil_of_length_eq_zero h.len.1.symm
    exact with_none c x w hx
  | some ad =>
    by_cases h0 : 0 < n
    · obtain ⟨b', off', e', _⟩ := h.reads.plain h0 (by omega)
      obtain rfl := Option.some.inj e'
      exact with_some l b' off' n c i x w B hB h hi hs hx
    · obtain rfl : n = 0 := by omega
      obtain rfl : i = 0 := Nat.le_zero.1 hi
      obtain rfl : l = [] := List.eq_nil_of_length_eq_zero h.len.1.symm
      exact with_empty ad c x w hx
end Go.Proofs.YtmkicfjcgbfaaaaGreat
