/-
  DERIVED. The walk of show.Changes at two lists in order: the changes, sorted. Conditions: the sort's law. By an AI agent.
-/
import Derived.Test.YtnmgigfhcanplaaChLaws
import Derived.Deep.DeepCutAuto
namespace Go.Proofs.Ytnmgigfhcanplaa
open Go.RowKit Go.Maps

theorem row_ne_none {w : World} {B n : Nat} {e : TypeId} {v : Value} {xs : List Value} (_h : w.ownsRow B e 2 v n xs) : v.ownBlock = none ∨ v.ownBlock ≠ none := by
  cases v.ownBlock with
  | none => exact .inl rfl
  | some g => exact .inr (by simp)
theorem row_ne_iter {P : Program} {k e : TypeId} {R : Value → Option (DU × List MemPlace)} {w : World} {b r n B m : Nat} {D : DU} {left : Lit → Bool} {cnt : Nat} {v : Value} {xs : List Value} (h : w.ranges P k R b r n D left cnt) (hr : w.ownsRow B e 2 v m xs) : some r ≠ v.ownBlock := by
  obtain ⟨es, _, since, seen, c0, _, _, _, _, hi, _⟩ := h
  rcases hr.2 with ⟨hv, _⟩ | ⟨g, cap, cur, hv, _, hg, _⟩
  · rw [hv]; simp [Value.ownBlock]
  · rw [hv]
    intro e
    simp [Value.ownBlock] at e
    subst e
    rw [hi] at hg; cases hg
theorem row_aside' {w w' : World} {B n r : Nat} {e : TypeId} {v : Value} {xs : List Value} (h : w.ownsRow B e 2 v n xs) (hg : w.grownBy w' (some r)) (hne : some r ≠ v.ownBlock) : w'.ownsRow B e 2 v n xs := h.kept hg (.inr (fun e => hne e.symm))
theorem own_slice {w : World} {B s n : Nat} {e : TypeId} {v : Value} {xs : List Value} (h : w.ownsRow B e s v n xs) : ∃ A c, v = .slice A n c ∧ n ≤ c := by
  rcases h.2 with ⟨hv, hz⟩ | ⟨g, cap, cur, hv, _, _, hn, _⟩
  · exact ⟨none, 0, by rw [hv, hz], by omega⟩
  · exact ⟨_, _, hv, hn⟩
theorem ranges_le {P : Program} {k : TypeId} {R : Value → Option (DU × List MemPlace)} {w : World} {b r n : Nat} {D : DU} {left : Lit → Bool} {cnt : Nat} (h : w.ranges P k R b r n D left cnt) : cnt ≤ n := by
  obtain ⟨es, _, since, seen, _, _, _, hs, _, _, _, hc, _⟩ := h
  have : (leftOf es seen).size ≤ es.size := by unfold leftOf; exact Array.size_filter_le
  omega
theorem row_aside {w w' : World} {B b n : Nat} {e : TypeId} {v : Value} {xs : List Value} (h : w.ownsRow B e 2 v n xs) (hg : w.grownBy w' (some b)) (hb : b < B) : w'.ownsRow B e 2 v n xs :=
  h.kept hg (by
    cases hv : v.ownBlock with
    | none => exact .inl rfl
    | some g => exact .inr (by intro e; injection e with e; have := (h.lt g hv).1; omega))

set_option maxHeartbeats 8000000 in
set_option maxRecDepth 100000 in
theorem changes_ok (SF : SortLaw) (A1 A2 : Option Addr) (c1 c2 : Nat) (L1 L2 : List F) (w : World) (hr1 : Reads w w.heap.size 2 A1 L1.length (rowsF L1)) (hr2 : Reads w w.heap.size 2 A2 L2.length (rowsF L2))
    (hl1 : L1.length ≤ 500) (hl2 : L2.length ≤ 500) (h1 : okF L1) (h2 : okF L2) (hs1 : ∀ f ∈ L1, f.1.size ≤ maxLen ∧ f.2.size ≤ maxLen) (hs2 : ∀ f ∈ L2, f.1.size ≤ maxLen ∧ f.2.size ≤ maxLen) :
    Calls Try.prog 4 #[.slice A1 L1.length c1, .slice A2 L2.length c2] w fun e w' => ∃ A, e = .returned (.tuple #[.slice A (mergeC L1 L2).length (mergeC L1 L2).length, .int .i64 0]) ∧
      Reads w' w'.heap.size 2 A (mergeC L1 L2).length (rowsC (mergeC L1 L2)) ∧ Below w.heap.size w w' := by
  obtain ⟨i0, hi, hz0, hz1, hz2⟩ := info_parts ch_info
  have K1 := checkFiles_any A1 c1 L1 w w.heap.size hr1 (Nat.le_refl _) hl1
  rw [okC_yes h1] at K1
  have K1 := Lib.hid K1
  have K2 : Hid (∀ w', Below w.heap.size w w' → Calls Try.prog 8 #[.slice A2 L2.length c2] w' fun e w'' => e = .returned (.int .i64 0) ∧ Below w'.heap.size w' w'') :=
    fun w' hb => by have := checkFiles_any A2 c2 L2 w' w.heap.size (hr2.below hb) hb.size hl2; rwa [okC_yes h2] at this
  have HR1 := Lib.hid hr1
  have HR2 := Lib.hid hr2
  have HS1 := Lib.hid hs1
  have HS2 := Lib.hid hs2
  have OK1 := Lib.hid h1
  have OK2 := Lib.hid h2
  obtain ⟨M, hM⟩ : ∃ M, M = mergeC L1 L2 := ⟨_, rfl⟩
  have HM : Hid ((∀ x, x ∈ M ↔ says L1 L2 x) ∧ M.Pairwise fun x y => bl x.1 y.1 = true) := by
    show _ ∧ _
    rw [hM]
    exact ⟨mem_merge _ L1 L2 rfl h1 h2, merge_sorted _ L1 L2 rfl h1 h2⟩
  rw [← hM]
  obtain ⟨n1, hn1⟩ : ∃ n, n = L1.length := ⟨_, rfl⟩
  obtain ⟨n2, hn2⟩ : ∃ n, n = L2.length := ⟨_, rfl⟩
  rw [← hn1] at hl1 K1 ⊢
  rw [← hn2] at hl2 K2 ⊢
  have HN1 := Lib.hid hn1
  have HN2 := Lib.hid hn2
  have i1 : ¬ (500 : Int) < (n1 : Int) := by omega
  have i2 : ¬ (500 : Int) < (n2 : Int) := by omega
  have hmm := @run_makeMap Try.prog
  have SFH := Lib.hid SF
  clear hr1 hr2 hn1 hn2 hs1 hs2 h1 h2 hM SF
  go_enter Try.func4, Try.ntmps4
  go_wp2_with fail
  refine K1.out.mono ?_
  rintro e w1 ⟨rfl, hb1⟩
  have R1 := Lib.hid hb1
  clear hb1 K1
  go_wp2_with fail
  refine (K2.out _ R1.out).mono ?_
  rintro e w2 ⟨rfl, hb2⟩
  have R2 := Lib.hid (R1.out.trans (hb2.mono R1.out.size))
  clear hb2 R1 K2
  have hz2w := R2.out.size
  go_wp2_with fail
  have KS : Hid (Keyed Try.prog 9) := string_keyed Try.underlying9
  go_loopg [34] n1 (fun gg s34 wr => ∃ (i : Nat) (D : DU), i + gg = n1 ∧ s34 = .int .i64 (i : Int) ∧ Hid (MapIs (L1.take i) [] D) ∧ wr.ownsMap Try.prog 9 (plainElem Try.prog 9) w2.heap.size i D ∧ Below w2.heap.size w2 wr)
  case atStart => exact ⟨0, .map [], by omega, rfl, MapIs.start, World.ownsMap_made _ _ _ _, (Below.refl _ _).alloc (Nat.le_refl _) _⟩
  case round =>
    obtain ⟨i, D, hig, rfl, hmi, hown, hbel⟩ := hrel
    have hzz := hbel.size
    by_cases hin : i < n1
    · have hil : i < L1.length := by rw [← HN1.out]; exact hin
      obtain ⟨ad, rfl, hab, k0, k1⟩ := HR1.out.file hil
      replace k0 := ((R2.out.trans (hbel.mono hz2w)).cell (p := ad.add (i * 2)) (by rw [block_of_add]; exact hab)).trans k0
      replace k1 := ((R2.out.trans (hbel.mono hz2w)).cell (p := ad.add (i * 2 + 1)) (by rw [block_of_add]; exact hab)).trans k1
      have k2 : wr.cell? ((ad.add (i * 2)).add 1) = some (.string L1[i].2) := by rw [add_of_add]; exact k1
      have k3 : wr.cell? ⟨(ad.add (i * 2)).block, (ad.add (i * 2)).off + 1, none⟩ = some (.string L1[i].2) := k2
      have k4 : wr.cell? ⟨ad.block, (ad.add (i * 2)).off + 1, none⟩ = some (.string L1[i].2) := by rw [← k3, block_of_add]
      have hsz := HS1.out _ (List.getElem_mem hil)
      have hfr := OK1.out.fresh hil
      have htk : L1.take (i + 1) = L1.take i ++ [L1[i]] := by rw [List.take_add_one, List.getElem?_eq_getElem hil]; rfl
      obtain ⟨f, hf⟩ : ∃ f, f = L1[i] := ⟨_, rfl⟩
      rw [← hf] at k0 k1 k2 k3 k4 hsz hfr htk
      have HB := Lib.hid hbel
      have HT : Hid (MapIs (L1.take (i + 1)) [] (D.put (key f.1) (bod f.2))) := by
        show MapIs _ _ _
        rw [htk]; exact hmi.out.put f hfr trivial
      have j1 : (i : Int) < (n1 : Int) := by omega
      have j0 : (0 : Int) ≤ (i : Int) := by omega
      have hkey := Go.WideMaps.keyOf_string_mk Try.underlying9 hsz.1
      have hval := plainElem_string (H := Unit) Try.underlying9 hsz.2
      have HK := Lib.hid hkey
      have HV := Lib.hid hval
      clear hf hbel hfr htk hsz hkey hval
      go_wp2_with (at_mapUpdate; refine wpList_mapUpdate_own _ rfl _ _ _ 34 rfl 9 9 KS.out Try.underlying34 (plainElem Try.prog 9) w2.heap.size i D rfl (hown.alloc _) (by unfold maxLen; omega) _ _ (key f.1) rfl rfl HK.out (bod f.2) [] HV.out ?_; intro w7 hown7 hg7)
      have R : Hid (Below w2.heap.size w2 w7) := (HB.out.alloc hzz _).grown hg7 (by simp; omega) (fun g h => by injection h with h; omega)
      clear hg7 hown
      go_wp2_with fail
      go_roundg (n1 - (i + 1))
      case measure => omega
      case rel => exact ⟨i + 1, _, by omega, by go_num, HT.out, hown7, R.out⟩
    · obtain rfl : n1 = i := by omega
      have HMI : Hid (MapIs L1 [] D) := by
        have := hmi.out
        rw [List.take_of_length_le (by rw [HN1.out]; exact Nat.le_refl _)] at this
        exact this
      have HB := Lib.hid hbel
      clear hmi hbel
      obtain ⟨wo, rfl⟩ : ∃ wo : World, wo = wr := ⟨_, rfl⟩
      go_wp2_with fail
      go_loopg [46, 9] n2 (fun gg s46 s9 wr => ∃ (i : Nat) (out : List C) (k : Nat) (D : DU), i + gg = n2 ∧ s46 = .int .i64 (i : Int) ∧ Hid (MapIs L1 (L2.take i) D) ∧ Hid (Out2 L1 (L2.take i) out) ∧ out.length = k ∧ k ≤ i ∧
        wr.ownsMap Try.prog 9 (plainElem Try.prog 9) w2.heap.size n1 D ∧ wr.ownsRow (w2.heap.size + 1) 30 2 s9 k (rowsC out) ∧ Below w2.heap.size w2 wr)
      case atStart => exact ⟨0, [], 0, D, by omega, rfl, HMI.out, Out2.start L1, rfl, Nat.le_refl _, hown, World.ownsRow_nil _ _ _ _, HB.out⟩
      case round =>
        clear hown HMI HB
        obtain ⟨i, out, k, D, hig, rfl, hmi, hou, hkl, hki, hown, hrow, hbel⟩ := hrel
        have hzz := hbel.size
        by_cases hin : i < n2
        · have hil : i < L2.length := by rw [← HN2.out]; exact hin
          obtain ⟨ad, rfl, hab, k0, k1⟩ := HR2.out.file hil
          replace k0 := ((R2.out.trans (hbel.mono hz2w)).cell (p := ad.add (i * 2)) (by rw [block_of_add]; exact hab)).trans k0
          replace k1 := ((R2.out.trans (hbel.mono hz2w)).cell (p := ad.add (i * 2 + 1)) (by rw [block_of_add]; exact hab)).trans k1
          have k2 : wr.cell? ((ad.add (i * 2)).add 1) = some (.string L2[i].2) := by rw [add_of_add]; exact k1
          have k3 : wr.cell? ⟨(ad.add (i * 2)).block, (ad.add (i * 2)).off + 1, none⟩ = some (.string L2[i].2) := k2
          have hsz := HS2.out _ (List.getElem_mem hil)
          have hfr := OK2.out.fresh hil
          have htk : L2.take (i + 1) = L2.take i ++ [L2[i]] := by rw [List.take_add_one, List.getElem?_eq_getElem hil]; rfl
          obtain ⟨f, hf⟩ : ∃ f, f = L2[i] := ⟨_, rfl⟩
          rw [← hf] at k0 k1 k2 k3 hsz hfr htk
          have HB := Lib.hid hbel
          have HT : Hid (MapIs L1 (L2.take (i + 1)) (D.del (key f.1))) := by
            show MapIs _ _ _
            rw [htk]; exact hmi.out.del f
          have HTK := Lib.hid htk
          have HFR := Lib.hid hfr
          have HKL := Lib.hid hkl
          have hrl := hrow.lt
          have HRL := Lib.hid hrl
          have j1 : (i : Int) < (n2 : Int) := by omega
          have j0 : (0 : Int) ≤ (i : Int) := by omega
          have hkey := WideMaps.keyOf_string_mk Try.underlying9 hsz.1
          have HK := Lib.hid hkey
          clear hf hbel hfr htk hsz hkey hkl hrl k1 k2
          by_cases hin1 : inP L1 f.1
          · obtain ⟨b, hb⟩ := hin1
            have hh : Maps.has D (key f.1) = true := (hmi.out.has f.1).2 ⟨⟨b, hb⟩, HFR.out⟩
            have HH := Lib.hid hh
            have HA : Hid (∀ z, D.atKey (key f.1) z = bod b) := hmi.out.body f.1 b hb HFR.out
            by_cases hbf : b = f.2
            · have HO : Hid (Out2 L1 (L2.take (i + 1)) out) := by
                show Out2 _ _ _
                rw [HTK.out]; exact hou.out.same OK1.out f (by rw [hbf] at hb; exact hb)
              have f2 : (b.toList == f.2.toList) = true := by rw [hbf]; simp
              clear hh hb hbf
              go_upto_region 20 with (at_lookup; refine look_hit _ rfl _ _ 34 rfl 9 9 KS.out Try.underlying34 Try.underlying9 (Try.zeroValue9 _) w2.heap.size n1 D rfl (hown.alloc _) _ (key f.1) rfl HK.out HH.out b HA.out ?_)
              go_wp2_with (at_delete; refine wpList_delete_own _ rfl _ _ 34 9 rfl 9 KS.out Try.underlying34 (plainElem Try.prog 9) w2.heap.size n1 D rfl (hown.alloc _) _ (key f.1) rfl HK.out ?_; intro w8 hown8 hturn8)
              have RB : Hid (Below w2.heap.size w2 w8) := (HB.out.alloc hzz _).grown hturn8.grown ((HB.out.alloc hzz _).size) (fun g h => by injection h with h; omega)
              have RR := row_aside (hrow.alloc _) hturn8.grown (by omega)
              clear hturn8
              go_wp2_with fail
              go_roundg (n2 - (i + 1))
              case measure => omega
              case rel => exact ⟨i + 1, out, k, _, by omega, by go_num, HT.out, HO.out, by simp [HKL.out], by omega, hown8, RR, RB.out⟩
            · have HO : Hid (Out2 L1 (L2.take (i + 1)) (out ++ [(f.1, 2)])) := by
                show Out2 _ _ _
                rw [HTK.out]; exact hou.out.other f HFR.out hb hbf
              have f2 : (b.toList == f.2.toList) = false := by
                cases hx : b.toList == f.2.toList
                · rfl
                · exact absurd (tl_inj (by simpa using hx)) hbf
              clear hh hb hbf
              go_upto_region 20 with (first | (at_lookup; refine look_hit _ rfl _ _ 34 rfl 9 9 KS.out Try.underlying34 Try.underlying9 (Try.zeroValue9 _) w2.heap.size n1 D rfl (hown.alloc _) _ (key f.1) rfl HK.out HH.out b HA.out ?_) | (at_builtin; refine wpList_append_own_at _ rfl _ _ 23 rfl (w2.heap.size + 1) 30 i0 chZ 2 24 Try.underlying23 hi hz0 hz1 hz2 rfl (by decide) _ k _ rfl ((hrow.alloc _).alloc _) ⟨wr.heap.size + 1, 0, none⟩ 1 1 [.string f.1, .int .i64 2] rfl rfl (new_cells _ _ [.string f.1, .int .i64 2] _ (by simp)) (ch_one (f.1, 2)) (by unfold maxLen; omega) (by omega) (by simp; omega) ?_; intro v7 w7 hown7 hg7 _ _))
              have HM7 := ((hown.alloc _).alloc _).kept hg7 (by intro e; have := (HRL.out _ e.symm).1; omega)
              have HC7 : w7.cell? ⟨wr.heap.size, 0, none⟩ = some (.string f.1) := by
                rw [hg7.cell_far ⟨wr.heap.size, 0, none⟩ (by simp; omega) (by intro e; exact absurd (HRL.out wr.heap.size e.symm).2 (Nat.lt_irrefl _)), World.cell?_alloc_lt _ _ _ (by simp)]
                exact ((Blk.new wr 36 #[.string f.1, .string f.2]).cell 0).trans rfl
              have HB7 : Below w2.heap.size w2 w7 := ((HB.out.alloc hzz _).alloc (by simp; omega) _).grown hg7 (by simp; omega) (fun g h => by have := (HRL.out g h).1; omega)
              have HR7 : w7.ownsRow (w2.heap.size + 1) 30 2 v7 (k + 1) (rowsC (out ++ [(f.1, 2)])) := by rw [rowsC_snoc]; exact hown7
              clear hg7 hown7 hrow hown
              go_wp2_with (at_delete; refine wpList_delete_own _ rfl _ _ 34 9 rfl 9 KS.out Try.underlying34 (plainElem Try.prog 9) w2.heap.size n1 D rfl HM7 _ (key f.1) rfl HK.out ?_; intro w8 hown8 hturn8)
              have RB : Hid (Below w2.heap.size w2 w8) := HB7.grown hturn8.grown (HB7.size) (fun g h => by injection h with h; omega)
              have RR := row_aside HR7 hturn8.grown (by omega)
              clear hturn8
              go_wp2_with fail
              go_roundg (n2 - (i + 1))
              case measure => omega
              case rel => exact ⟨i + 1, (out ++ [(f.1, 2)]), (k + 1), _, by omega, by go_num, HT.out, HO.out, by simp [HKL.out], by omega, hown8, RR, RB.out⟩
          · have hh : Maps.has D (key f.1) = false := by
              cases hx : Maps.has D (key f.1)
              · rfl
              · exact absurd ((hmi.out.has f.1).1 hx).1 hin1
            have HH := Lib.hid hh
            have HO : Hid (Out2 L1 (L2.take (i + 1)) (out ++ [(f.1, 1)])) := by
              show Out2 _ _ _
              rw [HTK.out]; exact hou.out.new f HFR.out hin1
            clear hh hin1
            go_upto_region 20 with (first | (at_lookup; refine look_miss _ rfl _ _ 34 rfl 9 9 KS.out Try.underlying34 Try.underlying9 (Try.zeroValue9 _) w2.heap.size n1 D rfl (hown.alloc _) _ (key f.1) rfl HK.out HH.out ?_) | (at_builtin; refine wpList_append_own_at _ rfl _ _ 23 rfl (w2.heap.size + 1) 30 i0 chZ 2 24 Try.underlying23 hi hz0 hz1 hz2 rfl (by decide) _ k _ rfl ((hrow.alloc _).alloc _) ⟨wr.heap.size + 1, 0, none⟩ 1 1 [.string f.1, .int .i64 1] rfl rfl (new_cells _ _ [.string f.1, .int .i64 1] _ (by simp)) (ch_one (f.1, 1)) (by unfold maxLen; omega) (by omega) (by simp; omega) ?_; intro v7 w7 hown7 hg7 _ _))
            have HM7 := ((hown.alloc _).alloc _).kept hg7 (by intro e; have := (HRL.out _ e.symm).1; omega)
            have HC7 : w7.cell? ⟨wr.heap.size, 0, none⟩ = some (.string f.1) := by
              rw [hg7.cell_far ⟨wr.heap.size, 0, none⟩ (by simp; omega) (by intro e; exact absurd (HRL.out wr.heap.size e.symm).2 (Nat.lt_irrefl _)), World.cell?_alloc_lt _ _ _ (by simp)]
              exact ((Blk.new wr 36 #[.string f.1, .string f.2]).cell 0).trans rfl
            have HB7 : Below w2.heap.size w2 w7 := ((HB.out.alloc hzz _).alloc (by simp; omega) _).grown hg7 (by simp; omega) (fun g h => by have := (HRL.out g h).1; omega)
            have HR7 : w7.ownsRow (w2.heap.size + 1) 30 2 v7 (k + 1) (rowsC (out ++ [(f.1, 1)])) := by rw [rowsC_snoc]; exact hown7
            clear hg7 hown7 hrow hown
            go_wp2_with (at_delete; refine wpList_delete_own _ rfl _ _ 34 9 rfl 9 KS.out Try.underlying34 (plainElem Try.prog 9) w2.heap.size n1 D rfl HM7 _ (key f.1) rfl HK.out ?_; intro w8 hown8 hturn8)
            have RB : Hid (Below w2.heap.size w2 w8) := HB7.grown hturn8.grown (HB7.size) (fun g h => by injection h with h; omega)
            have RR := row_aside HR7 hturn8.grown (by omega)
            clear hturn8
            go_wp2_with fail
            go_roundg (n2 - (i + 1))
            case measure => omega
            case rel => exact ⟨i + 1, (out ++ [(f.1, 1)]), (k + 1), _, by omega, by go_num, HT.out, HO.out, by simp [HKL.out], by omega, hown8, RR, RB.out⟩
        · obtain rfl : n2 = i := by omega
          have HMI : Hid (MapIs L1 L2 D) := by
            have := hmi.out
            rw [List.take_of_length_le (by rw [HN2.out]; exact Nat.le_refl _)] at this
            exact this
          have HOU : Hid (Out2 L1 L2 out) := by
            have := hou.out
            rw [List.take_of_length_le (by rw [HN2.out]; exact Nat.le_refl _)] at this
            exact this
          have HB := Lib.hid hbel
          have HKL := Lib.hid hkl
          clear hmi hou hbel hkl
          obtain ⟨wq, rfl⟩ : ∃ wq : World, wq = wr := ⟨_, rfl⟩
          have hnr := row_ne_none hrow
          go_wp2_with (at_range; refine wpList_range_own _ rfl _ _ rfl 9 9 KS.out Try.underlying34 (plainElem Try.prog 9) w2.heap.size n1 D rfl hown ?_; intro w3 hrg3 hg3 hs3)
          go_frame
          have HR3 := hrow.kept hg3 hnr
          have HB3 : Below w2.heap.size w2 w3 := HB.out.grown hg3 hzz (fun g h => by cases h)
          have hcn := ranges_le hrg3
          clear hg3 hrow hown hnr
          go_loopg [9] (Maps.size D) (fun gg s9 wr => ∃ (T : List C) (left : Lit → Bool) (cnt k : Nat), cnt = gg ∧ Hid (Out3 L1 L2 left T) ∧ T.length + cnt ≤ n1 ∧ out.length + T.length = k ∧
            wr.ranges Try.prog 9 (plainElem Try.prog 9) w2.heap.size wq.heap.size n1 D left cnt ∧ wr.ownsRow (w2.heap.size + 1) 30 2 s9 k (rowsC (out ++ T)) ∧ Below w2.heap.size w2 wr)
          case atStart => exact ⟨[], Maps.has D, _, k, rfl, Out3.start HMI.out, by simpa using hcn, by simpa using HKL.out, hrg3, by simpa using HR3, HB3⟩
          case round =>
            clear HR3 HB3 hrg3 hcn
            obtain ⟨T, left, cnt, k, rfl, ho3, htc, hkl, hrg, hrow, hbel⟩ := hrel
            have hzz := hbel.size
            have HB := Lib.hid hbel
            have HKL := Lib.hid hkl
            have hri := row_ne_iter hrg hrow
            have hrl := hrow.lt
            have HRL := Lib.hid hrl
            have HRI := Lib.hid hri
            have hos := HOU.out.short
            have hk9 : k ≤ 1000 := by have := HN2.out; omega
            clear hbel hkl hrl hri
            go_wp2_with (at_next; refine next_ss _ rfl _ rfl 9 9 KS.out Try.underlying9 Try.underlying9 w2.heap.size wq.heap.size n1 D left cnt rfl hrg ?_ ?_)
            · intro _ hl0
              have RR := Lib.hid (out_says HOU.out ho3.out hl0)
              obtain ⟨A, c, rfl, hnc⟩ := own_slice hrow
              have hzr : w2.heap.size + 1 ≤ wr.heap.size := hrg.owns.lt
              have HROW := Lib.hid hrow
              clear hrg hrow
              go_wp2_with fail
              refine (SFH.out _ (out ++ T) M wr (w2.heap.size + 1) (by rw [List.length_append, HKL.out]; exact HROW.out) hzr (fun x => (HM.out.1 x).trans (RR.out.1 x).symm) RR.out.2 HM.out.2 (by rw [List.length_append, HKL.out]; exact hk9)).mono ?_
              rintro e w6 ⟨rfl, hown6, hlen, hb6⟩
              rw [List.length_append, HKL.out] at hown6 hlen
              have HLEN := Lib.hid hlen
              have RD := Lib.hid (Reads.of_own hown6)
              have RB : Hid (Below w.heap.size w w6) := R2.out.trans ((HB.out.trans (hb6.mono (by omega))).mono hz2w)
              clear hown6 hlen hb6
              go_wp2_with fail
              refine (clip_any A k c _ hnc (by omega)).mono ?_
              rintro e w9 ⟨rfl, rfl⟩
              go_wp2_with fail
              go_ret2
              exact ⟨A, by rw [HLEN.out]; rfl, by rw [HLEN.out]; exact RD.out, RB.out⟩
            · intro x c w5 cnt5 hx hhas hlx hrg5 hlt5 hg5 hs5 hen5
              have HTC := Lib.hid htc
              have HO3 := Lib.hid (ho3.out.step ((HMI.out.has x).1 hhas) hlx)
              have hrow5 := row_aside' hrow hg5 HRI.out
              have HRG5 := Lib.hid hrg5
              have HB5 : Hid (Below w2.heap.size w2 w5) := HB.out.grown hg5 hzz (fun g h => by injection h with h; omega)
              have HS5 := Lib.hid hs5
              have hz5 := hrg5.owns.lt
              clear hrg hrow hg5 hhas hlx hrg5 hs5 hos htc
              go_wp2_with (at_builtin; refine wpList_append_own_at _ rfl _ _ 23 rfl (w2.heap.size + 1) 30 i0 chZ 2 24 Try.underlying23 hi hz0 hz1 hz2 rfl (by decide) _ k _ rfl (hrow5.alloc _) ⟨w5.heap.size, 0, none⟩ 1 1 [.string x, .int .i64 3] rfl rfl (new_cells _ _ [.string x, .int .i64 3] _ (by simp)) (ch_one (x, 3)) (by unfold maxLen; omega) (by omega) (by simp; omega) ?_; intro v7 w7 hown7 hg7 _ _)
              have HRG7 := (HRG5.out.alloc _).kept hg7 (fun e => by have := (HRL.out _ e.symm).1; omega) (fun e => HRI.out e)
              have HB7 : Below w2.heap.size w2 w7 := (HB5.out.alloc (by omega) _).grown hg7 (by simp; omega) (fun g h => by have := (HRL.out g h).1; omega)
              have HR7 : w7.ownsRow (w2.heap.size + 1) 30 2 v7 (k + 1) (rowsC (out ++ (T ++ [(x, 3)]))) := by rw [← List.append_assoc, rowsC_snoc]; exact hown7
              go_roundg cnt5
              case measure => exact hlt5
              case rel => exact ⟨T ++ [(x, 3)], _, cnt5, k + 1, rfl, HO3.out, by have := HTC.out; simp; omega, by have := HKL.out; simp; omega, HRG7, HR7, HB7⟩
end Go.Proofs.Ytnmgigfhcanplaa
