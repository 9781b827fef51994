/-
  DERIVED. The walks of florref1.PartsOf and TextError, of slices.Equal at two rows of one list of spans. Conditions: the text's size. By an AI agent.
-/
import Derived.Test.YtcbmddgafkoooaaGreatDoorSpansRef2
import Derived.Test.YtcbmddgafkoooaaGreatDoorCheckText
import Derived.Laws.StructEq
namespace Go.Proofs.YtcbmddgafkoooaaGreatDoor
open Go.RowKit

set_option maxHeartbeats 400000 in
theorem textError_any (s : ByteArray) (w : World) (hs : s.size ≤ 140737488351232) :
    Calls Tryz.prog 6 #[.string s] w fun e w' => e = .returned (.int .i64 (chkE s)) ∧ w = w' := by
  by_cases h : 2000 < s.size
  · have HV : Hid (chkE s = 4) := by show _ = _; unfold chkE; rw [if_pos h]
    have h' : (2000 : Int) < (s.size : Int) := by omega
    clear h
    go_enter Tryz.func6, Tryz.ntmps6
    go_wp2
    go_ret
    exact ⟨by rw [HV.out]; rfl, rfl⟩
  · have h' : ¬ (2000 : Int) < (s.size : Int) := by omega
    cases hc : ctl s
    · have HV : Hid (chkE s = 0) := by show _ = _; unfold chkE; rw [if_neg h, if_neg (by rw [hc]; decide)]
      clear h
      go_enter Tryz.func6, Tryz.ntmps6
      go_wp2_with fail
      refine (below_any s _ hs).mono ?_
      rintro e w1 ⟨rfl, hw⟩
      rw [hc, ← hw]
      clear hw
      go_wp2
      go_ret
      exact ⟨by rw [HV.out]; rfl, rfl⟩
    · have HV : Hid (chkE s = 9) := by show _ = _; unfold chkE; rw [if_neg h, if_pos hc]
      clear h
      go_enter Tryz.func6, Tryz.ntmps6
      go_wp2_with fail
      refine (below_any s _ hs).mono ?_
      rintro e w1 ⟨rfl, hw⟩
      rw [hc, ← hw]
      clear hw
      go_wp2
      go_ret
      exact ⟨by rw [HV.out]; rfl, rfl⟩

theorem sp_reads {w w' : World} {B b off n : Nat} {L : List Sp} {k : Nat} {x : Sp} (hc : ∀ j u, (flatC L)[j]? = some u → w.cell? ⟨b, off + j, none⟩ = some u) (hx : L[k]? = some x) (hn : n = off + k * 7) (hb : b < B) (hbel : Below B w w') :
    w'.cell? ⟨b, n, none⟩ = some (.int .i64 x.kind) ∧ w'.cell? ⟨b, n + 1, none⟩ = some (.int .i64 x.frm) ∧ w'.cell? ⟨b, n + 2, none⟩ = some (.int .i64 x.to_) ∧ w'.cell? ⟨b, n + 3, none⟩ = some (.string x.text) ∧
    w'.cell? ⟨b, n + 4, none⟩ = some (.string x.show_) ∧ w'.cell? ⟨b, n + 5, none⟩ = some (.int .i64 x.id) ∧ w'.cell? ⟨b, n + 6, none⟩ = some (.bool x.strong) := by
  subst hn
  have key : ∀ i u, i < 7 → (spCells x)[i]? = some u → w'.cell? ⟨b, off + k * 7 + i, none⟩ = some u := by
    intro i u hi hu
    rw [hbel.cell (p := ⟨b, off + k * 7 + i, none⟩) hb, Nat.add_assoc]
    exact hc (k * 7 + i) u (by rw [flatC_at hx hi]; exact hu)
  exact ⟨key 0 _ (by omega) rfl, key 1 _ (by omega) rfl, key 2 _ (by omega) rfl, key 3 _ (by omega) rfl, key 4 _ (by omega) rfl, key 5 _ (by omega) rfl, key 6 _ (by omega) rfl⟩

set_option maxHeartbeats 4000000 in
set_option maxRecDepth 100000 in
theorem eqSpans_any (w : World) (L : List Sp) (A1 A2 : Option Addr) (n c1 c2 : Nat) (h1 : Reads w w.heap.size 7 A1 n (flatC L)) (h2 : Reads w w.heap.size 7 A2 n (flatC L)) (hn : n = L.length) (hlen : n ≤ 4294967280) :
    Calls Tryz.prog 7 #[.slice A1 n c1, .slice A2 n c2] w fun e w' => e = .returned (.bool true) ∧ Below w.heap.size w w' := by
  have P1 := fun h => Reads.plain h1 h (by omega)
  have P2 := fun h => Reads.plain h2 h (by omega)
  have P1 := Lib.hid P1
  have P2 := Lib.hid P2
  have HN := Lib.hid hn
  clear h1 h2 hn
  go_enter Tryz.func7, Tryz.ntmps7
  go_wp2_with fail
  go_loopg [13] n (fun gg s13 wr => ∃ k : Nat, k + gg = n ∧ s13 = .int .i64 k ∧ Below w.heap.size w wr)
  case atStart => exact ⟨0, by omega, rfl, Below.refl _ _⟩
  case round =>
    obtain ⟨k, hkg, rfl, hbel⟩ := hrel
    by_cases hk : k < n
    · obtain ⟨b1, o1, rfl, hb1, hc1⟩ := P1.out (by omega)
      obtain ⟨b2, o2, rfl, hb2, hc2⟩ := P2.out (by omega)
      obtain ⟨x, hx⟩ : ∃ x, L[k]? = some x := ⟨_, List.getElem?_eq_getElem (by have := HN.out; omega)⟩
      obtain ⟨p0, p1, p2, p3, p4, p5, p6⟩ := sp_reads hc1 hx rfl hb1 hbel
      obtain ⟨q0, q1, q2, q3, q4, q5, q6⟩ := sp_reads hc2 hx rfl hb2 hbel
      have ik : (k : Int) < (n : Int) := by omega
      have ik0 : (0 : Int) ≤ (k : Int) := by omega
      have HB := Lib.hid hbel
      clear hc1 hc2 hx hbel
      go_wp2_with fail
      go_quiet (fail)
      go_wp2_with fail
      have R := Lib.hid (bdrew HB.out nq)
      go_roundg (n - (k + 1))
      case measure => omega
      case rel => exact ⟨k + 1, by omega, by go_num, R.out⟩
    · have HB := Lib.hid hbel
      clear hbel
      have ik : ¬ (k : Int) < (n : Int) := by omega
      go_wp2
      go_ret
      exact ⟨rfl, HB.out⟩

theorem partsF_stop {s : ByteArray} {l q : List Sp} {x : Sp} (h : spans s = l ++ x :: q) : (partsF s l).1 ≤ x.frm ∧ x.frm < x.to_ ∧ x.to_ ≤ s.size ∧ (partsF s l).2.length ≤ 2 * l.length ∧ l.length ≤ s.size := by
  have hc := spans_cont s
  rw [h] at hc
  obtain ⟨b, g1, g2⟩ := cont_split hc
  have hb1 := (cont_le g2.2.2).1
  have := g2.1
  have := g2.2.1
  obtain ⟨h1, h2, _⟩ := partsF_is s l g1 (by omega)
  have := (cont_le g1).2
  omega

set_option maxHeartbeats 8000000 in
set_option maxRecDepth 100000 in
theorem rparts_any (s : ByteArray) (w : World) (hs : s.size ≤ 1048576) :
    Calls Tryz.prog 23 #[.string s] w fun e w' => ∃ v, e = .returned v ∧ w'.ownsRow w.heap.size 9 1 v (strV (parts s)).length (strV (parts s)) ∧ Below w.heap.size w w' := by
  obtain ⟨i0, hi, hz0, hz1, hz2⟩ := info_parts str_info
  obtain ⟨L, hL⟩ : ∃ L, L = spans s := ⟨_, rfl⟩
  have hll : L.length ≤ 1048576 := by rw [hL]; have := (cont_le (spans_cont s)).2; omega
  have HL := Lib.hid hL
  clear hL
  go_enter Tryz.func23, Tryz.ntmps23
  go_wp2_with fail
  refine (rspans_any s _ hs).mono ?_
  rintro e w2 ⟨v, rfl, hown, hb⟩
  rw [← HL.out] at hown
  obtain ⟨A, c, rfl, hnc, hA⟩ := own_shape hown
  have hz2' := hb.size
  go_wp2_with fail
  go_loopg [3, 4, 10] L.length (fun gg s3 s4 s10 wr => ∃ k : Nat, k + gg = L.length ∧ s10 = .int .i64 k ∧ s4 = .int .i64 (partsF s (L.take k)).1 ∧ wr.ownsRow w2.heap.size 9 1 s3 (strV (partsF s (L.take k)).2).length (strV (partsF s (L.take k)).2) ∧ Below w2.heap.size w2 wr)
  case atStart => exact ⟨0, by omega, rfl, by rw [List.take_zero]; rfl, by rw [List.take_zero]; exact World.ownsRow_nil _ _ _ _, Below.refl _ _⟩
  case round =>
    obtain ⟨k, hkg, rfl, rfl, hown3, hbel⟩ := hrel
    by_cases hk : k < L.length
    · obtain ⟨g, rfl⟩ := hA (by omega)
      obtain ⟨x, hx⟩ : ∃ x, L[k]? = some x := ⟨_, List.getElem?_eq_getElem hk⟩
      obtain ⟨c0, c1, c2, c3, c4, c5, c6⟩ := sp_cells hown hbel hx
      have htk : L.take (k + 1) = L.take k ++ [x] := by rw [List.take_add_one, hx]; rfl
      have hsp : spans s = L.take k ++ x :: L.drop (k + 1) := by
        rw [← HL.out]
        have e1 := List.take_append_drop k L
        rw [List.drop_eq_getElem_cons hk] at e1
        rw [List.getElem?_eq_getElem hk] at hx
        injection hx with hx
        rw [hx] at e1
        exact e1.symm
      obtain ⟨f1, f2, f3, f4, f5⟩ := partsF_stop hsp
      have hsn := partsF_snoc s (L.take k) x
      rw [← htk] at hsn
      obtain ⟨F, hF⟩ : ∃ F, F = (partsF s (L.take k)).1 := ⟨_, rfl⟩
      obtain ⟨T0, hT0⟩ : ∃ T0, T0 = strV (partsF s (L.take k)).2 := ⟨_, rfl⟩
      obtain ⟨F1, hF1⟩ : ∃ F, F = (partsF s (L.take (k + 1))).1 := ⟨_, rfl⟩
      obtain ⟨T1, hT1⟩ : ∃ T1, T1 = strV (partsF s (L.take (k + 1))).2 := ⟨_, rfl⟩
      rw [← hT0] at hown3
      rw [← hF] at f1 ⊢
      have hl0 : T0.length ≤ 2097152 := by rw [hT0]; unfold strV; rw [List.length_map]; omega
      have hFy : pcut x → F1 = x.to_ ∧ T1 = T0 ++ (strV (cutP s F x.frm) ++ [.string (s.extract x.frm x.to_)]) := fun hc => by
        rw [hsn] at hF1 hT1
        unfold pstep at hF1 hT1
        rw [if_pos hc] at hF1 hT1
        refine ⟨hF1, ?_⟩
        rw [hT1, strV_app, strV_app, hT0, hF]
        rw [show cutP s x.frm x.to_ = [s.extract x.frm x.to_] from if_pos f2]
        rfl
      have hFn : ¬ pcut x → F1 = F ∧ T1 = T0 := fun hc => by
        rw [hsn] at hF1 hT1
        unfold pstep at hF1 hT1
        rw [if_neg hc] at hF1 hT1
        exact ⟨by rw [hF1, hF], by rw [hT1, hT0]⟩
      have HFY := Lib.hid hFy
      have HFN := Lib.hid hFn
      have HF1 := Lib.hid hF1
      have HT1 := Lib.hid hT1
      have ik : (k : Int) < (L.length : Int) := by omega
      have ik0 : (0 : Int) ≤ (k : Int) := by omega
      have n0 : (0 : Int) ≤ (F : Int) := by omega
      have n1 : (F : Int) ≤ (x.frm : Int) := by omega
      have n2 : (x.frm : Int) ≤ (s.size : Int) := by omega
      have n3 : (0 : Int) ≤ (x.frm : Int) := by omega
      have n4 : (x.frm : Int) ≤ (x.to_ : Int) := by omega
      have n5 : (x.to_ : Int) ≤ (s.size : Int) := by omega
      have hzz := hbel.size
      have hlt3 := hown3.lt
      have HLT := Lib.hid hlt3
      obtain ⟨box, hbox⟩ : ∃ o : Obj, o = .cells #[.int .i64 x.kind, .int .i64 x.frm, .int .i64 x.to_, .string x.text, .string x.show_, .int .i64 x.id, .bool x.strong] 27 := ⟨_, rfl⟩
      have HBX := Lib.hid hbox
      clear hx htk hsn hT0 hT1 hF hF1 hlt3 hFy hFn hsp f4 f5 hbox
      by_cases hp : pcut x
      · obtain ⟨y1, y2⟩ := HFY.out hp
        have Y1 := Lib.hid y1
        have Y2 := Lib.hid y2
        unfold pcut at hp
        have hk3 : (x.kind != 4) = false ∨ ((x.kind != 4) = true ∧ (x.kind != 5) = false) ∨ ((x.kind != 4) = true ∧ (x.kind != 5) = true ∧ (x.kind != 6) = false) := by
          rcases hp with h | h | h <;> simp [h]
        clear hp y1 y2
        by_cases hf : F < x.frm
        · have hfi : (F : Int) < (x.frm : Int) := by omega
          rw [show cutP s F x.frm = [s.extract F x.frm] from if_pos hf] at Y2
          rcases hk3 with e4 | ⟨e4, e5⟩ | ⟨e4, e5, e6⟩
          all_goals
            go_upto_region 9 with (at_builtin; refine wpList_append_own_at _ rfl _ _ 31 rfl w2.heap.size 9 i0 (.string ⟨#[]⟩) 1 16 Tryz.underlying31 hi hz0 hz1 hz2 rfl (by decide) _ T0.length _ rfl ((hown3.alloc _).alloc _) ⟨wr.heap.size + 1, 0, none⟩ 1 1 [.string (s.extract F x.frm)] rfl rfl (cells_new _ _ [.string (s.extract F x.frm)] _ (by simp)) (by intro u hu; simp at hu; subst hu; rfl) (by unfold maxLen; omega) (by omega) (by simp; omega) ?_; intro v7 w7 hown7 hg7 _ h57)
            have hb7 : Below w2.heap.size w2 w7 := (hbel.trans (((Below.refl _ _).alloc hzz _).alloc (by simp; omega) _)).grown hg7 (by simp; omega) (fun g h => (HLT.out g h).1)
            have z7 : wr.heap.size + 2 ≤ w7.heap.size := by have := hg7.size; simpa using this
            have gb : w7.heap[wr.heap.size]? = some (.cells #[.int .i64 x.kind, .int .i64 x.frm, .int .i64 x.to_, .string x.text, .string x.show_, .int .i64 x.id, .bool x.strong] 27) := (hg7.block wr.heap.size (by simp; omega) (fun e => by have := (HLT.out _ e.symm).2; omega)).trans ((Below.heap_alloc _ _ _ (by simp)).trans (heap_alloc_new wr _))
            have d1 : w7.cell? ⟨wr.heap.size, 1, none⟩ = some (.int .i64 x.frm) := by rw [Lib.cell_of_heap gb]; rfl
            have d2 : w7.cell? ⟨wr.heap.size, 2, none⟩ = some (.int .i64 x.to_) := by rw [Lib.cell_of_heap gb]; rfl
            have ne7 : v7.ownBlock ≠ some wr.heap.size := fun e => by
              rcases h57 with h | h
              · have := (HLT.out _ (h ▸ e)).2; omega
              · rw [h] at e; injection e with e; simp at e; omega
            have hlt7 := hown7.lt
            have HL7 := Lib.hid hlt7
            have GB := Lib.hid gb
            clear hg7 gb hlt7 hown3 h57
            go_wp2_with (at_builtin; refine wpList_append_own_at _ rfl _ _ 31 rfl w2.heap.size 9 i0 (.string ⟨#[]⟩) 1 16 Tryz.underlying31 hi hz0 hz1 hz2 rfl (by decide) _ (T0.length + 1) _ rfl (hown7.alloc _) ⟨w7.heap.size, 0, none⟩ 1 1 [.string (s.extract x.frm x.to_)] rfl rfl (cells_new _ _ [.string (s.extract x.frm x.to_)] _ (by simp)) (by intro u hu; simp at hu; subst hu; rfl) (by unfold maxLen; omega) (by omega) (by simp; omega) ?_; intro v8 w8 hown8 hg8 _ _; have d3 : w8.cell? ⟨wr.heap.size, 2, none⟩ = some (.int .i64 x.to_) := (by rw [Lib.cell_of_heap ((hg8.block wr.heap.size (by simp; omega) (fun e => ne7 e.symm)).trans ((Below.heap_alloc _ _ _ (by omega)).trans GB.out))]; rfl))
            have R : Hid (w8.ownsRow w2.heap.size 9 1 v8 T1.length T1 ∧ Below w2.heap.size w2 w8) := by
              refine ⟨?_, (hb7.trans ((Below.refl _ _).alloc (by omega) _)).grown hg8 (by simp; omega) (fun g h => (HL7.out g h).1)⟩
              have e : T1 = T0 ++ [Value.string (s.extract F x.frm)] ++ [Value.string (s.extract x.frm x.to_)] := by rw [Y2.out]; simp [strV]
              rw [e]
              simpa using hown8
            clear hown8 hg8 hb7 hown7
            go_wp2_with fail
            go_roundg (L.length - (k + 1))
            case measure => omega
            case rel => exact ⟨k + 1, by omega, by go_num, by rw [← HF1.out, Y1.out], by rw [← HT1.out]; exact R.out.1, R.out.2⟩
        · have hfi : ¬ (F : Int) < (x.frm : Int) := by omega
          rw [show cutP s F x.frm = [] from if_neg hf] at Y2
          rcases hk3 with e4 | ⟨e4, e5⟩ | ⟨e4, e5, e6⟩
          all_goals
            go_wp2_with (at_builtin; refine wpList_append_own_at _ rfl _ _ 31 rfl w2.heap.size 9 i0 (.string ⟨#[]⟩) 1 16 Tryz.underlying31 hi hz0 hz1 hz2 rfl (by decide) _ (T0.length) _ rfl ((hown3.alloc _).alloc _) ⟨wr.heap.size + 1, 0, none⟩ 1 1 [.string (s.extract x.frm x.to_)] rfl rfl (cells_new _ _ [.string (s.extract x.frm x.to_)] _ (by simp)) (by intro u hu; simp at hu; subst hu; rfl) (by unfold maxLen; omega) (by omega) (by simp; omega) ?_; intro v8 w8 hown8 hg8 _ _; have d3 : w8.cell? ⟨wr.heap.size, 2, none⟩ = some (.int .i64 x.to_) := (by rw [Lib.cell_of_heap ((hg8.block wr.heap.size (by simp; omega) (fun e => (by have := (HLT.out _ e.symm).2; omega))).trans ((Below.heap_alloc _ _ _ (by simp)).trans (heap_alloc_new wr _)))]; rfl))
            have R : Hid (w8.ownsRow w2.heap.size 9 1 v8 T1.length T1 ∧ Below w2.heap.size w2 w8) := by
              refine ⟨?_, (hbel.trans (((Below.refl _ _).alloc hzz _).alloc (by simp; omega) _)).grown hg8 (by simp; omega) (fun g h => (HLT.out g h).1)⟩
              have e : T1 = T0 ++ [Value.string (s.extract x.frm x.to_)] := by rw [Y2.out]; simp [strV]
              rw [e]
              simpa using hown8
            clear hown8 hg8 hown3
            go_wp2_with fail
            go_roundg (L.length - (k + 1))
            case measure => omega
            case rel => exact ⟨k + 1, by omega, by go_num, by rw [← HF1.out, Y1.out], by rw [← HT1.out]; exact R.out.1, R.out.2⟩
      · obtain ⟨y1, y2⟩ := HFN.out hp
        unfold pcut at hp
        have e4 : (x.kind != 4) = true := by simp; omega
        have e5 : (x.kind != 5) = true := by simp; omega
        have e6 : (x.kind != 6) = true := by simp; omega
        have hown9 := hown3.alloc (.cells #[.int .i64 x.kind, .int .i64 x.frm, .int .i64 x.to_, .string x.text, .string x.show_, .int .i64 x.id, .bool x.strong] 27)
        rw [← y2] at hown9
        have R := Lib.hid (And.intro hown9 (hbel.trans ((Below.refl _ _).alloc hzz (.cells #[.int .i64 x.kind, .int .i64 x.frm, .int .i64 x.to_, .string x.text, .string x.show_, .int .i64 x.id, .bool x.strong] 27))))
        have Y1 := Lib.hid y1
        clear hp y1 y2 hown9 hown3
        go_wp2_with fail
        go_roundg (L.length - (k + 1))
        case measure => omega
        case rel => exact ⟨k + 1, by omega, by go_num, by rw [← HF1.out, Y1.out], by rw [← HT1.out]; exact R.out.1, R.out.2⟩
    · obtain rfl : k = L.length := by omega
      rw [List.take_length] at hown3 ⊢
      obtain ⟨h1, h2, _⟩ := partsF_is s (spans s) (spans_cont s) (Nat.le_refl _)
      have hsl := (cont_le (spans_cont s)).2
      rw [← HL.out] at h1 h2 hsl
      have HPT : Hid (strV (parts s) = strV (partsF s L).2 ++ strV (cutP s (partsF s L).1 s.size)) := by show _ = _; rw [← strV_app, HL.out]; rfl
      obtain ⟨F, hF⟩ : ∃ F, F = (partsF s L).1 := ⟨_, rfl⟩
      obtain ⟨T0, hT0⟩ : ∃ T0, T0 = strV (partsF s L).2 := ⟨_, rfl⟩
      have hl0 : T0.length ≤ 2097152 := by rw [hT0]; unfold strV; rw [List.length_map]; omega
      rw [← hF, ← hT0] at HPT
      rw [← hF] at h1 ⊢
      rw [← hT0] at hown3
      have hzz := hbel.size
      have hlt3 := hown3.lt
      have HLT := Lib.hid hlt3
      have n0 : (0 : Int) ≤ (F : Int) := by omega
      have n1 : (F : Int) ≤ (s.size : Int) := by omega
      clear hF hT0 hown hnc hA hlt3
      by_cases hf : F < s.size
      · have hfi : (F : Int) < (s.size : Int) := by omega
        rw [show cutP s F s.size = [s.extract F s.size] from if_pos hf] at HPT
        go_wp2_with (at_builtin; refine wpList_append_own_at _ rfl _ _ 31 rfl w2.heap.size 9 i0 (.string ⟨#[]⟩) 1 16 Tryz.underlying31 hi hz0 hz1 hz2 rfl (by decide) _ (T0.length) _ rfl (hown3.alloc _) ⟨wr.heap.size, 0, none⟩ 1 1 [.string (s.extract F s.size)] rfl rfl (cells_new _ _ [.string (s.extract F s.size)] _ (by simp)) (by intro u hu; simp at hu; subst hu; rfl) (by unfold maxLen; omega) (by omega) (by simp; omega) ?_; intro v8 w8 hown8 hg8 _ _)
        have R : Hid (w8.ownsRow w.heap.size 9 1 v8 (strV (parts s)).length (strV (parts s)) ∧ Below w.heap.size w w8) := by
          refine ⟨?_, ((hb.trans (hbel.mono hz2')).trans ((Below.refl _ _).alloc (by omega) _)).grown hg8 (by simp; omega) (fun g h => by have := (HLT.out g h).1; omega)⟩
          have e : strV (parts s) = T0 ++ [Value.string (s.extract F s.size)] := by rw [HPT.out]; simp [strV]
          rw [e]
          simpa using hown8.mono hz2'
        clear hown8 hg8 hown3 hb hbel
        go_wp2_with fail
        go_ret
        exact ⟨_, rfl, R.out.1, R.out.2⟩
      · have hfi : ¬ (F : Int) < (s.size : Int) := by omega
        rw [show cutP s F s.size = [] from if_neg hf] at HPT
        have e : T0 = strV (parts s) := by rw [HPT.out]; simp [strV]
        rw [e] at hown3
        have R := Lib.hid (And.intro (hown3.mono hz2') (hb.trans (hbel.mono hz2')))
        clear hown3 hb hbel e
        go_wp2_with fail
        go_ret
        exact ⟨_, rfl, R.out.1, R.out.2⟩
end Go.Proofs.YtcbmddgafkoooaaGreatDoor
