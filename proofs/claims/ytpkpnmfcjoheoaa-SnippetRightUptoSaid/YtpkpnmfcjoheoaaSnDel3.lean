/-
  DERIVED. The walk of slices.DeleteFunc at []find.Word with Snippet's closure: what is left is a sublist. Conditions: sizes. By an AI agent.
-/
import Derived.Test.YtpkpnmfcjoheoaaSnDel2
namespace Go.Proofs.Ytpkpnmfcjoheoaa
open Go.RowKit

/-- what DeleteFunc leaves -/
def DelP (L : List Wd) (B0 : Nat) (w : World) (e : Ending) (w' : World) : Prop := ∃ A m c F, e = .returned (.slice A m c) ∧ m = F.length ∧ F.Sublist L ∧ m ≤ c ∧ Reads w' w'.heap.size 3 A m (rowsW F) ∧ Below B0 w w'

set_option maxRecDepth 100000 in
set_option maxHeartbeats 4000000 in
theorem del_any (L : List Wd) (v : Value) (n B0 Qb : Nat) (w : World) (hown : w.ownsRow B0 38 3 v n (rowsW L)) (hn : n = L.length) (hbig : n ≤ 4294967280) (hB : B0 ≤ w.heap.size)
    (hcl : ∀ x ∈ L, ∀ W, Below B0 w W → Calls Try.prog 14 #[wdA x, .pointer (some ⟨Qb, 0, none⟩)] W (SomeB W)) :
    Calls Try.prog 12 #[v, .func (.func 14) #[] #[.pointer (some ⟨Qb, 0, none⟩)]] w (DelP L B0 w) := by
  have hent : ∀ args w, (callFunc 14 args).run Try.prog w = .ok (.enter 14 args) w := enters_of Try.func14 (by kernel_rfl) rfl
  obtain ⟨A, c, rfl, hr⟩ := own_reads hown
  have hnc : n ≤ c := by
    rcases hown.2 with ⟨h1, h2⟩ | ⟨g, cap, cur, h1, _, _, h2, _⟩
    · injection h1 with _ _ h3; omega
    · injection h1 with _ _ h3; omega
  have HI := Lib.hid (idx14_any L A n c Qb w _ hr (Nat.le_refl _) hn hbig (fun x hx W hW => hcl x hx W (hW.mono hB)))
  have HR := Lib.hid hr
  have HO := Lib.hid hown
  have HN := Lib.hid hn
  have HC := Lib.hid hcl
  clear hr hown hn hcl
  go_enter Try.func12, Try.ntmps12
  go_wp2_with fail
  refine HI.out.mono ?_
  rintro e w1 ⟨⟨ii, rfl, hii⟩, hb1⟩
  have HB1 := Lib.hid (hb1.mono hB)
  have HR1 := Lib.hid ((HR.out.below hb1).more hb1.size)
  have HO1 := Lib.hid (own_below HO.out hb1)
  clear hb1 HI
  by_cases hm1 : ii = -1
  · subst hm1
    clear hii
    go_wp2_with fail
    go_ret
    exact ⟨_, _, _, L, rfl, HN.out, List.Sublist.refl _, hnc, HR1.out, HB1.out⟩
  · obtain ⟨i0, hi0, rfl⟩ : ∃ k : Nat, k < n ∧ ii = (k : Int) := hii.resolve_left hm1
    have hpos : 0 < n := Nat.lt_of_le_of_lt (Nat.zero_le _) hi0
    have hm1' : ((i0 : Int) == -1) = false := beq_eq_false_iff_ne.2 (by omega)
    obtain ⟨g, cap, hv, hge, hglt⟩ := HO1.out.form hpos
    injection hv with hv _ hcap
    subst hv hcap
    obtain ⟨hCR, hFR, hgB⟩ := own_cr HO1.out HN.out hpos
    have HCR := Lib.hid hCR
    have HFR := Lib.hid hFR
    clear hii hm1 hCR hFR
    go_wp2_with fail
    go_loopg [5, 6] (n - (i0 + 1)) (fun gg s5 s6 wr => ∃ (i j : Nat) (Y : List Wd), j + gg = n ∧ i < j ∧ s5 = .int .i64 (i : Int) ∧ s6 = .int .i64 (j : Int) ∧ Y.length = n ∧ Hid ((Y.take i).Sublist (L.take j)) ∧ Hid (∀ k, j ≤ k → Y[k]? = L[k]?) ∧ Hid (CR wr g Y) ∧ Hid (FR wr g n) ∧ Hid (Below B0 w wr))
    case atStart =>
      refine ⟨i0, i0 + 1, L, by omega, by omega, rfl, by go_num, HN.out.symm, ?_, fun _ _ => rfl, HCR, HFR, HB1⟩
      show List.Sublist _ _
      rw [List.take_add_one]
      exact List.sublist_append_left _ _
    case round =>
      obtain ⟨i, j, Y, hjg, hij, rfl, rfl, hYn, hsub, htl, hCR, hFR, hbel⟩ := hrel
      have j0 : (0 : Int) ≤ (j : Int) := by omega
      have j3 : (0 : Int) ≤ (i : Int) := by omega
      have hgW := hFR.out.lt
      have hzB := hbel.out.size
      by_cases hj : j < n
      · obtain ⟨x, hx⟩ : ∃ x, Y[j]? = some x := ⟨_, List.getElem?_eq_getElem (by omega)⟩
        have hxL : L[j]? = some x := (htl.out j (Nat.le_refl _)).symm.trans hx
        obtain ⟨c0, c1, c2⟩ := hCR.out j x hx
        obtain ⟨cur, hcur, hcs⟩ := hFR.out
        have f0 : ∀ o, (wr.alloc o).frozen? ⟨g, i * 3, none⟩ = false := fun o => (hcur.alloc o).frozen _
        have j1 : (j : Int) < (n : Int) := by omega
        have HX : Hid (∀ W, Below B0 w W → Calls Try.prog 14 #[.agg #[.string x.text, .int .i64 x.frm, .int .i64 x.to_], .pointer (some ⟨Qb, 0, none⟩)] W (SomeB W)) := fun W hW => HC.out x (List.mem_of_getElem? hxL) W hW
        have HXL := Lib.hid hxL
        clear hx hxL hcur hcs f0
        go_wp2_with fail
        refine (HX.out _ (hbel.out.alloc (by omega) _)).mono ?_
        rintro e w2 ⟨⟨q, rfl⟩, hb2⟩
        have hz2 := hb2.size
        simp only [World.size_alloc] at hz2
        have HB2 : Hid (Below B0 w w2) := (hbel.out.alloc (by omega) _).trans (hb2.mono (by simp; omega))
        have HB12 : Hid (Below wr.heap.size wr w2) := ((Below.refl _ _).alloc (Nat.le_refl _) _).trans (hb2.mono (by simp))
        have HXB : Hid (Blk w2 wr.heap.size 38 #[.string x.text, .int .i64 x.frm, .int .i64 x.to_]) := (Blk.new wr _ _).below hb2 (by simp)
        have HCR2 := Lib.hid (hCR.out.below HB12.out hgW)
        have HFR2 := Lib.hid (hFR.out.below HB12.out hgW)
        clear hb2 c0 c1 c2
        cases q
        · have x0 := HXB.out.cell 0
          have x1 := HXB.out.cell 1
          have x2 := HXB.out.cell 2
          obtain ⟨y, hy⟩ : ∃ y, Y[i]? = some y := ⟨_, List.getElem?_eq_getElem (by omega)⟩
          obtain ⟨c0, c1, c2⟩ := HCR2.out i y hy
          obtain ⟨cur, hcur, hcs⟩ := HFR2.out
          have f0 := hcur.frozen (i * 3)
          have f1 := hcur.frozen (i * 3 + 1)
          have f2 := hcur.frozen (i * 3 + 2)
          have j4 : (i : Int) < (n : Int) := by omega
          have hYi : i < Y.length := by omega
          clear hy hcur hcs
          go_wp2_with fail
          go_roundg (n - (j + 1))
          case measure => omega
          case rel =>
            refine ⟨i + 1, j + 1, Y.set i x, by omega, by omega, by go_num, by go_num, by simpa using hYn, ?_, fun k hk => ?_, HCR2.out.put HFR2.out (by omega) x, HFR2.out.set_.set_.set_, ((HB2.out.setCell (p := ⟨g, i * 3, none⟩) (by show B0 ≤ g; omega) _).setCell (p := ⟨g, i * 3 + 1, none⟩) (by show B0 ≤ g; omega) _).setCell (p := ⟨g, i * 3 + 2, none⟩) (by show B0 ≤ g; omega) _⟩
            · show List.Sublist _ _
              have e1 : (Y.set i x).take (i + 1) = Y.take i ++ [x] := by
                rw [List.take_add_one, List.getElem?_set, if_pos rfl, if_pos hYi, List.take_set_of_le (Nat.le_refl _)]
                rfl
              rw [e1, List.take_add_one, HXL.out]
              exact hsub.out.append (List.Sublist.refl _)
            · rw [List.getElem?_set, if_neg (by omega)]
              exact htl.out k (by omega)
        · go_wp2_with fail
          go_roundg (n - (j + 1))
          case measure => omega
          case rel =>
            refine ⟨i, j + 1, Y, by omega, by omega, rfl, by go_num, hYn, ?_, fun k hk => htl.out k (by omega), HCR2, HFR2, HB2⟩
            show List.Sublist _ _
            rw [List.take_add_one]
            exact hsub.out.trans (List.sublist_append_left _ _)
      · obtain rfl : j = n := by omega
        have j4 : (i : Int) ≤ (j : Int) := by omega
        have j5 : (i : Int) ≤ (c : Int) := by omega
        have j5' : i ≤ c := by omega
        have hclr := clear_run wr g i j c hFR.out hij
        obtain ⟨zs, hzs⟩ : ∃ zs, zs = (Builtin.zeroCells wdZ.cells (j - i)).toList := ⟨_, rfl⟩
        rw [← hzs] at hclr
        clear hzs
        go_wp2_with fail
        go_ret
        obtain ⟨F, hF⟩ : ∃ F, F = Y.take i := ⟨_, rfl⟩
        have hFl : F.length = i := by rw [hF, List.length_take]; omega
        have hcf := hCR.out.clear (vs := zs) F hF
        refine ⟨_, _, _, F, rfl, hFl.symm, ?_, j5', ?_, setCells_below hge zs _ _ _ hbel.out⟩
        · rw [hF]; exact hsub.out.trans (List.take_sublist _ _)
        · have := hcf.reads (by rw [setCells_size]; exact hgW)
          rw [hFl] at this
          exact this
end Go.Proofs.Ytpkpnmfcjoheoaa
