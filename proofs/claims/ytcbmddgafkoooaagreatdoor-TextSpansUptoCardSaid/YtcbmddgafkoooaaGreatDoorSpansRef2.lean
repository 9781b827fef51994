/-
  DERIVED. The walks of florref1.RefsOf, UnmarkedOf, PartsOf, EscapedOf, TextError. Conditions: the text's size. By an AI agent.
-/
import Derived.Test.YtcbmddgafkoooaaGreatDoorSpansRef
import Derived.Test.YtcbmddgafkoooaaGreatDoorParts
import Derived.Test.YtcbmddgafkoooaaGreatDoorEscaped
import Derived.Test.YtcbmddgafkoooaaGreatDoorCtlRef
namespace Go.Proofs.YtcbmddgafkoooaaGreatDoor
open Go.RowKit

set_option maxHeartbeats 4000000 in
set_option maxRecDepth 100000 in
theorem rrefs_any (s : ByteArray) (w : World) (hs : s.size ≤ 1048576) :
    Calls Tryz.prog 17 #[.string s] w fun e w' => ∃ v, e = .returned v ∧ w'.ownsRow w.heap.size 3 1 v (refsK (spans s)).length (refsK (spans s)) ∧ Below w.heap.size w w' := by
  obtain ⟨i0, hi, hz0, hz1, hz2⟩ := info_parts int_info
  obtain ⟨L, hL⟩ : ∃ L, L = spans s := ⟨_, rfl⟩
  have hll : L.length ≤ 1048576 := by rw [hL]; have := (cont_le (spans_cont s)).2; omega
  have HL := Lib.hid hL
  clear hL
  go_enter Tryz.func17, Tryz.ntmps17
  go_wp2_with fail
  refine (rspans_any s _ hs).mono ?_
  rintro e w2 ⟨v, rfl, hown, hb⟩
  rw [← HL.out] at hown
  obtain ⟨A, c, rfl, hnc, hA⟩ := own_shape hown
  have hz2' := hb.size
  go_wp2_with fail
  go_loopg [3, 9] L.length (fun gg s3 s9 wr => ∃ k : Nat, k + gg = L.length ∧ s9 = .int .i64 k ∧ wr.ownsRow w2.heap.size 3 1 s3 (refsK (L.take k)).length (refsK (L.take k)) ∧ Below w2.heap.size w2 wr)
  case atStart => exact ⟨0, by omega, rfl, by rw [List.take_zero]; exact World.ownsRow_nil _ _ _ _, Below.refl _ _⟩
  case round =>
    obtain ⟨k, hkg, rfl, hown3, hbel⟩ := hrel
    by_cases hk : k < L.length
    · obtain ⟨g, rfl⟩ := hA (by omega)
      obtain ⟨x, hx⟩ : ∃ x, L[k]? = some x := ⟨_, List.getElem?_eq_getElem hk⟩
      obtain ⟨c0, c1, c2, c3, c4, c5, c6⟩ := sp_cells hown hbel hx
      have htk : L.take (k + 1) = L.take k ++ [x] := by rw [List.take_add_one, hx]; rfl
      have hsn := refsK_snoc (L.take k) x
      rw [← htk] at hsn
      have hlen := refsK_len (L.take k)
      have htl : (L.take k).length = k := by simp; omega
      obtain ⟨T0, hT0⟩ : ∃ T0, T0 = refsK (L.take k) := ⟨_, rfl⟩
      obtain ⟨T1, hT1⟩ : ∃ T1, T1 = refsK (L.take (k + 1)) := ⟨_, rfl⟩
      rw [← hT0, ← hT1] at hsn
      rw [← hT0] at hown3 hlen
      have HSN := Lib.hid hsn
      have HT1 := Lib.hid hT1
      have ik : (k : Int) < (L.length : Int) := by omega
      have ik0 : (0 : Int) ≤ (k : Int) := by omega
      have hzz := hbel.size
      have hlt3 := hown3.lt
      have HLT := Lib.hid hlt3
      have hl0 : T0.length ≤ 1048576 := by omega
      clear hx htk hsn hT0 hT1 htl hlt3 hlen
      cases ek : (x.kind == 5)
      case true =>
        go_wp2_with (at_builtin; refine wpList_append_own_at _ rfl _ _ 34 rfl w2.heap.size 3 i0 (.int .i64 0) 1 8 Tryz.underlying34 hi hz0 hz1 hz2 rfl (by decide) _ T0.length _ rfl ((hown3.alloc _).alloc _) ⟨wr.heap.size + 1, 0, none⟩ 1 1 [.int .i64 x.id] rfl rfl (cells_new _ _ [.int .i64 x.id] _ (by simp)) (by intro u hu; simp at hu; subst hu; rfl) (by unfold maxLen; omega) (by omega) (by simp; omega) ?_; intro v7 w7 hown7 hg7 _ _)
        have R : Hid (w7.ownsRow w2.heap.size 3 1 v7 T1.length T1 ∧ Below w2.heap.size w2 w7) := by
          refine ⟨?_, (hbel.trans (((Below.refl _ _).alloc hzz _).alloc (by simp; omega) _)).grown hg7 (by simp; omega) (fun g h => (HLT.out g h).1)⟩
          rw [HSN.out, if_pos (by simpa using ek), List.length_append]; exact hown7
        clear hown7 hg7
        go_wp2_with fail
        go_roundg (L.length - (k + 1))
        case measure => omega
        case rel => exact ⟨k + 1, by omega, by go_num, by rw [← HT1.out]; exact R.out.1, R.out.2⟩
      case false =>
        have hTT : T1 = T0 := by rw [HSN.out, if_neg (by simpa using ek), List.append_nil]
        have hown9 := hown3.alloc (.cells #[.int .i64 x.kind, .int .i64 x.frm, .int .i64 x.to_, .string x.text, .string x.show_, .int .i64 x.id, .bool x.strong] 27)
        rw [← hTT] at hown9
        have R := Lib.hid (And.intro hown9 (hbel.trans ((Below.refl _ _).alloc hzz (.cells #[.int .i64 x.kind, .int .i64 x.frm, .int .i64 x.to_, .string x.text, .string x.show_, .int .i64 x.id, .bool x.strong] 27))))
        clear hown9 hTT
        clear hown3
        go_wp2_with fail
        go_roundg (L.length - (k + 1))
        case measure => omega
        case rel => exact ⟨k + 1, by omega, by go_num, by rw [← HT1.out]; exact R.out.1, R.out.2⟩
    · obtain rfl : k = L.length := by omega
      rw [List.take_length] at hown3
      have HF : Hid (refsK L = refsK (spans s)) := by show _ = _; rw [HL.out]
      have R := Lib.hid (And.intro (hown3.mono hz2') (hb.trans (hbel.mono hz2')))
      clear hb hbel hown hnc hA hown3
      go_wp2
      go_ret
      exact ⟨_, rfl, by rw [← HF.out]; exact R.out.1, R.out.2⟩

set_option maxHeartbeats 4000000 in
set_option maxRecDepth 100000 in
theorem runmarked_any (s : ByteArray) (w : World) (hs : s.size ≤ 1048576) :
    Calls Tryz.prog 21 #[.string s] w fun e w' => e = .returned (.string (unm s (spans s))) ∧ Below w.heap.size w w' := by
  obtain ⟨L, hL⟩ : ∃ L, L = spans s := ⟨_, rfl⟩
  have hll : L.length ≤ 1048576 := by rw [hL]; have := (cont_le (spans_cont s)).2; omega
  have HL := Lib.hid hL
  clear hL
  go_enter Tryz.func21, Tryz.ntmps21
  go_wp2_with fail
  refine (rspans_any s _ hs).mono ?_
  rintro e w2 ⟨v, rfl, hown, hb⟩
  rw [← HL.out] at hown
  obtain ⟨A, c, rfl, hnc, hA⟩ := own_shape hown
  have hz2' := hb.size
  go_wp2_with fail
  go_loopg [3, 9] L.length (fun gg s3 s9 wr => ∃ k : Nat, k + gg = L.length ∧ s9 = .int .i64 k ∧ s3 = .string (unm s (L.take k)) ∧ Below w2.heap.size w2 wr)
  case atStart => exact ⟨0, by omega, rfl, by rw [List.take_zero]; rfl, Below.refl _ _⟩
  case round =>
    obtain ⟨k, hkg, rfl, rfl, hbel⟩ := hrel
    by_cases hk : k < L.length
    · obtain ⟨g, rfl⟩ := hA (by omega)
      obtain ⟨x, hx⟩ : ∃ x, L[k]? = some x := ⟨_, List.getElem?_eq_getElem hk⟩
      obtain ⟨c0, c1, c2, c3, c4, c5, c6⟩ := sp_cells hown hbel hx
      have hxm : x ∈ spans s := by rw [← HL.out]; exact List.mem_of_getElem? hx
      obtain ⟨_, m1, m2⟩ := cont_mem (spans_cont s) x hxm
      have htk : L.take (k + 1) = L.take k ++ [x] := by rw [List.take_add_one, hx]; rfl
      have r0 := unm_size (s := s) (l := L.take k) (q := L.drop k) (by rw [← HL.out, List.take_append_drop]) hs
      have hsn := unm_snoc s (L.take k) x
      rw [← htk] at hsn
      obtain ⟨T0, hT0⟩ : ∃ T0, T0 = unm s (L.take k) := ⟨_, rfl⟩
      obtain ⟨T1, hT1⟩ : ∃ T1, T1 = unm s (L.take (k + 1)) := ⟨_, rfl⟩
      rw [← hT0, ← hT1] at hsn
      rw [← hT0] at r0
      rw [← hT0]
      have HSN := Lib.hid hsn
      have HT1 := Lib.hid hT1
      have ik : (k : Int) < (L.length : Int) := by omega
      have ik0 : (0 : Int) ≤ (k : Int) := by omega
      have n0 : (0 : Int) ≤ (x.frm : Int) := by omega
      have n1 : (x.frm : Int) ≤ (x.to_ : Int) := by omega
      have n2 : (x.to_ : Int) ≤ (s.size : Int) := by omega
      have hext := ext_le s x.frm x.to_
      have R := Lib.hid (hbel.trans ((Below.refl _ _).alloc hbel.size (.cells #[.int .i64 x.kind, .int .i64 x.frm, .int .i64 x.to_, .string x.text, .string x.show_, .int .i64 x.id, .bool x.strong] 27)))
      clear hx hxm htk hsn hT0 hT1
      cases e7 : (x.kind == 7)
      case true =>
        have e7' : (x.kind != 7) = false := by simp at e7 ⊢; omega
        have HTT : Hid (T1 = T0) := by
          show _ = _
          rw [HSN.out]; unfold unR; rw [if_pos (by simpa using e7)]
          apply ba_ext; simp [noB]
        go_wp2_with fail
        go_roundg (L.length - (k + 1))
        case measure => omega
        case rel => exact ⟨k + 1, by omega, by go_num, by rw [← HT1.out, HTT.out], R.out⟩
      case false =>
        have e7' : (x.kind != 7) = true := by simp at e7 ⊢; omega
        have HTT : Hid (T1 = T0 ++ s.extract x.frm x.to_) := by
          show _ = _
          rw [HSN.out]; unfold unR; rw [if_neg (by simpa using e7)]
        go_wp2_with fail
        go_roundg (L.length - (k + 1))
        case measure => omega
        case rel => exact ⟨k + 1, by omega, by go_num, by rw [← HT1.out, HTT.out], R.out⟩
    · obtain rfl : k = L.length := by omega
      have HF : Hid (unm s (L.take L.length) = unm s (spans s)) := by show _ = _; rw [List.take_length, HL.out]
      rw [HF.out]
      have R := Lib.hid (hb.trans (hbel.mono hz2'))
      clear hb hbel hown hnc hA
      go_wp2
      go_ret
      exact ⟨rfl, R.out⟩

theorem ib_mem (c : UInt8) : ∀ l : List UInt8, 0 ≤ Lib.indexByte l c ↔ c ∈ l
  | [] => by simp [Lib.indexByte]
  | b :: l => by
    have ih := ib_mem c l
    have hge := Lib.indexByte_ge l c
    unfold Lib.indexByte
    by_cases h : b = c
    · subst h; simp
    · rw [if_neg (by simpa using h), List.mem_cons]
      have hne : ¬ c = b := fun e => h e.symm
      by_cases h1 : Lib.indexByte l c = -1
      · rw [if_pos (by simpa using h1)]
        have : ¬ c ∈ l := fun m => by have := ih.2 m; omega
        simp [hne, this]
      · rw [if_neg (by simpa using h1)]
        have : c ∈ l := ih.1 (by omega)
        simp only [this, or_true, iff_true]
        omega
theorem esc_ib (c : UInt8) : 0 ≤ Lib.indexByte (ByteArray.mk #[92, 96, 91, 40, 35, 42]).data.toList c ↔ escB c = true := by
  rw [ib_mem]
  unfold escB
  simp only [List.mem_cons, List.not_mem_nil, or_false, decide_eq_true_eq]
  simp only [← UInt8.toNat_inj]
  exact Iff.rfl

set_option maxHeartbeats 4000000 in
set_option maxRecDepth 100000 in
theorem rescaped_any (s : ByteArray) (w : World) (hs : s.size ≤ 1048576) :
    Calls Tryz.prog 25 #[.string s] w fun e w' => e = .returned (.string ⟨(escL s.data.toList).toArray⟩) ∧ w' = w := by
  obtain ⟨E, hE⟩ : ∃ E : Nat → ByteArray, ∀ k, E k = ⟨(escL (s.data.toList.take k)).toArray⟩ := ⟨_, fun _ => rfl⟩
  have hEz : ∀ k, (E k).size ≤ 2 * 1048576 := fun k => by
    have h1 := escL_len (s.data.toList.take k)
    have h2 : (s.data.toList.take k).length ≤ s.size := by rw [List.length_take, ← Lib.size_eq]; omega
    rw [hE]
    show (escL _).toArray.size ≤ _
    simp; omega
  have hE0 : E 0 = ⟨#[]⟩ := by rw [hE]; rfl
  have hES : ∀ k (h : k < s.size), E (k + 1) = E k ++ ⟨(escC s[k]).toArray⟩ := fun k h => by
    rw [hE, hE, cat_ba]
    have hl : k < s.data.toList.length := by rw [← Lib.size_eq]; exact h
    rw [List.take_succ_eq_append_getElem hl]
    unfold escL
    rw [List.flatMap_append, List.flatMap_cons, List.flatMap_nil, List.append_nil]
    rfl
  have hEN : E s.size = ⟨(escL s.data.toList).toArray⟩ := by
    rw [hE, List.take_of_length_le (by rw [← Lib.size_eq]; exact Nat.le_refl _)]
  have HEZ := Lib.hid hEz
  have HES := Lib.hid hES
  have HEN := Lib.hid hEN
  have HE0 := Lib.hid hE0
  clear hE hEz hES hEN hE0
  rw [← HEN.out]
  go_enter Tryz.func25, Tryz.ntmps25
  go_wp2_with fail
  go_loopg [3, 4] s.size (fun gg s3 s4 wr => ∃ k : Nat, k + gg = s.size ∧ s4 = .int .i64 k ∧ s3 = .string (E k) ∧ wr = w)
  case atStart => exact ⟨0, by omega, rfl, by rw [HE0.out], rfl⟩
  case round =>
    obtain ⟨k, hkg, rfl, rfl, rfl⟩ := hrel
    by_cases hk : k < s.size
    · have hz := HEZ.out k
      have hn := HES.out k hk
      have ik : (k : Int) < (s.size : Int) := by omega
      have ik0 : (0 : Int) ≤ (k : Int) := by omega
      have HC := Lib.hid (Tryz.strings_IndexByte ⟨#[92, 96, 91, 40, 35, 42]⟩ (s[k].toNat : Int) wr)
      have hu : ((s[k].toNat : Int).toNat.toUInt8) = s[k] := by simp
      have hone : s.extract k (k + 1) = ⟨#[s[k]]⟩ := by
        apply ba_ext
        rw [ext_list2, show k + 1 - k = 1 by omega]
        have hl : k < s.data.toList.length := by rw [← Lib.size_eq]; exact hk
        rw [List.drop_eq_getElem_cons hl]; rfl
      have hib := esc_ib s[k]
      have HU := Lib.hid hu
      obtain ⟨T0, hT0⟩ : ∃ T0, T0 = E k := ⟨_, rfl⟩
      obtain ⟨T1, hT1⟩ : ∃ T1, T1 = E (k + 1) := ⟨_, rfl⟩
      rw [← hT0, ← hT1] at hn
      rw [← hT0] at hz
      rw [← hT0]
      have HT1 := Lib.hid hT1
      have HN := Lib.hid hn
      have HO := Lib.hid hone
      have HIB := Lib.hid hib
      clear hn hT0 hT1 hu hone hib
      go_wp2_with fail
      refine HC.out.mono ?_
      rintro e w' ⟨rfl, rfl⟩
      rw [HU.out]
      cases hc : escB s[k]
      case true =>
        have g : decide ((0 : Int) ≤ Lib.indexByte (ByteArray.mk #[92, 96, 91, 40, 35, 42]).data.toList s[k]) = true := by simpa using HIB.out.2 hc
        have HTT : Hid (T1 = T0 ++ ⟨#[92]⟩ ++ s.extract k (k + 1)) := by
          show _ = _
          rw [HN.out, HO.out]
          unfold escC
          rw [if_pos hc]
          apply ba_ext; simp
        go_wp2_with fail
        go_roundg (s.size - (k + 1))
        case measure => omega
        case rel => exact ⟨k + 1, by omega, by go_num, by rw [← HT1.out, HTT.out], rfl⟩
      case false =>
        have g : decide ((0 : Int) ≤ Lib.indexByte (ByteArray.mk #[92, 96, 91, 40, 35, 42]).data.toList s[k]) = false := by
          cases hd : decide ((0 : Int) ≤ Lib.indexByte (ByteArray.mk #[92, 96, 91, 40, 35, 42]).data.toList s[k])
          · rfl
          · have := HIB.out.1 (by simpa using hd); rw [hc] at this; cases this
        have HTT : Hid (T1 = T0 ++ s.extract k (k + 1)) := by
          show _ = _
          rw [HN.out, HO.out]
          unfold escC
          rw [if_neg (by rw [hc]; decide)]
        go_wp2_with fail
        go_roundg (s.size - (k + 1))
        case measure => omega
        case rel => exact ⟨k + 1, by omega, by go_num, by rw [← HT1.out, HTT.out], rfl⟩
    · obtain rfl : k = s.size := by omega
      go_wp2
      go_ret
      exact ⟨rfl, rfl⟩
end Go.Proofs.YtcbmddgafkoooaaGreatDoor
