/-
  DERIVED. The walks of florref1.PlainText, LinksOf, TagsOf, RefsOf, UnmarkedOf. Conditions: the text's size. By an AI agent.
-/
import Derived.Test.YtcbmddgafkoooaaGreatDoorRefSpans
import Derived.Test.YtcbmddgafkoooaaGreatDoorSpansProg
namespace Go.Proofs.YtcbmddgafkoooaaGreatDoor
open Go.RowKit

theorem spans_plain1 (s : ByteArray) : ∀ x ∈ spans s, x.kind = 1 → x.text = s.extract x.frm x.to_ := by
  intro x hx hk
  obtain ⟨y, _, rfl⟩ := List.mem_map.1 hx
  obtain ⟨u1, u2, u3, _⟩ := fillT_kind' s y
  rw [u2, u3]
  rw [u1] at hk
  unfold fillT
  rw [if_pos hk]
def plainB (s : ByteArray) (l : List Sp) : ByteArray := ⟨(plainL s l).toArray⟩
theorem cat_ba (a : List UInt8) (b : ByteArray) : (⟨a.toArray⟩ : ByteArray) ++ b = ⟨(a ++ b.data.toList).toArray⟩ := by
  apply ba_ext
  simp
theorem plainB_snoc (s : ByteArray) (l : List Sp) (x : Sp) : plainB s (l ++ [x]) = plainB s l ++ shown s x := by
  unfold plainB
  rw [cat_ba, plainL_snoc]
theorem plainB_size {s : ByteArray} {l q : List Sp} (h : spans s = l ++ q) (hs : s.size ≤ 1048576) : (plainB s l).size ≤ 4398046511104 := by
  have h1 := plainL_len (s := s) (l := l) (fun x hx => spans_ok s x (by rw [h]; exact List.mem_append_left _ hx))
  have hl : l.length ≤ s.size := by have := (cont_le (spans_cont s)).2; rw [h] at this; simp at this; omega
  have hm : l.length * (s.size + 2) ≤ 1048576 * 1048578 := Nat.mul_le_mul (by omega) (by omega)
  have : (plainB s l).size = (plainL s l).length := by unfold plainB; show (plainL s l).toArray.size = _; simp
  omega
theorem unm_snoc (s : ByteArray) (l : List Sp) (x : Sp) : unm s (l ++ [x]) = unm s l ++ unR s x := by
  unfold unm
  rw [cat_ba]
  unfold unmL
  rw [List.flatMap_append, List.flatMap_cons, List.flatMap_nil, List.append_nil]
theorem unmL_len (s : ByteArray) : ∀ l : List Sp, (unmL s l).length ≤ l.length * s.size
  | [] => by simp [unmL]
  | x :: l => by
    have h1 := unR_size s x
    have h2 := unmL_len s l
    have e : (unmL s (x :: l)).length = (unR s x).size + (unmL s l).length := by unfold unmL; rw [List.flatMap_cons, List.length_append]; rfl
    rw [e, List.length_cons, Nat.add_mul]
    omega
theorem unm_size {s : ByteArray} {l q : List Sp} (h : spans s = l ++ q) (hs : s.size ≤ 1048576) : (unm s l).size ≤ 4398046511104 := by
  have h1 := unmL_len s l
  have hl : l.length ≤ s.size := by have := (cont_le (spans_cont s)).2; rw [h] at this; simp at this; omega
  have hm : l.length * s.size ≤ 1048576 * 1048578 := Nat.mul_le_mul (by omega) (by omega)
  have : (unm s l).size = (unmL s l).length := by unfold unm; show (unmL s l).toArray.size = _; simp
  omega

set_option maxHeartbeats 4000000 in
set_option maxRecDepth 100000 in
theorem rplain_any (s : ByteArray) (w : World) (hs : s.size ≤ 1048576) :
    Calls Tryz.prog 11 #[.string s] w fun e w' => e = .returned (.string (plain s)) ∧ Below w.heap.size w w' := by
  obtain ⟨L, hL⟩ : ∃ L, L = spans s := ⟨_, rfl⟩
  have hll : L.length ≤ 1048576 := by rw [hL]; have := (cont_le (spans_cont s)).2; omega
  have HL := Lib.hid hL
  clear hL
  go_enter Tryz.func11, Tryz.ntmps11
  go_wp2_with fail
  refine (rspans_any s _ hs).mono ?_
  rintro e w2 ⟨v, rfl, hown, hb⟩
  rw [← HL.out] at hown
  obtain ⟨A, c, rfl, hnc, hA⟩ := own_shape hown
  have hz2' := hb.size
  go_wp2_with fail
  go_loopg [3, 11] L.length (fun gg s3 s11 wr => ∃ k : Nat, k + gg = L.length ∧ s11 = .int .i64 k ∧ s3 = .string (plainB s (L.take k)) ∧ Below w2.heap.size w2 wr)
  case atStart => exact ⟨0, by omega, rfl, by rw [List.take_zero]; rfl, Below.refl _ _⟩
  case round =>
    obtain ⟨k, hkg, rfl, rfl, hbel⟩ := hrel
    by_cases hk : k < L.length
    · obtain ⟨g, rfl⟩ := hA (by omega)
      obtain ⟨x, hx⟩ : ∃ x, L[k]? = some x := ⟨_, List.getElem?_eq_getElem hk⟩
      obtain ⟨c0, c1, c2, c3, c4, c5, c6⟩ := sp_cells hown hbel hx
      have hxm : x ∈ spans s := by rw [← HL.out]; exact List.mem_of_getElem? hx
      obtain ⟨_, m1, m2⟩ := cont_mem (spans_cont s) x hxm
      have ok := spans_ok s x hxm
      have HSP := Lib.hid (And.intro (spans_is s x hxm) (spans_plain1 s x hxm))
      have htk : L.take (k + 1) = L.take k ++ [x] := by rw [List.take_add_one, hx]; rfl
      have r1 := plainB_size (s := s) (l := L.take (k + 1)) (q := L.drop (k + 1)) (by rw [← HL.out, List.take_append_drop]) hs
      have r0 := plainB_size (s := s) (l := L.take k) (q := L.drop k) (by rw [← HL.out, List.take_append_drop]) hs
      have hsn := plainB_snoc s (L.take k) x
      rw [← htk] at hsn
      have hshl := shown_le ok
      obtain ⟨T0, hT0⟩ : ∃ T0, T0 = plainB s (L.take k) := ⟨_, rfl⟩
      obtain ⟨T1, hT1⟩ : ∃ T1, T1 = plainB s (L.take (k + 1)) := ⟨_, rfl⟩
      rw [← hT0, ← hT1] at hsn
      rw [← hT0] at r0
      rw [← hT1] at r1
      rw [← hT0]
      have HSN := Lib.hid hsn
      have HT1 := Lib.hid hT1
      have ik : (k : Int) < (L.length : Int) := by omega
      have ik0 : (0 : Int) ≤ (k : Int) := by omega
      have hts := ok.1
      clear hx hxm htk ok hsn hT0 hT1
      go_wp2_with fail
      rw [show Value.agg #[Value.int .i64 x.kind, .int .i64 x.frm, .int .i64 x.to_, .string x.text, .string x.show_, .int .i64 x.id, .bool x.strong] = spV x from rfl]
      refine (rshown_any s x _ HSP.out.1 m1 m2 HSP.out.2 hs (by omega)).mono ?_
      rintro e w3 ⟨v3, rfl, hown4, hb3⟩
      have R : Hid (Below w2.heap.size w2 w3) := hbel.trans (((Below.refl _ _).alloc hbel.size _).trans (hb3.mono (by have := hbel.size; simp; omega)))
      clear hown4 hb3
      go_wp2_with fail
      go_roundg (L.length - (k + 1))
      case measure => omega
      case rel => exact ⟨k + 1, by omega, by go_num, by rw [← HT1.out, HSN.out], R.out⟩
    · obtain rfl : k = L.length := by omega
      have HF : Hid (plainB s (L.take L.length) = plain s) := by show _ = _; rw [List.take_length, HL.out]; rfl
      rw [HF.out]
      have R := Lib.hid (hb.trans (hbel.mono hz2'))
      clear hb hbel hown hnc hA
      go_wp2
      go_ret
      exact ⟨rfl, R.out⟩

set_option maxHeartbeats 4000000 in
set_option maxRecDepth 100000 in
theorem rtextsOf_any (s : ByteArray) (kd : Int) (w : World) (hs : s.size ≤ 1048576) :
    Calls Tryz.prog 40 #[.string s, .int .i64 kd] w fun e w' => ∃ v, e = .returned v ∧ w'.ownsRow w.heap.size 9 1 v (textsK kd (spans s)).length (textsK kd (spans s)) ∧ Below w.heap.size w w' := by
  obtain ⟨i0, hi, hz0, hz1, hz2⟩ := info_parts str_info
  obtain ⟨L, hL⟩ : ∃ L, L = spans s := ⟨_, rfl⟩
  have hll : L.length ≤ 1048576 := by rw [hL]; have := (cont_le (spans_cont s)).2; omega
  have HL := Lib.hid hL
  clear hL
  go_enter Tryz.func40, Tryz.ntmps40
  go_wp2_with fail
  refine (rspans_any s _ hs).mono ?_
  rintro e w2 ⟨v, rfl, hown, hb⟩
  rw [← HL.out] at hown
  obtain ⟨A, c, rfl, hnc, hA⟩ := own_shape hown
  have hz2' := hb.size
  go_wp2_with fail
  go_loopg [5, 11] L.length (fun gg s5 s11 wr => ∃ k : Nat, k + gg = L.length ∧ s11 = .int .i64 k ∧ wr.ownsRow w2.heap.size 9 1 s5 (textsK kd (L.take k)).length (textsK kd (L.take k)) ∧ Below w2.heap.size w2 wr)
  case atStart => exact ⟨0, by omega, rfl, by rw [List.take_zero]; exact World.ownsRow_nil _ _ _ _, Below.refl _ _⟩
  case round =>
    obtain ⟨k, hkg, rfl, hown3, hbel⟩ := hrel
    by_cases hk : k < L.length
    · obtain ⟨g, rfl⟩ := hA (by omega)
      obtain ⟨x, hx⟩ : ∃ x, L[k]? = some x := ⟨_, List.getElem?_eq_getElem hk⟩
      obtain ⟨c0, c1, c2, c3, c4, c5, c6⟩ := sp_cells hown hbel hx
      have htk : L.take (k + 1) = L.take k ++ [x] := by rw [List.take_add_one, hx]; rfl
      have hsn := textsK_snoc kd (L.take k) x
      rw [← htk] at hsn
      have hlen := textsK_len kd (L.take k)
      have htl : (L.take k).length = k := by simp; omega
      obtain ⟨T0, hT0⟩ : ∃ T0, T0 = textsK kd (L.take k) := ⟨_, rfl⟩
      obtain ⟨T1, hT1⟩ : ∃ T1, T1 = textsK kd (L.take (k + 1)) := ⟨_, rfl⟩
      rw [← hT0, ← hT1] at hsn
      rw [← hT0] at hown3 hlen
      have HSN := Lib.hid hsn
      have HT1 := Lib.hid hT1
      have ik : (k : Int) < (L.length : Int) := by omega
      have ik0 : (0 : Int) ≤ (k : Int) := by omega
      have hzz := hbel.size
      have hlt3 := hown3.lt
      have HLT := Lib.hid hlt3
      have hl0 : T0.length ≤ 1048576 := by omega
      clear hx htk hsn hT0 hT1 htl hlt3 hlen
      cases ek : (x.kind == kd)
      case true =>
        go_wp2_with (at_builtin; refine wpList_append_own_at _ rfl _ _ 31 rfl w2.heap.size 9 i0 (.string ⟨#[]⟩) 1 16 Tryz.underlying31 hi hz0 hz1 hz2 rfl (by decide) _ T0.length _ rfl ((hown3.alloc _).alloc _) ⟨wr.heap.size + 1, 0, none⟩ 1 1 [.string x.text] rfl rfl (cells_new _ _ [.string x.text] _ (by simp)) (by intro u hu; simp at hu; subst hu; rfl) (by unfold maxLen; omega) (by omega) (by simp; omega) ?_; intro v7 w7 hown7 hg7 _ _)
        have R : Hid (w7.ownsRow w2.heap.size 9 1 v7 T1.length T1 ∧ Below w2.heap.size w2 w7) := by
          refine ⟨?_, (hbel.trans (((Below.refl _ _).alloc hzz _).alloc (by simp; omega) _)).grown hg7 (by simp; omega) (fun g h => (HLT.out g h).1)⟩
          rw [HSN.out, if_pos (by simpa using ek), List.length_append]; exact hown7
        clear hown7 hg7
        go_wp2_with fail
        go_roundg (L.length - (k + 1))
        case measure => omega
        case rel => exact ⟨k + 1, by omega, by go_num, by rw [← HT1.out]; exact R.out.1, R.out.2⟩
      case false =>
        have hTT : T1 = T0 := by rw [HSN.out, if_neg (by simpa using ek), List.append_nil]
        have hown9 := hown3.alloc (.cells #[.int .i64 x.kind, .int .i64 x.frm, .int .i64 x.to_, .string x.text, .string x.show_, .int .i64 x.id, .bool x.strong] 27)
        rw [← hTT] at hown9
        have R := Lib.hid (And.intro hown9 (hbel.trans ((Below.refl _ _).alloc hzz (.cells #[.int .i64 x.kind, .int .i64 x.frm, .int .i64 x.to_, .string x.text, .string x.show_, .int .i64 x.id, .bool x.strong] 27))))
        clear hown9 hTT
        clear hown3
        go_wp2_with fail
        go_roundg (L.length - (k + 1))
        case measure => omega
        case rel => exact ⟨k + 1, by omega, by go_num, by rw [← HT1.out]; exact R.out.1, R.out.2⟩
    · obtain rfl : k = L.length := by omega
      rw [List.take_length] at hown3
      have HF : Hid (textsK kd L = textsK kd (spans s)) := by show _ = _; rw [HL.out]
      have R := Lib.hid (And.intro (hown3.mono hz2') (hb.trans (hbel.mono hz2')))
      clear hb hbel hown hnc hA hown3
      go_wp2
      go_ret
      exact ⟨_, rfl, by rw [← HF.out]; exact R.out.1, R.out.2⟩

set_option maxHeartbeats 1000000 in
theorem rlinks_any (s : ByteArray) (w : World) (hs : s.size ≤ 1048576) :
    Calls Tryz.prog 14 #[.string s] w fun e w' => ∃ v, e = .returned v ∧ w'.ownsRow w.heap.size 9 1 v (textsK 4 (spans s)).length (textsK 4 (spans s)) ∧ Below w.heap.size w w' := by
  go_enter Tryz.func14, Tryz.ntmps14
  go_wp2_with fail
  refine (rtextsOf_any s 4 _ hs).mono ?_
  rintro e w1 ⟨v, rfl, h1, h2⟩
  have H := Lib.hid (And.intro h1 h2)
  clear h1 h2
  go_wp2
  go_ret
  exact ⟨_, rfl, H.out.1, H.out.2⟩
set_option maxHeartbeats 1000000 in
theorem rtags_any (s : ByteArray) (w : World) (hs : s.size ≤ 1048576) :
    Calls Tryz.prog 19 #[.string s] w fun e w' => ∃ v, e = .returned v ∧ w'.ownsRow w.heap.size 9 1 v (textsK 6 (spans s)).length (textsK 6 (spans s)) ∧ Below w.heap.size w w' := by
  go_enter Tryz.func19, Tryz.ntmps19
  go_wp2_with fail
  refine (rtextsOf_any s 6 _ hs).mono ?_
  rintro e w1 ⟨v, rfl, h1, h2⟩
  have H := Lib.hid (And.intro h1 h2)
  clear h1 h2
  go_wp2
  go_ret
  exact ⟨_, rfl, H.out.1, H.out.2⟩
end Go.Proofs.YtcbmddgafkoooaaGreatDoor
