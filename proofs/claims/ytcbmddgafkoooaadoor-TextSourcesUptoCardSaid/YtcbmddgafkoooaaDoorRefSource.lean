/-
  DERIVED. The walk of florref1.SourceOf. Conditions: the text's size. By an AI agent.
-/
import Derived.Test.YtcbmddgafkoooaaDoorRefSpans
import Derived.Test.YtcbmddgafkoooaaDoorRefShown
import Derived.Test.YtcbmddgafkoooaaDoorSource
namespace Go.Proofs.YtcbmddgafkoooaaDoor
open Go.RowKit

theorem spans_plain (s : ByteArray) : ∀ x ∈ spans s, x.kind = 1 → x.text = s.extract x.frm x.to_ := by
  intro x hx hk
  obtain ⟨y, _, rfl⟩ := List.mem_map.1 hx
  obtain ⟨u1, u2, u3, _⟩ := fillT_kind' s y
  rw [u2, u3]
  rw [u1] at hk
  unfold fillT
  rw [if_pos hk]
theorem srcL_map (s : ByteArray) (l : List Sp) (x : Sp) : (srcL s (l ++ [x])).map (Value.int .i64) = (srcL s l).map (Value.int .i64) ++ placesL (shownAt x) (shown s x).size := by
  rw [srcL_snoc, List.map_append]
  unfold placesL
  rw [List.map_map]
  rfl
theorem srcL_room {s : ByteArray} {l q : List Sp} (h : spans s = l ++ q) (hs : s.size ≤ 1048576) : (srcL s l).length ≤ 4398046511104 := by
  obtain ⟨r0, r1⟩ := srcF_room (p := 0) h hs
  rw [(srcF_is (s := s) 0 l (fun x hx => spans_at s x (by rw [h]; exact List.mem_append_left _ hx))).1] at r1
  omega

set_option maxHeartbeats 4000000 in
set_option maxRecDepth 100000 in
theorem rsource_any (s : ByteArray) (p : Int) (w : World) (hs : s.size ≤ 1048576) (hp : p ≤ 9223372036854775807) :
    Calls Tryd.prog 18 #[.string s, .int .i64 p] w fun e w' => e = .returned (srcV s p) ∧ Below w.heap.size w w' := by
  obtain ⟨i0, hi, hz0, hz1, hz2⟩ := info_parts int_info
  obtain ⟨L, hL⟩ : ∃ L, L = spans s := ⟨_, rfl⟩
  have hll : L.length ≤ 1048576 := by rw [hL]; have := (cont_le (spans_cont s)).2; omega
  have HL := Lib.hid hL
  clear hL
  go_enter Tryd.func18, Tryd.ntmps18
  go_wp2_with fail
  refine (rspans_any s _ hs).mono ?_
  rintro e w2 ⟨v, rfl, hown, hb⟩
  rw [← HL.out] at hown
  obtain ⟨A, c, rfl, hnc, hA⟩ := own_shape hown
  have hz2' := hb.size
  go_wp2_with fail
  go_loopg [6, 14] L.length (fun gg s6 s14 wr => ∃ k : Nat, k + gg = L.length ∧ s14 = .int .i64 k ∧ wr.ownsRow w2.heap.size 3 1 s6 (srcL s (L.take k)).length ((srcL s (L.take k)).map (.int .i64)) ∧ Below w2.heap.size w2 wr)
  case atStart => exact ⟨0, by omega, rfl, by rw [List.take_zero]; exact World.ownsRow_nil _ _ _ _, Below.refl _ _⟩
  case round =>
    obtain ⟨k, hkg, rfl, hown3, hbel⟩ := hrel
    by_cases hk : k < L.length
    · obtain ⟨g, rfl⟩ := hA (by omega)
      obtain ⟨x, hx⟩ : ∃ x, L[k]? = some x := ⟨_, List.getElem?_eq_getElem hk⟩
      obtain ⟨c0, c1, c2, c3, c4, c5, c6⟩ := sp_cells hown hbel hx
      have hxm : x ∈ spans s := by rw [← HL.out]; exact List.mem_of_getElem? hx
      obtain ⟨_, m1, m2⟩ := cont_mem (spans_cont s) x hxm
      have ok := spans_ok s x hxm
      have HSP := Lib.hid (And.intro (spans_is s x hxm) (spans_plain s x hxm))
      have hroom := srcL_room (s := s) (l := L.take (k + 1)) (q := L.drop (k + 1)) (by rw [← HL.out, List.take_append_drop]) hs
      have htk : L.take (k + 1) = L.take k ++ [x] := by rw [List.take_add_one, hx]; rfl
      have hmap := srcL_map s (L.take k) x
      rw [← htk] at hmap
      have hlen := congrArg List.length hmap
      simp only [List.length_map, List.length_append, placesL_len] at hlen
      have HMAP := Lib.hid hmap
      have ik : (k : Int) < (L.length : Int) := by omega
      have ik0 : (0 : Int) ≤ (k : Int) := by omega
      have hzz := hbel.size
      obtain ⟨T0, hT0⟩ : ∃ T0, T0 = srcL s (L.take k) := ⟨_, rfl⟩
      obtain ⟨T1, hT1⟩ : ∃ T1, T1 = srcL s (L.take (k + 1)) := ⟨_, rfl⟩
      rw [← hT0, ← hT1] at HMAP hlen
      rw [← hT1] at hroom
      rw [← hT0] at hown3
      have HT1 := Lib.hid hT1
      have HLEN := Lib.hid hlen
      have hts := ok.1
      obtain ⟨sn, hsn⟩ : ∃ sn, sn = (shown s x).size := ⟨_, rfl⟩
      have HSN := Lib.hid hsn
      rw [← hsn] at HLEN
      have hroom0 : T0.length + sn ≤ 4398046511104 := by have := HLEN.out; omega
      clear hx hxm htk hmap hlen hT0 hT1 ok hsn
      go_wp2_with fail
      rw [show Value.agg #[Value.int .i64 x.kind, .int .i64 x.frm, .int .i64 x.to_, .string x.text, .string x.show_, .int .i64 x.id, .bool x.strong] = spV x from rfl]
      refine (rshown_any s x _ HSP.out.1 m1 m2 HSP.out.2 hs (by omega)).mono ?_
      rintro e w3 ⟨v3, rfl, hown4, hb3⟩
      rw [← HSN.out] at hown4
      obtain ⟨A4, c4', rfl, hrd⟩ := own_reads hown4
      have hb3' : Below wr.heap.size wr w3 := ((Below.refl _ _).alloc (Nat.le_refl _) _).trans (hb3.mono (by simp))
      have hown5 := own_below hown3 hb3'
      have hz3 := hb3'.size
      have hbel3 := hbel.trans (hb3'.mono hzz)
      have HRD := Lib.hid hrd
      have hlt5 := hown5.lt
      clear hown4 hb3 hb3' hown3 hrd
      go_wp2_with (at_builtin; refine wpList_append_any _ rfl _ _ 39 rfl w2.heap.size 3 i0 (.int .i64 0) 1 8 Tryd.underlying39 hi hz0 hz1 hz2 rfl (by decide) _ T0.length _ rfl hown5 w3.heap.size A4 sn c4' _ rfl HRD.out (by intro u hu; unfold placesL at hu; obtain ⟨i, _, rfl⟩ := List.mem_map.1 hu; rfl) (by unfold maxLen; omega) (by omega) (by omega) ?_; intro v6 w6 hown6 hg6 _)
      have R : Hid (w6.ownsRow w2.heap.size 3 1 v6 T1.length (T1.map (.int .i64)) ∧ Below w2.heap.size w2 w6) := ⟨by rw [HMAP.out, HLEN.out, ← HSN.out]; exact hown6, hbel3.grown hg6 (by omega) (fun g h => (hlt5 g h).1)⟩
      clear hown6 hg6 hown5
      go_roundg (L.length - (k + 1))
      case measure => omega
      case rel => exact ⟨k + 1, by omega, by go_num, by rw [← HT1.out]; exact R.out.1, R.out.2⟩
    · obtain rfl : k = L.length := by omega
      rw [List.take_length] at hown3
      have hroom := srcL_room (s := s) (l := L) (q := []) (by rw [← HL.out, List.append_nil]) hs
      obtain ⟨xs, hxs⟩ : ∃ xs, xs = srcL s L := ⟨_, rfl⟩
      rw [← hxs] at hown3 hroom
      have hzz := hbel.size
      have hlt3 := hown3.lt
      have HXS : Hid (xs = srcL s (spans s)) := by rw [← HL.out]; exact hxs
      clear hxs hown hnc hA
      go_upto_region 9 with (at_builtin; refine wpList_append_own_at _ rfl _ _ 39 rfl w2.heap.size 3 i0 (.int .i64 0) 1 8 Tryd.underlying39 hi hz0 hz1 hz2 rfl (by decide) _ xs.length _ rfl (hown3.alloc _) ⟨wr.heap.size, 0, none⟩ 1 1 [.int .i64 s.size] rfl rfl (cells_new _ _ [.int .i64 s.size] _ (by simp)) (by intro u hu; simp at hu; subst hu; rfl) (by unfold maxLen; omega) (by omega) (by simp; omega) ?_; intro v7 w7 hown7 hg7 _ _; obtain ⟨g7, cap7, rfl, _, _⟩ := hown7.form (by omega))
      have R : Hid (Below w.heap.size w w7) := (hb.trans (hbel.mono hz2')).trans (((Below.refl _ _).alloc (by omega) _).grown hg7 (by simp; omega) (fun g h => by have := (hlt3 g h).1; omega))
      have hcell : ∀ j u, (xs.map (Value.int .i64) ++ [.int .i64 s.size])[j]? = some u → w7.cell? ⟨g7, j, none⟩ = some u := fun j u hu => by
        have := hown7.cells (g := g7) rfl j u hu
        rw [Addr.add_lit] at this
        simpa using this
      have HC := Lib.hid hcell
      obtain ⟨N, hN⟩ : ∃ N, N = xs.length := ⟨_, rfl⟩
      rw [← hN] at hroom
      have HV : Hid (srcV s p = if p < 0 ∨ (N : Int) < p then .tuple #[.int .i64 0, .int .i64 2] else if p = N then .tuple #[.int .i64 s.size, .int .i64 0] else .tuple #[.int .i64 (xs.getD p.toNat 0), .int .i64 0]) := by
        show _ = _
        rw [hN, HXS.out]; rfl
      have HN := Lib.hid hN
      rw [← hN]
      clear hN hcell hg7 hown7 hb hbel hown3 hlt3 hzz
      by_cases q0 : p < 0
      · have HV2 : Hid (srcV s p = .tuple #[.int .i64 0, .int .i64 2]) := by show _ = _; rw [HV.out, if_pos (.inl q0)]
        have g1 : decide (p < 0) = true := by simp; omega
        clear q0
        go_wp2_with fail
        go_ret2
        exact ⟨by rw [HV2.out]; rfl, R.out⟩
      · obtain ⟨n, rfl⟩ : ∃ n : Nat, p = n := ⟨p.toNat, by omega⟩
        have g1 : decide ((n : Int) < 0) = false := by simp
        clear q0
        by_cases q1 : n ≤ N
        · have g2 : decide (N + 1 ≤ n) = false := by simp; omega
          have g2' : decide ((N : Int) + 1 ≤ (n : Int)) = false := by simp; omega
          have g3 : (0 : Int) ≤ (n : Int) := by omega
          have g4 : (n : Int) < (N : Int) + 1 := by omega
          have g5 : n < N + 1 := by omega
          by_cases q2 : n = N
          · have HV2 : Hid (srcV s n = .tuple #[.int .i64 s.size, .int .i64 0]) := by show _ = _; rw [HV.out, if_neg (by omega), if_pos (by omega)]
            have cc : w7.cell? ⟨g7, n, none⟩ = some (.int .i64 s.size) := HC.out n _ (by rw [q2, HN.out, List.getElem?_append_right (by simp)]; simp)
            clear q1 q2
            go_wp2_with fail
            go_ret2
            exact ⟨by rw [HV2.out]; rfl, R.out⟩
          · have HV2 : Hid (srcV s n = .tuple #[.int .i64 (xs.getD n 0), .int .i64 0]) := by show _ = _; rw [HV.out, if_neg (by omega), if_neg (by omega)]; rfl
            have hnl : n < xs.length := by have := HN.out; omega
            have cc : w7.cell? ⟨g7, n, none⟩ = some (.int .i64 (xs.getD n 0)) := HC.out n _ (by rw [List.getElem?_append_left (by simpa using hnl), List.getElem?_map, List.getElem?_eq_getElem hnl, List.getD_eq_getElem?_getD, List.getElem?_eq_getElem hnl]; rfl)
            obtain ⟨vv, hvv⟩ : ∃ vv, vv = xs.getD n 0 := ⟨_, rfl⟩
            rw [← hvv] at HV2 cc
            clear q1 q2 hnl hvv
            go_wp2_with fail
            go_ret2
            exact ⟨by rw [HV2.out]; rfl, R.out⟩
        · have HV2 : Hid (srcV s n = .tuple #[.int .i64 0, .int .i64 2]) := by show _ = _; rw [HV.out, if_pos (.inr (by omega))]
          have g2 : decide (N + 1 ≤ n) = true := by simp; omega
          have g2' : decide ((N : Int) + 1 ≤ (n : Int)) = true := by simp; omega
          clear q1
          go_wp2_with fail
          go_ret2
          exact ⟨by rw [HV2.out]; rfl, R.out⟩
end Go.Proofs.YtcbmddgafkoooaaDoor
