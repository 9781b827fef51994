/-
  DERIVED. The walk of florkeep1.TopText. Conditions: the text's size. By an AI agent.
-/
import Derived.Test.YtcbmddgafkoooaaDoorTopMath
import Derived.Test.YtcbmddgafkoooaaDoorParts
import Derived.Test.YtcbmddgafkoooaaDoorAwakeText
import Derived.Test.YtcbmddgafkoooaaDoorPlainBig
import Derived.Test.YtcbmddgafkoooaaDoorWriteMore
import Derived.Test.YtcbmddgafkoooaaDoorSource
namespace Go.Proofs.YtcbmddgafkoooaaDoor
open Go.RowKit

theorem cont_uniq : ∀ {l : List Sp} {a b c : Nat}, Cont a l b → Cont a l c → b = c
  | [], _, _, _, h, k => by cases h; exact k
  | _ :: _, _, _, _, h, k => cont_uniq h.2.2 k.2.2
theorem list_cut {α : Type} {L : List α} {k : Nat} {x : α} (hx : L[k]? = some x) : L = L.take k ++ x :: L.drop (k + 1) := by
  obtain ⟨hl, he⟩ := List.getElem?_eq_some_iff.1 hx
  have e1 := List.take_append_drop k L
  rw [List.drop_eq_getElem_cons hl, he] at e1
  exact e1.symm
theorem drop_cut {α : Type} {L : List α} {k : Nat} {x : α} (hx : L[k]? = some x) : L.drop k = x :: L.drop (k + 1) := by
  obtain ⟨hl, he⟩ := List.getElem?_eq_some_iff.1 hx
  rw [List.drop_eq_getElem_cons hl, he]
theorem strCells_take (s : ByteArray) {p q : Nat} (h : p ≤ q) : Lib.byteCells (s.data.toList.take p) ++ Lib.strCells (s.extract p q) = Lib.byteCells (s.data.toList.take q) := by
  rw [strCells_byte, ← byteCells_append, ext_list2, ← List.take_add, show p + (q - p) = q by omega]
theorem join_nil_sep : ∀ l : List (List UInt8), Lib.join l [] = l.flatten
  | [] => rfl
  | x :: r => by rw [Lib.join_cons]; simp [Lib.joinTail]
theorem parts_join (s : ByteArray) : Lib.join ((parts s).map (·.data.toList)) (⟨#[]⟩ : ByteArray).data.toList = s.data.toList := by
  show Lib.join _ [] = _
  rw [join_nil_sep, ← List.flatMap_def]
  exact parts_cat s
/-- Join of the parts -/
theorem join_parts (s : ByteArray) (w : World) (B : Nat) (v : Value) (hown : w.ownsRow B 9 1 v (strV (parts s)).length (strV (parts s))) (hs : s.size ≤ 1048576) :
    Calls Tryd.prog 23 #[v, .string ⟨#[]⟩] w fun e w' => e = .returned (.string s) ∧ Below w.heap.size w w' := by
  have hl : (strV (parts s)).length = (parts s).length := by unfold strV; rw [List.length_map]
  have hpl := parts_len s
  have hj := parts_join s
  rcases Nat.eq_zero_or_pos (strV (parts s)).length with h0 | h0
  · obtain ⟨A, c, rfl, _⟩ := own_reads hown
    rw [h0]
    refine (Tryd.strings_Join_none A c ⟨#[]⟩ w).mono ?_
    rintro e w' ⟨rfl, rfl⟩
    have hp : parts s = [] := List.eq_nil_of_length_eq_zero (by omega)
    rw [hp] at hj
    have hse : s = ⟨#[]⟩ := ba_ext (show s.data.toList = [] from hj.symm)
    exact ⟨by rw [hse], Below.refl _ _⟩
  · obtain ⟨g, cap, cur, rfl, hbg, hg, hnc, hcm, hcs, htake⟩ : ∃ g cap cur, v = .slice (some ⟨g, 0, none⟩) (strV (parts s)).length cap ∧ B ≤ g ∧ w.heap[g]? = some (.cells cur 9 (0, 0)) ∧ (strV (parts s)).length ≤ cap ∧ cap ≤ maxLen ∧ cur.size = cap * 1 ∧ cur.toList.take ((strV (parts s)).length * 1) = strV (parts s) := by
      rcases hown.2 with ⟨_, hz⟩ | ⟨g, cap, cur, hv, r⟩
      · exact absurd hz (by omega)
      · exact ⟨g, cap, cur, hv, r⟩
    have hlt := (hown.lt g rfl).2
    have hc : ∀ (j : Nat) x, (parts s)[j]? = some x → w.cell? ⟨g, 0 + j, none⟩ = some (.string x) := fun j x hx => by
      have := hown.cells (g := g) rfl j (.string x) (by unfold strV; rw [List.getElem?_map, hx]; rfl)
      rw [Addr.add_lit] at this
      simpa using this
    rw [hl] at hnc ⊢
    refine (Tryd.strings_Join g 0 cap (parts s) ⟨#[]⟩ w hc hlt (by omega) hnc (by rw [hj, ← Lib.size_eq]; omega)).mono ?_
    rintro e w' ⟨rfl, hb⟩
    rw [hj]
    exact ⟨rfl, hb⟩

/-- the last place before round i -/
def lastV (s : ByteArray) (i : Nat) : Int := if i = 0 then -1 else if i ≤ (plain s).size then (srcL s (spans s)).getD (i - 1) 0 else s.size
theorem round_src {s : ByteArray} {i : Nat} (h : i < (plain s).size) : ∃ k : Nat, srcV s i = .tuple #[.int .i64 k, .int .i64 0] ∧ k < s.size ∧ bt s k = bt (plain s) i ∧ lastV s i < k ∧ lastV s (i + 1) = k := by
  obtain ⟨k, e1, e2, e3, e4⟩ := src_at h
  refine ⟨k, ?_, e2, e3, ?_, ?_⟩
  · unfold srcV
    rw [plain_len, if_neg (by omega), if_neg (by omega), show ((i : Nat) : Int).toNat = i from rfl, e1]
  · unfold lastV
    by_cases h0 : i = 0
    · rw [if_pos h0]; omega
    · rw [if_neg h0, if_pos (by omega)]
      exact e4 (i - 1) _ (by omega) rfl
  · unfold lastV
    rw [if_neg (by omega), if_pos (by omega), show i + 1 - 1 = i by omega, e1]
theorem last_src (s : ByteArray) : srcV s (plain s).size = .tuple #[.int .i64 s.size, .int .i64 0] ∧ lastV s (plain s).size < s.size ∧ lastV s ((plain s).size + 1) = s.size := by
  refine ⟨?_, ?_, ?_⟩
  · unfold srcV
    rw [plain_len, if_neg (by omega), if_pos rfl]
  · unfold lastV
    by_cases h0 : (plain s).size = 0
    · rw [if_pos h0]; omega
    · rw [if_neg h0, if_pos (Nat.le_refl _)]
      obtain ⟨k, e1, e2, _⟩ := src_at (s := s) (i := (plain s).size - 1) (by omega)
      rw [e1]; omega
  · unfold lastV
    rw [if_neg (by omega), if_neg (by omega)]

theorem sp_keep {w w' : World} {b B g k c : Nat} {L : List Sp} {x : Sp} {e : TypeId} (h : w.ownsRow B e 7 (.slice (some ⟨g, 0, none⟩) L.length c) L.length (flatC L)) (hk : Keep b w.heap.size w w') (hb : b < B) (hx : L[k]? = some x) :
    w'.cell? ⟨g, k * 7, none⟩ = some (.int .i64 x.kind) ∧ w'.cell? ⟨g, k * 7 + 1, none⟩ = some (.int .i64 x.frm) ∧ w'.cell? ⟨g, k * 7 + 2, none⟩ = some (.int .i64 x.to_) ∧ w'.cell? ⟨g, k * 7 + 3, none⟩ = some (.string x.text) ∧
    w'.cell? ⟨g, k * 7 + 4, none⟩ = some (.string x.show_) ∧ w'.cell? ⟨g, k * 7 + 5, none⟩ = some (.int .i64 x.id) ∧ w'.cell? ⟨g, k * 7 + 6, none⟩ = some (.bool x.strong) := by
  obtain ⟨c0, c1, c2, c3, c4, c5, c6⟩ := sp_cells h (Below.refl _ _) hx
  have hg := h.lt g rfl
  have tr : ∀ j u, w.cell? ⟨g, j, none⟩ = some u → w'.cell? ⟨g, j, none⟩ = some u := fun j u hu => (hk.cell (p := ⟨g, j, none⟩) hg.2 (by show g ≠ b; omega)).trans hu
  exact ⟨tr _ _ c0, tr _ _ c1, tr _ _ c2, tr _ _ c3, tr _ _ c4, tr _ _ c5, tr _ _ c6⟩

set_option maxHeartbeats 8000000 in
set_option maxRecDepth 100000 in
theorem topText_any (s : ByteArray) (w : World) (hs : s.size ≤ 1048576) :
    Calls Tryd.prog 6 #[.string s] w fun e w' => e = .returned (.bool true) ∧ Below w.heap.size w w' := by
  obtain ⟨L, hL⟩ : ∃ L, L = spans s := ⟨_, rfl⟩
  have hcont : Cont 0 L s.size := by rw [hL]; exact spans_cont s
  have hll : L.length ≤ 1048576 := by have := (cont_le hcont).2; omega
  obtain ⟨m, hm2, hsg⟩ := spans_sg s
  rw [← hL] at hsg
  have HL := Lib.hid hL
  have HC := Lib.hid hcont
  have HSG := Lib.hid hsg
  clear hL hcont hsg
  go_enter Tryd.func6, Tryd.ntmps6
  go_wp2_with fail
  refine (awakeText_any _).mono ?_
  rintro e w0 ⟨rfl, hb0⟩
  have HB0 := Lib.hid hb0
  clear hb0
  go_wp2_with fail
  refine (spans_any s _ (by omega)).mono ?_
  rintro e w2 ⟨v, rfl, hown, hb2⟩
  rw [← HL.out] at hown
  obtain ⟨A, c, rfl, hnc, hA⟩ := own_shape hown
  have hz2 := hb2.size
  simp only [World.size_alloc] at hz2 hown
  have hbl : Bld w0.heap.size w2.heap.size (Lib.byteCells (s.data.toList.take 0)) w2 := Bld.fresh (by omega) ((hb2.block w0.heap.size (by simp)).trans (heap_alloc_new w0 _))
  have HB2 : Hid (Below w0.heap.size w0 w2) := ((Below.refl _ _).alloc (Nat.le_refl _) _).trans (hb2.mono (by simp))
  have HBL := Lib.hid hbl
  have HOWN := Lib.hid hown
  clear hb2 hbl
  go_wp2_with fail
  go_loopg [3, 4, 18] L.length (fun gg s3 s4 s18 wr => ∃ k p n : Nat, k + gg = L.length ∧ s18 = .int .i64 k ∧ s3 = .int .i64 p ∧ s4 = .int .i64 n ∧ Hid (Cont 0 (L.take k) p) ∧ Hid (SG n (L.drop k) m) ∧ n ≤ k ∧ Hid (Bld w0.heap.size w2.heap.size (Lib.byteCells (s.data.toList.take p)) wr) ∧ Hid (Keep w0.heap.size w2.heap.size w2 wr))
  case atStart => exact ⟨0, 0, 0, by omega, rfl, rfl, rfl, by rw [List.take_zero]; exact (rfl : (0 : Nat) = 0), by rw [List.drop_zero]; exact HSG.out, Nat.le_refl _, HBL, Keep.refl _ _ _⟩
  case round =>
    obtain ⟨k, p, n, hkg, rfl, rfl, rfl, hco, hsgk, hnk, hbk, hkp⟩ := hrel
    by_cases hk : k < L.length
    · obtain ⟨g, rfl⟩ := hA (by omega)
      obtain ⟨x, hx⟩ : ∃ x, L[k]? = some x := ⟨_, List.getElem?_eq_getElem hk⟩
      obtain ⟨c0, c1, c2, c3, c4, c5, c6⟩ := sp_keep HOWN.out hkp.out (by omega) hx
      have hcut := list_cut hx
      have hc0 := HC.out
      rw [hcut] at hc0
      obtain ⟨p', g1, g2⟩ := cont_split hc0
      obtain rfl : p = p' := cont_uniq hco.out g1
      obtain rfl : x.frm = p := g2.1
      have g3 := g2.2.1
      have g4 := (cont_le g2.2.2).1
      have hsx := hsgk.out
      rw [drop_cut hx] at hsx
      obtain ⟨s1, s2⟩ := hsx
      have htk : L.take (k + 1) = L.take k ++ [x] := by rw [List.take_add_one, hx]; rfl
      have HCO1 : Hid (Cont 0 (L.take (k + 1)) x.to_) := by show Cont _ _ _; rw [htk]; exact cont_append hco.out ⟨rfl, g3, rfl⟩
      have HST : Hid (Lib.byteCells (s.data.toList.take x.frm) ++ Lib.strCells (s.extract x.frm x.to_) = Lib.byteCells (s.data.toList.take x.to_)) := strCells_take s (by omega)
      have S2 := Lib.hid s2
      have ik : (k : Int) < (L.length : Int) := by omega
      have ik0 : (0 : Int) ≤ (k : Int) := by omega
      have n1 : (x.frm : Int) < (x.to_ : Int) := by omega
      have n1' : (x.frm : Int) ≤ (x.to_ : Int) := by omega
      have n2 : (x.to_ : Int) ≤ (s.size : Int) := by omega
      have n3 : (0 : Int) ≤ (x.frm : Int) := by omega
      have nn0 : (0 : Int) ≤ (n : Int) := by omega
      have nn1 : (n : Int) ≤ 1048576 := by omega
      have z1 := hkp.out.1.size
      have hlen : (Lib.byteCells (s.data.toList.take x.frm)).length + (s.extract x.frm x.to_).size ≤ 140737488355328 := by
        have := ext_le s x.frm x.to_
        rw [Lib.byteCells_length, List.length_take]; omega
      have WC := Lib.hid (writeString_more w0.heap.size w2.heap.size _ (s.extract x.frm x.to_) _ (hbk.out.alloc z1 (.cells #[.int .i64 x.kind, .int .i64 x.frm, .int .i64 x.to_, .string x.text, .string x.show_, .int .i64 x.id, .bool x.strong] 29)) hlen (by simp; omega) (Blk.new wr 29 #[.int .i64 x.kind, .int .i64 x.frm, .int .i64 x.to_, .string x.text, .string x.show_, .int .i64 x.id, .bool x.strong]) (by decide) (by omega))
      have KP : Hid (Keep w0.heap.size w2.heap.size w2 (wr.alloc (.cells #[.int .i64 x.kind, .int .i64 x.frm, .int .i64 x.to_, .string x.text, .string x.show_, .int .i64 x.id, .bool x.strong] 29))) := hkp.out.alloc z1 (by omega) _
      clear hcut hc0 g1 g2 s2 hx htk hlen hsgk hco hbk hkp g3 g4
      cases e7' : (x.kind == 7)
      case true =>
        have e1 : e7 x = 1 := by unfold e7; rw [if_pos (by simpa using e7')]
        rw [e7', Bool.true_or] at s1
        rw [e1] at S2
        rw [s1] at c6 WC KP
        clear s1 e1
        go_wp2_with fail
        refine WC.out.mono ?_
        rintro e w3 ⟨rfl, hB3, hK3, hX3⟩
        rw [HST.out] at hB3
        have HB3 := Lib.hid hB3
        have HK3 := Lib.hid (KP.out.trans hK3)
        have d0 : w3.cell? ⟨wr.heap.size, 0, none⟩ = some (.int .i64 x.kind) := by rw [hX3.cell]; rfl
        have d6 : w3.cell? ⟨wr.heap.size, 6, none⟩ = some (.bool true) := by rw [hX3.cell]; rfl
        clear hB3 hK3 hX3 KP WC
        go_wp2_with fail
        go_roundg (L.length - (k + 1))
        case measure => omega
        case rel => exact ⟨k + 1, x.to_, n + 1, by omega, by go_num, rfl, by go_num, HCO1, S2, by omega, HB3, HK3⟩
      case false =>
        have e1 : e7 x = 0 := by unfold e7; rw [if_neg (by simpa using e7')]
        rw [e7', Bool.false_or, e1, Nat.add_zero] at s1
        rw [e1, Nat.add_zero] at S2
        rcases Nat.mod_two_eq_zero_or_one n with h0 | h0
        · have s1' : x.strong = false := by rw [s1, h0]; rfl
          rw [s1'] at c6 WC KP
          have gi : ((n : Int) % 2 == 1) = false := by simp; omega
          clear h0 s1 s1' e1
          go_wp2_with fail
          refine WC.out.mono ?_
          rintro e w3 ⟨rfl, hB3, hK3, hX3⟩
          rw [HST.out] at hB3
          have HB3 := Lib.hid hB3
          have HK3 := Lib.hid (KP.out.trans hK3)
          have d0 : w3.cell? ⟨wr.heap.size, 0, none⟩ = some (.int .i64 x.kind) := by rw [hX3.cell]; rfl
          have d6 : w3.cell? ⟨wr.heap.size, 6, none⟩ = some (.bool false) := by rw [hX3.cell]; rfl
          clear hB3 hK3 hX3 KP WC
          go_wp2_with fail
          go_roundg (L.length - (k + 1))
          case measure => omega
          case rel => exact ⟨k + 1, x.to_, n, by omega, by go_num, rfl, rfl, HCO1, S2, by omega, HB3, HK3⟩
        · have s1' : x.strong = true := by rw [s1, h0]; rfl
          rw [s1'] at c6 WC KP
          have gi : ((n : Int) % 2 == 1) = true := by simp; omega
          clear h0 s1 s1' e1
          go_wp2_with fail
          refine WC.out.mono ?_
          rintro e w3 ⟨rfl, hB3, hK3, hX3⟩
          rw [HST.out] at hB3
          have HB3 := Lib.hid hB3
          have HK3 := Lib.hid (KP.out.trans hK3)
          have d0 : w3.cell? ⟨wr.heap.size, 0, none⟩ = some (.int .i64 x.kind) := by rw [hX3.cell]; rfl
          have d6 : w3.cell? ⟨wr.heap.size, 6, none⟩ = some (.bool true) := by rw [hX3.cell]; rfl
          clear hB3 hK3 hX3 KP WC
          go_wp2_with fail
          go_roundg (L.length - (k + 1))
          case measure => omega
          case rel => exact ⟨k + 1, x.to_, n, by omega, by go_num, rfl, rfl, HCO1, S2, by omega, HB3, HK3⟩
    · obtain rfl : k = L.length := by omega
      rw [List.take_length] at hco
      rw [List.drop_length] at hsgk
      obtain rfl : p = s.size := cont_uniq hco.out HC.out
      obtain rfl : n = m := hsgk.out
      have ht : Lib.byteCells (s.data.toList.take s.size) = Lib.strCells s := by rw [List.take_of_length_le (Nat.le_of_eq (Lib.size_eq s).symm)]; rfl
      rw [ht] at hbk
      have z1 := hkp.out.1.size
      have HB3 : Hid (Below w0.heap.size w0 wr) := HB2.out.trans hkp.out.1
      have gm : ((n : Int) % 2 != 0) = false := by simp; omega
      have nn0 : (0 : Int) ≤ (n : Int) := by omega
      obtain ⟨pl, hpl⟩ : ∃ pl, pl = plain s := ⟨_, rfl⟩
      have HPL := Lib.hid hpl
      obtain ⟨te, hte⟩ : ∃ te : ByteArray, te = ⟨(escL s.data.toList).toArray⟩ := ⟨_, rfl⟩
      have hpe : plain te = s := plain_esc s te (by rw [hte])
      have htz : te.size ≤ 4194304 := by
        have h1 := escL_len s.data.toList
        have h2 := Lib.size_eq s
        rw [hte]
        show (escL _).toArray.size ≤ _
        simp; omega
      have HTE := Lib.hid hte
      have HPE := Lib.hid hpe
      clear ht hco hsgk hkp hown hnc hA hpl hte hpe hm2
      go_wp2_with fail
      refine (plainOf_any s _ hs).mono ?_
      rintro e w5 ⟨rfl, hb5⟩
      rw [← HPL.out]
      have hbk5 := Lib.hid (hbk.out.below z1 hb5)
      have HB5 := Lib.hid (HB3.out.trans (hb5.mono HB3.out.size))
      have z5 : w2.heap.size ≤ w5.heap.size := Nat.le_trans z1 hb5.size
      clear hb5 hbk HB3
      go_wp2_with fail
      refine (string_any w0.heap.size w2.heap.size s w5 hbk5.out).mono ?_
      rintro e w6 ⟨rfl, hb6⟩
      have HB6 := Lib.hid (HB5.out.trans hb6)
      clear hb6 hbk5 HB5
      go_wp2_with fail
      refine (escaped_any s _ (by omega)).mono ?_
      rintro e w7 ⟨rfl, hb7⟩
      rw [← HTE.out]
      have HB7 := Lib.hid (HB6.out.trans (hb7.mono HB6.out.size))
      clear hb7 HB6
      go_wp2_with fail
      refine (plainOf_big te _ htz).mono ?_
      rintro e w8 ⟨rfl, hb8⟩
      rw [HPE.out]
      have HB8 := Lib.hid (HB7.out.trans (hb8.mono HB7.out.size))
      clear hb8 HB7
      go_wp2_with fail
      refine (parts_any s _ hs).mono ?_
      rintro e w9 ⟨v9, rfl, hown9, hb9⟩
      have HJ := Lib.hid (join_parts s w9 _ v9 hown9 hs)
      have HB9 := Lib.hid (HB8.out.trans (hb9.mono HB8.out.size))
      clear hb9 hown9 HB8
      go_wp2_with fail
      refine HJ.out.mono ?_
      rintro e w10 ⟨rfl, hb10⟩
      have HB10 := Lib.hid (HB9.out.trans (hb10.mono HB9.out.size))
      clear hb10 HB9 HJ
      have hpz : pl.size ≤ 4398046511104 := by
        rw [HPL.out, ← plain_len]
        obtain ⟨r0, r1⟩ := srcF_room (p := 0) (l := spans s) (q := []) (by simp) hs
        rw [(srcF_is (s := s) 0 (spans s) (spans_at s)).1] at r1
        omega
      have HRS : Hid (∀ i, i < pl.size → ∃ k : Nat, srcV s i = .tuple #[.int .i64 k, .int .i64 0] ∧ k < s.size ∧ bt s k = bt pl i ∧ lastV s i < k ∧ lastV s (i + 1) = k) := by
        show ∀ i, _
        intro i hi
        rw [HPL.out] at hi ⊢
        exact round_src hi
      have HLS : Hid (srcV s pl.size = .tuple #[.int .i64 s.size, .int .i64 0] ∧ lastV s pl.size < s.size ∧ lastV s (pl.size + 1) = s.size) := by
        show _ ∧ _
        rw [HPL.out]
        exact last_src s
      go_wp2_with fail
      go_loopg [9, 99] (pl.size + 1) (fun gg s9 s99 wr => ∃ i : Nat, i + gg = pl.size + 1 ∧ s99 = .int .i64 i ∧ s9 = .int .i64 (lastV s i) ∧ Below w10.heap.size w10 wr)
      case atStart => exact ⟨0, by omega, rfl, rfl, Below.refl _ _⟩
      case round =>
        obtain ⟨i, hig, rfl, rfl, hbel⟩ := hrel
        have HBL2 := Lib.hid hbel
        clear hbel
        obtain ⟨q, hq⟩ : ∃ q, q = lastV s i := ⟨_, rfl⟩
        obtain ⟨q1, hq1⟩ : ∃ q, q = lastV s (i + 1) := ⟨_, rfl⟩
        rw [← hq]
        have HQ1 := Lib.hid hq1
        by_cases hi : i < pl.size
        · obtain ⟨k, e1, e2, e3, e4, e5⟩ := HRS.out i hi
          rw [← hq] at e4
          rw [← hq1] at e5
          have E1 := Lib.hid e1
          have E5 := Lib.hid e5
          have b3 : ((s[k]'e2).toNat : Int) = ((pl[i]'hi).toNat : Int) := by rw [bt_at e2, bt_at hi] at e3; exact e3
          have f1 : decide ((k : Int) ≤ q) = false := by simp; omega
          have f2 : decide ((i : Int) < (pl.size : Int)) = true := by simp; omega
          have f2' : decide (i < pl.size) = true := by simp; omega
          have f3 : decide (s.size ≤ k) = false := by simp; omega
          have f3' : decide ((s.size : Int) ≤ (k : Int)) = false := by simp; omega
          have f4 : (((s[k]'e2).toNat : Int) != ((pl[i]'hi).toNat : Int)) = false := by rw [b3]; simp
          have f5 : ((i : Int) == (pl.size : Int)) = false := by simp; omega
          have g0 : (0 : Int) ≤ (k : Int) := by omega
          have g1 : (k : Int) < (s.size : Int) := by omega
          have g2 : (0 : Int) ≤ (i : Int) := by omega
          have g3 : (i : Int) < (pl.size : Int) := by omega
          have g4 : (i : Int) < (pl.size : Int) + 1 := by omega
          clear e1 e3 e4 e5 b3 hq hq1
          go_wp2_with fail
          refine (source_any s i _ hs).mono ?_
          rintro e wa ⟨rfl, hba⟩
          rw [E1.out]
          have HBA := Lib.hid (HBL2.out.trans (hba.mono HBL2.out.size))
          clear hba
          go_wp2_with fail
          go_quiet (fail)
          go_wp2_with fail
          have R := Lib.hid (bdrew HBA.out nq)
          go_roundg (pl.size + 1 - (i + 1))
          case measure => omega
          case rel => exact ⟨i + 1, by omega, by go_num, by rw [← HQ1.out, E5.out], R.out⟩
        · by_cases hi2 : i = pl.size
          · subst hi2
            obtain ⟨e1, e4, e5⟩ := HLS.out
            rw [← hq] at e4
            rw [← hq1] at e5
            have E1 := Lib.hid e1
            have E5 := Lib.hid e5
            have f1 : decide ((s.size : Int) ≤ q) = false := by simp; omega
            have g2 : (0 : Int) ≤ (pl.size : Int) := by omega
            have g4 : (pl.size : Int) < (pl.size : Int) + 1 := by omega
            clear e1 e4 e5 hq hq1
            go_wp2_with fail
            refine (source_any s pl.size _ hs).mono ?_
            rintro e wa ⟨rfl, hba⟩
            rw [E1.out]
            have HBA := Lib.hid (HBL2.out.trans (hba.mono HBL2.out.size))
            clear hba
            go_wp2_with fail
            go_quiet (fail)
            go_wp2_with fail
            have R := Lib.hid (bdrew HBA.out nq)
            go_roundg (pl.size + 1 - (pl.size + 1))
            case measure => omega
            case rel => exact ⟨pl.size + 1, by omega, by go_num, by rw [← HQ1.out, E5.out], R.out⟩
          · have hi3 : i = pl.size + 1 := by omega
            have g4 : ¬ (i : Int) < (pl.size : Int) + 1 := by omega
            have R : Hid (Below w.heap.size w wr) := HB0.out.trans ((HB10.out.trans (HBL2.out.mono HB10.out.size)).mono HB0.out.size)
            clear hq hq1 hi hi2 hi3 hig
            go_wp2_with fail
            go_ret
            exact ⟨rfl, R.out⟩
end Go.Proofs.YtcbmddgafkoooaaDoor
