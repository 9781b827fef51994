/-
  DERIVED. The walk of strings.Builder's WriteByte. Conditions: Go's own limit. By an AI agent (after WriteString's).
  The walk of text.Escaped. Conditions: the text's size.
  By an AI agent.
-/
import Derived.Test.YtcbmddgafkoooaaGreatDoorEach
namespace Go.Proofs.YtcbmddgafkoooaaGreatDoor
open Go.RowKit

set_option maxHeartbeats 2000000 in
set_option maxRecDepth 100000 in
theorem writeByte_any (b B : Nat) (bs : List Value) (c : UInt8) (w : World) (h : Bld b B bs w) (hlen : bs.length + 1 ≤ 140737488355328) (hBw : B ≤ w.heap.size) :
    Calls Tryz.prog 46 #[.pointer (some ⟨b, 0, none⟩), .int .u8 c.toNat] w fun e w' => e = .returned .nilIface ∧ Bld b B (bs ++ Lib.byteCells [c]) w' ∧ Keep b B w w' := by
  obtain ⟨i0, hi, hz0, hz1, hz2⟩ := info_parts byte_info
  have hbB := h.1
  go_enter Tryz.func46, Tryz.ntmps46
  go_wp2_with fail
  refine (copyCheck_any b B bs _ h).mono ?_
  rintro e w1 ⟨rfl, hsz, hk, v, hbk, hown⟩
  have hlt : b < w1.heap.size := by omega
  have hB1 : B ≤ w1.heap.size := by omega
  clear hsz hBw
  have c1A : ∀ o, (w1.alloc o).cell? ⟨b, 1, none⟩ = some v := fun o => (World.cell?_alloc_lt w1 o _ hlt).trans (by rw [Lib.cell_of_heap hbk]; rfl)
  have c1 : w1.cell? ⟨b, 1, none⟩ = some v := by rw [Lib.cell_of_heap hbk]; rfl
  go_wp2_with (at_builtin; refine wpList_append_own_at _ rfl _ _ 42 rfl B 5 i0 (.int .u8 0) 1 1 Tryz.underlying42 hi hz0 hz1 hz2 rfl (by decide) _ bs.length _ rfl (hown.alloc _) ⟨w1.heap.size, 0, none⟩ 1 1 [.int .u8 c.toNat] rfl rfl (cell_one_new _ _ _) (by intro u hu; simp at hu; subst hu; rfl) (by unfold maxLen; omega) (by omega) (by simp; omega) ?_)
  intro v' w2 hown' hgrow _ _
  have hne : v.ownBlock ≠ some b := fun e => by have := (hown.lt b e).1; omega
  have hb2 : w2.heap[b]? = some (.cells #[.pointer (some ⟨b, 0, none⟩), v] 44 (0, 0)) := by
    rw [hgrow.block b (by simp; omega) (fun e => hne e.symm), Below.heap_alloc w1 _ b hlt]
    exact hbk
  have hgb := hgrow.block
  have hgs := hgrow.size
  have d1 : w2.cell? ⟨b, 1, none⟩ = some v := by rw [Lib.cell_of_heap hb2]; rfl
  have f1 : w2.frozen? ⟨b, 1, none⟩ = false := Lib.frozen_of_heap hb2 1
  obtain ⟨ao, n', cap, rfl⟩ : ∃ ao n' cap, v' = .slice ao n' cap := by
    rcases hown'.2 with ⟨hv, _⟩ | ⟨g, cap, cur, hv, _⟩
    · exact ⟨_, _, _, hv⟩
    · exact ⟨_, _, _, hv⟩
  have HK := Lib.hid hk
  have HGB := Lib.hid hgb
  have HGR := Lib.hid hgrow
  clear hk hgb hgrow
  go_wp2
  go_ret
  refine ⟨rfl, ⟨hbB, _, .slice ao n' cap, .inr rfl, ?_, ?_⟩, HK.out.trans ⟨?_, ?_⟩⟩
  · simp [World.setCell, Array.getElem?_modify, hb2]
  · exact ownsRow_setCell_below (by simpa [Lib.byteCells] using hown') hbB _
  · exact (((Below.refl b w1).alloc (by omega) _).grown HGR.out (by simp; omega) (fun k hk => by have := (hown.lt k hk).1; omega)).setCell (p := ⟨b, 1, none⟩) (Nat.le_refl _) _
  · intro k hk hne'
    refine (Below.heap_setCell _ _ _ _ (fun e => hne' (by simp [e]))).trans ((HGB.out k (by simp; omega) (fun e => by have := (hown.lt k e.symm).1; omega)).trans (Below.heap_alloc w1 _ k (by omega)))
end Go.Proofs.YtcbmddgafkoooaaGreatDoor
namespace Go.Proofs.YtcbmddgafkoooaaGreatDoor
open Go.RowKit

/-- the bytes that Escaped sets a backslash ahead of -/
def escB (c : UInt8) : Bool := decide (c.toNat = 92 ∨ c.toNat = 96 ∨ c.toNat = 91 ∨ c.toNat = 40 ∨ c.toNat = 35 ∨ c.toNat = 42)
def escC (c : UInt8) : List UInt8 := if escB c = true then [92, c] else [c]
def escL (l : List UInt8) : List UInt8 := l.flatMap escC
theorem escL_len : ∀ l : List UInt8, (escL l).length ≤ 2 * l.length
  | [] => by simp [escL]
  | c :: l => by
    have := escL_len l
    unfold escL at this ⊢
    rw [List.flatMap_cons, List.length_append, List.length_cons]
    have h : (escC c).length ≤ 2 := by unfold escC; split <;> simp
    omega

set_option maxHeartbeats 2000000 in
set_option maxRecDepth 100000 in
theorem escaped_any (s : ByteArray) (w : World) (hs : s.size ≤ 4294967280) :
    Calls Tryz.prog 24 #[.string s] w fun e w' => e = .returned (.string ⟨(escL s.data.toList).toArray⟩) ∧ Below w.heap.size w w' := by
  have hB0 : ∀ W : World, W = w.alloc (.cells #[.pointer none, .slice none 0 0] 44) → Bld w.heap.size (w.heap.size + 1) [] W ∧ Below w.heap.size w W ∧ w.heap.size + 1 ≤ W.heap.size := by
    rintro W rfl
    refine ⟨Bld.fresh (by omega) ?_, (Below.refl _ _).alloc (Nat.le_refl _) _, by simp⟩
    exact heap_alloc_new w _
  go_enter Tryz.func24, Tryz.ntmps24
  go_wp2_with fail
  obtain ⟨W, hW⟩ : ∃ W, W = w.alloc (.cells #[.pointer none, .slice none 0 0] 44) := ⟨_, rfl⟩
  rw [← hW]
  obtain ⟨b0, b1, b2⟩ := hB0 W hW
  clear hB0
  go_loopw [7] (fun i wr => ∃ k : Nat, k ≤ s.size ∧ i = .int .i64 k ∧ Hid (Bld w.heap.size (w.heap.size + 1) (Lib.byteCells (escL (s.data.toList.take k))) wr) ∧ Below w.heap.size w wr ∧ w.heap.size + 1 ≤ wr.heap.size) (fun i _ => s.size - (intOf i).toNat)
  case atStart => exact ⟨0, Nat.zero_le _, rfl, b0, b1, b2⟩
  case round =>
    clear b0 b1 b2 hW
    obtain ⟨k, hk, rfl, HB, hbel, hsz⟩ := hrel
    by_cases hkl : k < s.size
    · have i0 : (0 : Int) ≤ (k : Int) := by omega
      have i1 : (k : Int) < (s.size : Int) := by omega
      have hl : (escL (s.data.toList.take k)).length ≤ 2 * 4294967280 := by
        have h1 := escL_len (s.data.toList.take k)
        have h2 : (s.data.toList.take k).length ≤ k := by rw [List.length_take]; omega
        omega
      have hnx : Hid (escL (s.data.toList.take (k + 1)) = escL (s.data.toList.take k) ++ escC s[k]) := by
        show _ = _
        have : s.data.toList[k]? = some s[k] := List.getElem?_eq_getElem (l := s.data.toList) hkl
        rw [List.take_add_one, this]
        unfold escL
        simp
      have hw92 : ∀ W, Bld w.heap.size (w.heap.size + 1) (Lib.byteCells (escL (s.data.toList.take k))) W → w.heap.size + 1 ≤ W.heap.size → Calls Tryz.prog 46 #[.pointer (some ⟨w.heap.size, 0, none⟩), .int .u8 92] W fun e w' => e = .returned .nilIface ∧ Bld w.heap.size (w.heap.size + 1) (Lib.byteCells (escL (s.data.toList.take k)) ++ Lib.byteCells [92]) w' ∧ Keep w.heap.size (w.heap.size + 1) W w' :=
        fun W h1 h2 => writeByte_any w.heap.size (w.heap.size + 1) _ 92 W h1 (by rw [Lib.byteCells_length]; omega) h2
      go_wp2_with fail
      · have he : escB s[k] = true := by
          unfold escB
          rw [decide_eq_true_eq]
          simp only [beq_iff_eq] at *
          omega
        have hC : Hid (escC s[k] = [92, s[k]]) := by show _ = _; unfold escC; rw [if_pos he]
        refine (hw92 _ HB.out hsz).mono ?_
        rintro e w1 ⟨rfl, hB1, hK1⟩
        have hz1 := hK1.1.size
        have HB1 := Lib.hid hB1
        have HK1 := Lib.hid hK1.1
        clear hB1 hK1 he
        go_wp2_with fail
        refine (writeByte_any _ _ _ s[k] _ HB1.out (by rw [List.length_append, Lib.byteCells_length, Lib.byteCells_length]; simp; omega) (by omega)).mono ?_
        rintro e w2 ⟨rfl, hB2, hK2⟩
        have hz2 := hK2.1.size
        have HB2 : Hid (Bld w.heap.size (w.heap.size + 1) (Lib.byteCells (escL (s.data.toList.take (k + 1)))) w2) := by
          show Bld _ _ _ _
          rw [hnx.out, hC.out]
          simpa [Lib.byteCells] using hB2
        have HK2 : Hid (Below w.heap.size w w2) := hbel.trans (HK1.out.trans hK2.1)
        clear hB2 hK2
        go_wp2_with fail
        go_roundw
        case rel => exact ⟨k + 1, by omega, by go_num, HB2, HK2.out, by omega⟩
        case measure => simp [intOf]; omega
      · have he : escB s[k] = true := by
          unfold escB
          rw [decide_eq_true_eq]
          simp only [beq_iff_eq, beq_eq_false_iff_ne, ne_eq] at *
          omega
        have hC : Hid (escC s[k] = [92, s[k]]) := by show _ = _; unfold escC; rw [if_pos he]
        refine (hw92 _ HB.out hsz).mono ?_
        rintro e w1 ⟨rfl, hB1, hK1⟩
        have hz1 := hK1.1.size
        have HB1 := Lib.hid hB1
        have HK1 := Lib.hid hK1.1
        clear hB1 hK1 he
        go_wp2_with fail
        refine (writeByte_any _ _ _ s[k] _ HB1.out (by rw [List.length_append, Lib.byteCells_length, Lib.byteCells_length]; simp; omega) (by omega)).mono ?_
        rintro e w2 ⟨rfl, hB2, hK2⟩
        have hz2 := hK2.1.size
        have HB2 : Hid (Bld w.heap.size (w.heap.size + 1) (Lib.byteCells (escL (s.data.toList.take (k + 1)))) w2) := by
          show Bld _ _ _ _
          rw [hnx.out, hC.out]
          simpa [Lib.byteCells] using hB2
        have HK2 : Hid (Below w.heap.size w w2) := hbel.trans (HK1.out.trans hK2.1)
        clear hB2 hK2
        go_wp2_with fail
        go_roundw
        case rel => exact ⟨k + 1, by omega, by go_num, HB2, HK2.out, by omega⟩
        case measure => simp [intOf]; omega
      · have he : escB s[k] = true := by
          unfold escB
          rw [decide_eq_true_eq]
          simp only [beq_iff_eq, beq_eq_false_iff_ne, ne_eq] at *
          omega
        have hC : Hid (escC s[k] = [92, s[k]]) := by show _ = _; unfold escC; rw [if_pos he]
        refine (hw92 _ HB.out hsz).mono ?_
        rintro e w1 ⟨rfl, hB1, hK1⟩
        have hz1 := hK1.1.size
        have HB1 := Lib.hid hB1
        have HK1 := Lib.hid hK1.1
        clear hB1 hK1 he
        go_wp2_with fail
        refine (writeByte_any _ _ _ s[k] _ HB1.out (by rw [List.length_append, Lib.byteCells_length, Lib.byteCells_length]; simp; omega) (by omega)).mono ?_
        rintro e w2 ⟨rfl, hB2, hK2⟩
        have hz2 := hK2.1.size
        have HB2 : Hid (Bld w.heap.size (w.heap.size + 1) (Lib.byteCells (escL (s.data.toList.take (k + 1)))) w2) := by
          show Bld _ _ _ _
          rw [hnx.out, hC.out]
          simpa [Lib.byteCells] using hB2
        have HK2 : Hid (Below w.heap.size w w2) := hbel.trans (HK1.out.trans hK2.1)
        clear hB2 hK2
        go_wp2_with fail
        go_roundw
        case rel => exact ⟨k + 1, by omega, by go_num, HB2, HK2.out, by omega⟩
        case measure => simp [intOf]; omega
      · have he : escB s[k] = true := by
          unfold escB
          rw [decide_eq_true_eq]
          simp only [beq_iff_eq, beq_eq_false_iff_ne, ne_eq] at *
          omega
        have hC : Hid (escC s[k] = [92, s[k]]) := by show _ = _; unfold escC; rw [if_pos he]
        refine (hw92 _ HB.out hsz).mono ?_
        rintro e w1 ⟨rfl, hB1, hK1⟩
        have hz1 := hK1.1.size
        have HB1 := Lib.hid hB1
        have HK1 := Lib.hid hK1.1
        clear hB1 hK1 he
        go_wp2_with fail
        refine (writeByte_any _ _ _ s[k] _ HB1.out (by rw [List.length_append, Lib.byteCells_length, Lib.byteCells_length]; simp; omega) (by omega)).mono ?_
        rintro e w2 ⟨rfl, hB2, hK2⟩
        have hz2 := hK2.1.size
        have HB2 : Hid (Bld w.heap.size (w.heap.size + 1) (Lib.byteCells (escL (s.data.toList.take (k + 1)))) w2) := by
          show Bld _ _ _ _
          rw [hnx.out, hC.out]
          simpa [Lib.byteCells] using hB2
        have HK2 : Hid (Below w.heap.size w w2) := hbel.trans (HK1.out.trans hK2.1)
        clear hB2 hK2
        go_wp2_with fail
        go_roundw
        case rel => exact ⟨k + 1, by omega, by go_num, HB2, HK2.out, by omega⟩
        case measure => simp [intOf]; omega
      · have he : escB s[k] = true := by
          unfold escB
          rw [decide_eq_true_eq]
          simp only [beq_iff_eq, beq_eq_false_iff_ne, ne_eq] at *
          omega
        have hC : Hid (escC s[k] = [92, s[k]]) := by show _ = _; unfold escC; rw [if_pos he]
        refine (hw92 _ HB.out hsz).mono ?_
        rintro e w1 ⟨rfl, hB1, hK1⟩
        have hz1 := hK1.1.size
        have HB1 := Lib.hid hB1
        have HK1 := Lib.hid hK1.1
        clear hB1 hK1 he
        go_wp2_with fail
        refine (writeByte_any _ _ _ s[k] _ HB1.out (by rw [List.length_append, Lib.byteCells_length, Lib.byteCells_length]; simp; omega) (by omega)).mono ?_
        rintro e w2 ⟨rfl, hB2, hK2⟩
        have hz2 := hK2.1.size
        have HB2 : Hid (Bld w.heap.size (w.heap.size + 1) (Lib.byteCells (escL (s.data.toList.take (k + 1)))) w2) := by
          show Bld _ _ _ _
          rw [hnx.out, hC.out]
          simpa [Lib.byteCells] using hB2
        have HK2 : Hid (Below w.heap.size w w2) := hbel.trans (HK1.out.trans hK2.1)
        clear hB2 hK2
        go_wp2_with fail
        go_roundw
        case rel => exact ⟨k + 1, by omega, by go_num, HB2, HK2.out, by omega⟩
        case measure => simp [intOf]; omega
      · have he : escB s[k] = true := by
          unfold escB
          rw [decide_eq_true_eq]
          simp only [beq_iff_eq, beq_eq_false_iff_ne, ne_eq] at *
          omega
        have hC : Hid (escC s[k] = [92, s[k]]) := by show _ = _; unfold escC; rw [if_pos he]
        refine (hw92 _ HB.out hsz).mono ?_
        rintro e w1 ⟨rfl, hB1, hK1⟩
        have hz1 := hK1.1.size
        have HB1 := Lib.hid hB1
        have HK1 := Lib.hid hK1.1
        clear hB1 hK1 he
        go_wp2_with fail
        refine (writeByte_any _ _ _ s[k] _ HB1.out (by rw [List.length_append, Lib.byteCells_length, Lib.byteCells_length]; simp; omega) (by omega)).mono ?_
        rintro e w2 ⟨rfl, hB2, hK2⟩
        have hz2 := hK2.1.size
        have HB2 : Hid (Bld w.heap.size (w.heap.size + 1) (Lib.byteCells (escL (s.data.toList.take (k + 1)))) w2) := by
          show Bld _ _ _ _
          rw [hnx.out, hC.out]
          simpa [Lib.byteCells] using hB2
        have HK2 : Hid (Below w.heap.size w w2) := hbel.trans (HK1.out.trans hK2.1)
        clear hB2 hK2
        go_wp2_with fail
        go_roundw
        case rel => exact ⟨k + 1, by omega, by go_num, HB2, HK2.out, by omega⟩
        case measure => simp [intOf]; omega
      · have he : escB s[k] = false := by
          unfold escB
          rw [decide_eq_false_iff_not]
          simp only [beq_eq_false_iff_ne, ne_eq] at *
          omega
        have hC : Hid (escC s[k] = [s[k]]) := by show _ = _; unfold escC; rw [he]; rfl
        refine (writeByte_any _ _ _ s[k] _ HB.out (by rw [Lib.byteCells_length]; omega) (by omega)).mono ?_
        rintro e w2 ⟨rfl, hB2, hK2⟩
        have hz2 := hK2.1.size
        have HB2 : Hid (Bld w.heap.size (w.heap.size + 1) (Lib.byteCells (escL (s.data.toList.take (k + 1)))) w2) := by
          show Bld _ _ _ _
          rw [hnx.out, hC.out]
          simpa [Lib.byteCells] using hB2
        have HK2 : Hid (Below w.heap.size w w2) := hbel.trans hK2.1
        clear hB2 hK2 he
        go_wp2_with fail
        go_roundw
        case rel => exact ⟨k + 1, by omega, by go_num, HB2, HK2.out, by omega⟩
        case measure => simp [intOf]; omega
    · have hkk : k = s.size := by omega
      subst hkk
      have HB2 : Hid (Bld w.heap.size (w.heap.size + 1) (Lib.strCells ⟨(escL s.data.toList).toArray⟩) wr) := by
        show Bld _ _ _ _
        have := HB.out
        rw [List.take_of_length_le (show s.data.toList.length ≤ s.size from Nat.le_refl _)] at this
        rw [strCells_byte]
        simpa using this
      have HBE := Lib.hid hbel
      clear hbel HB
      go_wp2_with fail
      refine (string_any w.heap.size (w.heap.size + 1) _ _ HB2.out).mono ?_
      rintro e w2 ⟨rfl, hb2⟩
      have HB3 := Lib.hid (HBE.out.trans hb2)
      clear hb2
      go_wp2
      go_ret
      exact ⟨rfl, HB3.out⟩
end Go.Proofs.YtcbmddgafkoooaaGreatDoor
