/-
  DERIVED. The walk of text.Compose. Conditions: the lengths are within the form's reach. By an AI agent.
-/
import Derived.Test.YtcbmddgafkoooaaDoorApply
import Derived.Test.YtcbmddgafkoooaaDoorDiff
namespace Go.Proofs.YtcbmddgafkoooaaDoor
open Go.RowKit

/-- what Compose gives for at most 100 edits -/
def compR (s : ByteArray) (es : List Ed) : Value := .tuple #[if compE s es = 0 then diffV s (compS s es) else zeroEd, .int .i64 (compE s es)]

set_option maxHeartbeats 2000000 in
theorem compose_any (s : ByteArray) (A : Option Addr) (n cap : Nat) (es : List Ed) (w : World) (B : Nat) (hr : Reads w B 3 A n (edCells es)) (hB : B ≤ w.heap.size) (hs : s.size ≤ 140737488351232) (hx : ∀ e ∈ es, e.with_.size ≤ 140737488351232) (hn : n ≤ 100) :
    Calls Tryd.prog 13 #[.string s, .slice A n cap] w fun e w' => e = .returned (compR s es) ∧ Below w.heap.size w w' := by
  have hlen : es.length = n := by have := hr.1; rw [edCells_len] at this; omega
  have HL := Lib.hid hlen
  clear hlen
  go_enter Tryd.func13, Tryd.ntmps13
  go_wp2
  go_loopw [6, 17] (fun v i wr => ∃ (k : Nat) (now : ByteArray), k ≤ n ∧ i = .int .i64 k ∧ v = .string now ∧ now.size ≤ 140737488351232 ∧ Hid (compE now (es.drop k) = compE s es ∧ compS now (es.drop k) = compS s es) ∧ Below w.heap.size w wr ∧ w.heap.size < wr.heap.size ∧ Blk wr w.heap.size 32 #[.int .i64 0, .int .i64 0, .string ⟨#[]⟩]) (fun _ i _ => n - (intOf i).toNat)
  case atStart => exact ⟨0, s, Nat.zero_le _, rfl, rfl, hs, ⟨rfl, rfl⟩, (Below.refl _ _).alloc (Nat.le_refl _) _, by simp, Blk.new _ _ _⟩
  case round =>
    obtain ⟨k, now, hk, rfl, rfl, hnow, hcp, hbel, hsz, hblk⟩ := hrel
    by_cases hlt : k < n
    · obtain ⟨b, off, rfl, hbB, hc⟩ := hr.plain (by omega) (by omega)
      obtain ⟨e, he⟩ : ∃ e, es[k]? = some e := ⟨es[k]'(by rw [HL.out]; exact hlt), List.getElem?_eq_getElem _⟩
      have HE := Lib.hid he
      have hxe := hx e (List.mem_of_getElem? he)
      have hg := edCells_at he
      have c0 := (hbel.cell (p := ⟨b, off + k * 3, none⟩) (by simp; omega)).trans (hc _ _ hg.1)
      have c1 := (hbel.cell (p := ⟨b, off + (k * 3 + 1), none⟩) (by simp; omega)).trans (hc _ _ hg.2.1)
      have c2 := (hbel.cell (p := ⟨b, off + (k * 3 + 2), none⟩) (by simp; omega)).trans (hc _ _ hg.2.2)
      clear he hg hc
      simp only [← Nat.add_assoc] at c1 c2
      have hbw : Below w.heap.size w (wr.alloc (.cells #[.int .i64 e.from_, .int .i64 e.to_, .string e.with_] 32)) := hbel.alloc (by omega) _
      by_cases h0 : edErr now e.with_ e.from_ e.to_ = 0
      · obtain ⟨g0, g1, g2, _, g3⟩ := edErr_ok h0
        have H0 := Lib.hid h0
        clear h0
        go_wp2_with fail
        refine (checkEdit_any now e.with_ e.from_ e.to_ _ hnow hxe).mono ?_
        rintro e1 w1 ⟨rfl, hb1⟩
        rw [H0.out]
        have d0 := hb1.cell (p := ⟨wr.heap.size, 0, none⟩) (by simp)
        have d1 := hb1.cell (p := ⟨wr.heap.size, 1, none⟩) (by simp)
        have d2 := hb1.cell (p := ⟨wr.heap.size, 2, none⟩) (by simp)
        go_wp2_with fail
        refine (edited_any now e.with_ e.from_ e.to_ _ hnow hxe g0 g1 g2).mono ?_
        rintro e2 w2 ⟨rfl, hb2⟩
        have hz1 : wr.heap.size + 1 ≤ w1.heap.size := by have := hb1.size; simpa using this
        have hz2 := hb2.size
        have hm := made_size (s := now) (e := e) H0.out
        have hblk2 := ((hblk.alloc _).below hb1 (by simp; omega)).below hb2 (by omega)
        have HC := Lib.hid (comp_good HE.out (show errOf now e = 0 from H0.out))
        go_wp2
        go_roundw
        case rel => exact ⟨k + 1, madeOf now e, by omega, by go_num, rfl, by omega, ⟨HC.out.1.symm.trans hcp.out.1, HC.out.2.symm.trans hcp.out.2⟩, (hbw.trans (hb1.mono (by simp; omega))).trans (hb2.mono (by omega)), by omega, hblk2⟩
        case measure => simp [intOf]; omega
      · have hn1 : (edErr now e.with_ e.from_ e.to_ != 0) = true := by simpa using h0
        have HC := Lib.hid ((comp_bad HE.out (show errOf now e ≠ 0 from h0)).symm.trans hcp.out.1)
        have H0 := Lib.hid h0
        clear h0
        go_wp2_with fail
        refine (checkEdit_any now e.with_ e.from_ e.to_ _ hnow hxe).mono ?_
        rintro e1 w1 ⟨rfl, hb1⟩
        have hblk2 := (hblk.alloc (.cells #[.int .i64 e.from_, .int .i64 e.to_, .string e.with_] 32)).below hb1 (by simp; omega)
        have q0 := hblk2.cell 0
        have q1 := hblk2.cell 1
        have q2 := hblk2.cell 2
        have f0 := hblk2.frozen 0
        have f1 := hblk2.frozen 1
        have f2 := hblk2.frozen 2
        have hz1 : wr.heap.size + 1 ≤ w1.heap.size := by have := hb1.size; simpa using this
        go_wp2
        refine bodyPost_ret (v := .tuple #[.agg #[.int .i64 0, .int .i64 0, .string ⟨#[]⟩], .int .i64 (edErr now e.with_ e.from_ e.to_)]) (by simp [results, Tryd.results13, go_sem, q0, q1, q2]) rfl ⟨?_, ?_⟩
        · have hc := HC.out
          unfold errOf at hc
          unfold compR
          rw [if_neg (by rw [← hc]; exact H0.out), ← hc]
          rfl
        · exact (((hbw.trans (hb1.mono (by simp; omega))).setCell (by simp) _).setCell (by simp) _).setCell (by simp) _
    · obtain rfl : k = n := by omega
      have hfin := hcp.out
      rw [List.drop_eq_nil_of_le (by rw [HL.out]; exact Nat.le_refl _)] at hfin
      simp only [compE, compS] at hfin
      have HF := Lib.hid hfin
      clear hfin
      go_wp2_with fail
      refine (diff_any s now _ hs hnow).mono ?_
      rintro e1 w1 ⟨rfl, hb1⟩
      have hblk2 := hblk.below hb1 hsz
      have q0 := hblk2.cell 0
      have q1 := hblk2.cell 1
      have q2 := hblk2.cell 2
      have f0 := hblk2.frozen 0
      have f1 := hblk2.frozen 1
      have f2 := hblk2.frozen 2
      have hdv : diffV s now = .agg #[.int .i64 (cp s now : Nat), .int .i64 ((s.size - sf s now : Nat) : Int), .string (now.extract (cp s now) (now.size - sf s now))] := rfl
      rw [hdv]
      clear hdv
      go_wp2
      refine bodyPost_ret (v := .tuple #[.agg #[.int .i64 (cp s now : Nat), .int .i64 ((s.size - sf s now : Nat) : Int), .string (now.extract (cp s now) (now.size - sf s now))], .int .i64 0]) (by simp [results, Tryd.results13, go_sem, q0, q1, q2]) rfl ⟨?_, ?_⟩
      · unfold compR
        rw [← HF.out.1, ← HF.out.2, if_pos rfl]
        rfl
      · exact (((hbel.trans (hb1.mono (by omega))).setCell (by simp) _).setCell (by simp) _).setCell (by simp) _

set_option maxHeartbeats 400000 in
theorem compose_large (s : ByteArray) (A : Option Addr) (n cap : Nat) (w : World) (hn : 100 < n) :
    Calls Tryd.prog 13 #[.string s, .slice A n cap] w fun e w' => e = .returned (.tuple #[zeroEd, .int .i64 4]) ∧ Below w.heap.size w w' := by
  go_enter Tryd.func13, Tryd.ntmps13
  go_wp2
  refine bodyPost_ret (v := .tuple #[.agg #[.int .i64 0, .int .i64 0, .string ⟨#[]⟩], .int .i64 4]) (by simp [results, Tryd.results13, go_sem]) rfl ⟨rfl, ?_⟩
  exact (Below.refl _ _).alloc (Nat.le_refl _) _
end Go.Proofs.YtcbmddgafkoooaaDoor
