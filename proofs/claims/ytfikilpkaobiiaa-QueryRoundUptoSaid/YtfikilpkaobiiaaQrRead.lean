/-
  DERIVED. Plain laws of written queries: the bytes of a joined text, the words of a phrase. Conditions: none. By an AI agent.
-/
import Derived.Test.YtfikilpkaobiiaaQrTake
namespace Go.Proofs.Ytfikilpkaobiiaa
open Go.RowKit

theorem bt_app_lo {a b : ByteArray} {i : Nat} (h : i < a.size) : bt (a ++ b) i = bt a i := by
  rw [bt_at h, bt_at (by rw [ByteArray.size_append]; omega), ByteArray.getElem_append_left h]
theorem bt_app_hi {a b : ByteArray} {i : Nat} : bt (a ++ b) (a.size + i) = bt b i := by
  rcases Nat.lt_or_ge i b.size with h | h
  · rw [bt_at h, bt_at (by rw [ByteArray.size_append]; omega), ByteArray.getElem_append_right (by omega)]
    congr 2
    simp
  · rw [bt_out h, bt_out (by rw [ByteArray.size_append]; omega)]
theorem joinB_nil (sep : ByteArray) : joinB [] sep = ⟨#[]⟩ := rfl
theorem joinB_one (x sep : ByteArray) : joinB [x] sep = x := by
  unfold joinB
  rw [List.map_cons, List.map_nil, Lib.join_one]
theorem joinB_cons (x y : ByteArray) (r : List ByteArray) (sep : ByteArray) : joinB (x :: y :: r) sep = x ++ sep ++ joinB (y :: r) sep := by
  apply ByteArray.ext
  unfold joinB
  simp [Lib.join, ByteArray.data_append]

/-- one word of a text that goes on with no word's byte -/
theorem word_at (s x : ByteArray) (f : Nat) (hx : isW x) (hat : ∀ i, i < x.size → bt s (f + i) = bt x i) (hin : f + x.size ≤ s.size) (hend : isWB (bt s (f + x.size)) = false) :
    wordsF s f = ⟨x, f, f + x.size⟩ :: wordsF s (f + x.size) := by
  obtain ⟨h1, h2, h3, h4⟩ := hx
  have hu : upto notWB s f = f + x.size := by
    refine upto_eq (by omega) hin (fun j h5 h6 => ?_) ?_
    · obtain ⟨i, rfl⟩ : ∃ i, j = f + i := ⟨j - f, by omega⟩
      unfold notWB
      rw [hat i (by omega), h3 i (by omega)]; rfl
    · exact .inr (by unfold notWB; rw [hend]; rfl)
  have he : s.extract f (f + x.size) = x := by
    apply ByteArray.ext_getElem
    · rw [ByteArray.size_extract]; omega
    · intro i h5 h6
      have := hat i h6
      rw [bt_at h6, bt_at (by omega)] at this
      rw [ByteArray.getElem_extract]
      exact UInt8.toNat_inj.1 (by omega)
  rw [wordsF_in (by omega), hu, if_pos (by omega), he, h4, Nat.max_eq_left (by omega)]
  rfl
theorem words_join : ∀ (ws : List ByteArray) (s : ByteArray) (f : Nat), (∀ x ∈ ws, isW x) → f + (joinB ws bSp).size = s.size → (∀ i, i < (joinB ws bSp).size → bt s (f + i) = bt (joinB ws bSp) i) → (wordsF s f).map (·.text) = ws
  | [], s, f, _, hz, _ => by
    have h0 : (joinB [] bSp).size = 0 := rfl
    rw [wordsF_out (by omega)]; rfl
  | [x], s, f, hx, hz, hat => by
    rw [joinB_one] at hz hat
    rw [word_at s x f (hx x (List.mem_singleton.2 rfl)) hat (by omega) (by rw [bt_out (by omega)]; decide), wordsF_out (by omega)]
    rfl
  | x :: y :: r, s, f, hx, hz, hat => by
    rw [joinB_cons] at hz hat
    have hsp : bSp.size = 1 := rfl
    have hz2 : (x ++ bSp ++ joinB (y :: r) bSp).size = x.size + 1 + (joinB (y :: r) bSp).size := by rw [ByteArray.size_append, ByteArray.size_append]; omega
    rw [hz2] at hz hat
    have hb : bt s (f + x.size) = 32 := by
      rw [hat x.size (by omega), bt_app_lo (by rw [ByteArray.size_append]; omega)]
      exact bt_app_hi (a := x) (b := bSp) (i := 0)
    have h1 := word_at s x f (hx x List.mem_cons_self) (fun i hi => by rw [hat i (by omega), bt_app_lo (by rw [ByteArray.size_append]; omega), bt_app_lo hi]) (by omega) (by rw [hb]; decide)
    have hu : upto notWB s (f + x.size) = f + x.size := upto_eq (Nat.le_refl _) (by omega) (fun j h5 h6 => by omega) (.inr (by rw [hb]; rfl))
    have ih := words_join (y :: r) s (f + x.size + 1) (fun z hz => hx z (List.mem_cons_of_mem _ hz)) (by omega) (fun i hi => by
      rw [show f + x.size + 1 + i = f + (x.size + 1 + i) by omega, hat _ (by omega)]
      have := bt_app_hi (a := x ++ bSp) (b := joinB (y :: r) bSp) (i := i)
      rw [ByteArray.size_append, hsp] at this
      exact this)
    rw [h1, wordsF_in (f := f + x.size) (by omega), hu, if_neg (by omega), Nat.max_eq_right (by omega), List.nil_append, List.map_cons, ih]
end Go.Proofs.Ytfikilpkaobiiaa
