/-
  DERIVED. The plain law of words: where a text's words lie, in small letters. Conditions: none. By an AI agent.
-/
import Derived.Test.YtpkpnmfcjoheoaaBt
namespace Go.Proofs.Ytpkpnmfcjoheoaa

def isWB (x : Int) : Bool := decide (97 ≤ x ∧ x ≤ 122 ∨ 65 ≤ x ∧ x ≤ 90 ∨ 48 ≤ x ∧ x ≤ 57 ∨ 128 ≤ x)
def notWB (x : Int) : Bool := !isWB x
def lowB (c : UInt8) : UInt8 := if 65 ≤ c.toNat ∧ c.toNat ≤ 90 then UInt8.ofNat (c.toNat + 32) else c
/-- small letters -/
def low (s : ByteArray) : ByteArray := ⟨s.data.map lowB⟩
theorem low_size (s : ByteArray) : (low s).size = s.size := by
  show (s.data.map lowB).size = s.data.size
  simp

structure Wd where
  text : ByteArray
  frm : Nat
  to_ : Nat
def wordsN (s : ByteArray) : Nat → Nat → List Wd
  | 0, _ => []
  | n + 1, f =>
    if f < s.size then
      (if 0 < upto notWB s f - f ∧ upto notWB s f - f ≤ 30 then [⟨low (s.extract f (upto notWB s f)), f, upto notWB s f⟩] else []) ++ wordsN s n (max (upto notWB s f) (f + 1))
    else []
theorem wordsN_more (s : ByteArray) : ∀ (n m f : Nat), s.size - f ≤ n → s.size - f ≤ m → wordsN s n f = wordsN s m f
  | 0, 0, _, _, _ => rfl
  | 0, m + 1, f, h, _ => by rw [wordsN, wordsN, if_neg (by omega)]
  | n + 1, 0, f, _, h => by rw [wordsN, wordsN, if_neg (by omega)]
  | n + 1, m + 1, f, h1, h2 => by
    rw [wordsN, wordsN]
    by_cases hf : f < s.size
    · rw [if_pos hf, if_pos hf, wordsN_more s n m _ (by omega) (by omega)]
    · rw [if_neg hf, if_neg hf]
/-- the words from a place on -/
def wordsF (s : ByteArray) (f : Nat) : List Wd := wordsN s (s.size - f) f
theorem wordsF_out {s : ByteArray} {f : Nat} (h : s.size ≤ f) : wordsF s f = [] := by
  unfold wordsF
  rw [show s.size - f = 0 by omega]; rfl
theorem wordsF_in {s : ByteArray} {f : Nat} (h : f < s.size) :
    wordsF s f = (if 0 < upto notWB s f - f ∧ upto notWB s f - f ≤ 30 then [⟨low (s.extract f (upto notWB s f)), f, upto notWB s f⟩] else []) ++ wordsF s (max (upto notWB s f) (f + 1)) := by
  unfold wordsF
  obtain ⟨n, hn⟩ : ∃ n, s.size - f = n + 1 := ⟨s.size - f - 1, by omega⟩
  rw [hn, wordsN, if_pos h]
  congr 1
  exact wordsN_more s _ _ _ (by omega) (Nat.le_refl _)
/-- a word by itself, in small letters -/
def isW (s : ByteArray) : Prop := 0 < s.size ∧ s.size ≤ 30 ∧ (∀ i, i < s.size → isWB (bt s i) = true) ∧ low s = s
theorem upto_all {s : ByteArray} (h : ∀ i, i < s.size → isWB (bt s i) = true) : upto notWB s 0 = s.size :=
  upto_eq (Nat.zero_le _) (Nat.le_refl _) (fun j _ hj => by unfold notWB; rw [h j hj]; rfl) (.inl rfl)
theorem ext_full (s : ByteArray) : s.extract 0 s.size = s := by
  apply ByteArray.ext
  rw [ByteArray.data_extract]
  have : s.size = s.data.size := rfl
  rw [this]
  simp
theorem words_one {s : ByteArray} (h : isW s) : wordsF s 0 = [⟨s, 0, s.size⟩] := by
  obtain ⟨h1, h2, h3, h4⟩ := h
  rw [wordsF_in h1, upto_all h3, if_pos (by omega), wordsF_out (by omega), ext_full, h4]
  rfl
/-- every word ends within the text, ahead of the next one; its text is not longer than it -/
theorem words_in (s : ByteArray) : ∀ (n f : Nat), s.size - f ≤ n → ∀ x ∈ wordsF s f, f ≤ x.frm ∧ x.frm < x.to_ ∧ x.to_ ≤ s.size ∧ x.to_ = upto notWB s x.frm ∧ x.text = low (s.extract x.frm x.to_) ∧ x.to_ - x.frm ≤ 30
  | 0, f, h, x, hx => by rw [wordsF_out (by omega)] at hx; cases hx
  | n + 1, f, h, x, hx => by
    by_cases hf : f < s.size
    · rw [wordsF_in hf] at hx
      have hle := upto_le (stop := notWB) (s := s) (i := f) (by omega)
      have hge := upto_ge notWB s f
      rcases List.mem_append.1 hx with hx | hx
      · by_cases hc : 0 < upto notWB s f - f ∧ upto notWB s f - f ≤ 30
        · rw [if_pos hc, List.mem_singleton] at hx
          subst hx
          exact ⟨Nat.le_refl _, by show f < upto notWB s f; omega, hle, rfl, rfl, hc.2⟩
        · rw [if_neg hc] at hx; cases hx
      · obtain ⟨a, b⟩ := words_in s n _ (by omega) x hx
        exact ⟨by omega, b⟩
    · rw [wordsF_out (by omega)] at hx; cases hx
theorem one_word {s : ByteArray} {x : Wd} (h : wordsF s 0 = [x]) (ht : x.text = s) : isW s := by
  obtain ⟨h0, h1, h2, h3, h4, h5⟩ := words_in s _ 0 (Nat.le_refl _) x (by rw [h]; exact List.mem_singleton.2 rfl)
  have hz : x.text.size = x.to_ - x.frm := by rw [h4, low_size, ByteArray.size_extract]; omega
  rw [ht] at hz
  have hf : x.frm = 0 := by omega
  have hto : x.to_ = s.size := by omega
  refine ⟨by omega, by omega, fun i hi => ?_, ?_⟩
  · rw [hf] at h3
    have := upto_mid (stop := notWB) (s := s) (Nat.zero_le i) (by rw [← h3]; omega)
    unfold notWB at this
    simpa using this
  · rw [hf, hto, ext_full, ht] at h4
    exact h4.symm
end Go.Proofs.Ytpkpnmfcjoheoaa
