/-
  DERIVED. Plain law: the excerpt of a text, as the program and as the reference cuts it; their walks. Conditions: the text's size. By an AI agent.
-/
import Derived.Lib.TrimByte
import Derived.Lib.LastIndexByte
import Derived.Test.YtcbmddgafkoooaaGreatDoorTrim
import Derived.Test.YtcbmddgafkoooaaGreatDoorSpansRef
namespace Go.Proofs.YtcbmddgafkoooaaGreatDoor
open Go.RowKit

def trR (l : List UInt8) : List UInt8 := Lib.trimRightB l 32
theorem trR_nil : trR [] = [] := rfl
theorem trR_snoc (l : List UInt8) (b : UInt8) : trR (l ++ [b]) = if b = 32 then trR l else l ++ [b] := by
  unfold trR Lib.trimRightB
  rw [List.reverse_append]
  by_cases h : b = 32 <;> simp [h]
theorem trR_spec : ∀ n (l : List UInt8), l.length = n → ∃ k, k ≤ l.length ∧ trR l = l.take k ∧ (∀ j, k ≤ j → j < l.length → l[j]? = some 32) ∧ (0 < k → l[k - 1]? ≠ some 32)
  | 0, l, h => by
    obtain rfl : l = [] := List.eq_nil_of_length_eq_zero h
    exact ⟨0, Nat.le_refl _, rfl, fun j _ h => absurd h (Nat.not_lt_zero _), fun h => absurd h (by omega)⟩
  | n + 1, l, h => by
    obtain ⟨m, b, rfl⟩ : ∃ m b, l = m ++ [b] := by
      rcases List.eq_nil_or_concat l with rfl | ⟨m, b, rfl⟩
      · cases h
      · exact ⟨m, b, by simp⟩
    have hm : m.length = n := by simpa using h
    rw [trR_snoc]
    by_cases hb : b = 32
    · rw [if_pos hb]
      obtain ⟨k, h1, h2, h3, h4⟩ := trR_spec n m hm
      refine ⟨k, by simp; omega, by rw [h2, List.take_append_of_le_length h1], fun j hj hj' => ?_, fun hk => ?_⟩
      · rcases Nat.lt_or_ge j m.length with g | g
        · rw [List.getElem?_append_left g]; exact h3 j hj g
        · have : j = m.length := by simp at hj'; omega
          subst this; simp [hb]
      · rw [List.getElem?_append_left (by omega)]; exact h4 hk
    · rw [if_neg hb]
      refine ⟨(m ++ [b]).length, Nat.le_refl _, (List.take_length).symm, fun j hj hj' => absurd hj' (by omega), fun _ => ?_⟩
      simp [hb]
theorem trR_take_self {l : List UInt8} {k : Nat} (hk : k ≤ l.length) (h : 0 < k → l[k - 1]? ≠ some 32) : trR (l.take k) = l.take k := by
  obtain ⟨i, h1, h2, h3, h4⟩ := trR_spec _ (l.take k) rfl
  rw [h2]
  have hl : (l.take k).length = k := by simp; omega
  rcases Nat.lt_or_ge i k with g | g
  · exfalso
    refine h (by omega) ?_
    have := h3 (k - 1) (by omega) (by omega)
    rwa [List.getElem?_take_of_lt (by omega)] at this
  · rw [List.take_of_length_le (by omega)]

/-- the reference's search: the greatest end of a word that is followed by a space, at most k -/
def kk (p : List UInt8) : Nat → Nat
  | 0 => 0
  | k + 1 => if p[k]? ≠ some 32 ∧ p[k + 1]? = some 32 then k + 1 else kk p k
theorem kk_is (p : List UInt8) (k : Nat) : ∀ m, k ≤ m → (0 < k → p[k - 1]? ≠ some 32 ∧ p[k]? = some 32) → (∀ i, k < i → i ≤ m → ¬ (p[i - 1]? ≠ some 32 ∧ p[i]? = some 32)) → kk p m = k
  | 0, h, _, _ => by simp [kk]; omega
  | m + 1, h, h1, h2 => by
    unfold kk
    by_cases e : k = m + 1
    · subst e; exact if_pos (h1 (by omega))
    · rw [if_neg (by have := h2 (m + 1) (by omega) (by omega); simpa using this)]
      exact kk_is p k m (by omega) h1 (fun i a b => h2 i a (by omega))
theorem kk_le (p : List UInt8) : ∀ m, kk p m ≤ m
  | 0 => Nat.le_refl _
  | m + 1 => by unfold kk; split; exact Nat.le_refl _; have := kk_le p m; omega

/-- what the program makes of the text behind Trim -/
def exA (p : List UInt8) (m j : Nat) : List UInt8 := if trR (p.take j) = [] then p.take m else trR (p.take j)
def exB (p : List UInt8) (m : Nat) : List UInt8 := trR (p.take (if kk p m = 0 then m else kk p m))
theorem ex_same (p : List UInt8) (m j : Nat) (h0 : p[0]? ≠ some 32) (hm : 0 < m) (hml : m < p.length) (hj : (p[m]? = some 32 ∧ j = m) ∨ (p[m]? ≠ some 32 ∧ j ≤ m ∧ (0 < j → p[j - 1]? = some 32) ∧ ∀ i, j ≤ i → i < m → p[i]? ≠ some 32)) : exA p m j = exB p m := by
  have hjm : j ≤ m := by rcases hj with h | h <;> omega
  obtain ⟨k, h1, h2, h3, h4⟩ := trR_spec _ (p.take j) rfl
  have hl : (p.take j).length = j := by simp; omega
  rw [hl] at h1
  have h3 : ∀ i, k ≤ i → i < j → p[i]? = some 32 := fun i a b => by have := h3 i a (by omega); rwa [List.getElem?_take_of_lt b] at this
  have h4 : 0 < k → p[k - 1]? ≠ some 32 := fun a => by have := h4 a; rwa [List.getElem?_take_of_lt (by omega)] at this
  have h2 : trR (p.take j) = p.take k := by rw [h2, List.take_take, Nat.min_eq_left h1]
  have hk : kk p m = k := by
    refine kk_is p k m (by omega) (fun a => ⟨h4 a, ?_⟩) (fun i a b => ?_)
    · rcases hj with ⟨e, rfl⟩ | ⟨e, f1, f2, f3⟩
      · rcases Nat.lt_or_ge k j with g | g
        · exact h3 k (Nat.le_refl _) g
        · have : k = j := by omega
          rw [this]; exact e
      · have : k ≠ j := fun e => h4 a (by rw [e]; exact f2 (by omega))
        exact h3 k (Nat.le_refl _) (by omega)
    · rintro ⟨x, y⟩
      rcases hj with ⟨e, rfl⟩ | ⟨e, f1, f2, f3⟩
      · exact x (h3 (i - 1) (by omega) (by omega))
      · rcases Nat.lt_or_ge (i - 1) j with g | g
        · exact x (h3 (i - 1) (by omega) g)
        · rcases Nat.lt_or_ge i m with g' | g'
          · exact f3 i (by omega) g' y
          · have : i = m := by omega
            subst this; exact e y
  unfold exA exB
  rw [hk, h2]
  by_cases k0 : k = 0
  · subst k0
    rw [if_pos (by simp), if_pos rfl]
    refine (trR_take_self (by omega) (fun _ => ?_)).symm
    rcases hj with ⟨e, rfl⟩ | ⟨e, f1, f2, f3⟩
    · exact absurd (h3 0 (by omega) hm) h0
    · have : j = 0 := by
        rcases Nat.eq_zero_or_pos j with g | g
        · exact g
        · exact absurd (h3 0 (by omega) g) h0
      exact f3 (m - 1) (by omega) (by omega)
  · rw [if_neg k0, if_neg (by intro e; have := congrArg List.length e; rw [List.length_take, List.length_nil] at this; omega)]
    exact (trR_take_self (by omega) (fun a => h4 a)).symm

/-- a text behind Trim does not begin with a space, and does not end with one -/
theorem dropSp_head (l : List UInt8) : (Lib.trimLeftB l 32)[0]? ≠ some 32 := by
  unfold Lib.trimLeftB
  induction l with
  | nil => simp
  | cons b l ih =>
    rw [List.dropWhile_cons]
    split
    · exact ih
    · rename_i h; intro e; apply h; simp at e; simp [e]
theorem trim_head (l : List UInt8) : (Lib.trimB l 32)[0]? ≠ some 32 := dropSp_head _
theorem dropSp_tail : ∀ (l : List UInt8), trR l = l → trR (Lib.trimLeftB l 32) = Lib.trimLeftB l 32
  | [], _ => rfl
  | b :: l, h => by
    unfold Lib.trimLeftB
    rw [List.dropWhile_cons]
    split
    · rename_i hb
      refine dropSp_tail l ?_
      unfold trR Lib.trimRightB at h ⊢
      rw [List.reverse_cons] at h
      have h := congrArg List.reverse h
      simp only [List.reverse_reverse, List.reverse_cons] at h
      rw [List.dropWhile_append] at h
      split at h
      · rename_i e
        exfalso
        have hl := congrArg List.length h
        have : ((([b] : List UInt8).dropWhile (· == 32))).length ≤ 1 := by
          have := (List.dropWhile_sublist (l := [b]) ((· == 32))).length_le
          simpa using this
        simp only [List.length_append, List.length_reverse, List.length_singleton] at hl
        have hl0 : l = [] := List.eq_nil_of_length_eq_zero (by omega)
        subst hl0
        rw [List.dropWhile_cons, if_pos hb] at h
        cases h
      · have h := List.append_cancel_right h
        rw [h, List.reverse_reverse]
    · exact h
theorem trR_idem (l : List UInt8) : trR (trR l) = trR l := by
  obtain ⟨k, h1, h2, h3, h4⟩ := trR_spec _ l rfl
  rw [h2]; exact trR_take_self h1 h4
theorem trim_tail (l : List UInt8) : trR (Lib.trimB l 32) = Lib.trimB l 32 := dropSp_tail _ (trR_idem l)

theorem bt32 (p : ByteArray) (i : Nat) : bt p i = 32 ↔ p.data.toList[i]? = some 32 := by
  rw [bt_list]
  cases h : p.data.toList[i]? with
  | none => simp
  | some c =>
    simp only [Option.some.injEq]
    rw [← UInt8.toNat_inj]
    show ((c.toNat : Int) = 32) ↔ c.toNat = 32
    omega
/-- what is shown, without spaces ahead of it and behind it -/
def trP (s : ByteArray) : ByteArray := ⟨(Lib.trimB (plain s).data.toList 32).toArray⟩
/-- the excerpt -/
def exOut (p : ByteArray) (m : Int) : ByteArray := if m ≤ 0 then noB else if (p.size : Int) ≤ m then p else ⟨(exB p.data.toList m.toNat).toArray⟩
theorem trP_head (s : ByteArray) : (trP s).data.toList[0]? ≠ some 32 := trim_head _
theorem trP_tail (s : ByteArray) : trR (trP s).data.toList = (trP s).data.toList := trim_tail _
theorem trP_size (s : ByteArray) (hs : s.size ≤ 1048576) : (trP s).size ≤ 4398046511104 := by
  have h := plainB_size (s := s) (l := spans s) (q := []) (by simp) hs
  have h2 : (trP s).data.toList.length ≤ (plain s).data.toList.length := by
    show (Lib.trimB _ 32).length ≤ _
    unfold Lib.trimB Lib.trimLeftB Lib.trimRightB
    have a := (List.dropWhile_sublist (l := ((plain s).data.toList.reverse.dropWhile (· == 32)).reverse) (· == 32)).length_le
    have b := (List.dropWhile_sublist (l := (plain s).data.toList.reverse) (· == 32)).length_le
    simp only [List.length_reverse] at a b
    omega
  rw [← Lib.size_eq, ← Lib.size_eq] at h2
  have : (plain s).size = (plainB s (spans s)).size := rfl
  omega
end Go.Proofs.YtcbmddgafkoooaaGreatDoor
