/-
  DERIVED. Plain law: the reference's link, cut at the first bar ahead of the first bracket, is the code's. Conditions: none. By an AI agent.
-/
import Derived.Test.YtcbmddgafkoooaaGreatDoorCutBar
namespace Go.Proofs.YtcbmddgafkoooaaGreatDoor
open Go.RowKit

theorem upto_skip {stop : Int → Bool} {s : ByteArray} {i k : Nat} (hik : i ≤ k) (hk : k ≤ s.size) (hm : ∀ j, i ≤ j → j < k → stop (bt s j) = false) : upto stop s i = upto stop s k := by
  have h1 := upto_ge stop s k
  have h2 := upto_le (stop := stop) (s := s) (i := k) hk
  refine upto_eq (by omega) h2 (fun j hj hj' => ?_) ?_
  · rcases Nat.lt_or_ge j k with g | g
    · exact hm j hj g
    · exact upto_mid g hj'
  · rcases Nat.lt_or_ge (upto stop s k) s.size with g | g
    · exact .inr (upto_at g)
    · exact .inl (by omega)

def brB : Int → Bool := isAny [91, 93]
theorem brB_iff (n : Int) : brB n = true ↔ n = 91 ∨ n = 93 := by unfold brB isAny; simp
theorem tgtB_not (n : Int) (h : tgtB n = true) : n ≠ 91 ∧ n ≠ 93 ∧ n ≠ 124 := by unfold tgtB at h; simp at h; omega

/-- the reference's cut: the first bracket at J, the first bar ahead of it 2 + u -/
structure LkCut (T : ByteArray) (J u : Nat) : Prop where
  hJ : upto brB T 2 = J
  JT : J < T.size
  hu : upto (isC 124) (T.extract 2 J) 0 = u
theorem LkCut.J2 {T : ByteArray} {J u : Nat} (h : LkCut T J u) : 2 ≤ J := by rw [← h.hJ]; exact upto_ge _ _ _
theorem LkCut.qs {T : ByteArray} {J u : Nat} (h : LkCut T J u) : (T.extract 2 J).size = J - 2 := by have := h.JT; rw [ByteArray.size_extract]; omega
theorem LkCut.ule {T : ByteArray} {J u : Nat} (h : LkCut T J u) : u ≤ J - 2 := by rw [← h.qs, ← h.hu]; exact upto_le (Nat.zero_le _)
theorem LkCut.bt {T : ByteArray} {J u i : Nat} (h : LkCut T J u) (hi : i < J - 2) : Go.Proofs.YtcbmddgafkoooaaGreatDoor.bt (T.extract 2 J) i = Go.Proofs.YtcbmddgafkoooaaGreatDoor.bt T (2 + i) := bt_ext T 2 J i (Nat.le_of_lt h.JT) hi
theorem LkCut.noBar {T : ByteArray} {J u i : Nat} (h : LkCut T J u) (h1 : 2 ≤ i) (h2 : i < 2 + u) : Go.Proofs.YtcbmddgafkoooaaGreatDoor.bt T i ≠ 124 := by
  have hu := h.ule
  have := upto_mid (stop := isC 124) (s := T.extract 2 J) (i := 0) (j := i - 2) (Nat.zero_le _) (by rw [h.hu]; omega)
  rw [h.bt (by omega), show 2 + (i - 2) = i by omega] at this
  intro e; rw [e] at this; cases this
theorem LkCut.noBr {T : ByteArray} {J u i : Nat} (h : LkCut T J u) (h1 : 2 ≤ i) (h2 : i < J) : brB (Go.Proofs.YtcbmddgafkoooaaGreatDoor.bt T i) = false := upto_mid h1 (by rw [h.hJ]; exact h2)
theorem LkCut.atJ {T : ByteArray} {J u : Nat} (h : LkCut T J u) : brB (Go.Proofs.YtcbmddgafkoooaaGreatDoor.bt T J) = true := by
  have := upto_at (stop := brB) (s := T) (i := 2) (by rw [h.hJ]; exact h.JT)
  rwa [h.hJ] at this
theorem LkCut.atU {T : ByteArray} {J u : Nat} (h : LkCut T J u) (hu : u < J - 2) : Go.Proofs.YtcbmddgafkoooaaGreatDoor.bt T (2 + u) = 124 := by
  have := upto_at (stop := isC 124) (s := T.extract 2 J) (i := 0) (by rw [h.hu, h.qs]; exact hu)
  rw [h.hu, h.bt hu] at this
  unfold isC at this
  simpa using this
theorem ext_ext (s : ByteArray) (a b i j : Nat) (h : a + j ≤ b) : (s.extract a b).extract i j = s.extract (a + i) (a + j) := by
  apply ba_ext
  rw [ext_list2, ext_list2, ext_list2, List.drop_take, List.take_take, List.drop_drop]
  congr 1
  omega
/-- the target that is cut off -/
theorem LkCut.target {T : ByteArray} {J u : Nat} (h : LkCut T J u) : (T.extract 2 J).extract 0 u = T.extract 2 (2 + u) := by
  have h1 := h.ule
  have h2 := h.J2
  rw [ext_ext T 2 J 0 u (by omega)]
theorem LkCut.end_ {T : ByteArray} {J u : Nat} (h : LkCut T J u) (ht : isTgt (T.extract 2 (2 + u)) = true) : upto (notB tgtB) T 2 = 2 + u := by
  have h1 := h.ule
  have h2 := h.J2
  have h3 := h.JT
  obtain ⟨_, _, u3⟩ := isTgt_facts ht
  have hz : (T.extract 2 (2 + u)).size = u := by rw [ByteArray.size_extract]; omega
  refine upto_eq (by omega) (by omega) (fun j hj hj' => ?_) (.inr ?_)
  · have := u3 (j - 2) (by omega)
    rw [bt_ext T 2 (2 + u) (j - 2) (by omega) (by omega), show 2 + (j - 2) = j by omega] at this
    unfold notB; rw [this]; rfl
  · rcases Nat.lt_or_ge u (J - 2) with g | g
    · rw [h.atU g]; decide
    · rw [show 2 + u = J by omega]
      rcases (brB_iff _).1 h.atJ with e | e <;> rw [e] <;> decide
theorem LkCut.ofLink {T : ByteArray} {J u e : Nat} {x : Sp} (h : LkCut T J u) (LI : LinkIs T 0 e x) : e = 2 + u := by
  obtain ⟨h1, h2, h3, h4⟩ := LI.es
  have hle := h.ule
  have hJ2 := h.J2
  have ee := LI.ee
  rw [Nat.zero_add] at ee h2
  have hin : ∀ i, 2 ≤ i → i < e → tgtB (Go.Proofs.YtcbmddgafkoooaaGreatDoor.bt T i) = true := fun i h1 h2 => by
    have := upto_mid (stop := notB tgtB) (s := T) (i := 2) (j := i) h1 (by rw [ee]; exact h2)
    unfold notB at this; simpa using this
  have heJ : e ≤ J := by
    rcases Nat.lt_or_ge J e with g | g
    · have := tgtB_not _ (hin J hJ2 g)
      have := (brB_iff _).1 h.atJ
      omega
    · exact g
  have hue : 2 + u ≤ e := by
    rcases Nat.lt_or_ge e (2 + u) with g | g
    · rcases LI.en with c | c
      · have := h.noBr h2 (show e < J by omega)
        have h93 : brB (Go.Proofs.YtcbmddgafkoooaaGreatDoor.bt T e) = true := (brB_iff _).2 (.inr c.1)
        rw [h93] at this; cases this
      · exact absurd c.1 (h.noBar h2 g)
    · exact g
  rcases Nat.lt_or_ge (2 + u) e with g | g
  · have := tgtB_not _ (hin (2 + u) (by omega) g)
    have := h.atU (by omega)
    omega
  · omega
/-- no bracket behind: no link -/
theorem link_none {T : ByteArray} (h : T.size ≤ upto brB T 2) : tokL T 0 = none := by
  cases e : tokL T 0 with
  | none => rfl
  | some x =>
    have LI := tokL_inv e
    rw [Nat.zero_add] at LI
    obtain ⟨h1, h2, _, _⟩ := LI.es
    exfalso
    have key : ∀ i, 2 ≤ i → i < T.size → Go.Proofs.YtcbmddgafkoooaaGreatDoor.bt T i ≠ 93 := fun i h2 h3 h93 => by
      have := upto_mid (stop := brB) h2 (show i < upto brB T 2 by omega)
      rw [(brB_iff _).2 (.inr h93)] at this; cases this
    rcases LI.en with c | ⟨_, c2, c3, c4, _⟩
    · exact key _ (by omega) h1 c.1
    · exact key _ (by omega) c2 c4
/-- no two brackets there: no link -/
theorem LkCut.noEnd {T : ByteArray} {J u : Nat} (h : LkCut T J u) (h2 : ¬ (Go.Proofs.YtcbmddgafkoooaaGreatDoor.bt T J = 93 ∧ Go.Proofs.YtcbmddgafkoooaaGreatDoor.bt T (J + 1) = 93)) : tokL T 0 = none := by
  cases e : tokL T 0 with
  | none => rfl
  | some x =>
    have LI := tokL_inv e
    rw [Nat.zero_add] at LI
    have he := h.ofLink LI
    obtain ⟨h1, _, _, _⟩ := LI.es
    have hule := h.ule
    have hJ2 := h.J2
    exfalso
    rcases LI.en with c | ⟨c1, c2, c3, c4, c5, _⟩
    · have : J = 2 + u := by
        rcases Nat.lt_or_ge (2 + u) J with g | g
        · have := h.noBr (by omega) g
          rw [← he, (brB_iff _).2 (.inr c.1)] at this; cases this
        · omega
      rw [this, ← he] at h2
      exact h2 ⟨c.1, c.2.1⟩
    · have hj : upto (isAny [91, 93]) T (upto (notB tgtB) T 2 + 1) = J := by
        have hlt : 2 + u < J := by
          rcases Nat.lt_or_ge (2 + u) J with g | g
          · exact g
          · have := (brB_iff _).1 h.atJ
            rw [show J = 2 + u by omega, ← he] at this; omega
        have := upto_skip (stop := brB) (s := T) (i := 2) (k := 2 + u + 1) (by omega) (by have := h.JT; omega) (fun j hj hj' => h.noBr hj (by omega))
        rw [he, ← h.hJ, this]; rfl
      rw [hj] at c4 c5
      exact h2 ⟨c4, c5⟩
theorem LkCut.bad {T : ByteArray} {J u : Nat} (h : LkCut T J u) (ht : isTgt (T.extract 2 (2 + u)) = false) : tokL T 0 = none := by
  cases e : tokL T 0 with
  | none => rfl
  | some x =>
    have LI := tokL_inv e
    rw [Nat.zero_add] at LI
    have he := h.ofLink LI
    have := LI.tg
    rw [he, Nat.zero_add, ht] at this
    cases this
theorem LkCut.short {T : ByteArray} {J u : Nat} (h : LkCut T J u) (b0 : Go.Proofs.YtcbmddgafkoooaaGreatDoor.bt T 0 = 91) (b1 : Go.Proofs.YtcbmddgafkoooaaGreatDoor.bt T 1 = 91) (ht : isTgt (T.extract 2 (2 + u)) = true) (h2 : Go.Proofs.YtcbmddgafkoooaaGreatDoor.bt T J = 93 ∧ Go.Proofs.YtcbmddgafkoooaaGreatDoor.bt T (J + 1) = 93) (hu : u = J - 2) :
    tokL T 0 = some ⟨4, 0, J + 2, T.extract 2 J, noB, 0, false⟩ := by
  have he := h.end_ ht
  have hJ2 := h.J2
  have e1 : 2 + u = J := by omega
  rw [e1] at he ht
  unfold tokL
  dsimp only
  rw [Nat.zero_add, Nat.zero_add, he, if_pos ⟨b0, b1, ht⟩, if_pos h2]
theorem LkCut.long {T : ByteArray} {J u : Nat} (h : LkCut T J u) (b0 : Go.Proofs.YtcbmddgafkoooaaGreatDoor.bt T 0 = 91) (b1 : Go.Proofs.YtcbmddgafkoooaaGreatDoor.bt T 1 = 91) (ht : isTgt (T.extract 2 (2 + u)) = true) (h2 : Go.Proofs.YtcbmddgafkoooaaGreatDoor.bt T J = 93 ∧ Go.Proofs.YtcbmddgafkoooaaGreatDoor.bt T (J + 1) = 93) (hu : u < J - 2) :
    tokL T 0 = if u + 1 < J - 2 then some ⟨4, 0, J + 2, T.extract 2 (2 + u), T.extract (2 + u + 1) J, 0, false⟩ else none := by
  have he := h.end_ ht
  have hJ2 := h.J2
  have hat := h.atU hu
  have hJT := h.JT
  have hj : upto (isAny [91, 93]) T (2 + u + 1) = J := by
    have := upto_skip (stop := brB) (s := T) (i := 2) (k := 2 + u + 1) (by omega) (by omega) (fun j hj hj' => h.noBr hj (by omega))
    rw [← h.hJ, this]; rfl
  unfold tokL
  dsimp only
  rw [Nat.zero_add, Nat.zero_add, he, if_pos ⟨b0, b1, ht⟩, if_neg (by rw [hat]; omega), hj]
  by_cases c : u + 1 < J - 2
  · rw [if_pos c, if_pos ⟨hat, hJT, by omega, h2⟩]
  · rw [if_neg c, if_neg (fun c' => c (by omega))]
end Go.Proofs.YtcbmddgafkoooaaGreatDoor
