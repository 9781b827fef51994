/-
  DERIVED. Plain law: a number's digits and their value; words joined by a byte and cut at it again. Conditions: none. By an AI agent.
-/
import Derived.Lib.ItoaNum
import Derived.Lib.Atoi
import Derived.Lib.Split
import Derived.Lib.IndexBytes
import Derived.Lib.Join
import Derived.Lib.Strings
import Derived.Lib.SlTrimSet
namespace Go.Proofs.YtghadhdmbcigpaaDoor

theorem dd_small {u : Nat} (h : u < 10) : Lib.decDigits u = [UInt8.ofNat (48 + u)] := by rw [Lib.decDigits, dif_pos h]
theorem dd_big {u : Nat} (h : ¬ u < 10) : Lib.decDigits u = Lib.decDigits (u / 10) ++ [UInt8.ofNat (48 + u % 10)] := by rw [Lib.decDigits, dif_neg h]
theorem dig_of {d : Nat} (h : d < 10) : (UInt8.ofNat (48 + d)).toNat = 48 + d := by
  rw [UInt8.toNat_ofNat']; omega
theorem dig_val {d : Nat} (h : d < 10) : Lib.digitVal (UInt8.ofNat (48 + d)) = some d := by
  unfold Lib.digitVal
  rw [dig_of h, if_pos (by omega)]
  congr 1; omega
theorem dd_all (u : Nat) : ∀ b ∈ Lib.decDigits u, 48 ≤ b.toNat ∧ b.toNat ≤ 57 := by
  induction u using Nat.strongRecOn with
  | _ u ih =>
    intro b hb
    by_cases h : u < 10
    · rw [dd_small h, List.mem_singleton] at hb
      subst hb; rw [dig_of h]; omega
    · rw [dd_big h] at hb
      rcases List.mem_append.1 hb with hb | hb
      · exact ih (u / 10) (by omega) b hb
      · rw [List.mem_singleton] at hb
        subst hb; rw [dig_of (by omega)]; omega
theorem dd_ne (u : Nat) : Lib.decDigits u ≠ [] := by
  by_cases h : u < 10
  · rw [dd_small h]; simp
  · rw [dd_big h]; simp
theorem dd_len : ∀ (k u : Nat), u < 10 ^ (k + 1) → (Lib.decDigits u).length ≤ k + 1
  | 0, u, h => by rw [dd_small (by simpa using h)]; simp
  | k + 1, u, h => by
    by_cases h1 : u < 10
    · rw [dd_small h1]; simp
    · rw [dd_big h1, List.length_append, List.length_singleton]
      have := dd_len k (u / 10) (by rw [Nat.pow_succ] at h; omega)
      omega
theorem decFrom_app : ∀ (l r : List UInt8) (acc : Nat), Lib.decFrom acc (l ++ r) = (Lib.decFrom acc l).bind fun a => Lib.decFrom a r
  | [], r, acc => rfl
  | b :: l, r, acc => by
    rw [List.cons_append]
    simp only [Lib.decFrom]
    cases Lib.digitVal b with
    | none => rfl
    | some d => exact decFrom_app l r _
theorem dd_val (u : Nat) : Lib.decFrom 0 (Lib.decDigits u) = some u := by
  induction u using Nat.strongRecOn with
  | _ u ih =>
    by_cases h : u < 10
    · rw [dd_small h]
      simp only [Lib.decFrom]
      rw [dig_val h]; simp
    · rw [dd_big h, decFrom_app, ih (u / 10) (by omega)]
      show Lib.decFrom (u / 10) [_] = _
      simp only [Lib.decFrom]
      rw [dig_val (by omega)]
      simp only
      congr 1; omega
theorem dd_nat (u : Nat) : Lib.decNat (Lib.decDigits u) = some u := by
  unfold Lib.decNat
  rw [if_neg (by simpa using dd_ne u), dd_val]
theorem atoi_itoa (n : Int) : Lib.atoi (Lib.itoa n) = some n := by
  unfold Lib.itoa
  by_cases h : n < 0
  · rw [if_pos h]
    simp only [Lib.atoi]
    rw [if_pos (by decide), dd_nat]
    simp only [Option.map_some]
    congr 1; omega
  · rw [if_neg h]
    rcases hd : Lib.decDigits n.toNat with _ | ⟨b, r⟩
    · exact absurd hd (dd_ne _)
    · have hb := dd_all n.toNat b (by rw [hd]; simp)
      simp only [Lib.atoi]
      have n1 : (b == 45) = false := by
        cases hh : b == 45
        · rfl
        · rw [beq_iff_eq] at hh; subst hh; exact absurd hb.1 (by decide)
      have n2 : (b == 43) = false := by
        cases hh : b == 43
        · rfl
        · rw [beq_iff_eq] at hh; subst hh; exact absurd hb.1 (by decide)
      rw [n1, n2, ← hd, dd_nat]
      simp only [Bool.false_eq_true, if_false, Option.map_some]
      congr 1; omega
theorem itoa_byte (n : Int) : ∀ b ∈ Lib.itoa n, b ≠ 32 := by
  intro b hb
  unfold Lib.itoa at hb
  rintro rfl
  split at hb
  · rcases List.mem_cons.1 hb with h | h
    · exact absurd h (by decide)
    · exact absurd (dd_all _ _ h).1 (by decide)
  · exact absurd (dd_all _ _ hb).1 (by decide)
/-- the digits behind the sign -/
theorem itoa_digits (n : Int) : Lib.trimPrefix (Lib.itoa n) [45] = Lib.decDigits n.natAbs := by
  unfold Lib.itoa
  by_cases h : n < 0
  · rw [if_pos h]
    unfold Lib.trimPrefix Lib.hasPrefix
    rw [if_pos (by simp)]
    rfl
  · rw [if_neg h, show n.toNat = n.natAbs by omega]
    rcases hd : Lib.decDigits n.natAbs with _ | ⟨b, r⟩
    · exact absurd hd (dd_ne _)
    · have hb := dd_all n.natAbs b (by rw [hd]; simp)
      unfold Lib.trimPrefix Lib.hasPrefix
      rw [if_neg]
      intro hp
      rw [List.isPrefixOf_iff_prefix] at hp
      obtain ⟨t, ht⟩ := hp
      simp at ht
      rw [← ht.1] at hb
      exact absurd hb.1 (by decide)
theorem digits_trim {l : List UInt8} (h : ∀ b ∈ l, 48 ≤ b.toNat ∧ b.toNat ≤ 57) : Lib.trimS l [48, 49, 50, 51, 52, 53, 54, 55, 56, 57] = [] := by
  have key : ∀ b : UInt8, 48 ≤ b.toNat → b.toNat ≤ 57 → ([48, 49, 50, 51, 52, 53, 54, 55, 56, 57] : List UInt8).contains b = true := by
    intro b h1 h2
    simp only [List.contains_iff_mem, List.mem_cons, List.not_mem_nil, or_false, ← UInt8.toNat_inj]
    show b.toNat = 48 ∨ b.toNat = 49 ∨ b.toNat = 50 ∨ b.toNat = 51 ∨ b.toNat = 52 ∨ b.toNat = 53 ∨ b.toNat = 54 ∨ b.toNat = 55 ∨ b.toNat = 56 ∨ b.toNat = 57
    omega
  have dw : ∀ m : List UInt8, (∀ b ∈ m, 48 ≤ b.toNat ∧ b.toNat ≤ 57) → m.dropWhile (fun x => ([48, 49, 50, 51, 52, 53, 54, 55, 56, 57] : List UInt8).contains x) = [] := by
    intro m hm
    induction m with
    | nil => rfl
    | cons b m ih =>
      rw [List.dropWhile_cons, if_pos (key b (hm b (by simp)).1 (hm b (by simp)).2)]
      exact ih (fun c hc => hm c (by simp [hc]))
  unfold Lib.trimS Lib.trimRightS
  rw [dw l.reverse (fun b hb => h b (by simpa using hb))]
  rfl

/-- joined by a byte that none of them has, and cut at it again -/
theorem idx_first (c : UInt8) : ∀ (x r : List UInt8), (∀ b ∈ x, b ≠ c) → Lib.index (x ++ c :: r) [c] = x.length
  | [], r, _ => by rw [Lib.index_one]; simp [Lib.indexByte]
  | b :: x, r, h => by
    have ih := idx_first c x r (fun d hd => h d (by simp [hd]))
    rw [Lib.index_one] at ih ⊢
    rw [List.cons_append, show Lib.indexByte (b :: (x ++ c :: r)) c = if (b == c) = true then 0 else if (Lib.indexByte (x ++ c :: r) c == -1) = true then -1 else Lib.indexByte (x ++ c :: r) c + 1 from rfl]
    rw [if_neg (by simpa using h b (by simp)), ih, if_neg (by simp), List.length_cons]
    omega
theorem idx_none (c : UInt8) : ∀ (x : List UInt8), (∀ b ∈ x, b ≠ c) → Lib.index x [c] = -1
  | [], _ => by rw [Lib.index_one]; rfl
  | b :: x, h => by
    have ih := idx_none c x (fun d hd => h d (by simp [hd]))
    rw [Lib.index_one] at ih ⊢
    rw [show Lib.indexByte (b :: x) c = if (b == c) = true then 0 else if (Lib.indexByte x c == -1) = true then -1 else Lib.indexByte x c + 1 from rfl]
    rw [if_neg (by simpa using h b (by simp)), ih]; rfl
theorem split_join (c : UInt8) : ∀ (xs : List (List UInt8)), xs ≠ [] → (∀ x ∈ xs, ∀ b ∈ x, b ≠ c) → Lib.splitK [c] 0 (Lib.count (Lib.join xs [c]) [c]) (Lib.join xs [c]) = xs
  | [], h, _ => absurd rfl h
  | [x], _, h => by
    have hi := idx_none c x (h x (by simp))
    rw [Lib.join_one, Lib.count_miss hi]; rfl
  | x :: y :: r, _, h => by
    have ih := split_join c (y :: r) (by simp) (fun z hz => h z (by simp [hz]))
    have hj : Lib.join (x :: y :: r) [c] = x ++ c :: Lib.join (y :: r) [c] := by
      rw [Lib.join_cons, Lib.join_cons]
      simp [Lib.joinTail]
    have hi := idx_first c x (Lib.join (y :: r) [c]) (h x (by simp))
    rw [hj, Lib.count_hit (by simp) hi, Nat.add_comm 1]
    simp only [Lib.splitK]
    rw [hi, if_neg (by simp), show ((x.length : Nat) : Int).toNat = x.length from rfl]
    rw [Nat.add_zero, List.take_append_of_le_length (Nat.le_refl _), List.take_length]
    have hd : (x ++ c :: Lib.join (y :: r) [c]).drop (x.length + [c].length) = Lib.join (y :: r) [c] := by
      rw [List.drop_append]; simp
    rw [hd, ih]

theorem itoa_len {n : Int} (h : n.natAbs < 10 ^ 7) : (Lib.itoa n).length ≤ 8 := by
  have := dd_len 6 n.natAbs h
  unfold Lib.itoa
  split
  · rw [List.length_cons]; omega
  · rw [show n.toNat = n.natAbs by omega]; omega
theorem join_short : ∀ xs : List (List UInt8), (∀ x ∈ xs, x.length ≤ 8) → (Lib.join xs [32]).length ≤ 9 * xs.length
  | [], _ => by simp [Lib.join_nil]
  | [x], h => by
    rw [Lib.join_one]
    have := h x (by simp)
    simp; omega
  | x :: y :: r, h => by
    have ih := join_short (y :: r) (fun z hz => h z (by simp [hz]))
    have hj : Lib.join (x :: y :: r) [32] = x ++ 32 :: Lib.join (y :: r) [32] := by
      rw [Lib.join_cons, Lib.join_cons]
      simp [Lib.joinTail]
    have hx := h x (by simp)
    rw [hj]
    simp only [List.length_append, List.length_cons] at ih ⊢
    omega
end Go.Proofs.YtghadhdmbcigpaaDoor
