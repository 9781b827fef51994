/-
  DERIVED. A query that came in: its clauses, parts and words in memory, no larger than its bulk. Conditions: none. By an AI agent.
-/
import Derived.Test.YtpkpnmfcjoheoaaOpenStructs
import Derived.Test.YtpkpnmfcjoheoaaQrQuery
import Derived.Test.YtpkpnmfcjoheoaaQrJoin
import Derived.Deep.Strs
namespace Go.Proofs.Ytpkpnmfcjoheoaa
open Go.ChangeShapes Go.WideShapes Go.Deep Go.RowKit

def szP (p : Part) : Nat := 1 + (p.words.map fun x => x.size + 1).sum
def szC (c : Clause) : Nat := 1 + (c.parts.map szP).sum
def szQ (cs : List Clause) : Nat := (cs.map szC).sum
theorem bulkAll_app {H : Type} : ∀ (a b : List (DataW H)), Rows.uptoBulkAll (a ++ b) = Rows.uptoBulkAll a + Rows.uptoBulkAll b
  | [], b => by simp [Rows.uptoBulkAll]
  | x :: a, b => by rw [List.cons_append, Rows.uptoBulkAll, Rows.uptoBulkAll, bulkAll_app a b]; omega
theorem build {H α : Type} (R : Nat → α → Prop) (wt : α → Nat) (D : Nat → DataW H) : ∀ n, (∀ i, i < n → ∃ x, R i x ∧ wt x ≤ Rows.uptoBulk (D i)) → ∃ M : List α, M.length = n ∧ (∀ i x, M[i]? = some x → R i x) ∧ (M.map wt).sum ≤ Rows.uptoBulkAll ((List.range n).map D)
  | 0, _ => ⟨[], rfl, fun i x h => by simp at h, by simp [Rows.uptoBulkAll]⟩
  | n + 1, h => by
    obtain ⟨M, h1, h2, h3⟩ := build R wt D n (fun i hi => h i (by omega))
    obtain ⟨x, hx, hw⟩ := h n (by omega)
    refine ⟨M ++ [x], by simp [h1], fun i y hy => ?_, ?_⟩
    · rcases Nat.lt_or_ge i M.length with hi | hi
      · rw [List.getElem?_append_left hi] at hy; exact h2 i y hy
      · rw [List.getElem?_append_right hi] at hy
        have h0 : i - M.length = 0 := by
          have := (List.getElem?_eq_some_iff.1 hy).1
          simp at this; omega
        rw [h0] at hy
        obtain rfl : x = y := by simpa using hy
        obtain rfl : i = n := by omega
        exact hx
    · rw [List.range_succ, List.map_append, List.map_append, bulkAll_app, List.sum_append]
      simp [Rows.uptoBulkAll]
      omega
theorem fm_len {α : Type} {enc : α → List Value} {c : Nat} (h : ∀ x, (enc x).length = c) : ∀ M : List α, (M.flatMap enc).length = M.length * c
  | [] => by simp
  | x :: M => by rw [List.flatMap_cons, List.length_append, h, fm_len h M, List.length_cons, Nat.succ_mul]; omega

section
variable {H : Type} {enc : TypeId × Value → H} {P : Program} {W : World}
/-- a slice of strings that was read -/
theorem open_words {t e : TypeId} {fuel : Nat} {u : Value} {d : DataW H} {p : List MemPlace} (ht : P.underlying t = some (.slice e)) (he : P.underlying e = some .string) (hc : P.cellsOf e = 1)
    (h : DataW.trod enc P W 0 (fun _ => true) true fuel t [u] = some (d, p)) (hp : ∀ x ∈ p, x.block < W.heap.size) : ∃ zs, RW W W.heap.size u zs ∧ (zs.map fun x => x.size + 1).sum + 1 ≤ Rows.uptoBulk d := by
  rcases open_strs ht he hc h with ⟨hcs, hx⟩ | ⟨a, len, cap, m, Sx, hcs, _, hl, hm, hmm, hx, hcell⟩
  · simp only [Prod.mk.injEq] at hx
    obtain ⟨rfl, rfl⟩ := hx
    obtain rfl : u = .slice none 0 0 := by simpa using hcs
    exact ⟨[], ⟨none, 0, 0, rfl, rfl, Nat.le_refl _, Reads.none_⟩, by simp [Rows.uptoBulk]⟩
  · simp only [if_true] at hmm
    simp only [Prod.mk.injEq] at hx
    obtain ⟨rfl, rfl⟩ := hx
    obtain rfl : u = .slice (some a) len cap := by simpa using hcs
    obtain ⟨M, h1, h2, h3⟩ := build (α := ByteArray) (fun i x => x = Sx i) (fun x => x.size + 1) (fun i => (.lit (.string (Sx i).data.toList) : DataW H)) len (fun i _ => ⟨Sx i, rfl, by
      rw [Rows.uptoBulk]
      have e : (Sx i).data.toList.length = (Sx i).size := rfl
      omega⟩)
    refine ⟨M, ⟨some a, len, cap, rfl, h1.symm, hl, ⟨by simp [h1], fun hn => ⟨a, rfl, ?_, fun j w hu => ?_⟩⟩⟩, by rw [Rows.uptoBulk]; omega⟩
    · exact hp (.cell a.block a.off) (by simp only [MemPlace.mem_row]; exact ⟨0, by omega, by simp⟩)
    · rw [List.getElem?_map] at hu
      rcases hM : M[j]? with _ | x
      · rw [hM] at hu; cases hu
      · rw [hM] at hu
        have hj : j < M.length := (List.getElem?_eq_some_iff.1 hM).1
        simp only [Option.map_some, Option.some.injEq] at hu
        rw [(hcell j (by omega)).1, ← hu, h2 j x hM]
/-- a slice of structs of two one-cell fields that was read -/
theorem open_rows {α : Type} {en : α → List Value} {Q : α → Prop} {wt : α → Nat} {t e : TypeId} {f0 f1 : Field} {fuel : Nat} {u : Value} {d : DataW H} {p : List MemPlace} (ht : P.underlying t = some (.slice e)) (he : P.underlying e = some (.struct #[f0, f1]))
    (hone : oneCellFields P #[f0, f1] = true) (hC : P.cellsOf e = 2) (hen : ∀ x, (en x).length = 2)
    (hrow : ∀ (n : Nat) (v0 v1 : Value) (y0 y1 : DataW H × List MemPlace), DataW.trod enc P W 0 (fun _ => true) true n f0.type [v0] = some y0 → DataW.trod enc P W 0 (fun _ => true) true n f1.type [v1] = some y1 → (∀ x ∈ y0.2, x.block < W.heap.size) → (∀ x ∈ y1.2, x.block < W.heap.size) → ∃ x, en x = [v0, v1] ∧ wt x ≤ Rows.uptoBulk y0.1 + Rows.uptoBulk y1.1 + 1 ∧ Q x)
    (h : DataW.trod enc P W 0 (fun _ => true) true fuel t [u] = some (d, p)) (hp : ∀ x ∈ p, x.block < W.heap.size) :
    ∃ A n c, ∃ M : List α, u = .slice A n c ∧ n = M.length ∧ Reads W W.heap.size 2 A n (M.flatMap en) ∧ (∀ x ∈ M, Q x) ∧ (M.map wt).sum + 1 ≤ Rows.uptoBulk d := by
  rcases open_slice_fields ht he hone hC h with ⟨hcs, hx⟩ | ⟨a, len, cap, m, D, Pl, hcs, _, hl, hm, hmm, hx, hi⟩
  · simp only [Prod.mk.injEq] at hx
    obtain ⟨rfl, rfl⟩ := hx
    obtain rfl : u = .slice none 0 0 := by simpa using hcs
    exact ⟨none, 0, 0, [], rfl, rfl, Reads.none_, by simp, by simp [Rows.uptoBulk]⟩
  · simp only [if_true] at hmm
    simp only [Prod.mk.injEq] at hx
    obtain ⟨rfl, rfl⟩ := hx
    obtain rfl : u = .slice (some a) len cap := by simpa using hcs
    obtain ⟨M, h1, h2, h3⟩ := build (α := α) (fun i x => (∀ j w, (en x)[j]? = some w → W.cell? (a.add (i * 2 + j)) = some w) ∧ Q x) wt D len (fun i hil => by
      obtain ⟨ys, n, hD, hPl, hyl, hg⟩ := hi i (by omega)
      obtain ⟨v0, y0, c0, e0, t0⟩ := hg 0 f0 rfl
      obtain ⟨v1, y1, c1, e1, t1⟩ := hg 1 f1 rfl
      have hpl : ∀ y ∈ ys, ∀ x ∈ y.2, x.block < W.heap.size := fun y hy x hx => hp x (List.mem_append_right _ (List.mem_flatMap.2 ⟨i, List.mem_range.2 (by omega), by rw [hPl]; exact List.mem_flatMap.2 ⟨y, hy, hx⟩⟩))
      obtain ⟨x, hx, hw, hq⟩ := hrow n v0 v1 y0 y1 t0 t1 (hpl y0 (List.mem_of_getElem? e0)) (hpl y1 (List.mem_of_getElem? e1))
      have hys : ys = [y0, y1] := by
        have hyl2 : ys.length = 2 := hyl
        match ys, hyl2 with
        | [a0, a1], _ =>
          simp at e0 e1
          rw [e0, e1]
      refine ⟨x, ⟨fun j w hj => ?_, hq⟩, ?_⟩
      · rw [hx] at hj
        rcases j with _ | _ | j
        · obtain rfl : v0 = w := by simpa using hj
          exact c0
        · obtain rfl : v1 = w := by simpa using hj
          exact c1
        · simp at hj
      · rw [hD, hys]
        simp only [List.map_cons, List.map_nil, Rows.uptoBulk, Rows.uptoBulkAll]
        omega)
    refine ⟨some a, len, cap, M, rfl, h1.symm, ⟨by rw [fm_len hen, h1], fun hn => ⟨a, rfl, ?_, fun k w hk => ?_⟩⟩, fun x hx => ?_, by rw [Rows.uptoBulk]; omega⟩
    · exact hp (.cell a.block a.off) (List.mem_append_left _ (MemPlace.mem_row.2 ⟨0, by show 0 < m * 2; omega, by simp⟩))
    · have hkl := (List.getElem?_eq_some_iff.1 hk).1
      rw [fm_len hen] at hkl
      obtain ⟨x, hx⟩ : ∃ x, M[k / 2]? = some x := ⟨_, List.getElem?_eq_getElem (by omega)⟩
      have hkk : k / 2 * 2 + k % 2 = k := by omega
      have h4 := fm_get en 2 hen M (k / 2) (k % 2) x hx (by omega)
      rw [hkk, hk] at h4
      have h5 := (h2 _ x hx).1 (k % 2) w h4.symm
      rw [hkk] at h5
      exact h5
    · obtain ⟨i, hi', rfl⟩ := List.mem_iff_getElem.1 hx
      exact (h2 i _ (List.getElem?_eq_getElem hi')).2
end
theorem join_le (sep : ByteArray) (hs : sep.size = 1) : ∀ xs : List ByteArray, (joinB xs sep).size ≤ (xs.map fun x => x.size + 1).sum
  | [] => Nat.zero_le _
  | [x] => by rw [joinB_one]; simp
  | x :: y :: r => by
    have := join_le sep hs (y :: r)
    rw [joinB_cons, ByteArray.size_append, ByteArray.size_append, hs, List.map_cons, List.sum_cons]
    omega
theorem ptext_le (p : Part) : (ptext p).size ≤ szP p + 1 := by
  unfold ptext szP
  split
  · have := join_le bSp rfl p.words
    rw [ByteArray.size_append, ByteArray.size_append]
    have h1 : bQ.size = 1 := rfl
    omega
  · rw [ByteArray.size_append]
    have hk : (kmark p.kind).size ≤ 1 := by unfold kmark; split; exact Nat.le_refl _; split; exact Nat.le_refl _; exact Nat.zero_le _
    rcases p.words with _ | ⟨x, r⟩
    · have h0 : (⟨#[]⟩ : ByteArray).size = 0 := rfl
      simp only [List.headD_nil, h0]; omega
    · simp only [List.headD_cons, List.map_cons, List.sum_cons]
      omega
theorem sum_le {α : Type} (f g : α → Nat) (h : ∀ x, f x ≤ g x) : ∀ l : List α, (l.map f).sum ≤ (l.map g).sum
  | [] => Nat.le_refl _
  | x :: l => by
    have := sum_le f g h l
    have := h x
    simp only [List.map_cons, List.sum_cons]
    omega
theorem sum_mul {α : Type} (f : α → Nat) (k : Nat) : ∀ l : List α, (l.map fun x => k * f x).sum = k * (l.map f).sum
  | [] => by simp
  | x :: l => by
    simp only [List.map_cons, List.sum_cons, sum_mul f k l]
    rw [Nat.mul_add]
theorem szP_pos (p : Part) : 1 ≤ szP p := by unfold szP; omega
theorem szC_pos (c : Clause) : 1 ≤ szC c := by unfold szC; omega
theorem ctext_le (c : Clause) : (ctext c).size ≤ 4 * szC c := by
  unfold ctext
  have h1 := join_le bBar rfl (c.parts.map ptext)
  rw [List.map_map] at h1
  have h2 := sum_le ((fun x => ByteArray.size x + 1) ∘ ptext) (fun p => 3 * szP p) (fun p => by have := ptext_le p; have := szP_pos p; show (ptext p).size + 1 ≤ _; omega) c.parts
  rw [sum_mul] at h2
  rw [ByteArray.size_append]
  have hs : (if c.neg = true then bMin else ⟨#[]⟩ : ByteArray).size ≤ 1 := by split; exact Nat.le_refl _; exact Nat.zero_le _
  unfold szC
  omega
theorem qtext_le (cs : List Clause) : (qtext cs).size ≤ 5 * szQ cs := by
  unfold qtext szQ
  have h1 := join_le bSp rfl (cs.map ctext)
  rw [List.map_map] at h1
  have h2 := sum_le ((fun x => ByteArray.size x + 1) ∘ ctext) (fun c => 5 * szC c) (fun c => by have := ctext_le c; have := szC_pos c; show (ctext c).size + 1 ≤ _; omega) cs
  rw [sum_mul] at h2
  omega
theorem sum_mem {α : Type} (f : α → Nat) : ∀ {l : List α} {x : α}, x ∈ l → f x ≤ (l.map f).sum
  | y :: l, x, h => by
    simp only [List.map_cons, List.sum_cons]
    rcases List.mem_cons.1 h with rfl | h
    · omega
    · have := sum_mem f h; omega
theorem len_le {α : Type} (f : α → Nat) (h : ∀ x, 1 ≤ f x) : ∀ l : List α, l.length ≤ (l.map f).sum
  | [] => Nat.zero_le _
  | x :: l => by
    have := len_le f h l
    have := h x
    simp only [List.map_cons, List.sum_cons, List.length_cons]
    omega
theorem np_sz (cs : List Clause) : np cs ≤ szQ cs := sum_le _ _ (fun c => by have := len_le szP szP_pos c.parts; unfold szC; omega) cs
theorem words_sz {cs : List Clause} {c : Clause} {p : Part} (hc : c ∈ cs) (hp : p ∈ c.parts) : p.words.length ≤ szQ cs ∧ ∀ x ∈ p.words, x.size ≤ szQ cs := by
  have h1 := sum_mem szC hc
  have h2 := sum_mem szP hp
  have h3 := len_le (fun x : ByteArray => x.size + 1) (fun x => by omega) p.words
  have h4 : szP p ≤ szQ cs := by
    have e : szC c = 1 + (c.parts.map szP).sum := rfl
    show szP p ≤ (cs.map szC).sum
    omega
  refine ⟨by unfold szP at h4; omega, fun x hx => ?_⟩
  have h5 := sum_mem (fun x : ByteArray => x.size + 1) hx
  unfold szP at h4
  omega
end Go.Proofs.Ytpkpnmfcjoheoaa
