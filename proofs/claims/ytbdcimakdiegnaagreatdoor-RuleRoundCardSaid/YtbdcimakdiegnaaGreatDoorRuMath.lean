/-
  DERIVED. Plain law: rules for days; a rule as words, and as a text. Conditions: none. By an AI agent.
-/
import Derived.Test.YtbdcimakdiegnaaGreatDoorVa17
import Derived.Test.YtbdcimakdiegnaaGreatDoorVa08
namespace Go.Proofs.YtbdcimakdiegnaaGreatDoor
open cal

structure Rl where
  unit : Int
  every : Int
  from_ : Int
  until_ : Int
  count : Int
  wk : List Int
  ds : List Int
  nth : Int
  skip : List Int
def prL : Option Int → Int → Bool
  | none, _ => false
  | some q, n => decide (n ≤ q)
/-- the error of a list of numbers that rise -/
def riErr (lo hi : Int) (z : Bool) : Option Int → List Int → Int
  | _, [] => 0
  | p, n :: l => if (outI n lo hi || (n == 0 && !z)) = true then 2 else if prL p n = true then 5 else riErr lo hi z (some n) l
/-- fields that do not go together -/
def paErr (r : Rl) : Int :=
  if ((decide (0 < r.wk.length) && r.unit != 2 && r.unit != 3) || (decide (0 < r.ds.length) && (r.unit != 3 || decide (0 < r.wk.length))) || ((r.nth != 0) != (r.unit == 3 && decide (0 < r.wk.length)))) = true then 1 else 0
/-- the error of a rule -/
def ruErr (r : Rl) : Int :=
  if outI r.unit 1 4 = true then 10
  else if (outI r.every 1 1000 || outI r.from_ 0 100000 || outI r.until_ (-1) 100000 || outI r.count 0 5000) = true then 2
  else if paErr r ≠ 0 then paErr r
  else if riErr 0 6 true none r.wk ≠ 0 then riErr 0 6 true none r.wk
  else if riErr (-31) 31 false none r.ds ≠ 0 then riErr (-31) 31 false none r.ds
  else if outI r.nth (-5) 5 = true then 2
  else if 100 < r.skip.length then 4
  else riErr 0 100000 true none r.skip
theorem riErr_ways (lo hi : Int) (z : Bool) : ∀ (l : List Int) (p : Option Int), riErr lo hi z p l = 0 ∨ riErr lo hi z p l = 2 ∨ riErr lo hi z p l = 5
  | [], _ => .inl rfl
  | n :: l, p => by
    rw [riErr]
    split
    · exact .inr (.inl rfl)
    · split
      · exact .inr (.inr rfl)
      · exact riErr_ways lo hi z l _
theorem riErr_mem (lo hi : Int) (z : Bool) : ∀ (l : List Int) (p : Option Int), riErr lo hi z p l = 0 → ∀ n ∈ l, lo ≤ n ∧ n ≤ hi
  | [], _, _, n, hn => by cases hn
  | a :: l, p, h, n, hn => by
    rw [riErr] at h
    by_cases h1 : (outI a lo hi || (a == 0 && !z)) = true
    · rw [if_pos h1] at h; cases h
    rw [if_neg h1] at h
    by_cases h2 : prL p a = true
    · rw [if_pos h2] at h; cases h
    rw [if_neg h2] at h
    rcases List.mem_cons.1 hn with rfl | hn
    · simp only [Bool.or_eq_true, not_or] at h1
      have := h1.1
      unfold outI at this
      rw [decide_eq_true_eq] at this
      omega
    · exact riErr_mem lo hi z l _ h n hn
/-- how far the last number goes -/
theorem riErr_len (lo hi : Int) (z : Bool) : ∀ (l : List Int) (q : Int), riErr lo hi z (some q) l = 0 → q ≤ hi → (l.length : Int) ≤ hi - q
  | [], q, _, h => by show (0 : Int) ≤ _; omega
  | a :: l, q, h, hq => by
    rw [riErr] at h
    by_cases h1 : (outI a lo hi || (a == 0 && !z)) = true
    · rw [if_pos h1] at h; cases h
    rw [if_neg h1] at h
    by_cases h2 : prL (some q) a = true
    · rw [if_pos h2] at h; cases h
    rw [if_neg h2] at h
    simp only [Bool.or_eq_true, not_or] at h1
    have h3 := h1.1
    unfold outI at h3
    rw [decide_eq_true_eq] at h3
    have h2 : ¬ decide (a ≤ q) = true := h2
    rw [decide_eq_true_eq] at h2
    have := riErr_len lo hi z l a h (by omega)
    rw [List.length_cons]
    omega
theorem riErr_len0 (lo hi : Int) (z : Bool) (l : List Int) (h : riErr lo hi z none l = 0) (hlh : lo ≤ hi) : (l.length : Int) ≤ hi - lo + 1 := by
  cases l with
  | nil => show (0 : Int) ≤ _; omega
  | cons a l =>
    have hm := riErr_mem lo hi z (a :: l) none h a (by simp)
    rw [riErr] at h
    by_cases h1 : (outI a lo hi || (a == 0 && !z)) = true
    · rw [if_pos h1] at h; cases h
    rw [if_neg h1, if_neg (show ¬ prL none a = true from fun e => by cases e)] at h
    have := riErr_len lo hi z l a h (by omega)
    rw [List.length_cons]
    omega
/-- what a right rule is -/
structure RuOk (r : Rl) : Prop where
  unit : 1 ≤ r.unit ∧ r.unit ≤ 4
  every : 1 ≤ r.every ∧ r.every ≤ 1000
  from_ : 0 ≤ r.from_ ∧ r.from_ ≤ 100000
  until_ : -1 ≤ r.until_ ∧ r.until_ ≤ 100000
  count : 0 ≤ r.count ∧ r.count ≤ 5000
  wk : ∀ n ∈ r.wk, 0 ≤ n ∧ n ≤ 6
  wl : r.wk.length ≤ 7
  ds : ∀ n ∈ r.ds, -31 ≤ n ∧ n ≤ 31
  dl : r.ds.length ≤ 63
  nth : -5 ≤ r.nth ∧ r.nth ≤ 5
  skip : ∀ n ∈ r.skip, 0 ≤ n ∧ n ≤ 100000
  sl : r.skip.length ≤ 100
  nw : r.nth ≠ 0 → r.wk ≠ []
  wd : r.wk ≠ [] → r.ds = []
theorem ruErr_ok {r : Rl} (h : ruErr r = 0) : RuOk r := by
  unfold ruErr at h
  by_cases h1 : outI r.unit 1 4 = true
  · rw [if_pos h1] at h; cases h
  rw [if_neg h1] at h
  by_cases h2 : (outI r.every 1 1000 || outI r.from_ 0 100000 || outI r.until_ (-1) 100000 || outI r.count 0 5000) = true
  · rw [if_pos h2] at h; cases h
  rw [if_neg h2] at h
  by_cases h3 : paErr r ≠ 0
  · rw [if_pos h3] at h; exact absurd h h3
  rw [if_neg h3] at h
  by_cases h4 : riErr 0 6 true none r.wk ≠ 0
  · rw [if_pos h4] at h; exact absurd h h4
  rw [if_neg h4] at h
  by_cases h5 : riErr (-31) 31 false none r.ds ≠ 0
  · rw [if_pos h5] at h; exact absurd h h5
  rw [if_neg h5] at h
  by_cases h6 : outI r.nth (-5) 5 = true
  · rw [if_pos h6] at h; cases h
  rw [if_neg h6] at h
  by_cases h7 : 100 < r.skip.length
  · rw [if_pos h7] at h; cases h
  rw [if_neg h7] at h
  have h3 := Decidable.of_not_not h3
  have h4 := Decidable.of_not_not h4
  have h5 := Decidable.of_not_not h5
  simp only [Bool.or_eq_true, not_or] at h2
  unfold outI at h1 h2 h6
  simp only [decide_eq_true_eq] at h1 h2 h6
  have l4 := riErr_len0 0 6 true _ h4 (by omega)
  have l5 := riErr_len0 (-31) 31 false _ h5 (by omega)
  unfold paErr at h3
  have h3 : ¬ ((decide (0 < r.wk.length) && r.unit != 2 && r.unit != 3) || (decide (0 < r.ds.length) && (r.unit != 3 || decide (0 < r.wk.length))) || ((r.nth != 0) != (r.unit == 3 && decide (0 < r.wk.length)))) = true := fun e => by rw [if_pos e] at h3; cases h3
  simp only [Bool.or_eq_true, not_or, Bool.and_eq_true, not_and, decide_eq_true_eq] at h3
  refine ⟨by omega, by omega, by omega, by omega, by omega, riErr_mem _ _ _ _ _ h4, by omega, riErr_mem _ _ _ _ _ h5, by omega, by omega, riErr_mem _ _ _ _ _ h, by omega, ?_, ?_⟩
  · intro hn e
    have := h3.2
    rw [e] at this
    simp [hn] at this
  · intro hw
    have h0 : 0 < r.wk.length := List.length_pos_iff.2 hw
    rcases Nat.eq_zero_or_pos r.ds.length with e | e
    · exact List.length_eq_zero_iff.1 e
    · exact absurd h0 (h3.1.2 e).2

/-! ### words -/
def unW (n : Int) : ByteArray := if n = 1 then ⟨#[100, 97, 121]⟩ else if n = 2 then ⟨#[119, 101, 101, 107]⟩ else if n = 3 then ⟨#[109, 111, 110, 116, 104]⟩ else ⟨#[121, 101, 97, 114]⟩
def wdW (n : Int) : ByteArray := if n = 0 then ⟨#[109, 111, 110]⟩ else if n = 1 then ⟨#[116, 117, 101]⟩ else if n = 2 then ⟨#[119, 101, 100]⟩ else if n = 3 then ⟨#[116, 104, 117]⟩ else if n = 4 then ⟨#[102, 114, 105]⟩ else if n = 5 then ⟨#[115, 97, 116]⟩ else ⟨#[115, 117, 110]⟩
def wEvery : ByteArray := ⟨#[101, 118, 101, 114, 121]⟩
def wFrom : ByteArray := ⟨#[102, 114, 111, 109]⟩
def wUntil : ByteArray := ⟨#[117, 110, 116, 105, 108]⟩
def wTimes : ByteArray := ⟨#[116, 105, 109, 101, 115]⟩
def wOn : ByteArray := ⟨#[111, 110]⟩
def wDates : ByteArray := ⟨#[100, 97, 116, 101, 115]⟩
def wSkip : ByteArray := ⟨#[115, 107, 105, 112]⟩
def esW (n : Int) : ByteArray := if n = 1 then ⟨#[]⟩ else ⟨#[115]⟩
noncomputable def uWs (n : Int) : List ByteArray := if 0 ≤ n then [wUntil, dtS n] else []
def cWs (n : Int) : List ByteArray := if 0 < n then [wTimes, wd n] else []
def nWs (n : Int) : List ByteArray := if n = 0 then [] else [wd n ++ ⟨#[116, 104]⟩]
def lWs (word : List ByteArray) (f : Int → ByteArray) (l : List Int) : List ByteArray := if l = [] then [] else word ++ l.map f
/-- a rule as words -/
noncomputable def ruW (r : Rl) : List ByteArray := wEvery :: wd r.every :: (unW r.unit ++ esW r.every) :: wFrom :: dtS r.from_ :: (uWs r.until_ ++ (cWs r.count ++ (lWs (wOn :: nWs r.nth) wdW r.wk ++ (lWs [wDates] wd r.ds ++ lWs [wSkip] dtS r.skip))))
/-- each word behind a space -/
def spT : List ByteArray → ByteArray
  | [] => ⟨#[]⟩
  | x :: l => ⟨#[32]⟩ ++ x ++ spT l
theorem ba_assoc (a b c : ByteArray) : a ++ b ++ c = a ++ (b ++ c) := by
  apply ByteArray.ext
  simp
theorem ba_nil (a : ByteArray) : a ++ ⟨#[]⟩ = a := by
  apply ByteArray.ext
  simp
theorem nil_ba (a : ByteArray) : ⟨#[]⟩ ++ a = a := by
  apply ByteArray.ext
  simp
theorem spT_app : ∀ a b : List ByteArray, spT (a ++ b) = spT a ++ spT b
  | [], b => (nil_ba _).symm
  | x :: a, b => by
    rw [List.cons_append, spT, spT, spT_app a b, ba_assoc (⟨#[32]⟩ ++ x)]
theorem joinB_sp : ∀ (l : List ByteArray) (x : ByteArray), joinB (x :: l) ⟨#[32]⟩ = x ++ spT l
  | [], x => by rw [joinB_one, spT, ba_nil]
  | y :: l, x => by rw [joinB_cons, joinB_sp l y, spT, ba_assoc x, ba_assoc ⟨#[32]⟩]
/-! ### the text, piece by piece -/
def p1 (r : Rl) : ByteArray := ⟨#[101, 118, 101, 114, 121, 32]⟩ ++ wd r.every ++ ⟨#[32]⟩ ++ unW r.unit
noncomputable def p3 (r : Rl) : ByteArray := ⟨#[32, 102, 114, 111, 109, 32]⟩ ++ dtS r.from_
noncomputable def p4 (r : Rl) : ByteArray := if 0 ≤ r.until_ then ⟨#[32, 117, 110, 116, 105, 108, 32]⟩ ++ dtS r.until_ else ⟨#[]⟩
def p5 (r : Rl) : ByteArray := if 0 < r.count then ⟨#[32, 116, 105, 109, 101, 115, 32]⟩ ++ wd r.count else ⟨#[]⟩
/-- numbers behind spaces -/
def ctT (f : Int → ByteArray) : List Int → ByteArray
  | [] => ⟨#[]⟩
  | n :: l => ⟨#[32]⟩ ++ f n ++ ctT f l
/-- a part of a rule -/
def ptT (word : ByteArray) (f : Int → ByteArray) (l : List Int) : ByteArray := if l = [] then ⟨#[]⟩ else ⟨#[32]⟩ ++ word ++ ctT f l
def onW (n : Int) : ByteArray := if n = 0 then wOn else wOn ++ (⟨#[32]⟩ ++ wd n ++ ⟨#[116, 104]⟩)
noncomputable def ruT (r : Rl) : ByteArray := p1 r ++ esW r.every ++ p3 r ++ p4 r ++ p5 r ++ ptT (onW r.nth) wdW r.wk ++ ptT wDates wd r.ds ++ ptT wSkip dtS r.skip
theorem ctT_sp (f : Int → ByteArray) : ∀ l, ctT f l = spT (l.map f)
  | [] => rfl
  | n :: l => by rw [ctT, List.map_cons, spT, ctT_sp f l]
theorem ctT_snoc (f : Int → ByteArray) : ∀ (l : List Int) (x : Int), ctT f (l ++ [x]) = ctT f l ++ (⟨#[32]⟩ ++ f x)
  | [], x => by
    show ⟨#[32]⟩ ++ f x ++ ⟨#[]⟩ = ⟨#[]⟩ ++ _
    rw [ba_nil, nil_ba]
  | n :: l, x => by rw [List.cons_append, ctT, ctT, ctT_snoc f l x, ba_assoc (⟨#[32]⟩ ++ f n)]
theorem lWs_sp (ws : List ByteArray) (word : ByteArray) (f : Int → ByteArray) (l : List Int) (h : spT ws = ⟨#[32]⟩ ++ word) : spT (lWs ws f l) = ptT word f l := by
  unfold lWs ptT
  by_cases hl : l = []
  · rw [if_pos hl, if_pos hl]; rfl
  · rw [if_neg hl, if_neg hl, spT_app, h, ctT_sp]
theorem nWs_sp (n : Int) : spT (wOn :: nWs n) = ⟨#[32]⟩ ++ onW n := by
  unfold nWs onW
  by_cases h : n = 0
  · rw [if_pos h, if_pos h, spT, spT, ba_nil]
  · rw [if_neg h, if_neg h, spT, spT, spT, ba_nil, ba_assoc ⟨#[32]⟩, ba_assoc ⟨#[32]⟩]
theorem ruT_join (r : Rl) : ruT r = joinB (ruW r) ⟨#[32]⟩ := by
  unfold ruT ruW
  rw [joinB_sp, spT, spT, spT, spT, spT_app, spT_app, spT_app, spT_app, lWs_sp (wOn :: nWs r.nth) (onW r.nth) wdW r.wk (nWs_sp _), lWs_sp [wDates] wDates wd r.ds (by rw [spT, spT, ba_nil]), lWs_sp [wSkip] wSkip dtS r.skip (by rw [spT, spT, ba_nil])]
  have e4 : spT (uWs r.until_) = p4 r := by
    unfold uWs p4
    split
    · rw [spT, spT, spT, ba_nil]
      apply ByteArray.ext
      simp [wUntil]
    · rfl
  have e5 : spT (cWs r.count) = p5 r := by
    unfold cWs p5
    split
    · rw [spT, spT, spT, ba_nil]
      apply ByteArray.ext
      simp [wTimes]
    · rfl
  rw [e4, e5]
  unfold p1 p3
  apply ByteArray.ext
  simp [wEvery, wFrom]
/-! ### no word has a space -/
theorem dtS_byte {d : Int} (h : 0 ≤ d) (h' : d ≤ 100000) : ∀ b ∈ (dtS d).data.toList, b ≠ 32 := by
  obtain ⟨a0, a1, a2, a3, b0, b1, c0, c1, e, hd, _⟩ := dat_ten h h'
  intro b hb
  have hb : b ∈ datL d := by simpa [dtS] using hb
  rw [e] at hb
  have hm : b = 45 ∨ b ∈ [a0, a1, a2, a3] ++ [b0, b1] ++ [c0, c1] := by
    simp only [List.mem_cons, List.not_mem_nil, or_false] at hb
    simp only [List.mem_append, List.mem_cons, List.not_mem_nil, or_false]
    rcases hb with h | h | h | h | h | h | h | h | h | h <;> simp [h]
  rcases hm with rfl | hm
  · decide
  · have h2 := List.all_eq_true.1 hd b hm
    rintro rfl
    cases h2
theorem wd_byte (n : Int) : ∀ b ∈ (wd n).data.toList, b ≠ 32 := fun b hb => itoa_byte n b (by simpa [wd] using hb)
theorem unW_ways {n : Int} (h : 1 ≤ n ∧ n ≤ 4) : n = 1 ∨ n = 2 ∨ n = 3 ∨ n = 4 := by omega
theorem wdW_ways {n : Int} (h : 0 ≤ n ∧ n ≤ 6) : n = 0 ∨ n = 1 ∨ n = 2 ∨ n = 3 ∨ n = 4 ∨ n = 5 ∨ n = 6 := by omega
def NoSp (x : ByteArray) : Prop := ∀ b ∈ x.data.toList, b ≠ 32
instance (x : ByteArray) : Decidable (NoSp x) := List.decidableBAll _ _
theorem NoSp.app {x y : ByteArray} (h : NoSp x) (k : NoSp y) : NoSp (x ++ y) := fun b hb => by
  simp only [ByteArray.data_append, Array.toList_append, List.mem_append] at hb
  rcases hb with hb | hb
  · exact h b hb
  · exact k b hb
theorem lWs_nosp {ws : List ByteArray} {f : Int → ByteArray} {l : List Int} (hw : ∀ x ∈ ws, NoSp x) (hf : ∀ n ∈ l, NoSp (f n)) : ∀ x ∈ lWs ws f l, NoSp x := by
  intro x hx
  unfold lWs at hx
  split at hx
  · cases hx
  · rcases List.mem_append.1 hx with hx | hx
    · exact hw x hx
    · obtain ⟨n, hn, rfl⟩ := List.mem_map.1 hx
      exact hf n hn
theorem ruW_nosp {r : Rl} (h : RuOk r) : ∀ x ∈ ruW r, NoSp x := by
  intro x hx
  unfold ruW at hx
  simp only [List.mem_cons, List.mem_append] at hx
  rcases hx with rfl | rfl | rfl | rfl | rfl | hx | hx | hx | hx | hx
  · decide
  · exact wd_byte _
  · refine NoSp.app ?_ ?_
    · rcases unW_ways h.unit with e | e | e | e <;> rw [e] <;> decide
    · unfold esW
      split <;> decide
  · decide
  · exact dtS_byte h.from_.1 h.from_.2
  · unfold uWs at hx
    split at hx
    · next hu =>
      simp only [List.mem_cons, List.not_mem_nil, or_false] at hx
      rcases hx with rfl | rfl
      · decide
      · exact dtS_byte hu h.until_.2
    · cases hx
  · unfold cWs at hx
    split at hx
    · simp only [List.mem_cons, List.not_mem_nil, or_false] at hx
      rcases hx with rfl | rfl
      · decide
      · exact wd_byte _
    · cases hx
  · refine lWs_nosp (fun y hy => ?_) (fun n hn => ?_) x hx
    · rcases List.mem_cons.1 hy with rfl | hy
      · decide
      · unfold nWs at hy
        split at hy
        · cases hy
        · simp only [List.mem_cons, List.not_mem_nil, or_false] at hy
          subst hy
          exact NoSp.app (wd_byte _) (by decide)
    · rcases wdW_ways (h.wk n hn) with e | e | e | e | e | e | e <;> rw [e] <;> decide
  · refine lWs_nosp (fun y hy => ?_) (fun n _ => wd_byte n) x hx
    simp only [List.mem_cons, List.not_mem_nil, or_false] at hy
    subst hy
    decide
  · refine lWs_nosp (fun y hy => ?_) (fun n hn => dtS_byte (h.skip n hn).1 (h.skip n hn).2) x hx
    simp only [List.mem_cons, List.not_mem_nil, or_false] at hy
    subst hy
    decide
end Go.Proofs.YtbdcimakdiegnaaGreatDoor
