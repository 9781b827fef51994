/-
  DERIVED. Plain law: the lines of an outline, as the program and as the reference reads them. Conditions: none. By an AI agent.
-/
import Derived.Lib.Split
import Derived.Lib.IndexBytes
import Derived.Lib.IndexLaws
import Derived.Lib.TrimByte
import Derived.Lib.Strings
import Derived.Test.YtbannbgokddfaaaDoorCheckText
namespace Go.Proofs.YtbannbgokddfaaaDoor
open Go.RowKit

/-- the first line feed -/
def nl (l : List UInt8) : Int := Lib.index l [10]
theorem nl_ib (l : List UInt8) : nl l = Lib.indexByte l 10 := Lib.index_one l 10
theorem nl_nil : nl [] = -1 := by rw [nl_ib]; rfl
theorem nl_cons (b : UInt8) (l : List UInt8) : nl (b :: l) = if b = 10 then 0 else if nl l = -1 then -1 else nl l + 1 := by
  rw [nl_ib, nl_ib, show Lib.indexByte (b :: l) 10 = if (b == 10) = true then 0 else if (Lib.indexByte l 10 == -1) = true then -1 else Lib.indexByte l 10 + 1 from rfl]
  by_cases h : b = 10
  · subst h; simp
  · rw [if_neg (by simpa using h), if_neg h]
    by_cases h1 : Lib.indexByte l 10 = -1
    · rw [if_pos (by simpa using h1), if_pos h1]
    · rw [if_neg (by simpa using h1), if_neg h1]
theorem nl_ge (l : List UInt8) : -1 ≤ nl l := by rw [nl_ib]; exact Lib.indexByte_ge l 10
theorem nl_lt : ∀ l : List UInt8, nl l < l.length
  | [] => by rw [nl_nil]; simp
  | b :: l => by
    have := nl_lt l
    rw [nl_cons, List.length_cons]
    split
    · omega
    · split
      · omega
      · omega
theorem nl_app : ∀ (m r : List UInt8), nl (m ++ r) = if nl m = -1 then (if nl r = -1 then -1 else nl r + m.length) else nl m
  | [], r => by
    rw [nl_nil, if_pos rfl]
    have := nl_ge r
    by_cases h : nl r = -1
    · rw [if_pos h]; exact h
    · rw [if_neg h]; simp
  | b :: m, r => by
    rw [List.cons_append, nl_cons, nl_cons, nl_app m r]
    by_cases hb : b = 10
    · rw [if_pos hb, if_pos hb, if_neg (by omega)]
    · rw [if_neg hb, if_neg hb]
      have h1 := nl_ge m
      have h2 := nl_ge r
      by_cases hm : nl m = -1
      · rw [if_pos hm, if_pos hm, if_pos rfl]
        by_cases hr : nl r = -1
        · rw [if_pos hr, if_pos hr, if_pos rfl]
        · rw [if_neg hr, if_neg hr, if_neg (by omega), List.length_cons]; omega
      · rw [if_neg hm, if_neg hm, if_neg (by omega)]
theorem nl_last (m : List UInt8) : nl (m ++ [10]) = if nl m = -1 then (m.length : Int) else nl m := by
  rw [nl_app, show nl [10] = 0 from by rw [nl_cons, if_pos rfl]]
  by_cases h : nl m = -1
  · rw [if_pos h, if_pos h, if_neg (by omega)]; omega
  · rw [if_neg h, if_neg h]

abbrev Ln := Nat × List UInt8
/-- a line of an outline -/
def lineOk (ln : List UInt8) : Option Ln :=
  if Lib.hasPrefix (Lib.trimLeftB ln 32) [45, 32] = true ∧ (ln.length - (Lib.trimLeftB ln 32).length) % 2 = 0 then some ((ln.length - (Lib.trimLeftB ln 32).length) / 2, (Lib.trimLeftB ln 32).drop 2) else none
/-- the lines, one by one, as the program reads them -/
def rd : Nat → Int → List UInt8 → Option (List Ln)
  | 0, _, _ => some []
  | f + 1, last, l =>
    if l = [] then some [] else if nl l = -1 then none
    else match lineOk (l.take (nl l).toNat) with
      | none => none
      | some x => if last + 1 < (x.1 : Int) then none else (rd f x.1 (l.drop ((nl l).toNat + 1))).map (x :: ·)
theorem rd_nil (f : Nat) (last : Int) : rd f last [] = some [] := by cases f <;> simp [rd]
theorem rd_enough : ∀ (f g : Nat) (last : Int) (l : List UInt8), l.length ≤ f → l.length ≤ g → rd f last l = rd g last l
  | 0, g, last, l, h, _ => by
    obtain rfl : l = [] := List.eq_nil_of_length_eq_zero (by omega)
    rw [rd_nil, rd_nil]
  | f + 1, 0, last, l, _, h => by
    obtain rfl : l = [] := List.eq_nil_of_length_eq_zero (by omega)
    rw [rd_nil, rd_nil]
  | f + 1, g + 1, last, l, h1, h2 => by
    simp only [rd]
    by_cases h0 : l = []
    · rw [if_pos h0, if_pos h0]
    · rw [if_neg h0, if_neg h0]
      have hl : 0 < l.length := List.length_pos_iff.2 h0
      by_cases hn : nl l = -1
      · rw [if_pos hn, if_pos hn]
      · rw [if_neg hn, if_neg hn]
        cases lineOk (l.take (nl l).toNat) with
        | none => rfl
        | some x =>
          dsimp only
          rw [rd_enough f g x.1 (l.drop ((nl l).toNat + 1)) (by simp; omega) (by simp; omega)]
/-- what the program reads of a text -/
def outl (l : List UInt8) (last : Int) : Option (List Ln) := rd l.length last l
theorem outl_step {l : List UInt8} (last : Int) (h0 : l ≠ []) : outl l last = if nl l = -1 then none
    else match lineOk (l.take (nl l).toNat) with
      | none => none
      | some x => if last + 1 < (x.1 : Int) then none else (outl (l.drop ((nl l).toNat + 1)) x.1).map (x :: ·) := by
  have hl : 0 < l.length := List.length_pos_iff.2 h0
  obtain ⟨n, hn⟩ : ∃ n, l.length = n + 1 := ⟨l.length - 1, by omega⟩
  unfold outl
  rw [hn]
  simp only [rd]
  rw [if_neg h0]
  by_cases h1 : nl l = -1
  · rw [if_pos h1, if_pos h1]
  · rw [if_neg h1, if_neg h1]
    cases lineOk (l.take (nl l).toNat) with
    | none => rfl
    | some x =>
      dsimp only
      rw [rd_enough n (l.drop ((nl l).toNat + 1)).length x.1 (l.drop ((nl l).toNat + 1)) (by simp; omega) (Nat.le_refl _)]
/-- the lines of a list, as the reference reads them -/
def readL : Int → List (List UInt8) → Option (List Ln)
  | _, [] => some []
  | last, ln :: r => match lineOk ln with
    | none => none
    | some x => if last + 1 < (x.1 : Int) then none else (readL x.1 r).map (x :: ·)
theorem out_split : ∀ (n : Nat) (m : List UInt8) (last : Int), m.length ≤ n → outl (m ++ [10]) last = readL last (Lib.splitK [10] 0 (Lib.count m [10]) m) := by
  intro n
  induction n with
  | zero =>
    intro m last h
    obtain rfl : m = [] := List.eq_nil_of_length_eq_zero (by omega)
    rw [outl_step last (by simp)]
    have hc : Lib.count [] [10] = 0 := Lib.count_miss (by exact nl_nil)
    rw [hc, nl_last, nl_nil, if_pos rfl]
    rw [if_neg (by simp)]
    show (match lineOk [] with | none => none | some x => if last + 1 < (x.1 : Int) then none else (outl [] x.1).map (x :: ·)) = readL last [[]]
    simp only [readL]
    cases lineOk [] with
    | none => rfl
    | some x => rfl
  | succ n ih =>
    intro m last h
    rw [outl_step last (by simp), nl_last]
    have hlt := nl_lt m
    have hge := nl_ge m
    by_cases hm : nl m = -1
    · rw [if_pos hm, if_neg (by omega)]
      rw [Lib.count_miss (show Lib.index m [10] = -1 from hm)]
      simp only [Lib.splitK, readL]
      rw [show ((m.length : Nat) : Int).toNat = m.length from rfl, List.take_append_of_le_length (Nat.le_refl _), List.take_length]
      have e : (m ++ [10]).drop (m.length + 1) = [] := List.drop_eq_nil_of_le (by simp)
      cases lineOk m with
      | none => rfl
      | some x =>
        dsimp only
        rw [e]
        rfl
    · obtain ⟨i, hi⟩ : ∃ i : Nat, nl m = i := ⟨(nl m).toNat, by omega⟩
      rw [if_neg hm, if_neg hm, hi]
      rw [Lib.count_hit (by simp) (show Lib.index m [10] = i from hi), Nat.add_comm 1]
      simp only [Lib.splitK]
      rw [show Lib.index m [10] = (i : Int) from hi, if_neg (by simp), show ((i : Nat) : Int).toNat = i from rfl]
      simp only [readL, List.length_singleton, Nat.add_zero]
      rw [List.take_append_of_le_length (by omega), List.drop_append_of_le_length (by omega)]
      cases lineOk (m.take i) with
      | none => rfl
      | some x =>
        dsimp only
        rw [ih (m.drop (i + 1)) x.1 (by simp; omega)]
theorem out_none : ∀ (n : Nat) (l : List UInt8) (last : Int), l.length ≤ n → l ≠ [] → l.getLast? ≠ some 10 → outl l last = none := by
  intro n
  induction n with
  | zero => intro l last h h0 _; exact absurd (List.eq_nil_of_length_eq_zero (by omega)) h0
  | succ n ih =>
    intro l last h h0 h1
    rw [outl_step last h0]
    have hlt := nl_lt l
    have hge := nl_ge l
    by_cases hm : nl l = -1
    · rw [if_pos hm]
    · obtain ⟨i, hi⟩ : ∃ i : Nat, nl l = i := ⟨(nl l).toNat, by omega⟩
      rw [if_neg hm, hi, show ((i : Nat) : Int).toNat = i from rfl]
      have hd : l.drop (i + 1) ≠ [] := fun e => by
        have hl := congrArg List.length e
        simp at hl
        have hil : i + 1 = l.length := by omega
        apply h1
        have hib := Lib.indexByte_some (l := l) (c := 10) (o := i) (by rw [← nl_ib]; exact hi)
        rw [List.getLast?_eq_getElem?, ← hil]
        simpa using hib.1
      have hlst : (l.drop (i + 1)).getLast? ≠ some 10 := by
        rw [List.getLast?_drop]
        have : ¬ l.length ≤ i + 1 := fun hh => hd (List.drop_eq_nil_of_le hh)
        rw [if_neg this]
        exact h1
      cases lineOk (l.take i) with
      | none => rfl
      | some x =>
        dsimp only
        rw [ih (l.drop (i + 1)) x.1 (by simp; omega) hd hlst]
        simp

/-- the line's text, as a string -/
def lnT (x : Ln) : ByteArray := ⟨x.2.toArray⟩
def lnV (x : Ln) : List Value := [.int .i64 x.1, .string (lnT x)]
def flatL (l : List Ln) : List Value := l.flatMap lnV
theorem flatL_len : ∀ l : List Ln, (flatL l).length = l.length * 2
  | [] => rfl
  | x :: l => by
    have := flatL_len l
    unfold flatL at this ⊢
    rw [List.flatMap_cons, List.length_append, this, List.length_cons]
    show 2 + _ = _
    omega
theorem flatL_snoc (l : List Ln) (x : Ln) : flatL (l ++ [x]) = flatL l ++ lnV x := by simp [flatL]
theorem flatL_at : ∀ {l : List Ln} {k i : Nat} {x : Ln}, l[k]? = some x → i < 2 → (flatL l)[k * 2 + i]? = (lnV x)[i]?
  | y :: l, 0, i, x, h, hi => by
    simp at h; subst h
    show (lnV y ++ flatL l)[0 * 2 + i]? = _
    rw [List.getElem?_append_left (by show _ < 2; omega), Nat.zero_mul, Nat.zero_add]
  | y :: l, k + 1, i, x, h, hi => by
    have h : l[k]? = some x := by simpa using h
    show (lnV y ++ flatL l)[(k + 1) * 2 + i]? = _
    rw [List.getElem?_append_right (by show 2 ≤ _; omega), show (k + 1) * 2 + i - (lnV y).length = k * 2 + i by show _ - 2 = _; omega]
    exact flatL_at h hi
/-- the first error of the lines' texts -/
def firstE : List Ln → Int
  | [] => 0
  | x :: r => if chkE (lnT x) = 0 then firstE r else chkE (lnT x)
theorem firstE_drop {l : List Ln} {k : Nat} {x : Ln} (h : l[k]? = some x) : firstE (l.drop k) = if chkE (lnT x) = 0 then firstE (l.drop (k + 1)) else chkE (lnT x) := by
  obtain ⟨hl, he⟩ := List.getElem?_eq_some_iff.1 h
  rw [List.drop_eq_getElem_cons hl, he]; rfl
/-- what is read of a text -/
def olR (s : ByteArray) : Option (List Ln) := outl s.data.toList (-1)
def olE (s : ByteArray) : Int := if 400000 < s.size then 4 else match olR s with
  | none => 8
  | some L => if firstE L = 0 then (if 2000 < L.length then 4 else 0) else firstE L
def olL (s : ByteArray) : List Ln := if 400000 < s.size then [] else match olR s with
  | none => []
  | some L => if firstE L = 0 then (if 2000 < L.length then [] else L) else []
theorem olE_none {s : ByteArray} (h : s.size ≤ 400000) (hr : olR s = none) : olE s = 8 ∧ olL s = [] := by
  have h' : ¬ 400000 < s.size := by omega
  constructor
  · unfold olE; rw [if_neg h', hr]
  · unfold olL; rw [if_neg h', hr]
theorem olE_some {s : ByteArray} {L : List Ln} (h : s.size ≤ 400000) (hr : olR s = some L) : olE s = (if firstE L = 0 then (if 2000 < L.length then 4 else 0) else firstE L) ∧ olL s = (if firstE L = 0 then (if 2000 < L.length then [] else L) else []) := by
  have h' : ¬ 400000 < s.size := by omega
  constructor
  · unfold olE; rw [if_neg h', hr]
  · unfold olL; rw [if_neg h', hr]
theorem olE_big {s : ByteArray} (h : 400000 < s.size) : olE s = 4 ∧ olL s = [] := by
  unfold olE olL
  rw [if_pos h, if_pos h]; exact ⟨rfl, rfl⟩
/-- the depth of the last line -/
def lastD (l : List Ln) : Int := match l.getLast? with
  | some x => x.1
  | none => -1
theorem lastD_nil : lastD [] = -1 := rfl
theorem lastD_snoc (l : List Ln) (x : Ln) : lastD (l ++ [x]) = x.1 := by unfold lastD; rw [List.getLast?_concat]

/-- one round of the program: what is left, and what is read so far -/
def Rd (s : ByteArray) (r : List UInt8) (acc : List Ln) : Prop := olR s = (outl r (lastD acc)).map (acc ++ ·)
theorem Rd.start (s : ByteArray) : Rd s s.data.toList [] := by unfold Rd olR; rw [lastD_nil]; simp
theorem Rd.done {s : ByteArray} {acc : List Ln} (h : Rd s [] acc) : olR s = some acc := by
  unfold Rd at h
  rw [h]; simp [outl, rd]
theorem Rd.noline {s : ByteArray} {r : List UInt8} {acc : List Ln} (h : Rd s r acc) (h0 : r ≠ []) (hn : nl r = -1) : olR s = none := by
  unfold Rd at h
  rw [h, outl_step _ h0, if_pos hn]; rfl
theorem Rd.bad {s : ByteArray} {r : List UInt8} {acc : List Ln} {i : Nat} (h : Rd s r acc) (h0 : r ≠ []) (hn : nl r = i) (hb : lineOk (r.take i) = none) : olR s = none := by
  unfold Rd at h
  rw [h, outl_step _ h0, if_neg (by omega), hn, show ((i : Nat) : Int).toNat = i from rfl, hb]; rfl
theorem Rd.deep {s : ByteArray} {r : List UInt8} {acc : List Ln} {i : Nat} {x : Ln} (h : Rd s r acc) (h0 : r ≠ []) (hn : nl r = i) (hb : lineOk (r.take i) = some x) (hd : lastD acc + 1 < x.1) : olR s = none := by
  unfold Rd at h
  rw [h, outl_step _ h0, if_neg (by omega), hn, show ((i : Nat) : Int).toNat = i from rfl, hb]
  dsimp only
  rw [if_pos hd]; rfl
theorem Rd.next {s : ByteArray} {r : List UInt8} {acc : List Ln} {i : Nat} {x : Ln} (h : Rd s r acc) (h0 : r ≠ []) (hn : nl r = i) (hb : lineOk (r.take i) = some x) (hd : ¬ lastD acc + 1 < x.1) : Rd s (r.drop (i + 1)) (acc ++ [x]) := by
  unfold Rd at h ⊢
  rw [h, outl_step _ h0, if_neg (by omega), hn, show ((i : Nat) : Int).toNat = i from rfl, hb]
  dsimp only
  rw [if_neg hd, lastD_snoc, Option.map_map]
  congr 1
  funext l
  simp
theorem lineOk_no {ln : List UInt8} (h : Lib.hasPrefix (Lib.trimLeftB ln 32) [45, 32] = false ∨ (ln.length - (Lib.trimLeftB ln 32).length) % 2 = 1) : lineOk ln = none := by
  unfold lineOk
  rw [if_neg]
  rintro ⟨a, b⟩
  rcases h with h | h
  · rw [h] at a; cases a
  · omega
theorem lineOk_yes {ln : List UInt8} (h : Lib.hasPrefix (Lib.trimLeftB ln 32) [45, 32] = true) (h2 : (ln.length - (Lib.trimLeftB ln 32).length) % 2 = 0) :
    lineOk ln = some ((ln.length - (Lib.trimLeftB ln 32).length) / 2, (Lib.trimLeftB ln 32).drop 2) := by
  unfold lineOk
  rw [if_pos ⟨h, h2⟩]
theorem trimLeftB_le (l : List UInt8) (c : UInt8) : (Lib.trimLeftB l c).length ≤ l.length := by unfold Lib.trimLeftB; exact (List.dropWhile_sublist _).length_le
theorem pre_len {w : List UInt8} (h : Lib.hasPrefix w [45, 32] = true) : 2 ≤ w.length := by
  unfold Lib.hasPrefix at h
  have := (List.isPrefixOf_iff_prefix.1 h).length_le
  simpa using this

/-- one round of the reference -/
def RdL (s : ByteArray) (xs : List (List UInt8)) (acc : List Ln) : Prop := olR s = (readL (lastD acc) xs).map (acc ++ ·)
theorem RdL.start {s : ByteArray} {m : List UInt8} (h : s.data.toList = m ++ [10]) : RdL s (Lib.splitK [10] 0 (Lib.count m [10]) m) [] := by
  unfold RdL olR
  rw [h, out_split _ m _ (Nat.le_refl _), lastD_nil]; simp
theorem RdL.done {s : ByteArray} {acc : List Ln} (h : RdL s [] acc) : olR s = some acc := by
  unfold RdL at h
  rw [h]; simp [readL]
theorem RdL.bad {s : ByteArray} {ln : List UInt8} {r : List (List UInt8)} {acc : List Ln} (h : RdL s (ln :: r) acc) (hb : lineOk ln = none) : olR s = none := by
  unfold RdL at h
  rw [h]; simp only [readL]; rw [hb]; rfl
theorem RdL.deep {s : ByteArray} {ln : List UInt8} {r : List (List UInt8)} {acc : List Ln} {x : Ln} (h : RdL s (ln :: r) acc) (hb : lineOk ln = some x) (hd : lastD acc + 1 < x.1) : olR s = none := by
  unfold RdL at h
  rw [h]; simp only [readL]; rw [hb]
  dsimp only
  rw [if_pos hd]; rfl
theorem RdL.next {s : ByteArray} {ln : List UInt8} {r : List (List UInt8)} {acc : List Ln} {x : Ln} (h : RdL s (ln :: r) acc) (hb : lineOk ln = some x) (hd : ¬ lastD acc + 1 < x.1) : RdL s r (acc ++ [x]) := by
  unfold RdL at h ⊢
  rw [h]; simp only [readL]; rw [hb]
  dsimp only
  rw [if_neg hd, lastD_snoc, Option.map_map]
  congr 1
  funext l
  simp
theorem olR_open {s : ByteArray} (h0 : s.data.toList ≠ []) (h1 : s.data.toList.getLast? ≠ some 10) : olR s = none := out_none _ _ _ (Nat.le_refl _) h0 h1
theorem olR_empty {s : ByteArray} (h0 : s.data.toList = []) : olR s = some [] := by unfold olR; rw [h0]; rfl
theorem suffix_last {l : List UInt8} : Lib.hasSuffix l [10] = true ↔ l.getLast? = some 10 := by
  unfold Lib.hasSuffix
  rw [List.isSuffixOf_iff_suffix]
  constructor
  · rintro ⟨m, rfl⟩; simp
  · intro h
    rcases List.eq_nil_or_concat l with rfl | ⟨m, b, rfl⟩
    · cases h
    · simp at h; subst h; exact ⟨m, by simp⟩
theorem last_cut {l : List UInt8} (h : l.getLast? = some 10) : l = l.take (l.length - 1) ++ [10] := by
  rcases List.eq_nil_or_concat l with rfl | ⟨m, b, rfl⟩
  · cases h
  · simp at h; subst h; simp
end Go.Proofs.YtbannbgokddfaaaDoor
