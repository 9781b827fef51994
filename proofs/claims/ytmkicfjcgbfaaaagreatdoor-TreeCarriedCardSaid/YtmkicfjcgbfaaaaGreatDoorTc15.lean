/-
  DERIVED. Plain law: the lines of an outline, as the program and as the reference reads them. Conditions: none.
  The walks of slices.Clip and slices.Equal at lines of an outline, of florref1.TextError. Conditions: a length in reach.
  A base that came in: its blocks, numbers, properties and values in memory. Conditions: none.
  By an AI agent.
-/
import Derived.Lib.Split
import Derived.Lib.IndexBytes
import Derived.Lib.IndexLaws
import Derived.Lib.TrimByte
import Derived.Lib.Strings
import Derived.Test.YtmkicfjcgbfaaaaGreatDoorTc07
import Derived.Test.YtmkicfjcgbfaaaaGreatDoorTc10
import Derived.Laws.StructEq
import Derived.Deep.LoopGhost
import Derived.Deep.QuietTactic
import Derived.BigQuiet
import Derived.WalkSpells
import Derived.Test.YtmkicfjcgbfaaaaGreatDoorTc12
namespace Go.Proofs.YtmkicfjcgbfaaaaGreatDoor
open Go.RowKit

/-- the first line feed -/
def nl (l : List UInt8) : Int := Lib.index l [10]
theorem nl_ib (l : List UInt8) : nl l = Lib.indexByte l 10 := Lib.index_one l 10
theorem nl_nil : nl [] = -1 := by rw [nl_ib]; rfl
theorem nl_cons (b : UInt8) (l : List UInt8) : nl (b :: l) = if b = 10 then 0 else if nl l = -1 then -1 else nl l + 1 := by
  rw [nl_ib, nl_ib, show Lib.indexByte (b :: l) 10 = if (b == 10) = true then 0 else if (Lib.indexByte l 10 == -1) = true then -1 else Lib.indexByte l 10 + 1 from rfl]
  by_cases h : b = 10
  · subst h; simp
  · rw [if_neg (by simpa using h), if_neg h]
    by_cases h1 : Lib.indexByte l 10 = -1
    · rw [if_pos (by simpa using h1), if_pos h1]
    · rw [if_neg (by simpa using h1), if_neg h1]
theorem nl_ge (l : List UInt8) : -1 ≤ nl l := by rw [nl_ib]; exact Lib.indexByte_ge l 10
theorem nl_lt : ∀ l : List UInt8, nl l < l.length
  | [] => by rw [nl_nil]; simp
  | b :: l => by
    have := nl_lt l
    rw [nl_cons, List.length_cons]
    split
    · omega
    · split
      · omega
      · omega
theorem nl_app : ∀ (m r : List UInt8), nl (m ++ r) = if nl m = -1 then (if nl r = -1 then -1 else nl r + m.length) else nl m
  | [], r => by
    rw [nl_nil, if_pos rfl]
    have := nl_ge r
    by_cases h : nl r = -1
    · rw [if_pos h]; exact h
    · rw [if_neg h]; simp
  | b :: m, r => by
    rw [List.cons_append, nl_cons, nl_cons, nl_app m r]
    by_cases hb : b = 10
    · rw [if_pos hb, if_pos hb, if_neg (by omega)]
    · rw [if_neg hb, if_neg hb]
      have h1 := nl_ge m
      have h2 := nl_ge r
      by_cases hm : nl m = -1
      · rw [if_pos hm, if_pos hm, if_pos rfl]
        by_cases hr : nl r = -1
        · rw [if_pos hr, if_pos hr, if_pos rfl]
        · rw [if_neg hr, if_neg hr, if_neg (by omega), List.length_cons]; omega
      · rw [if_neg hm, if_neg hm, if_neg (by omega)]
theorem nl_last (m : List UInt8) : nl (m ++ [10]) = if nl m = -1 then (m.length : Int) else nl m := by
  rw [nl_app, show nl [10] = 0 from by rw [nl_cons, if_pos rfl]]
  by_cases h : nl m = -1
  · rw [if_pos h, if_pos h, if_neg (by omega)]; omega
  · rw [if_neg h, if_neg h]

abbrev Ln := Nat × List UInt8
/-- a line of an outline -/
def lineOk (ln : List UInt8) : Option Ln :=
  if Lib.hasPrefix (Lib.trimLeftB ln 32) [45, 32] = true ∧ (ln.length - (Lib.trimLeftB ln 32).length) % 2 = 0 then some ((ln.length - (Lib.trimLeftB ln 32).length) / 2, (Lib.trimLeftB ln 32).drop 2) else none
/-- the lines, one by one, as the program reads them -/
def rd : Nat → Int → List UInt8 → Option (List Ln)
  | 0, _, _ => some []
  | f + 1, last, l =>
    if l = [] then some [] else if nl l = -1 then none
    else match lineOk (l.take (nl l).toNat) with
      | none => none
      | some x => if last + 1 < (x.1 : Int) then none else (rd f x.1 (l.drop ((nl l).toNat + 1))).map (x :: ·)
theorem rd_nil (f : Nat) (last : Int) : rd f last [] = some [] := by cases f <;> simp [rd]
theorem rd_enough : ∀ (f g : Nat) (last : Int) (l : List UInt8), l.length ≤ f → l.length ≤ g → rd f last l = rd g last l
  | 0, g, last, l, h, _ => by
    obtain rfl : l = [] := List.eq_nil_of_length_eq_zero (by omega)
    rw [rd_nil, rd_nil]
  | f + 1, 0, last, l, _, h => by
    obtain rfl : l = [] := List.eq_nil_of_length_eq_zero (by omega)
    rw [rd_nil, rd_nil]
  | f + 1, g + 1, last, l, h1, h2 => by
    simp only [rd]
    by_cases h0 : l = []
    · rw [if_pos h0, if_pos h0]
    · rw [if_neg h0, if_neg h0]
      have hl : 0 < l.length := List.length_pos_iff.2 h0
      by_cases hn : nl l = -1
      · rw [if_pos hn, if_pos hn]
      · rw [if_neg hn, if_neg hn]
        cases lineOk (l.take (nl l).toNat) with
        | none => rfl
        | some x =>
          dsimp only
          rw [rd_enough f g x.1 (l.drop ((nl l).toNat + 1)) (by simp; omega) (by simp; omega)]
/-- what the program reads of a text -/
def outl (l : List UInt8) (last : Int) : Option (List Ln) := rd l.length last l
theorem outl_step {l : List UInt8} (last : Int) (h0 : l ≠ []) : outl l last = if nl l = -1 then none
    else match lineOk (l.take (nl l).toNat) with
      | none => none
      | some x => if last + 1 < (x.1 : Int) then none else (outl (l.drop ((nl l).toNat + 1)) x.1).map (x :: ·) := by
  have hl : 0 < l.length := List.length_pos_iff.2 h0
  obtain ⟨n, hn⟩ : ∃ n, l.length = n + 1 := ⟨l.length - 1, by omega⟩
  unfold outl
  rw [hn]
  simp only [rd]
  rw [if_neg h0]
  by_cases h1 : nl l = -1
  · rw [if_pos h1, if_pos h1]
  · rw [if_neg h1, if_neg h1]
    cases lineOk (l.take (nl l).toNat) with
    | none => rfl
    | some x =>
      dsimp only
      rw [rd_enough n (l.drop ((nl l).toNat + 1)).length x.1 (l.drop ((nl l).toNat + 1)) (by simp; omega) (Nat.le_refl _)]
/-- the lines of a list, as the reference reads them -/
def readL : Int → List (List UInt8) → Option (List Ln)
  | _, [] => some []
  | last, ln :: r => match lineOk ln with
    | none => none
    | some x => if last + 1 < (x.1 : Int) then none else (readL x.1 r).map (x :: ·)
theorem out_split : ∀ (n : Nat) (m : List UInt8) (last : Int), m.length ≤ n → outl (m ++ [10]) last = readL last (Lib.splitK [10] 0 (Lib.count m [10]) m) := by
  intro n
  induction n with
  | zero =>
    intro m last h
    obtain rfl : m = [] := List.eq_nil_of_length_eq_zero (by omega)
    rw [outl_step last (by simp)]
    have hc : Lib.count [] [10] = 0 := Lib.count_miss (by exact nl_nil)
    rw [hc, nl_last, nl_nil, if_pos rfl]
    rw [if_neg (by simp)]
    show (match lineOk [] with | none => none | some x => if last + 1 < (x.1 : Int) then none else (outl [] x.1).map (x :: ·)) = readL last [[]]
    simp only [readL]
    cases lineOk [] with
    | none => rfl
    | some x => rfl
  | succ n ih =>
    intro m last h
    rw [outl_step last (by simp), nl_last]
    have hlt := nl_lt m
    have hge := nl_ge m
    by_cases hm : nl m = -1
    · rw [if_pos hm, if_neg (by omega)]
      rw [Lib.count_miss (show Lib.index m [10] = -1 from hm)]
      simp only [Lib.splitK, readL]
      rw [show ((m.length : Nat) : Int).toNat = m.length from rfl, List.take_append_of_le_length (Nat.le_refl _), List.take_length]
      have e : (m ++ [10]).drop (m.length + 1) = [] := List.drop_eq_nil_of_le (by simp)
      cases lineOk m with
      | none => rfl
      | some x =>
        dsimp only
        rw [e]
        rfl
    · obtain ⟨i, hi⟩ : ∃ i : Nat, nl m = i := ⟨(nl m).toNat, by omega⟩
      rw [if_neg hm, if_neg hm, hi]
      rw [Lib.count_hit (by simp) (show Lib.index m [10] = i from hi), Nat.add_comm 1]
      simp only [Lib.splitK]
      rw [show Lib.index m [10] = (i : Int) from hi, if_neg (by simp), show ((i : Nat) : Int).toNat = i from rfl]
      simp only [readL, List.length_singleton, Nat.add_zero]
      rw [List.take_append_of_le_length (by omega), List.drop_append_of_le_length (by omega)]
      cases lineOk (m.take i) with
      | none => rfl
      | some x =>
        dsimp only
        rw [ih (m.drop (i + 1)) x.1 (by simp; omega)]
/-- the line's text, as a string -/
def lnT (x : Ln) : ByteArray := ⟨x.2.toArray⟩
def oLnV (x : Ln) : List Value := [.int .i64 x.1, .string (lnT x)]
def flatL (l : List Ln) : List Value := l.flatMap oLnV
theorem flatL_snoc (l : List Ln) (x : Ln) : flatL (l ++ [x]) = flatL l ++ oLnV x := by simp [flatL]
theorem flatL_at : ∀ {l : List Ln} {k i : Nat} {x : Ln}, l[k]? = some x → i < 2 → (flatL l)[k * 2 + i]? = (oLnV x)[i]?
  | y :: l, 0, i, x, h, hi => by
    simp at h; subst h
    show (oLnV y ++ flatL l)[0 * 2 + i]? = _
    rw [List.getElem?_append_left (by show _ < 2; omega), Nat.zero_mul, Nat.zero_add]
  | y :: l, k + 1, i, x, h, hi => by
    have h : l[k]? = some x := by simpa using h
    show (oLnV y ++ flatL l)[(k + 1) * 2 + i]? = _
    rw [List.getElem?_append_right (by show 2 ≤ _; omega), show (k + 1) * 2 + i - (oLnV y).length = k * 2 + i by show _ - 2 = _; omega]
    exact flatL_at h hi
/-- the first error of the lines' texts -/
def firstE : List Ln → Int
  | [] => 0
  | x :: r => if chkE (lnT x) = 0 then firstE r else chkE (lnT x)
theorem firstE_drop {l : List Ln} {k : Nat} {x : Ln} (h : l[k]? = some x) : firstE (l.drop k) = if chkE (lnT x) = 0 then firstE (l.drop (k + 1)) else chkE (lnT x) := by
  obtain ⟨hl, he⟩ := List.getElem?_eq_some_iff.1 h
  rw [List.drop_eq_getElem_cons hl, he]; rfl
/-- what is read of a text -/
def olR (s : ByteArray) : Option (List Ln) := outl s.data.toList (-1)
def olE (s : ByteArray) : Int := if 400000 < s.size then 4 else match olR s with
  | none => 8
  | some L => if firstE L = 0 then (if 2000 < L.length then 4 else 0) else firstE L
def olL (s : ByteArray) : List Ln := if 400000 < s.size then [] else match olR s with
  | none => []
  | some L => if firstE L = 0 then (if 2000 < L.length then [] else L) else []
theorem olE_none {s : ByteArray} (h : s.size ≤ 400000) (hr : olR s = none) : olE s = 8 ∧ olL s = [] := by
  have h' : ¬ 400000 < s.size := by omega
  constructor
  · unfold olE; rw [if_neg h', hr]
  · unfold olL; rw [if_neg h', hr]
theorem olE_some {s : ByteArray} {L : List Ln} (h : s.size ≤ 400000) (hr : olR s = some L) : olE s = (if firstE L = 0 then (if 2000 < L.length then 4 else 0) else firstE L) ∧ olL s = (if firstE L = 0 then (if 2000 < L.length then [] else L) else []) := by
  have h' : ¬ 400000 < s.size := by omega
  constructor
  · unfold olE; rw [if_neg h', hr]
  · unfold olL; rw [if_neg h', hr]
theorem olE_big {s : ByteArray} (h : 400000 < s.size) : olE s = 4 ∧ olL s = [] := by
  unfold olE olL
  rw [if_pos h, if_pos h]; exact ⟨rfl, rfl⟩
/-- the depth of the last line -/
def oLastD (l : List Ln) : Int := match l.getLast? with
  | some x => x.1
  | none => -1
theorem oLastD_nil : oLastD [] = -1 := rfl
theorem oLastD_snoc (l : List Ln) (x : Ln) : oLastD (l ++ [x]) = x.1 := by unfold oLastD; rw [List.getLast?_concat]

/-- one round of the program: what is left, and what is read so far -/
def Rd (s : ByteArray) (r : List UInt8) (acc : List Ln) : Prop := olR s = (outl r (oLastD acc)).map (acc ++ ·)
theorem Rd.start (s : ByteArray) : Rd s s.data.toList [] := by unfold Rd olR; rw [oLastD_nil]; simp
theorem Rd.done {s : ByteArray} {acc : List Ln} (h : Rd s [] acc) : olR s = some acc := by
  unfold Rd at h
  rw [h]; simp [outl, rd]
theorem Rd.noline {s : ByteArray} {r : List UInt8} {acc : List Ln} (h : Rd s r acc) (h0 : r ≠ []) (hn : nl r = -1) : olR s = none := by
  unfold Rd at h
  rw [h, outl_step _ h0, if_pos hn]; rfl
theorem Rd.bad {s : ByteArray} {r : List UInt8} {acc : List Ln} {i : Nat} (h : Rd s r acc) (h0 : r ≠ []) (hn : nl r = i) (hb : lineOk (r.take i) = none) : olR s = none := by
  unfold Rd at h
  rw [h, outl_step _ h0, if_neg (by omega), hn, show ((i : Nat) : Int).toNat = i from rfl, hb]; rfl
theorem Rd.deep {s : ByteArray} {r : List UInt8} {acc : List Ln} {i : Nat} {x : Ln} (h : Rd s r acc) (h0 : r ≠ []) (hn : nl r = i) (hb : lineOk (r.take i) = some x) (hd : oLastD acc + 1 < x.1) : olR s = none := by
  unfold Rd at h
  rw [h, outl_step _ h0, if_neg (by omega), hn, show ((i : Nat) : Int).toNat = i from rfl, hb]
  dsimp only
  rw [if_pos hd]; rfl
theorem Rd.next {s : ByteArray} {r : List UInt8} {acc : List Ln} {i : Nat} {x : Ln} (h : Rd s r acc) (h0 : r ≠ []) (hn : nl r = i) (hb : lineOk (r.take i) = some x) (hd : ¬ oLastD acc + 1 < x.1) : Rd s (r.drop (i + 1)) (acc ++ [x]) := by
  unfold Rd at h ⊢
  rw [h, outl_step _ h0, if_neg (by omega), hn, show ((i : Nat) : Int).toNat = i from rfl, hb]
  dsimp only
  rw [if_neg hd, oLastD_snoc, Option.map_map]
  congr 1
  funext l
  simp
theorem lineOk_yes {ln : List UInt8} (h : Lib.hasPrefix (Lib.trimLeftB ln 32) [45, 32] = true) (h2 : (ln.length - (Lib.trimLeftB ln 32).length) % 2 = 0) :
    lineOk ln = some ((ln.length - (Lib.trimLeftB ln 32).length) / 2, (Lib.trimLeftB ln 32).drop 2) := by
  unfold lineOk
  rw [if_pos ⟨h, h2⟩]
theorem trimLeftB_le (l : List UInt8) (c : UInt8) : (Lib.trimLeftB l c).length ≤ l.length := by unfold Lib.trimLeftB; exact (List.dropWhile_sublist _).length_le
theorem pre_len {w : List UInt8} (h : Lib.hasPrefix w [45, 32] = true) : 2 ≤ w.length := by
  unfold Lib.hasPrefix at h
  have := (List.isPrefixOf_iff_prefix.1 h).length_le
  simpa using this

/-- one round of the reference -/
def RdL (s : ByteArray) (xs : List (List UInt8)) (acc : List Ln) : Prop := olR s = (readL (oLastD acc) xs).map (acc ++ ·)
theorem RdL.start {s : ByteArray} {m : List UInt8} (h : s.data.toList = m ++ [10]) : RdL s (Lib.splitK [10] 0 (Lib.count m [10]) m) [] := by
  unfold RdL olR
  rw [h, out_split _ m _ (Nat.le_refl _), oLastD_nil]; simp
theorem RdL.done {s : ByteArray} {acc : List Ln} (h : RdL s [] acc) : olR s = some acc := by
  unfold RdL at h
  rw [h]; simp [readL]
theorem RdL.bad {s : ByteArray} {ln : List UInt8} {r : List (List UInt8)} {acc : List Ln} (h : RdL s (ln :: r) acc) (hb : lineOk ln = none) : olR s = none := by
  unfold RdL at h
  rw [h]; simp only [readL]; rw [hb]; rfl
theorem RdL.deep {s : ByteArray} {ln : List UInt8} {r : List (List UInt8)} {acc : List Ln} {x : Ln} (h : RdL s (ln :: r) acc) (hb : lineOk ln = some x) (hd : oLastD acc + 1 < x.1) : olR s = none := by
  unfold RdL at h
  rw [h]; simp only [readL]; rw [hb]
  dsimp only
  rw [if_pos hd]; rfl
theorem RdL.next {s : ByteArray} {ln : List UInt8} {r : List (List UInt8)} {acc : List Ln} {x : Ln} (h : RdL s (ln :: r) acc) (hb : lineOk ln = some x) (hd : ¬ oLastD acc + 1 < x.1) : RdL s r (acc ++ [x]) := by
  unfold RdL at h ⊢
  rw [h]; simp only [readL]; rw [hb]
  dsimp only
  rw [if_neg hd, oLastD_snoc, Option.map_map]
  congr 1
  funext l
  simp
end Go.Proofs.YtmkicfjcgbfaaaaGreatDoor
namespace Go.Proofs.YtmkicfjcgbfaaaaGreatDoor
open Go.RowKit

def lnZ : Value := .agg #[.int .i64 0, .string ⟨#[]⟩]
theorem ln_info : (Tryz.prog.info? 59).map (fun i => (i.zero, i.size, i.bytes)) = some (some lnZ, 2, 24) := by kernel_rfl
theorem ln_one (x : Ln) : ∀ u ∈ oLnV x, u.oneCell' = true := by
  intro u hu
  unfold oLnV at hu
  simp only [List.mem_cons, List.not_mem_nil, or_false] at hu
  rcases hu with rfl | rfl <;> rfl
theorem new_cells (w : World) (g : Nat) (cs : List Value) (t : TypeId) (hg : g = w.heap.size) : ∀ j u, cs[j]? = some u → (w.alloc (.cells cs.toArray t)).cell? ((⟨g, 0, none⟩ : Addr).add j) = some u := by
  subst hg
  intro j u hu
  rw [Addr.add_lit, Nat.zero_add, (Blk.new w t cs.toArray).cell j]
  simpa using hu

theorem ln_at {w w' : World} {B b off n : Nat} {L : List Ln} {k : Nat} {x : Ln} (hc : ∀ j u, (flatL L)[j]? = some u → w.cell? ⟨b, off + j, none⟩ = some u) (hx : L[k]? = some x) (hn : n = off + k * 2) (hb : b < B) (hbel : Below B w w') :
    w'.cell? ⟨b, n, none⟩ = some (.int .i64 x.1) ∧ w'.cell? ⟨b, n + 1, none⟩ = some (.string (lnT x)) := by
  subst hn
  have key : ∀ i u, i < 2 → (oLnV x)[i]? = some u → w'.cell? ⟨b, off + k * 2 + i, none⟩ = some u := by
    intro i u hi hu
    rw [hbel.cell (p := ⟨b, off + k * 2 + i, none⟩) hb, Nat.add_assoc]
    exact hc (k * 2 + i) u (by rw [flatL_at hx hi]; exact hu)
  exact ⟨key 0 _ (by omega) rfl, key 1 _ (by omega) rfl⟩

set_option maxHeartbeats 1000000 in
theorem clip_any (A : Option Addr) (n c : Nat) (w : World) (hnc : n ≤ c) (hn : n ≤ 4294967280) :
    Calls Tryz.prog 22 #[.slice A n c] w fun e w' => e = .returned (.slice A n n) ∧ w' = w := by
  have h0 : (0 : Int) ≤ (n : Int) := by omega
  have h1 : (n : Int) ≤ (c : Int) := by omega
  go_enter Tryz.func22, Tryz.ntmps22
  go_wp2
  go_ret
  exact ⟨rfl, rfl⟩

theorem toL_nil {s : ByteArray} : s.data.toList = [] ↔ s.toList.isEmpty = true := by rw [Lib.toList_data]; simp
theorem toL_cons {s : ByteArray} : s.data.toList ≠ [] ↔ s.toList.isEmpty = false := by rw [Lib.toList_data]; simp
end Go.Proofs.YtmkicfjcgbfaaaaGreatDoor
namespace Go.Proofs.YtmkicfjcgbfaaaaGreatDoor
open Go.ChangeShapes Go.WideShapes Go.RowKit

theorem cellsB : Tryz.prog.cellsOf 52 = 5 := by kernel_rfl
theorem cells_of_ints : Tryz.prog.cellsOf 43 = 1 := by kernel_rfl

section
variable {H : Type} {enc : TypeId × Value → H} {W : World}
theorem ints_flat : ∀ M : List Int, M.map (Value.int .i64) = M.flatMap fun x => [Value.int .i64 x]
  | [] => rfl
  | x :: M => by rw [List.map_cons, List.flatMap_cons, ints_flat M]; rfl
set_option maxRecDepth 100000 in
theorem ints_open {fuel : Nat} {u : Value} {y : DataW H × List MemPlace} (h : DataW.trod enc Tryz.prog W 0 (fun _ => true) true fuel 43 [u] = some y) (hp : ∀ x ∈ y.2, x.block < W.heap.size) (hfit : Fits Tryz.prog 43 y.1) : ∃ ks, RIn W W.heap.size u ks := by
  obtain ⟨A, len, cap, M, rfl, h1, h2, h3, h4⟩ := open_list (en := fun x : Int => [Value.int .i64 x]) (Q := fun _ x => I64 x) Tryz.underlying43 cells_of_int (by omega) (show _ = 8 by kernel_rfl) (fun _ => rfl)
    (fun m cs z hm htr hz hft => by
      obtain ⟨k, e0, rfl, hk⟩ := DataW.trod_int Tryz.underlying3 htr
      exact ⟨k, e0.symm, i64_bounds hk⟩) h hp hfit
  exact ⟨M, A, len, cap, rfl, h1, h2, by rw [show M.map (Value.int .i64) = M.flatMap fun x => [Value.int .i64 x] from ints_flat M]; exact h3, fun x hx => by
    obtain ⟨m, _, hq⟩ := h4 x hx
    exact hq⟩

set_option maxRecDepth 100000 in
theorem block_open (fuel : Nat) (cs : List Value) (x : DataW H × List MemPlace)
    (h : DataW.trod enc Tryz.prog W 0 (fun _ => true) true fuel 52 cs = some x) (hp : ∀ y ∈ x.2, y.block < W.heap.size) (hfit : Fits Tryz.prog 52 x.1) : ∃ b : Bl × Value × Value, blV b = cs ∧ RIn W W.heap.size b.2.1 b.1.kids ∧ RPr W W.heap.size b.2.2 b.1.props := by
  obtain ⟨xs, n, rfl, rfl, hlen, hxl, hf⟩ := DataW.trod_struct Tryz.underlying52 h
  rw [cellsB] at hlen
  match cs, hlen with
  | [u0, u1, u2, u3, u4], _ =>
    match xs, hxl with
    | [y0, y1, y2, y3, y4], _ =>
      have g0 : DataW.trod enc Tryz.prog W 0 (fun _ => true) true n 3 (([u0, u1, u2, u3, u4].drop 0).take (Tryz.prog.cellsOf 3)) = some y0 := hf 0 _ rfl
      have g1 : DataW.trod enc Tryz.prog W 0 (fun _ => true) true n 3 (([u0, u1, u2, u3, u4].drop 1).take (Tryz.prog.cellsOf 3)) = some y1 := hf 1 _ rfl
      have g2 : DataW.trod enc Tryz.prog W 0 (fun _ => true) true n 43 (([u0, u1, u2, u3, u4].drop 2).take (Tryz.prog.cellsOf 43)) = some y2 := hf 2 _ rfl
      have g3 : DataW.trod enc Tryz.prog W 0 (fun _ => true) true n 9 (([u0, u1, u2, u3, u4].drop 3).take (Tryz.prog.cellsOf 9)) = some y3 := hf 3 _ rfl
      have g4 : DataW.trod enc Tryz.prog W 0 (fun _ => true) true n 50 (([u0, u1, u2, u3, u4].drop 4).take (Tryz.prog.cellsOf 50)) = some y4 := hf 4 _ rfl
      rw [cells_of_int] at g0 g1
      rw [cells_of_ints] at g2
      rw [cells_of_str] at g3
      rw [cells_of_props] at g4
      change DataW.trod enc Tryz.prog W 0 (fun _ => true) true n 3 [u0] = some y0 at g0
      change DataW.trod enc Tryz.prog W 0 (fun _ => true) true n 3 [u1] = some y1 at g1
      change DataW.trod enc Tryz.prog W 0 (fun _ => true) true n 43 [u2] = some y2 at g2
      change DataW.trod enc Tryz.prog W 0 (fun _ => true) true n 9 [u3] = some y3 at g3
      change DataW.trod enc Tryz.prog W 0 (fun _ => true) true n 50 [u4] = some y4 at g4
      obtain ⟨k, e0, rfl, _⟩ := DataW.trod_int Tryz.underlying3 g0
      obtain ⟨i, e1, rfl, _⟩ := DataW.trod_int Tryz.underlying3 g1
      obtain ⟨s, e3, rfl, _⟩ := DataW.trod_string Tryz.underlying9 g3
      simp at e0 e1 e3
      subst e0 e1 e3
      obtain ⟨ks, hk⟩ := ints_open g2 (fun y hy => hp y (by simp [hy])) (hfit.part Tryz.underlying52 (j := 2) rfl rfl)
      obtain ⟨ps, hq⟩ := props_open g4 (fun y hy => hp y (by simp [hy])) (hfit.part Tryz.underlying52 (j := 4) rfl rfl)
      exact ⟨(⟨k, i, ks, s, ps⟩, u2, u4), rfl, hk, hq⟩

set_option maxRecDepth 100000 in
/-- a base that came in -/
theorem base_open {u : Value} {d : DataW H} {p : List MemPlace} {r : Reach} {b0 : Nat} (hv : Value.okWide Tryz.prog W r b0 22 u) (h : DataW.Trod enc Tryz.prog W 0 (fun _ => true) true 22 u d p) (hp : ∀ x ∈ p, x.block < W.heap.size) (hfit : Fits Tryz.prog 22 d) :
    ∃ A n c, ∃ l, u = .slice A n c ∧ RB W W.heap.size u l := by
  obtain ⟨a0, n0, c0, rfl⟩ := okWide_slice Tryz.underlying22 hv
  obtain ⟨fuel, hf⟩ := h
  obtain ⟨A, len, cap, M, e, h1, h2, h3, h4⟩ := open_list (en := blV) (Q := fun _ x => RIn W W.heap.size x.2.1 x.1.kids ∧ RPr W W.heap.size x.2.2 x.1.props) Tryz.underlying22 cellsB (by omega) (show _ = 80 by kernel_rfl) blV_len
    (fun m cs z hm htr hz hft => block_open m cs z htr hz hft) hf hp hfit
  exact ⟨a0, n0, c0, M.map Prod.fst, rfl, A, len, cap, M, rfl, e, h1, h2, h3, fun x hx => by
    obtain ⟨m, _, hq⟩ := h4 x hx
    exact hq⟩
end
end Go.Proofs.YtmkicfjcgbfaaaaGreatDoor
