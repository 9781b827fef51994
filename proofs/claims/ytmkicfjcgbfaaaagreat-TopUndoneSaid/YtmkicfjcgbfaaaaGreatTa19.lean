/-
  DERIVED. The walk of prop.Put where there is no error. Conditions: sizes.
  Plain law: how many bytes two strings have in common at the front, and behind that at the end. Conditions: none.
  Plain law: a list of edits, one after the other. Conditions: none.
  The walks of text.Apply and text.Inverse. Conditions: the lengths are within the form's reach.
  By an AI agent.
-/
import Derived.Test.YtmkicfjcgbfaaaaGreatTa18
import Derived.Test.YtmkicfjcgbfaaaaGreatTa01
import Derived.Test.YtmkicfjcgbfaaaaGreatTa08
import Derived.Test.YtmkicfjcgbfaaaaGreatTa16
import Derived.RegionTactic
namespace Go.Proofs.YtmkicfjcgbfaaaaGreat
open Go.RowKit

/-- what Put leaves -/
def PutR (l : List Pr) (w : World) (e : Ending) (w' : World) : Prop := (∃ A n c, e = .returned (.tuple #[.slice A n c, .int .i64 0]) ∧ RPrX w' (fun b => w.heap.size ≤ b ∧ b < w'.heap.size) (.slice A n c) l) ∧ Below w.heap.size w w'

set_option maxRecDepth 100000 in
set_option maxHeartbeats 4000000 in
/-- prop.Put without an error -/
theorem put_ok (A : Option Addr) (n c : Nat) (l : List Pr) (s : ByteArray) (v : Vl) (Av : Option Addr) (nv cv : Nat) (w : World) (B : Nat) (hB : B ≤ w.heap.size) (h : RPr w B (.slice A n c) l) (hcp : cpErr l = 0) (hv : RV w B (.slice Av nv cv) v.items) (hs : nmErr s = 0) (hve : vErr v = 0) (hl : (setPr l s v).length ≤ 20) :
    Calls Tryz.prog 133 #[.slice A n c, .string s, AV (v, .slice Av nv cv)] w (PutR (setPr l s v) w) := by
  obtain ⟨wb, hwb⟩ : ∃ wb, wb = w.alloc (.cells #[.int .i64 v.kind, .int .i64 v.int_, .int .i64 v.to_, .string v.text, .slice Av nv cv] 29) := ⟨_, rfl⟩
  have HWB0 : Hid (Below w.heap.size w wb) := by rw [hwb]; exact (Below.refl _ _).alloc (Nat.le_refl _) _
  have P0 : Hid (Blk wb w.heap.size 29 #[.int .i64 v.kind, .int .i64 v.int_, .int .i64 v.to_, .string v.text, .slice Av nv cv]) := by rw [hwb]; exact Blk.new _ _ _
  have HP := Lib.hid fun W (hW : Below w.heap.size w W) => checkProps_any (.slice A n c) l W B (Nat.le_trans hB hW.size) (h.below (hW.mono hB))
  have HNM := Lib.hid fun W => checkName_any s W
  have HWI := Lib.hid fun W (hW : Below w.heap.size w W) => with_any A n c l s v Av nv cv W B (Nat.le_trans hB hW.size) (h.below (hW.mono hB)) hcp (hv.below (hW.mono hB))
  obtain ⟨dv, hdv⟩ := hv
  have HCV := Lib.hid fun W (hW : Below w.heap.size w W) => checkValue_any dv (v, .slice Av nv cv) W B (Nat.le_trans hB hW.size) (hdv.below (hW.mono hB))
  rw [hcp] at HP
  rw [hs] at HNM
  dsimp only at HCV
  rw [hve] at HCV
  have HWB := Lib.hid hwb
  have HL := Lib.hid hl
  dsimp only [AV] at HCV HWI ⊢
  clear h hcp hdv hwb hs hve hl
  go_enter Tryz.func133, Tryz.ntmps133
  go_upto_region 1 with fail
  rw [← HWB.out]
  go_wp2_with fail
  refine (HP.out wb HWB0.out).mono ?_
  rintro e w1 ⟨rfl, hb1⟩
  have HB1 : Hid (Below w.heap.size w w1) := HWB0.out.trans (hb1.mono HWB0.out.size)
  have P1 := Lib.hid (P0.out.below hb1 P0.out.lt)
  clear hb1
  go_wp2_with fail
  refine (HNM.out w1).mono ?_
  rintro e w2 ⟨rfl, hw2⟩
  rw [hw2]
  clear hw2
  have e0 := P1.out.cell 0
  have e1 := P1.out.cell 1
  have e2 := P1.out.cell 2
  have e3 := P1.out.cell 3
  have e4 := P1.out.cell 4
  go_wp2_with fail
  refine (HCV.out w1 HB1.out).mono ?_
  rintro e w3 ⟨rfl, hb3⟩
  have HB3 : Hid (Below w.heap.size w w3) := HB1.out.trans (hb3.mono HB1.out.size)
  have P3 := Lib.hid (P1.out.below hb3 P1.out.lt)
  clear hb3 e0 e1 e2 e3 e4
  have e0 := P3.out.cell 0
  have e1 := P3.out.cell 1
  have e2 := P3.out.cell 2
  have e3 := P3.out.cell 3
  have e4 := P3.out.cell 4
  go_wp2_with fail
  refine (HWI.out w3 HB3.out).mono ?_
  rintro e w4 ⟨⟨A4, n4, c4, rfl, hrx⟩, hb4⟩
  have HB4 : Hid (Below w.heap.size w w4) := HB3.out.trans (hb4.mono HB3.out.size)
  have hz3 := HB3.out.size
  have HRX : Hid (RPrX w4 (fun b => w.heap.size ≤ b ∧ b < w4.heap.size) (.slice A4 n4 c4) (setPr l s v)) := hrx.weak fun b hb => ⟨by omega, hb.2⟩
  have hn4 : n4 ≤ 20 := by
    have h1 := (hrx.reads (B := w4.heap.size) fun b hb => hb.2).len.1
    have := HL.out
    omega
  clear hrx hb4 e0 e1 e2 e3 e4
  go_wp2_with fail
  go_ret2
  exact ⟨⟨A4, n4, c4, rfl, HRX.out⟩, HB4.out⟩
end Go.Proofs.YtmkicfjcgbfaaaaGreat
namespace Go.Proofs.YtmkicfjcgbfaaaaGreat
open Go.RowKit

/-- the bytes are the same there -/
def eqAt (a b : ByteArray) (i j : Nat) : Bool := if h : i < a.size ∧ j < b.size then (a[i]'h.1).toNat == (b[j]'h.2).toNat else false
theorem eqAt_yes {a b : ByteArray} {i j : Nat} (hi : i < a.size) (hj : j < b.size) (h : (((a[i]).toNat : Int) == ((b[j]).toNat : Int)) = true) : eqAt a b i j = true := by
  unfold eqAt; rw [dif_pos ⟨hi, hj⟩]; simp at h ⊢; omega
theorem eqAt_no {a b : ByteArray} {i j : Nat} (hi : i < a.size) (hj : j < b.size) (h : (((a[i]).toNat : Int) == ((b[j]).toNat : Int)) = false) : eqAt a b i j = false := by
  unfold eqAt; rw [dif_pos ⟨hi, hj⟩]; simp at h ⊢; omega

def cpN (a b : ByteArray) : Nat → Nat → Nat
  | 0, k => k
  | n + 1, k => if eqAt a b k k = true then cpN a b n (k + 1) else k
def cp (a b : ByteArray) : Nat := cpN a b a.size 0

theorem cpN_yes {a b : ByteArray} {k : Nat} (hk : k < a.size) (h : eqAt a b k k = true) : cpN a b (a.size - (k + 1)) (k + 1) = cpN a b (a.size - k) k := by
  obtain ⟨n, hn⟩ : ∃ n, a.size - k = n + 1 := ⟨a.size - k - 1, by omega⟩
  rw [hn, show a.size - (k + 1) = n by omega]
  simp [cpN, h]
theorem cpN_no {a b : ByteArray} {n k : Nat} (h : eqAt a b k k = false) : cpN a b n k = k := by
  cases n <;> simp [cpN, h]
theorem eqAt_out {a b : ByteArray} {i j : Nat} (h : a.size ≤ i ∨ b.size ≤ j) : eqAt a b i j = false := by
  unfold eqAt; rw [dif_neg (by omega)]

theorem cpN_le (a b : ByteArray) : ∀ n k, k ≤ a.size → k ≤ b.size → cpN a b n k ≤ a.size ∧ cpN a b n k ≤ b.size
  | 0, k, h, h' => ⟨h, h'⟩
  | n + 1, k, h, h' => by
    unfold cpN
    split
    · rename_i he
      have : k < a.size ∧ k < b.size := by
        unfold eqAt at he
        split at he
        · assumption
        · cases he
      exact cpN_le a b n (k + 1) (by omega) (by omega)
    · exact ⟨h, h'⟩
theorem cp_le (a b : ByteArray) : cp a b ≤ a.size ∧ cp a b ≤ b.size := cpN_le a b _ _ (Nat.zero_le _) (Nat.zero_le _)

def sfN (a b : ByteArray) (k : Nat) : Nat → Nat → Nat
  | 0, n => n
  | m + 1, n => if n < a.size - k ∧ n < b.size - k ∧ eqAt a b (a.size - 1 - n) (b.size - 1 - n) = true then sfN a b k m (n + 1) else n
def sf (a b : ByteArray) : Nat := sfN a b (cp a b) a.size 0

theorem sfN_yes {a b : ByteArray} {k n : Nat} (hk : n < a.size) (h : n < a.size - k ∧ n < b.size - k ∧ eqAt a b (a.size - 1 - n) (b.size - 1 - n) = true) : sfN a b k (a.size - (n + 1)) (n + 1) = sfN a b k (a.size - n) n := by
  obtain ⟨m, hm⟩ : ∃ m, a.size - n = m + 1 := ⟨a.size - n - 1, by omega⟩
  rw [hm, show a.size - (n + 1) = m by omega]
  simp only [sfN, if_pos h]
theorem sfN_no {a b : ByteArray} {k m n : Nat} (h : ¬ (n < a.size - k ∧ n < b.size - k ∧ eqAt a b (a.size - 1 - n) (b.size - 1 - n) = true)) : sfN a b k m n = n := by
  cases m
  · rfl
  · simp only [sfN, if_neg h]
theorem sfN_le (a b : ByteArray) (k : Nat) : ∀ m n, n ≤ a.size - k → n ≤ b.size - k → sfN a b k m n ≤ a.size - k ∧ sfN a b k m n ≤ b.size - k
  | 0, n, h, h' => ⟨h, h'⟩
  | m + 1, n, h, h' => by
    unfold sfN
    split
    · rename_i he
      exact sfN_le a b k m (n + 1) (by omega) (by omega)
    · exact ⟨h, h'⟩
theorem sf_le (a b : ByteArray) : sf a b ≤ a.size - cp a b ∧ sf a b ≤ b.size - cp a b := sfN_le a b _ _ _ (Nat.zero_le _) (Nat.zero_le _)

/-- the shortest edit that makes b of a, as a value -/
def diffV (a b : ByteArray) : Value := .agg #[.int .i64 (cp a b : Nat), .int .i64 ((a.size - sf a b : Nat) : Int), .string (b.extract (cp a b) (b.size - sf a b))]

end Go.Proofs.YtmkicfjcgbfaaaaGreat
namespace Go.Proofs.YtmkicfjcgbfaaaaGreat
open Go.RowKit

structure Ed where
  from_ : Int
  to_ : Int
  with_ : ByteArray

def edCell (e : Ed) : List Value := [.int .i64 e.from_, .int .i64 e.to_, .string e.with_]
def edCells (es : List Ed) : List Value := es.flatMap edCell
def errOf (s : ByteArray) (e : Ed) : Int := edErr s e.with_ e.from_ e.to_
def madeOf (s : ByteArray) (e : Ed) : ByteArray := edS s e.with_ e.from_ e.to_

theorem edCells_len (es : List Ed) : (edCells es).length = es.length * 3 := by
  induction es with
  | nil => rfl
  | cons e es ih => simp only [edCells, List.flatMap_cons, List.length_append, List.length_cons] at *; rw [ih]; simp [edCell]; omega
theorem edCells_at {es : List Ed} {k : Nat} {e : Ed} (h : es[k]? = some e) : (edCells es)[k * 3]? = some (.int .i64 e.from_) ∧ (edCells es)[k * 3 + 1]? = some (.int .i64 e.to_) ∧ (edCells es)[k * 3 + 2]? = some (.string e.with_) := by
  induction es generalizing k with
  | nil => simp at h
  | cons a es ih =>
    cases k with
    | zero =>
      simp at h
      subst h
      simp [edCells, edCell]
    | succ k =>
      have := ih (k := k) (by simpa using h)
      simp only [edCells, List.flatMap_cons] at *
      have e0 : ∀ j, (edCell a ++ List.flatMap edCell es)[(k + 1) * 3 + j]? = (List.flatMap edCell es)[k * 3 + j]? := fun j => by
        rw [List.getElem?_append_right (by simp [edCell]; omega)]
        congr 1
        simp [edCell]; omega
      exact ⟨(e0 0).trans this.1, (e0 1).trans this.2.1, (e0 2).trans this.2.2⟩

/-- the first error, and what is made if there is none -/
def compE : ByteArray → List Ed → Int
  | _, [] => 0
  | s, e :: r => if errOf s e = 0 then compE (madeOf s e) r else errOf s e
def compS : ByteArray → List Ed → ByteArray
  | s, [] => s
  | s, e :: r => if errOf s e = 0 then compS (madeOf s e) r else s
theorem drop_at {α : Type} {l : List α} {k : Nat} {x : α} (h : l[k]? = some x) : l.drop k = x :: l.drop (k + 1) := by
  have hk : k < l.length := by
    rcases Nat.lt_or_ge k l.length with h' | h'
    · exact h'
    · rw [List.getElem?_eq_none h'] at h; cases h
  rw [List.drop_eq_getElem_cons hk]
  rw [List.getElem?_eq_getElem hk] at h
  injection h with h
  rw [h]
theorem comp_good {s : ByteArray} {es : List Ed} {k : Nat} {e : Ed} (h : es[k]? = some e) (h0 : errOf s e = 0) : compE s (es.drop k) = compE (madeOf s e) (es.drop (k + 1)) ∧ compS s (es.drop k) = compS (madeOf s e) (es.drop (k + 1)) := by
  rw [drop_at h]; simp [compE, compS, h0]
theorem comp_bad {s : ByteArray} {es : List Ed} {k : Nat} {e : Ed} (h : es[k]? = some e) (h0 : errOf s e ≠ 0) : compE s (es.drop k) = errOf s e := by
  rw [drop_at h]; simp [compE, h0]
theorem made_size {s : ByteArray} {e : Ed} (h : errOf s e = 0) : (madeOf s e).size ≤ 2000 := by
  have g := edErr_ok h
  have := edS_size g.1 g.2.1 g.2.2.1 (x := e.with_)
  unfold madeOf
  omega
def compW (s : ByteArray) (es : List Ed) : Int := if 100 < es.length then 4 else compE s es
def zeroEd : Value := .agg #[.int .i64 0, .int .i64 0, .string ⟨#[]⟩]

end Go.Proofs.YtmkicfjcgbfaaaaGreat
namespace Go.Proofs.YtmkicfjcgbfaaaaGreat
open Go.RowKit

set_option maxHeartbeats 1000000 in
theorem apply_ok (s x : ByteArray) (f t : Int) (w : World) (hs : s.size ≤ 140737488351232) (hx : x.size ≤ 140737488351232) (h : edErr s x f t = 0) :
    Calls Tryz.prog 132 #[.string s, .agg #[.int .i64 f, .int .i64 t, .string x]] w fun e w' => e = .returned (.tuple #[.string (edS s x f t), .int .i64 0]) ∧ Below w.heap.size w w' := by
  obtain ⟨h0, h1, h2, h3, h4⟩ := edErr_ok h
  have H := Lib.hid h
  clear h h3
  go_enter Tryz.func132, Tryz.ntmps132
  go_wp2_with fail
  refine (checkEdit_any s x f t _ hs hx).mono ?_
  rintro e w1 ⟨rfl, hb1⟩
  rw [H.out]
  have c0 := hb1.cell (p := ⟨w.heap.size, 0, none⟩) (by simp)
  have c1 := hb1.cell (p := ⟨w.heap.size, 1, none⟩) (by simp)
  have c2 := hb1.cell (p := ⟨w.heap.size, 2, none⟩) (by simp)
  go_wp2_with fail
  refine (edited_any s x f t _ hs hx h0 h1 h2).mono ?_
  rintro e w2 ⟨rfl, hb2⟩
  go_wp2
  go_ret2
  exact ⟨rfl, (((Below.refl _ _).alloc (Nat.le_refl _) _).trans (hb1.mono (by simp))).trans (hb2.mono (by have := hb1.size; simp at this; omega))⟩

set_option maxHeartbeats 1000000 in
theorem apply_bad (s x : ByteArray) (f t : Int) (w : World) (hs : s.size ≤ 140737488351232) (hx : x.size ≤ 140737488351232) (h : edErr s x f t ≠ 0) :
    Calls Tryz.prog 132 #[.string s, .agg #[.int .i64 f, .int .i64 t, .string x]] w fun e w' => e = .returned (.tuple #[.string ⟨#[]⟩, .int .i64 (edErr s x f t)]) ∧ Below w.heap.size w w' := by
  have hn : ((edErr s x f t) == 0) = false := by simpa using h
  have hn' : ((edErr s x f t) != 0) = true := by simpa using h
  clear h
  go_enter Tryz.func132, Tryz.ntmps132
  go_wp2_with fail
  refine (checkEdit_any s x f t _ hs hx).mono ?_
  rintro e w1 ⟨rfl, hb1⟩
  go_wp2
  go_ret2
  exact ⟨rfl, (((Below.refl _ _).alloc (Nat.le_refl _) _).trans (hb1.mono (by simp)))⟩

set_option maxHeartbeats 1000000 in
theorem inverse_bad (s x : ByteArray) (f t : Int) (w : World) (hs : s.size ≤ 140737488351232) (hx : x.size ≤ 140737488351232) (h : edErr s x f t ≠ 0) :
    Calls Tryz.prog 144 #[.string s, .agg #[.int .i64 f, .int .i64 t, .string x]] w fun e w' => e = .returned (.tuple #[zeroEd, .int .i64 (edErr s x f t)]) ∧ Below w.heap.size w w' := by
  have hn : ((edErr s x f t) == 0) = false := by simpa using h
  have hn' : ((edErr s x f t) != 0) = true := by simpa using h
  clear h
  go_enter Tryz.func144, Tryz.ntmps144
  go_wp2_with fail
  refine (checkEdit_any s x f t _ hs hx).mono ?_
  rintro e w1 ⟨rfl, hb1⟩
  have d0 := hb1.cell (p := ⟨w.heap.size + 1, 0, none⟩) (by simp <;> omega)
  have d1 := hb1.cell (p := ⟨w.heap.size + 1, 1, none⟩) (by simp <;> omega)
  have d2 := hb1.cell (p := ⟨w.heap.size + 1, 2, none⟩) (by simp <;> omega)
  have f0 := hb1.frozen (p := ⟨w.heap.size + 1, 0, none⟩) (by simp <;> omega)
  have f1 := hb1.frozen (p := ⟨w.heap.size + 1, 1, none⟩) (by simp <;> omega)
  have f2 := hb1.frozen (p := ⟨w.heap.size + 1, 2, none⟩) (by simp <;> omega)
  go_wp2
  refine bodyPost_ret (v := .tuple #[.agg #[.int .i64 0, .int .i64 0, .string ⟨#[]⟩], .int .i64 (edErr s x f t)]) (by simp [results, Tryz.results144, go_sem, d0, d1, d2]) rfl ⟨rfl, ?_⟩
  exact (((((((Below.refl _ _).alloc (Nat.le_refl _) _).alloc (by simp) _).trans (hb1.mono (B' := w.heap.size) (by simp <;> omega))).setCell (by simp) _).setCell (by simp) _).setCell (by simp) _)

set_option maxHeartbeats 1000000 in
theorem inverse_ok (s x : ByteArray) (f t : Int) (w : World) (hs : s.size ≤ 140737488351232) (hx : x.size ≤ 140737488351232) (h : edErr s x f t = 0) :
    Calls Tryz.prog 144 #[.string s, .agg #[.int .i64 f, .int .i64 t, .string x]] w fun e w' => e = .returned (.tuple #[.agg #[.int .i64 f, .int .i64 (f + x.size), .string (s.extract f.toNat t.toNat)], .int .i64 0]) ∧ Below w.heap.size w w' := by
  obtain ⟨h0, h1, h2, h3, h4⟩ := edErr_ok h
  have H := Lib.hid h
  clear h h3
  obtain ⟨a, rfl⟩ := Int.eq_ofNat_of_zero_le h0
  obtain ⟨b, rfl⟩ := Int.eq_ofNat_of_zero_le (Int.le_trans h0 h1)
  go_enter Tryz.func144, Tryz.ntmps144
  go_wp2_with fail
  refine (checkEdit_any s x a b _ hs hx).mono ?_
  rintro e w1 ⟨rfl, hb1⟩
  rw [H.out]
  have c0 := hb1.cell (p := ⟨w.heap.size, 0, none⟩) (by simp <;> omega)
  have c1 := hb1.cell (p := ⟨w.heap.size, 1, none⟩) (by simp <;> omega)
  have c2 := hb1.cell (p := ⟨w.heap.size, 2, none⟩) (by simp <;> omega)
  have d0 := hb1.cell (p := ⟨w.heap.size + 1, 0, none⟩) (by simp <;> omega)
  have d1 := hb1.cell (p := ⟨w.heap.size + 1, 1, none⟩) (by simp <;> omega)
  have d2 := hb1.cell (p := ⟨w.heap.size + 1, 2, none⟩) (by simp <;> omega)
  have f0 := hb1.frozen (p := ⟨w.heap.size + 1, 0, none⟩) (by simp <;> omega)
  have f1 := hb1.frozen (p := ⟨w.heap.size + 1, 1, none⟩) (by simp <;> omega)
  have f2 := hb1.frozen (p := ⟨w.heap.size + 1, 2, none⟩) (by simp <;> omega)
  go_wp2
  go_region
  go_wp2
  refine bodyPost_ret (v := .tuple #[.agg #[.int .i64 (a : Int), .int .i64 ((a : Int) + x.size), .string (s.extract a b)], .int .i64 0]) (by simp [results, Tryz.results144, go_sem, d0, d1, d2]) rfl ⟨rfl, ?_⟩
  exact (((((((Below.refl _ _).alloc (Nat.le_refl _) _).alloc (by simp) _).trans (hb1.mono (B' := w.heap.size) (by simp <;> omega))).drew.setCell (by simp) _).setCell (by simp) _).setCell (by simp) _)

end Go.Proofs.YtmkicfjcgbfaaaaGreat
