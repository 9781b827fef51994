/-
  DERIVED. The walks of prop.written and prop.Text, to the byte. Conditions: the value is right; the table of powers of ten is laid.
  Plain law: values read from a text. Conditions: none.
  By an AI agent.
-/
import Derived.Test.YtbdcimakdiegnaaGreatDoorVa08
import Derived.Test.YtbdcimakdiegnaaGreatDoorVa09
import Derived.Test.YtbdcimakdiegnaaGreatDoorVa12
import Derived.Test.YtbdcimakdiegnaaGreatDoorVa13
import Derived.Deep.RegionHeld3
import Derived.Test.YtbdcimakdiegnaaGreatDoorVa02
import Derived.Test.YtbdcimakdiegnaaGreatDoorVa03
namespace Go.Proofs.YtbdcimakdiegnaaGreatDoor
open Go.RowKit

mutual
/-- a value as a text -/
noncomputable def wrV : Vl → ByteArray
  | .mk k i t s l => if k = 1 then (if i = 0 then ⟨#[110, 111]⟩ else ⟨#[121, 101, 115]⟩) else if k = 2 then wd i else if k = 3 then quoS s else if k = 4 then dtS i else if k = 5 then dtS i ++ ⟨#[46, 46]⟩ ++ dtS t else if k = 6 then ⟨#[91, 91]⟩ ++ s ++ ⟨#[93, 93]⟩ else if k = 7 then ⟨#[91]⟩ ++ joinB (wrL l) ⟨#[44, 32]⟩ ++ ⟨#[93]⟩ else ⟨#[45]⟩
noncomputable def wrL : List Vl → List ByteArray
  | [] => []
  | x :: l => wrV x :: wrL l
end
theorem wrL_map : ∀ l : List Vl, wrL l = l.map wrV
  | [] => by rw [wrL]; rfl
  | x :: l => by rw [wrL, wrL_map l]; rfl
theorem wrV_eq (x : Vl) : wrV x = if x.kind = 1 then (if x.int_ = 0 then ⟨#[110, 111]⟩ else ⟨#[121, 101, 115]⟩) else if x.kind = 2 then wd x.int_ else if x.kind = 3 then quoS x.text else if x.kind = 4 then dtS x.int_ else if x.kind = 5 then dtS x.int_ ++ ⟨#[46, 46]⟩ ++ dtS x.to_ else if x.kind = 6 then ⟨#[91, 91]⟩ ++ x.text ++ ⟨#[93, 93]⟩ else if x.kind = 7 then ⟨#[91]⟩ ++ joinB (x.items.map wrV) ⟨#[44, 32]⟩ ++ ⟨#[93]⟩ else ⟨#[45]⟩ := by
  cases x; rw [wrV, wrL_map]; rfl

/-- what a right value is -/
theorem vErr_zero {x : Vl} (h : vErr x = 0) : (0 ≤ x.kind ∧ x.kind ≤ 7) ∧ nuErr x.kind x.int_ x.to_ = 0 ∧ x.text.size ≤ 2000 ∧ x.items.length ≤ 20 ∧ itErr x.items = 0 := by
  rw [vErr_eq] at h
  cases h0 : outI x.kind 0 7
  case true => rw [h0, if_pos rfl] at h; cases h
  rw [h0, if_neg (by decide)] at h
  cases h1 : ufB x
  case false => rw [h1, if_pos rfl] at h; cases h
  rw [h1, if_neg (by decide)] at h
  by_cases h2 : nuErr x.kind x.int_ x.to_ = 0
  case neg => rw [if_pos h2] at h; exact absurd h h2
  rw [if_neg (fun e => e h2)] at h
  by_cases h3 : ttErr (x.kind == 6) x.text = 0
  case neg => rw [if_pos h3] at h; exact absurd h h3
  rw [if_neg (fun e => e h3)] at h
  by_cases h4 : 20 < x.items.length
  case pos => rw [if_pos h4] at h; cases h
  rw [if_neg h4] at h
  refine ⟨?_, h2, ?_, by omega, h⟩
  · unfold outI at h0
    have := of_decide_eq_false h0
    omega
  · unfold ttErr at h3
    by_cases h5 : 2000 < x.text.size
    · rw [if_pos h5] at h3; cases h3
    · omega
theorem itErr_mem : ∀ {l : List Vl}, itErr l = 0 → ∀ x ∈ l, vErr x = 0 ∧ x.kind ≠ 7 ∧ x.kind ≠ 0
  | [], _, x, hx => by cases hx
  | y :: l, h, x, hx => by
    rw [itErr] at h
    cases h0 : (y.kind == 0)
    case true => rw [h0, if_pos rfl] at h; cases h
    rw [h0, if_neg (by decide)] at h
    cases h7 : (y.kind == 7)
    case true => rw [h7, if_pos rfl] at h; cases h
    rw [h7, if_neg (by decide)] at h
    by_cases hv : vErr y = 0
    case neg => rw [if_pos hv] at h; exact absurd h hv
    rw [if_neg (fun e => e hv)] at h
    rcases List.mem_cons.1 hx with rfl | hx
    · exact ⟨hv, by simpa using h7, by simpa using h0⟩
    · exact itErr_mem h x hx
theorem wd_size21 {n : Int} (h : n.natAbs ≤ 1000000000) : (wd n).size ≤ 21 := by
  have := dd_len 9 n.natAbs (by omega)
  rw [wd_len]
  unfold Lib.itoa
  split
  · rw [List.length_cons]; omega
  · rw [show n.toNat = n.natAbs by omega]; omega
theorem str_newE : True := trivial

set_option maxHeartbeats 4000000 in
set_option maxRecDepth 100000 in
theorem written_str (i t : Int) (s : ByteArray) (A : Option Addr) (n c : Nat) (w : World) (hs : s.size ≤ 2000) :
    Calls Tryz.prog 17 #[.agg #[.int .i64 3, .int .i64 i, .int .i64 t, .string s, .slice A n c]] w fun e w' => e = .returned (.string (quoS s)) ∧ Below w.heap.size w w' := by
  have hq := quoS_eq s
  have hes := escS_size s
  have HRP := Lib.hid fun w b g cap h1 h2 h3 h4 => replace_any w b g cap s (by omega) h1 h2 h3 h4
  obtain ⟨S, hS⟩ : ∃ S, S = escS s := ⟨_, rfl⟩
  rw [← hS] at hq hes HRP
  have hes2 : S.size ≤ 4000 := by omega
  rw [← hq]
  clear hq hS hes
  go_enter Tryz.func17, Tryz.ntmps17
  go_upto_region 7 with fail
  have hbX : Below w.heap.size w (w.alloc (.cells #[.int .i64 3, .int .i64 i, .int .i64 t, .string s, .slice A n c] 24)) := (Below.refl _ _).alloc (Nat.le_refl _) _
  have KX := Blk.new w 24 #[.int .i64 3, .int .i64 i, .int .i64 t, .string s, .slice A n c]
  generalize (w.alloc (.cells #[.int .i64 3, .int .i64 i, .int .i64 t, .string s, .slice A n c] 24)) = X at hbX KX ⊢
  have d0 : X.cell? ⟨w.heap.size, 3, none⟩ = some (.string s) := KX.cell 3
  have hzX := KX.lt
  have z0 : ∀ o, (X.alloc o).cell? ⟨w.heap.size, 3, none⟩ = some (.string s) := fun o => (World.cell?_alloc_lt _ _ _ hzX).trans d0
  have hcY : ∀ j u, rpO[j]? = some u → (X.alloc (.cells #[.string ⟨#[34]⟩, .string ⟨#[92, 34]⟩, .string ⟨#[92]⟩, .string ⟨#[92, 92]⟩] 9)).drew.cell? ((⟨X.heap.size, 0, none⟩ : Addr).add j) = some u := fun j u h => by
    rw [World.cell?_drew, Addr.add_lit, Nat.zero_add, World.cell?_alloc_mark]
    show (rpO.toArray)[j]? = some u
    rw [List.getElem?_toArray]
    exact h
  have ha1 : ∀ W, (Op.stringOp .add ⟨#[34]⟩ S).run Tryz.prog W = .ok (.string (⟨#[34]⟩ ++ S)) W := fun W => run_string_add_sum W _ _ (by show 1 + S.size ≤ _; omega)
  have ha2 : ∀ W, (Op.stringOp .add (⟨#[34]⟩ ++ S) ⟨#[34]⟩).run Tryz.prog W = .ok (.string (⟨#[34]⟩ ++ S ++ ⟨#[34]⟩)) W := fun W => run_string_add_sum W _ _ (by rw [ByteArray.size_append]; show 1 + S.size + 1 ≤ _; omega)
  have d0' : X.drew.cell? ⟨w.heap.size, 3, none⟩ = some (.string s) := d0
  have z0' : ∀ o, (X.alloc o).drew.cell? ⟨w.heap.size, 3, none⟩ = some (.string s) := z0
  go_region_held3 (fun w' => w'.cell? ⟨w.heap.size, 3, none⟩ = some (.string s))
    (first | with_reducible exact d0 | with_reducible exact d0' | with_reducible exact z0 _ | with_reducible exact z0' _ | with_reducible exact t0 | with_reducible exact r0)
    (first
      | (go_at_call 47; refine (newReplacer_any ⟨X.heap.size, 0, none⟩ 4 _ hcY).mono ?_; rintro e w2 ⟨b, g, cap, rfl, hb1, hg1, hblk, hcl, hgb, hbel⟩; have hgl : g < w2.heap.size := (World.block_lt_of_cell? w2 _ (hcl 0 _ rfl)); have hbY : Below X.heap.size X w2 := ((Below.refl _ _).alloc (Nat.le_refl _) _).drew.trans (hbel.mono (by simp)); have t0 : w2.cell? ⟨w.heap.size, 3, none⟩ = some (.string s) := (hbY.cell (p := ⟨w.heap.size, 3, none⟩) hzX).trans d0; have hbb : X.heap.size ≤ b := Nat.le_trans (by simp) hb1; have HC2 := Lib.hid (And.intro hblk hcl); clear hblk hcl hbel hb1 hg1)
      | (go_at_call 48; refine (HRP.out w2 b g cap hgl HC2.out.1 HC2.out.2 (Nat.ne_of_lt hgb)).mono ?_; rintro e w3 ⟨rfl, hb3⟩; have r0 : w3.cell? ⟨w.heap.size, 3, none⟩ = some (.string s) := (hb3.cell (p := ⟨w.heap.size, 3, none⟩) (by show w.heap.size < b; omega)).trans t0; have HB3 : Hid (Below w.heap.size w w3) := (hbX.trans (hbY.mono (by omega))).trans (hb3.mono (by omega)); clear hb3))
  all_goals
    go_wp2_with fail
    go_ret
    exact ⟨rfl, HB3.out⟩
set_option maxHeartbeats 4000000 in
set_option maxRecDepth 100000 in
theorem written_none (i t : Int) (s : ByteArray) (A : Option Addr) (n c : Nat) (w : World) :
    Calls Tryz.prog 17 #[.agg #[.int .i64 0, .int .i64 i, .int .i64 t, .string s, .slice A n c]] w fun e w' => e = .returned (.string ⟨#[45]⟩) ∧ Below w.heap.size w w' := by
  go_enter Tryz.func17, Tryz.ntmps17
  go_wp2_with fail
  go_ret
  exact ⟨rfl, (Below.refl _ _).alloc (Nat.le_refl _) _⟩

set_option maxHeartbeats 4000000 in
set_option maxRecDepth 100000 in
theorem written_flag (i t : Int) (s : ByteArray) (A : Option Addr) (n c : Nat) (w : World) (h0 : 0 ≤ i) (h1 : i ≤ 1) :
    Calls Tryz.prog 17 #[.agg #[.int .i64 1, .int .i64 i, .int .i64 t, .string s, .slice A n c]] w fun e w' => e = .returned (.string (if i = 0 then ⟨#[110, 111]⟩ else ⟨#[121, 101, 115]⟩)) ∧ Below w.heap.size w w' := by
  rcases (show i = 0 ∨ i = 1 by omega) with rfl | rfl
  all_goals
    clear h0 h1
    go_enter Tryz.func17, Tryz.ntmps17
    go_wp2_with fail
    go_ret
    exact ⟨rfl, ((Below.refl _ _).alloc (Nat.le_refl _) _).alloc (by simp) _⟩

set_option maxHeartbeats 4000000 in
set_option maxRecDepth 100000 in
theorem written_num (i t : Int) (s : ByteArray) (A : Option Addr) (n c : Nat) (w : World) (h : i.natAbs ≤ 1000000000) (hP : Pow w) :
    Calls Tryz.prog 17 #[.agg #[.int .i64 2, .int .i64 i, .int .i64 t, .string s, .slice A n c]] w fun e w' => e = .returned (.string (wd i)) ∧ Below w.heap.size w w' := by
  have HI := Lib.hid (itoaN_any i (by omega) (by omega) _ (hP.below (w' := w.alloc (.cells #[.int .i64 2, .int .i64 i, .int .i64 t, .string s, .slice A n c] 24)) ((Below.refl _ _).alloc (Nat.le_refl _) _)))
  clear hP
  go_enter Tryz.func17, Tryz.ntmps17
  go_wp2_with fail
  refine HI.out.mono ?_
  rintro e w1 ⟨rfl, hb⟩
  go_wp2_with fail
  go_ret
  exact ⟨rfl, ((Below.refl _ _).alloc (Nat.le_refl _) _).trans (hb.mono (by simp))⟩

set_option maxHeartbeats 4000000 in
set_option maxRecDepth 100000 in
theorem written_date (i t : Int) (s : ByteArray) (A : Option Addr) (n c : Nat) (w : World) (h0 : 0 ≤ i) (h1 : i ≤ 100000) (hP : Pow w) :
    Calls Tryz.prog 17 #[.agg #[.int .i64 4, .int .i64 i, .int .i64 t, .string s, .slice A n c]] w fun e w' => e = .returned (.string (dtS i)) ∧ (dtS i).size ≤ 100 ∧ Below w.heap.size w w' := by
  have HI := Lib.hid (dateText_any i _ h0 h1 (hP.below (w' := w.alloc (.cells #[.int .i64 4, .int .i64 i, .int .i64 t, .string s, .slice A n c] 24)) ((Below.refl _ _).alloc (Nat.le_refl _) _)))
  clear hP
  go_enter Tryz.func17, Tryz.ntmps17
  go_wp2_with fail
  refine HI.out.mono ?_
  rintro e w1 ⟨rfl, hsz, hb⟩
  go_wp2_with fail
  go_ret
  exact ⟨rfl, hsz, ((Below.refl _ _).alloc (Nat.le_refl _) _).trans (hb.mono (by simp))⟩

set_option maxHeartbeats 4000000 in
set_option maxRecDepth 100000 in
theorem written_span (i t : Int) (s : ByteArray) (A : Option Addr) (n c : Nat) (w : World) (h0 : 0 ≤ i) (h1 : i ≤ 100000) (h2 : 0 ≤ t) (h3 : t ≤ 100000) (hP : Pow w) :
    Calls Tryz.prog 17 #[.agg #[.int .i64 5, .int .i64 i, .int .i64 t, .string s, .slice A n c]] w fun e w' => e = .returned (.string (dtS i ++ ⟨#[46, 46]⟩ ++ dtS t)) ∧ (dtS i ++ ⟨#[46, 46]⟩ ++ dtS t).size ≤ 300 ∧ Below w.heap.size w w' := by
  have HI := Lib.hid fun W hP => dateText_any i W h0 h1 hP
  have HJ := Lib.hid fun W hP => dateText_any t W h2 h3 hP
  have HP0 : Hid (Pow (w.alloc (.cells #[.int .i64 5, .int .i64 i, .int .i64 t, .string s, .slice A n c] 24))) := hP.below ((Below.refl _ _).alloc (Nat.le_refl _) _)
  obtain ⟨S1, hS1⟩ : ∃ S, S = dtS i := ⟨_, rfl⟩
  obtain ⟨S2, hS2⟩ : ∃ S, S = dtS t := ⟨_, rfl⟩
  rw [← hS1, ← hS2]
  rw [← hS1] at HI
  rw [← hS2] at HJ
  clear hP hS1 hS2
  go_enter Tryz.func17, Tryz.ntmps17
  go_wp2_with fail
  refine (HI.out _ HP0.out).mono ?_
  rintro e w1 ⟨rfl, hs1, hb⟩
  have HB1 : Hid (Below w.heap.size w w1) := ((Below.refl _ _).alloc (Nat.le_refl _) _).trans (hb.mono (by simp))
  have HP1 := Lib.hid (HP0.out.below hb)
  have hc : w1.cell? ⟨w.heap.size, 2, none⟩ = some (.int .i64 t) := (hb.cell (p := ⟨w.heap.size, 2, none⟩) (by simp)).trans ((Blk.new w _ _).cell 2)
  clear hb
  go_wp2_with fail
  refine (HJ.out _ HP1.out).mono ?_
  rintro e w2 ⟨rfl, hs2, hb⟩
  have HB2 : Hid (Below w.heap.size w w2) := HB1.out.trans (hb.mono HB1.out.size)
  clear hb
  go_wp2_with fail
  go_ret
  refine ⟨rfl, ?_, HB2.out⟩
  simp only [ByteArray.size_append]
  show _ + 2 + _ ≤ 300
  omega

set_option maxHeartbeats 4000000 in
set_option maxRecDepth 100000 in
theorem written_link (i t : Int) (s : ByteArray) (A : Option Addr) (n c : Nat) (w : World) (hs : s.size ≤ 2000) :
    Calls Tryz.prog 17 #[.agg #[.int .i64 6, .int .i64 i, .int .i64 t, .string s, .slice A n c]] w fun e w' => e = .returned (.string (⟨#[91, 91]⟩ ++ s ++ ⟨#[93, 93]⟩)) ∧ Below w.heap.size w w' := by
  go_enter Tryz.func17, Tryz.ntmps17
  go_wp2_with fail
  go_ret
  exact ⟨rfl, (Below.refl _ _).alloc (Nat.le_refl _) _⟩

end Go.Proofs.YtbdcimakdiegnaaGreatDoor
namespace Go.Proofs.YtbdcimakdiegnaaGreatDoor
open cal

def dgs : List UInt8 := [48, 49, 50, 51, 52, 53, 54, 55, 56, 57]
def isDg (c : UInt8) : Bool := dgs.contains c
theorem isDg_iff (c : UInt8) : isDg c = true ↔ 48 ≤ c.toNat ∧ c.toNat ≤ 57 := by
  unfold isDg dgs
  simp only [List.contains_iff_mem, List.mem_cons, List.not_mem_nil, or_false, ← UInt8.toNat_inj]
  show c.toNat = 48 ∨ c.toNat = 49 ∨ c.toNat = 50 ∨ c.toNat = 51 ∨ c.toNat = 52 ∨ c.toNat = 53 ∨ c.toNat = 54 ∨ c.toNat = 55 ∨ c.toNat = 56 ∨ c.toNat = 57 ↔ _
  omega
theorem dw_nil {p : UInt8 → Bool} : ∀ {l : List UInt8}, l.dropWhile p = [] ↔ l.all p = true
  | [] => by simp
  | b :: l => by
    rw [List.dropWhile_cons, List.all_cons]
    cases h : p b
    · simp
    · simp only [if_true, Bool.true_and]
      exact dw_nil
theorem dw_head {p : UInt8 → Bool} : ∀ {l : List UInt8} {x : UInt8} {r : List UInt8}, l.dropWhile p = x :: r → p x = false
  | b :: l, x, r, h => by
    rw [List.dropWhile_cons] at h
    cases hb : p b
    · rw [hb] at h
      simp at h
      rw [← h.1]; exact hb
    · rw [hb, if_pos rfl] at h
      exact dw_head h
theorem trim_all {l : List UInt8} : Lib.trimS l dgs = [] ↔ l.all isDg = true := by
  unfold Lib.trimS Lib.trimLeftS Lib.trimRightS
  constructor
  · intro h
    have h1 := dw_nil.1 h
    rcases hr : l.reverse.dropWhile (fun x => dgs.contains x) with _ | ⟨x, r⟩
    · have h2 := dw_nil.1 hr
      rw [List.all_reverse] at h2
      exact h2
    · have h3 := dw_head hr
      rw [hr] at h1
      simp only [List.all_reverse, List.all_cons, Bool.and_eq_true] at h1
      rw [h1.1] at h3
      cases h3
  · intro h
    have h2 : l.reverse.dropWhile (fun x => dgs.contains x) = [] := dw_nil.2 (by rw [List.all_reverse]; exact h)
    rw [h2]
    rfl

/-- a prefix -/
def pre (p t : List UInt8) : Bool := Lib.hasPrefix t p
theorem pre_nil (t : List UInt8) : pre [] t = true := rfl
theorem pre_cons (a : UInt8) (p : List UInt8) (b : UInt8) (t : List UInt8) : pre (a :: p) (b :: t) = ((a == b) && pre p t) := rfl
theorem pre_no (a : UInt8) (p : List UInt8) : pre (a :: p) [] = false := rfl
theorem pre_app (p t : List UInt8) : pre p (p ++ t) = true := by
  induction p with
  | nil => rfl
  | cons a p ih => rw [List.cons_append, pre_cons, ih]; simp
theorem pre_len {p t : List UInt8} (h : pre p t = true) : p.length ≤ t.length := by
  unfold pre Lib.hasPrefix at h
  rw [List.isPrefixOf_iff_prefix] at h
  exact h.length_le
theorem pre_eq {p t : List UInt8} (h : pre p t = true) : ∃ r, t = p ++ r := by
  unfold pre Lib.hasPrefix at h
  rw [List.isPrefixOf_iff_prefix] at h
  obtain ⟨r, h⟩ := h
  exact ⟨r, h.symm⟩

/-! ### days -/
/-- the form of a date: ten octets -/
def dForm (x : List UInt8) : Bool := (x.length == 10) && (x.getD 4 0 == 45) && (x.getD 7 0 == 45) && ((x.take 4 ++ (x.drop 5).take 2) ++ x.drop 8).all isDg
/-- the number of digits -/
def dNum (x : List UInt8) : Int := ((Lib.decNat x).getD 0 : Nat)
/-- the day of a date, and the error -/
def doD (y m k : Int) : Int × Int :=
  if y < 2001 ∨ 9999 < y then (0, 2) else if m < 1 ∨ 12 < m then (0, 2) else if k < 1 ∨ ml y m < k then (0, 2)
  else if 100000 < bef y + cum y m + k - 1 then (0, 2) else (bef y + cum y m + k - 1, 0)
def rdDate (x : List UInt8) : Int × Int := doD (dNum (x.take 4)) (dNum ((x.drop 5).take 2)) (dNum (x.drop 8))
/-- a date is there -/
def dateB (t : List UInt8) : Bool := decide (10 ≤ t.length) && dForm (t.take 10)
def dayV (t : List UInt8) : Int := (rdDate (t.take 10)).1
def dayF (t : List UInt8) : Bool := (rdDate (t.take 10)).2 != 0

/-! ### numbers -/
def plN (x : List UInt8) : Option Int :=
  if ((Lib.trimPrefix x [45]).isEmpty || decide (10 < (Lib.trimPrefix x [45]).length) || !(Lib.trimPrefix x [45]).all isDg) = true then none
  else if Lib.itoa ((Lib.atoi x).getD 0) = x then some ((Lib.atoi x).getD 0) else none
/-- how long a number is -/
def numL (t : List UInt8) : Nat := if pre [45] t = true then 1 + ((t.drop 1).takeWhile isDg).length else (t.takeWhile isDg).length

/-! ### values -/
abbrev RdR := Option (Vl × List UInt8 × Bool)
def vI (k i t : Int) : Vl := .mk k i t ⟨#[]⟩ []
def vT (k : Int) (s : List UInt8) : Vl := .mk k 0 0 ⟨s.toArray⟩ []
/-- behind a quotation mark -/
def rdQuo : List UInt8 → Option (List UInt8 × List UInt8)
  | [] => none
  | c :: r => if c = 34 then some ([], r) else if c = 92 then (match r with
    | [] => none
    | d :: r' => if d = 34 ∨ d = 92 then (rdQuo r').map fun p => (d :: p.1, p.2) else none)
    else (rdQuo r).map fun p => (c :: p.1, p.2)
theorem rdQuo_end (r : List UInt8) : rdQuo (34 :: r) = some ([], r) := by rw [rdQuo.eq_def]; rfl
theorem rdQuo_esc2 {d : UInt8} (h : d = 34 ∨ d = 92) (r : List UInt8) : rdQuo (92 :: d :: r) = (rdQuo r).map fun p => (d :: p.1, p.2) := by
  rw [rdQuo.eq_def]
  show (if (92 : UInt8) = 34 then _ else if (92 : UInt8) = 92 then (if d = 34 ∨ d = 92 then _ else _) else _) = _
  rw [if_neg (by decide), if_pos rfl, if_pos h]
theorem rdQuo_bad {d : UInt8} (h : ¬ (d = 34 ∨ d = 92)) (r : List UInt8) : rdQuo (92 :: d :: r) = none := by
  rw [rdQuo.eq_def]
  show (if (92 : UInt8) = 34 then _ else if (92 : UInt8) = 92 then (if d = 34 ∨ d = 92 then _ else _) else _) = _
  rw [if_neg (by decide), if_pos rfl, if_neg h]
theorem rdQuo_one : rdQuo [92] = none := by rw [rdQuo.eq_def]; rfl
theorem rdQuo_nil : rdQuo [] = none := by rw [rdQuo.eq_def]
theorem rdQuo_chr {c : UInt8} (h : c ≠ 34) (h' : c ≠ 92) (r : List UInt8) : rdQuo (c :: r) = (rdQuo r).map fun p => (c :: p.1, p.2) := by
  rw [rdQuo.eq_def]
  show (if c = 34 then _ else if c = 92 then _ else _) = _
  rw [if_neg h, if_neg h']
def rdLink (t : List UInt8) : RdR := if Lib.index t [93, 93] < 2 then none else some (vT 6 ((t.take (Lib.index t [93, 93]).toNat).drop 2), t.drop ((Lib.index t [93, 93]).toNat + 2), false)
def rdDays (t : List UInt8) : RdR :=
  if pre [46, 46] (t.drop 10) = true then (if dateB (t.drop 12) = true then some (vI 5 (dayV t) (dayV (t.drop 12)), t.drop 22, dayF t || dayF (t.drop 12)) else none)
  else some (vI 4 (dayV t) 0, t.drop 10, dayF t)
/-- a minus that no digit follows -/
def loneM (t : List UInt8) : Bool := pre [45] t && !(match t.drop 1 with | [] => false | c :: _ => isDg c)
def rdNum (t : List UInt8) : RdR := (plN (t.take (numL t))).map fun n => (vI 2 n 0, t.drop (numL t), false)
/-- a value that is no link and no list -/
def rdOne (t : List UInt8) : RdR :=
  if pre [121, 101, 115] t = true then some (vI 1 1 0, t.drop 3, false)
  else if pre [110, 111] t = true then some (vI 1 0 0, t.drop 2, false)
  else if pre [34] t = true then (rdQuo (t.drop 1)).map fun p => (vT 3 p.1, p.2, false)
  else if dateB t = true then rdDays t
  else if loneM t = true then some (vI 0 0 0, t.drop 1, false)
  else rdNum t
def rdItem (t : List UInt8) : RdR := if pre [91, 91] t = true then rdLink t else if pre [91] t = true then none else rdOne t
/-- items up to the bracket -/
def rdItems : Nat → List UInt8 → Option (List Vl × List UInt8 × Bool)
  | 0, _ => none
  | n + 1, t => match rdItem t with
    | none => none
    | some (v, r, f) => if pre [93] r = true then some ([v], r.drop 1, f) else if pre [44, 32] r = true then (rdItems n (r.drop 2)).map fun p => (v :: p.1, p.2.1, f || p.2.2) else none
def rdList (t : List UInt8) : RdR := if pre [93] t = true then some (.mk 7 0 0 ⟨#[]⟩ [], t.drop 1, false) else (rdItems (t.length + 1) t).map fun p => (.mk 7 0 0 ⟨#[]⟩ p.1, p.2.1, p.2.2)
def rdVal (t : List UInt8) : RdR :=
  if pre [91] t = true then (if (pre [91, 91] t && !pre [91, 91, 91] t) = true then rdLink t else rdList (t.drop 1)) else rdOne t
/-- a value that is all of a text, or the error -/
def rdAll (t : List UInt8) : Vl × Int :=
  match rdVal t with
  | none => (vI 0 0 0, 8)
  | some (v, r, f) => if r ≠ [] then (vI 0 0 0, 8) else if f = true then (vI 0 0 0, 2) else (v, 0)
def rdV (t : List UInt8) : Vl × Int :=
  if 400000 < t.length then (vI 0 0 0, 4) else if (rdAll t).2 ≠ 0 then (vI 0 0 0, (rdAll t).2) else if vErr (rdAll t).1 ≠ 0 then (vI 0 0 0, vErr (rdAll t).1) else ((rdAll t).1, 0)
end Go.Proofs.YtbdcimakdiegnaaGreatDoor
