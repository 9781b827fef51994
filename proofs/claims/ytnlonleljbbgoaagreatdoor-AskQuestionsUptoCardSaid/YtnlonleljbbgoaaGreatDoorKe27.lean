/-
  DERIVED. Conditions: their errors. Plain law. Conditions: none.
  A condition as a text. Plain law. Conditions: none.
  By an AI agent.
-/
import Derived.Test.YtnlonleljbbgoaaGreatDoorKe14
import Derived.Test.YtnlonleljbbgoaaGreatDoorKe05
import Derived.Test.YtnlonleljbbgoaaGreatDoorKe26
import Derived.Test.YtnlonleljbbgoaaGreatDoorKe17
import Derived.Test.YtnlonleljbbgoaaGreatDoorKe13
import Derived.Test.YtnlonleljbbgoaaGreatDoorKe06
import Derived.Test.YtnlonleljbbgoaaGreatDoorKe02
namespace Go.Proofs.YtnlonleljbbgoaaGreatDoor

/-! ### the fields that an operation uses -/
def uN (o : Int) : Bool := decide (11 ≤ o ∧ o ≤ 14)
def uT (o : Int) : Bool := decide (4 ≤ o ∧ o ≤ 7)
def uV (o : Int) : Bool := decide (12 ≤ o ∧ o ≤ 14)
def uM (o : Int) : Bool := decide (9 ≤ o ∧ o ≤ 10)
def uK (o : Int) : Int := if o = 1 ∨ o = 2 then -1 else if o = 3 ∨ 15 ≤ o ∧ o ≤ 17 then 1 else 0
/-- no value -/
def zeroB (v : Vl) : Bool := v.kind == 0 && v.int_ == 0 && v.to_ == 0 && v.text.toList == [] && v.items.isEmpty
/-- a field that is not used, or a wrong number of kids -/
def formB (c : Cd) : Bool := !uN c.op && c.name.toList != [] || !uT c.op && c.text.toList != [] || !uV c.op && !zeroB c.val || !uM c.op && c.num != 0 || decide (0 ≤ uK c.op) && ((c.kids.length : Int) != uK c.op)
/-- the error of the form of a node -/
def fmE (c : Cd) : Int := if c.op < 1 ∨ 17 < c.op then 10 else if formB c then 1 else 0
/-- the error of what a node holds, its form right -/
def inE (c : Cd) : Int :=
  if c.op = 4 then (if c.text.size = 0 ∨ 200 < c.text.size then 4 else if ctl c.text then 9 else 0)
  else if c.op = 5 ∨ c.op = 7 then (if isTgt c.text then 0 else 3)
  else if c.op = 6 then (if tagFull c.text then 0 else 3)
  else if c.op = 9 ∨ c.op = 10 then (if c.num < 0 ∨ 1000000 < c.num then 2 else 0)
  else if c.op = 11 then nmErr c.name
  else if 12 ≤ c.op ∧ c.op ≤ 14 then (if nmErr c.name ≠ 0 then nmErr c.name else if c.val.kind = 0 then 10 else vErr c.val)
  else 0
def ndE (c : Cd) : Int := if fmE c ≠ 0 then fmE c else inE c
mutual
/-- the first error of the nodes -/
def viE : Cd → Int
  | .mk o s t v n ks => if ndE (.mk o s t v n ks) ≠ 0 then ndE (.mk o s t v n ks) else viEs ks
def viEs : List Cd → Int
  | [] => 0
  | c :: l => if viE c ≠ 0 then viE c else viEs l
end
theorem viE_eq (c : Cd) : viE c = if ndE c ≠ 0 then ndE c else viEs c.kids := by cases c; rw [viE]; rfl
theorem viEs_app : ∀ (l m : List Cd), viEs (l ++ m) = if viEs l ≠ 0 then viEs l else viEs m
  | [], m => by rw [List.nil_append, viEs, if_neg (fun h => h rfl)]
  | c :: l, m => by
    rw [List.cons_append, viEs, viEs, viEs_app l m]
    by_cases h : viE c = 0
    · simp [h]
    · simp [h]
theorem viEs_take {l : List Cd} {k : Nat} {x : Cd} (h : l[k]? = some x) (h0 : viEs (l.take k) = 0) : viEs (l.take (k + 1)) = viE x := by
  rw [take_one h, viEs_app, if_neg (fun k => k h0), viEs, viEs]
  by_cases h1 : viE x = 0
  · rw [if_neg (fun k => k h1), h1]
  · rw [if_pos h1]
theorem viEs_stop {l : List Cd} {k : Nat} (h : viEs (l.take k) ≠ 0) : viEs l = viEs (l.take k) := by
  have := viEs_app (l.take k) (l.drop k)
  rw [List.take_append_drop, if_pos h] at this
  exact this
/-- the error of a condition -/
def cdErr (c : Cd) : Int := if 60 < cdN c then 4 else if 40 < cdD c then 13 else viE c
end Go.Proofs.YtnlonleljbbgoaaGreatDoor
namespace Go.Proofs.YtnlonleljbbgoaaGreatDoor
open Go.RowKit

/-- the word of an operation -/
def wordS (o : Int) : ByteArray :=
  if o = 1 then ⟨#[97, 108, 108]⟩ else
  if o = 2 then ⟨#[97, 110, 121]⟩ else
  if o = 3 then ⟨#[110, 111, 116]⟩ else
  if o = 4 then ⟨#[115, 97, 121, 115]⟩ else
  if o = 5 then ⟨#[108, 105, 110, 107, 115]⟩ else
  if o = 6 then ⟨#[116, 97, 103]⟩ else
  if o = 7 then ⟨#[112, 97, 103, 101]⟩ else
  if o = 8 then ⟨#[105, 115, 45, 112, 97, 103, 101]⟩ else
  if o = 9 then ⟨#[100, 101, 101, 112]⟩ else
  if o = 10 then ⟨#[117, 110, 100, 101, 114]⟩ else
  if o = 11 then ⟨#[104, 97, 115]⟩ else
  if o = 12 then ⟨#[61]⟩ else
  if o = 13 then ⟨#[60]⟩ else
  if o = 14 then ⟨#[62]⟩ else
  if o = 15 then ⟨#[112, 97, 114, 101, 110, 116]⟩ else
  if o = 16 then ⟨#[107, 105, 100]⟩ else
  if o = 17 then ⟨#[98, 101, 108, 111, 119]⟩ else
  ⟨#[]⟩
theorem wordS_1 : wordS 1 = ⟨#[97, 108, 108]⟩ := rfl
theorem wordS_2 : wordS 2 = ⟨#[97, 110, 121]⟩ := rfl
theorem wordS_3 : wordS 3 = ⟨#[110, 111, 116]⟩ := rfl
theorem wordS_4 : wordS 4 = ⟨#[115, 97, 121, 115]⟩ := rfl
theorem wordS_5 : wordS 5 = ⟨#[108, 105, 110, 107, 115]⟩ := rfl
theorem wordS_6 : wordS 6 = ⟨#[116, 97, 103]⟩ := rfl
theorem wordS_7 : wordS 7 = ⟨#[112, 97, 103, 101]⟩ := rfl
theorem wordS_8 : wordS 8 = ⟨#[105, 115, 45, 112, 97, 103, 101]⟩ := rfl
theorem wordS_9 : wordS 9 = ⟨#[100, 101, 101, 112]⟩ := rfl
theorem wordS_10 : wordS 10 = ⟨#[117, 110, 100, 101, 114]⟩ := rfl
theorem wordS_11 : wordS 11 = ⟨#[104, 97, 115]⟩ := rfl
theorem wordS_12 : wordS 12 = ⟨#[61]⟩ := rfl
theorem wordS_13 : wordS 13 = ⟨#[60]⟩ := rfl
theorem wordS_14 : wordS 14 = ⟨#[62]⟩ := rfl
theorem wordS_15 : wordS 15 = ⟨#[112, 97, 114, 101, 110, 116]⟩ := rfl
theorem wordS_16 : wordS 16 = ⟨#[107, 105, 100]⟩ := rfl
theorem wordS_17 : wordS 17 = ⟨#[98, 101, 108, 111, 119]⟩ := rfl
theorem wordS_size (o : Int) : (wordS o).size ≤ 7 := by
  by_cases h1 : o = 1
  · subst h1; exact (by decide : 3 ≤ 7)
  by_cases h2 : o = 2
  · subst h2; exact (by decide : 3 ≤ 7)
  by_cases h3 : o = 3
  · subst h3; exact (by decide : 3 ≤ 7)
  by_cases h4 : o = 4
  · subst h4; exact (by decide : 4 ≤ 7)
  by_cases h5 : o = 5
  · subst h5; exact (by decide : 5 ≤ 7)
  by_cases h6 : o = 6
  · subst h6; exact (by decide : 3 ≤ 7)
  by_cases h7 : o = 7
  · subst h7; exact (by decide : 4 ≤ 7)
  by_cases h8 : o = 8
  · subst h8; exact (by decide : 7 ≤ 7)
  by_cases h9 : o = 9
  · subst h9; exact (by decide : 4 ≤ 7)
  by_cases h10 : o = 10
  · subst h10; exact (by decide : 5 ≤ 7)
  by_cases h11 : o = 11
  · subst h11; exact (by decide : 3 ≤ 7)
  by_cases h12 : o = 12
  · subst h12; exact (by decide : 1 ≤ 7)
  by_cases h13 : o = 13
  · subst h13; exact (by decide : 1 ≤ 7)
  by_cases h14 : o = 14
  · subst h14; exact (by decide : 1 ≤ 7)
  by_cases h15 : o = 15
  · subst h15; exact (by decide : 6 ≤ 7)
  by_cases h16 : o = 16
  · subst h16; exact (by decide : 3 ≤ 7)
  by_cases h17 : o = 17
  · subst h17; exact (by decide : 5 ≤ 7)
  have e : wordS o = ⟨#[]⟩ := by unfold wordS; rw [if_neg h1, if_neg h2, if_neg h3, if_neg h4, if_neg h5, if_neg h6, if_neg h7, if_neg h8, if_neg h9, if_neg h10, if_neg h11, if_neg h12, if_neg h13, if_neg h14, if_neg h15, if_neg h16, if_neg h17]
  rw [e]; exact (by decide : 0 ≤ 7)
/-- whether an operation has kids -/
def uC (o : Int) : Bool := o == 1 || o == 2 || o == 3 || o == 15 || o == 16 || o == 17
mutual
/-- a condition as a text -/
noncomputable def cdT : Cd → ByteArray
  | .mk o s t v n ks =>
    if uC o = true then wordS o ++ ⟨#[40]⟩ ++ joinB (cdTs ks) ⟨#[44, 32]⟩ ++ ⟨#[41]⟩
    else if uT o = true then wordS o ++ ⟨#[32]⟩ ++ quoS t
    else if uM o = true then wordS o ++ ⟨#[32]⟩ ++ wd n
    else if o = 11 then ⟨#[104, 97, 115, 40]⟩ ++ s ++ ⟨#[41]⟩
    else if uV o = true then ⟨#[46]⟩ ++ s ++ ⟨#[32]⟩ ++ wordS o ++ ⟨#[32]⟩ ++ txS v
    else wordS o
noncomputable def cdTs : List Cd → List ByteArray
  | [] => []
  | c :: l => cdT c :: cdTs l
end
theorem cdTs_map : ∀ l : List Cd, cdTs l = l.map cdT
  | [] => by rw [cdTs]; rfl
  | c :: l => by rw [cdTs, cdTs_map l]; rfl
theorem cdT_eq (c : Cd) : cdT c = if uC c.op = true then wordS c.op ++ ⟨#[40]⟩ ++ joinB (c.kids.map cdT) ⟨#[44, 32]⟩ ++ ⟨#[41]⟩
    else if uT c.op = true then wordS c.op ++ ⟨#[32]⟩ ++ quoS c.text
    else if uM c.op = true then wordS c.op ++ ⟨#[32]⟩ ++ wd c.num
    else if c.op = 11 then ⟨#[104, 97, 115, 40]⟩ ++ c.name ++ ⟨#[41]⟩
    else if uV c.op = true then ⟨#[46]⟩ ++ c.name ++ ⟨#[32]⟩ ++ wordS c.op ++ ⟨#[32]⟩ ++ txS c.val
    else wordS c.op := by
  cases c
  rw [cdT, cdTs_map]
  rfl
/-- the joined texts of some kids -/
theorem join_size : ∀ (l : List Cd), (∀ c ∈ l, (cdT c).size ≤ 200000 * cdN c) → (joinB (l.map cdT) ⟨#[44, 32]⟩).size ≤ 200002 * cdNs l
  | [], _ => by rw [List.map_nil, joinB_nil]; exact Nat.zero_le _
  | [c], h => by
    rw [List.map_cons, List.map_nil, joinB_one, cdNs, cdNs]
    have := h c (by simp)
    omega
  | c :: x :: l, h => by
    have ih := join_size (x :: l) (fun y hy => h y (List.mem_cons_of_mem _ hy))
    have hc := h c (by simp)
    have hp := cdN_pos c
    rw [List.map_cons, List.map_cons, joinB_cons, ByteArray.size_append, ByteArray.size_append, cdNs]
    rw [List.map_cons] at ih
    have h2 : (⟨#[44, 32]⟩ : ByteArray).size = 2 := rfl
    omega
end Go.Proofs.YtnlonleljbbgoaaGreatDoor
