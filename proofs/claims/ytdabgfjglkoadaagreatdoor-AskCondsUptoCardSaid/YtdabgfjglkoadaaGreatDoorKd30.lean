/-
  DERIVED. When a text behind a hash is one tag. Plain law. Conditions: none.
  Conditions: their errors. Plain law. Conditions: none.
  The kids of a node, as the reference asks for them. Plain law. Conditions: none.
  A condition as a text. Plain law. Conditions: none.
  By an AI agent.
-/
import Derived.Test.YtdabgfjglkoadaaGreatDoorKd27
import Derived.Test.YtdabgfjglkoadaaGreatDoorKd28
import Derived.Test.YtdabgfjglkoadaaGreatDoorKd29
import Derived.Test.YtdabgfjglkoadaaGreatDoorKd07
import Derived.Test.YtdabgfjglkoadaaGreatDoorKd05
import Derived.Test.YtdabgfjglkoadaaGreatDoorKd17
import Derived.Test.YtdabgfjglkoadaaGreatDoorKd21
import Derived.Test.YtdabgfjglkoadaaGreatDoorKd15
import Derived.Test.YtdabgfjglkoadaaGreatDoorKd06
import Derived.Test.YtdabgfjglkoadaaGreatDoorKd02
namespace Go.Proofs.YtdabgfjglkoadaaGreatDoor
open Go.RowKit

/-- a hash, and a text -/
def hS (s : ByteArray) : ByteArray := ⟨#[35]⟩ ++ s
/-- is it the text of a tag? -/
def tagFull (s : ByteArray) : Bool := decide (upto (notB tagB) s 0 = s.size) && isTagB s
theorem hS_size (s : ByteArray) : (hS s).size = s.size + 1 := by
  unfold hS
  rw [ByteArray.size_append]
  show 1 + s.size = _
  omega
theorem hS_zero (s : ByteArray) : bt (hS s) 0 = 35 := by
  unfold hS
  rw [bt_app, if_pos (show 0 < (⟨#[35]⟩ : ByteArray).size from Nat.one_pos)]
  rfl
theorem hS_succ (s : ByteArray) (i : Nat) : bt (hS s) (i + 1) = bt s i := by
  unfold hS
  rw [bt_app, if_neg (show ¬ i + 1 < (⟨#[35]⟩ : ByteArray).size by show ¬ i + 1 < 1; omega)]
  rfl
theorem hS_upto (p : Int → Bool) (s : ByteArray) {i : Nat} (hi : i ≤ s.size) : upto p (hS s) (i + 1) = upto p s i + 1 := by
  refine upto_eq (by have := upto_ge p s i; omega) (by rw [hS_size]; have := upto_le (stop := p) hi; omega) (fun j h1 h2 => ?_) ?_
  · obtain ⟨k, rfl⟩ : ∃ k, j = k + 1 := ⟨j - 1, by omega⟩
    rw [hS_succ]
    exact upto_mid (i := i) (by omega) (by omega)
  · rcases Nat.lt_or_ge (upto p s i) s.size with h | h
    · right
      rw [hS_succ]
      exact upto_at h
    · left
      rw [hS_size]
      have := upto_le (stop := p) hi
      omega
theorem hS_text (s : ByteArray) : (hS s).extract 1 (s.size + 1) = s := by
  unfold hS
  apply ByteArray.ext
  simp [ByteArray.data_extract]
/-- the conditions of a tag, of the text itself -/
theorem tag_conds (s : ByteArray) : (upto (notB tagB) (hS s) 1 = (hS s).size ∧ tagOk (hS s) 0 (hS s).size) ↔ tagFull s = true := by
  have e1 : upto (notB tagB) (hS s) 1 = upto (notB tagB) s 0 + 1 := hS_upto _ s (Nat.zero_le _)
  have e2 : upto letB (hS s) 1 = upto letB s 0 + 1 := hS_upto _ s (Nat.zero_le _)
  have e3 : bt (hS s) 1 = bt s 0 := hS_succ s 0
  unfold tagOk tagFull isTagB letTo
  rw [Nat.zero_add, e1, e2, e3, hS_size]
  simp only [Bool.and_eq_true, decide_eq_true_iff, Bool.not_eq_true', beq_eq_false_iff_ne, ne_eq]
  constructor
  · rintro ⟨h1, h2, h3, h4, h5⟩
    obtain ⟨k, hk⟩ : ∃ k, s.size = k + 1 := ⟨s.size - 1, by omega⟩
    rw [Nat.add_sub_cancel, hk, hS_succ] at h5
    refine ⟨by omega, ⟨⟨by omega, by omega⟩, h4⟩, ?_⟩
    rw [hk, Nat.add_sub_cancel]
    exact h5
  · rintro ⟨h1, ⟨⟨h2, h3⟩, h4⟩, h5⟩
    obtain ⟨k, hk⟩ : ∃ k, s.size = k + 1 := ⟨s.size - 1, by omega⟩
    refine ⟨by omega, by omega, by omega, h4, ?_⟩
    rw [Nat.add_sub_cancel, hk, hS_succ]
    rw [hk, Nat.add_sub_cancel] at h5
    exact h5
/-- what a tag among the spans is -/
theorem tag_span (t : ByteArray) : ∀ x ∈ spans t, x.kind = 6 → x.text = t.extract (x.frm + 1) x.to_ ∧ upto (notB tagB) t (x.frm + 1) = x.to_ ∧ tagOk t x.frm x.to_ ∧ x.frm < t.size := by
  refine spans_all t (P := fun x => x.kind = 6 → x.text = t.extract (x.frm + 1) x.to_ ∧ upto (notB tagB) t (x.frm + 1) = x.to_ ∧ tagOk t x.frm x.to_ ∧ x.frm < t.size) (fun a ha => ?_) (fun x b h => h) (fun x h g => by omega)
  intro hk
  have hS := tokA_is t a
  rcases tokA_cases t a with h | h | h | h | h | h | h
  · exfalso
    generalize tokA t a = x at h hk
    unfold tokE at h; split at h
    · injection h with h; subst h; exact absurd hk (by show (2 : Int) ≠ 6; decide)
    · cases h
  · exfalso
    generalize tokA t a = x at h hk
    unfold tokC at h; dsimp only at h; split at h
    · injection h with h; subst h; exact absurd hk (by show (3 : Int) ≠ 6; decide)
    · cases h
  · exfalso
    generalize tokA t a = x at h hk
    unfold tokL at h; dsimp only at h; split at h
    · split at h
      · injection h with h; subst h; exact absurd hk (by show (4 : Int) ≠ 6; decide)
      · split at h
        · injection h with h; subst h; exact absurd hk (by show (4 : Int) ≠ 6; decide)
        · cases h
    · cases h
  · exfalso
    generalize tokA t a = x at h hk
    unfold tokR at h; dsimp only at h; split at h
    · injection h with h; subst h; exact absurd hk (by show (5 : Int) ≠ 6; decide)
    · cases h
  · generalize tokA t a = x at h hk ⊢
    unfold tokT at h; dsimp only at h; split at h
    · rename_i c
      injection h with h; subst h
      exact ⟨rfl, rfl, c.2.2, ha⟩
    · cases h
  · exfalso
    generalize tokA t a = x at h hk
    unfold tokB at h; split at h
    · injection h with h; subst h; exact absurd hk (by show (7 : Int) ≠ 6; decide)
    · cases h
  · exfalso
    rw [h] at hk
    exact absurd hk (by show (1 : Int) ≠ 6; decide)
/-- a text behind a hash is one tag if it is the text of a tag -/
theorem tag_of_full {s : ByteArray} (h : tagFull s = true) : textsK 6 (spans (hS s)) = [.string s] := by
  obtain ⟨h1, h2⟩ := (tag_conds s).2 h
  have b0 := hS_zero s
  have hT : tokT (hS s) 0 = some ⟨6, 0, (hS s).size, (hS s).extract 1 (hS s).size, noB, 0, false⟩ := by
    unfold tokT
    dsimp only
    rw [Nat.zero_add, h1, if_pos ⟨b0, .inl rfl, h2⟩]
  have hA : tokA (hS s) 0 = ⟨6, 0, (hS s).size, s, noB, 0, false⟩ := by
    have hE : tokE (hS s) 0 = none := by unfold tokE; rw [if_neg (by rw [b0]; exact fun h => absurd h.1 (by decide))]
    have hC : tokC (hS s) 0 = none := by unfold tokC; dsimp only; rw [if_neg (by rw [b0]; exact fun h => absurd h.1 (by decide))]
    have hL : tokL (hS s) 0 = none := tokL_head (by rw [b0]; exact fun h => absurd h.1 (by decide))
    have hR : tokR (hS s) 0 = none := tokR_head (by rw [b0]; exact fun h => absurd h.1 (by decide))
    unfold tokA
    rw [hE, hC, hL, hR, hT, show (hS s).size = s.size + 1 from hS_size s, hS_text]
    rfl
  have hK : toks (hS s) 0 = [⟨6, 0, (hS s).size, s, noB, 0, false⟩] := by
    rw [toks_step (by rw [hS_size]; omega), hA, toks_end (Nat.le_refl _)]
  have hSt : ∃ b, strong (toks (hS s) 0) = [⟨6, 0, (hS s).size, s, noB, 0, b⟩] := by
    rw [hK]
    exact ⟨_, rfl⟩
  obtain ⟨b, hb⟩ := hSt
  unfold spans
  rw [hb]
  rfl
/-- and only then -/
theorem full_of_tag {s : ByteArray} (h : textsK 6 (spans (hS s)) = [.string s]) : tagFull s = true := by
  have hm : Value.string s ∈ textsK 6 (spans (hS s)) := by rw [h]; simp
  unfold textsK at hm
  obtain ⟨x, hx, hv⟩ := List.mem_flatMap.1 hm
  by_cases hk : x.kind = 6
  · rw [if_pos hk] at hv
    have hs : s = x.text := by simpa using hv
    obtain ⟨t1, t2, t3, t4⟩ := tag_span (hS s) x hx hk
    have hz : s.size = min x.to_ (hS s).size - (x.frm + 1) := by
      have := congrArg ByteArray.size hs
      rw [t1, ByteArray.size_extract] at this
      exact this
    have hle : x.to_ ≤ (hS s).size := by rw [← t2]; exact upto_le (by omega)
    have hge := upto_ge letB (hS s) (x.frm + 1)
    have h1 := t3.1
    rw [hS_size] at hle hz t4
    have hf : x.frm = 0 := by omega
    have ht : x.to_ = (hS s).size := by rw [hS_size]; omega
    rw [hf, ht] at t2 t3
    exact (tag_conds s).1 ⟨t2, t3⟩
  · rw [if_neg hk] at hv
    cases hv
end Go.Proofs.YtdabgfjglkoadaaGreatDoor
namespace Go.Proofs.YtdabgfjglkoadaaGreatDoor

/-! ### the fields that an operation uses -/
def uN (o : Int) : Bool := decide (11 ≤ o ∧ o ≤ 14)
def uT (o : Int) : Bool := decide (4 ≤ o ∧ o ≤ 7)
def uV (o : Int) : Bool := decide (12 ≤ o ∧ o ≤ 14)
def uM (o : Int) : Bool := decide (9 ≤ o ∧ o ≤ 10)
def uK (o : Int) : Int := if o = 1 ∨ o = 2 then -1 else if o = 3 ∨ 15 ≤ o ∧ o ≤ 17 then 1 else 0
/-- no value -/
def zeroB (v : Vl) : Bool := v.kind == 0 && v.int_ == 0 && v.to_ == 0 && v.text.toList == [] && v.items.isEmpty
/-- a field that is not used, or a wrong number of kids -/
def formB (c : Cd) : Bool := !uN c.op && c.name.toList != [] || !uT c.op && c.text.toList != [] || !uV c.op && !zeroB c.val || !uM c.op && c.num != 0 || decide (0 ≤ uK c.op) && ((c.kids.length : Int) != uK c.op)
/-- the error of the form of a node -/
def fmE (c : Cd) : Int := if c.op < 1 ∨ 17 < c.op then 10 else if formB c then 1 else 0
/-- the error of what a node holds, its form right -/
def inE (c : Cd) : Int :=
  if c.op = 4 then (if c.text.size = 0 ∨ 200 < c.text.size then 4 else if ctl c.text then 9 else 0)
  else if c.op = 5 ∨ c.op = 7 then (if isTgt c.text then 0 else 3)
  else if c.op = 6 then (if tagFull c.text then 0 else 3)
  else if c.op = 9 ∨ c.op = 10 then (if c.num < 0 ∨ 1000000 < c.num then 2 else 0)
  else if c.op = 11 then nmErr c.name
  else if 12 ≤ c.op ∧ c.op ≤ 14 then (if nmErr c.name ≠ 0 then nmErr c.name else if c.val.kind = 0 then 10 else vErr c.val)
  else 0
def ndE (c : Cd) : Int := if fmE c ≠ 0 then fmE c else inE c
mutual
/-- the first error of the nodes -/
def viE : Cd → Int
  | .mk o s t v n ks => if ndE (.mk o s t v n ks) ≠ 0 then ndE (.mk o s t v n ks) else viEs ks
def viEs : List Cd → Int
  | [] => 0
  | c :: l => if viE c ≠ 0 then viE c else viEs l
end
theorem viE_eq (c : Cd) : viE c = if ndE c ≠ 0 then ndE c else viEs c.kids := by cases c; rw [viE]; rfl
theorem viEs_app : ∀ (l m : List Cd), viEs (l ++ m) = if viEs l ≠ 0 then viEs l else viEs m
  | [], m => by rw [List.nil_append, viEs, if_neg (fun h => h rfl)]
  | c :: l, m => by
    rw [List.cons_append, viEs, viEs, viEs_app l m]
    by_cases h : viE c = 0
    · simp [h]
    · simp [h]
theorem viEs_take {l : List Cd} {k : Nat} {x : Cd} (h : l[k]? = some x) (h0 : viEs (l.take k) = 0) : viEs (l.take (k + 1)) = viE x := by
  rw [take_one h, viEs_app, if_neg (fun k => k h0), viEs, viEs]
  by_cases h1 : viE x = 0
  · rw [if_neg (fun k => k h1), h1]
  · rw [if_pos h1]
theorem viEs_stop {l : List Cd} {k : Nat} (h : viEs (l.take k) ≠ 0) : viEs l = viEs (l.take k) := by
  have := viEs_app (l.take k) (l.drop k)
  rw [List.take_append_drop, if_pos h] at this
  exact this
/-- the error of a condition -/
def cdErr (c : Cd) : Int := if 60 < cdN c then 4 else if 40 < cdD c then 13 else viE c
end Go.Proofs.YtdabgfjglkoadaaGreatDoor
namespace Go.Proofs.YtdabgfjglkoadaaGreatDoor
open Go.RowKit

def oneB (o : Int) : Bool := (o == 3) || decide (15 ≤ o)
def manyB (o : Int) : Bool := (o == 1) || (o == 2)
theorem kerr_eq {o : Int} (h1 : 1 ≤ o) (h2 : o ≤ 17) (n : Nat) : (decide (0 ≤ uK o) && ((n : Int) != uK o)) = (oneB o && ((n : Int) != 1) || !oneB o && !manyB o && decide (0 < (n : Int))) := by
  unfold uK oneB manyB
  by_cases a1 : o = 1
  · subst a1; rfl
  by_cases a2 : o = 2
  · subst a2; rfl
  by_cases a3 : o = 3
  · subst a3; simp
  by_cases a4 : 15 ≤ o
  · have e1 : (o == 3) = false := by simpa using a3
    rw [if_neg (by omega), if_pos (by omega), e1, decide_eq_true a4]
    simp
  · have e1 : (o == 3) = false := by simpa using a3
    have e2 : (o == 1) = false := by simpa using a1
    have e3 : (o == 2) = false := by simpa using a2
    rw [if_neg (by omega), if_neg (by omega), e1, e2, e3, decide_eq_false a4]
    simp only [Bool.or_self, Bool.false_and, Bool.not_false, Bool.true_and, Bool.false_or]
    rw [Bool.eq_iff_iff]
    simp
    omega
theorem uM_eq (o : Int) : uM o = ((o == 9) || (o == 10)) := by
  unfold uM
  rw [Bool.eq_iff_iff]
  simp
  omega
end Go.Proofs.YtdabgfjglkoadaaGreatDoor
namespace Go.Proofs.YtdabgfjglkoadaaGreatDoor
open Go.RowKit

/-- the word of an operation -/
def wordS (o : Int) : ByteArray :=
  if o = 1 then ⟨#[97, 108, 108]⟩ else
  if o = 2 then ⟨#[97, 110, 121]⟩ else
  if o = 3 then ⟨#[110, 111, 116]⟩ else
  if o = 4 then ⟨#[115, 97, 121, 115]⟩ else
  if o = 5 then ⟨#[108, 105, 110, 107, 115]⟩ else
  if o = 6 then ⟨#[116, 97, 103]⟩ else
  if o = 7 then ⟨#[112, 97, 103, 101]⟩ else
  if o = 8 then ⟨#[105, 115, 45, 112, 97, 103, 101]⟩ else
  if o = 9 then ⟨#[100, 101, 101, 112]⟩ else
  if o = 10 then ⟨#[117, 110, 100, 101, 114]⟩ else
  if o = 11 then ⟨#[104, 97, 115]⟩ else
  if o = 12 then ⟨#[61]⟩ else
  if o = 13 then ⟨#[60]⟩ else
  if o = 14 then ⟨#[62]⟩ else
  if o = 15 then ⟨#[112, 97, 114, 101, 110, 116]⟩ else
  if o = 16 then ⟨#[107, 105, 100]⟩ else
  if o = 17 then ⟨#[98, 101, 108, 111, 119]⟩ else
  ⟨#[]⟩
theorem wordS_1 : wordS 1 = ⟨#[97, 108, 108]⟩ := rfl
theorem wordS_2 : wordS 2 = ⟨#[97, 110, 121]⟩ := rfl
theorem wordS_3 : wordS 3 = ⟨#[110, 111, 116]⟩ := rfl
theorem wordS_4 : wordS 4 = ⟨#[115, 97, 121, 115]⟩ := rfl
theorem wordS_5 : wordS 5 = ⟨#[108, 105, 110, 107, 115]⟩ := rfl
theorem wordS_6 : wordS 6 = ⟨#[116, 97, 103]⟩ := rfl
theorem wordS_7 : wordS 7 = ⟨#[112, 97, 103, 101]⟩ := rfl
theorem wordS_8 : wordS 8 = ⟨#[105, 115, 45, 112, 97, 103, 101]⟩ := rfl
theorem wordS_9 : wordS 9 = ⟨#[100, 101, 101, 112]⟩ := rfl
theorem wordS_10 : wordS 10 = ⟨#[117, 110, 100, 101, 114]⟩ := rfl
theorem wordS_11 : wordS 11 = ⟨#[104, 97, 115]⟩ := rfl
theorem wordS_12 : wordS 12 = ⟨#[61]⟩ := rfl
theorem wordS_13 : wordS 13 = ⟨#[60]⟩ := rfl
theorem wordS_14 : wordS 14 = ⟨#[62]⟩ := rfl
theorem wordS_15 : wordS 15 = ⟨#[112, 97, 114, 101, 110, 116]⟩ := rfl
theorem wordS_16 : wordS 16 = ⟨#[107, 105, 100]⟩ := rfl
theorem wordS_17 : wordS 17 = ⟨#[98, 101, 108, 111, 119]⟩ := rfl
theorem wordS_size (o : Int) : (wordS o).size ≤ 7 := by
  by_cases h1 : o = 1
  · subst h1; exact (by decide : 3 ≤ 7)
  by_cases h2 : o = 2
  · subst h2; exact (by decide : 3 ≤ 7)
  by_cases h3 : o = 3
  · subst h3; exact (by decide : 3 ≤ 7)
  by_cases h4 : o = 4
  · subst h4; exact (by decide : 4 ≤ 7)
  by_cases h5 : o = 5
  · subst h5; exact (by decide : 5 ≤ 7)
  by_cases h6 : o = 6
  · subst h6; exact (by decide : 3 ≤ 7)
  by_cases h7 : o = 7
  · subst h7; exact (by decide : 4 ≤ 7)
  by_cases h8 : o = 8
  · subst h8; exact (by decide : 7 ≤ 7)
  by_cases h9 : o = 9
  · subst h9; exact (by decide : 4 ≤ 7)
  by_cases h10 : o = 10
  · subst h10; exact (by decide : 5 ≤ 7)
  by_cases h11 : o = 11
  · subst h11; exact (by decide : 3 ≤ 7)
  by_cases h12 : o = 12
  · subst h12; exact (by decide : 1 ≤ 7)
  by_cases h13 : o = 13
  · subst h13; exact (by decide : 1 ≤ 7)
  by_cases h14 : o = 14
  · subst h14; exact (by decide : 1 ≤ 7)
  by_cases h15 : o = 15
  · subst h15; exact (by decide : 6 ≤ 7)
  by_cases h16 : o = 16
  · subst h16; exact (by decide : 3 ≤ 7)
  by_cases h17 : o = 17
  · subst h17; exact (by decide : 5 ≤ 7)
  have e : wordS o = ⟨#[]⟩ := by unfold wordS; rw [if_neg h1, if_neg h2, if_neg h3, if_neg h4, if_neg h5, if_neg h6, if_neg h7, if_neg h8, if_neg h9, if_neg h10, if_neg h11, if_neg h12, if_neg h13, if_neg h14, if_neg h15, if_neg h16, if_neg h17]
  rw [e]; exact (by decide : 0 ≤ 7)
/-- whether an operation has kids -/
def uC (o : Int) : Bool := o == 1 || o == 2 || o == 3 || o == 15 || o == 16 || o == 17
mutual
/-- a condition as a text -/
noncomputable def cdT : Cd → ByteArray
  | .mk o s t v n ks =>
    if uC o = true then wordS o ++ ⟨#[40]⟩ ++ joinB (cdTs ks) ⟨#[44, 32]⟩ ++ ⟨#[41]⟩
    else if uT o = true then wordS o ++ ⟨#[32]⟩ ++ quoS t
    else if uM o = true then wordS o ++ ⟨#[32]⟩ ++ wd n
    else if o = 11 then ⟨#[104, 97, 115, 40]⟩ ++ s ++ ⟨#[41]⟩
    else if uV o = true then ⟨#[46]⟩ ++ s ++ ⟨#[32]⟩ ++ wordS o ++ ⟨#[32]⟩ ++ txS v
    else wordS o
noncomputable def cdTs : List Cd → List ByteArray
  | [] => []
  | c :: l => cdT c :: cdTs l
end
theorem cdTs_map : ∀ l : List Cd, cdTs l = l.map cdT
  | [] => by rw [cdTs]; rfl
  | c :: l => by rw [cdTs, cdTs_map l]; rfl
theorem cdT_eq (c : Cd) : cdT c = if uC c.op = true then wordS c.op ++ ⟨#[40]⟩ ++ joinB (c.kids.map cdT) ⟨#[44, 32]⟩ ++ ⟨#[41]⟩
    else if uT c.op = true then wordS c.op ++ ⟨#[32]⟩ ++ quoS c.text
    else if uM c.op = true then wordS c.op ++ ⟨#[32]⟩ ++ wd c.num
    else if c.op = 11 then ⟨#[104, 97, 115, 40]⟩ ++ c.name ++ ⟨#[41]⟩
    else if uV c.op = true then ⟨#[46]⟩ ++ c.name ++ ⟨#[32]⟩ ++ wordS c.op ++ ⟨#[32]⟩ ++ txS c.val
    else wordS c.op := by
  cases c
  rw [cdT, cdTs_map]
  rfl
/-- the joined texts of some kids -/
theorem join_size : ∀ (l : List Cd), (∀ c ∈ l, (cdT c).size ≤ 200000 * cdN c) → (joinB (l.map cdT) ⟨#[44, 32]⟩).size ≤ 200002 * cdNs l
  | [], _ => by rw [List.map_nil, joinB_nil]; exact Nat.zero_le _
  | [c], h => by
    rw [List.map_cons, List.map_nil, joinB_one, cdNs, cdNs]
    have := h c (by simp)
    omega
  | c :: x :: l, h => by
    have ih := join_size (x :: l) (fun y hy => h y (List.mem_cons_of_mem _ hy))
    have hc := h c (by simp)
    have hp := cdN_pos c
    rw [List.map_cons, List.map_cons, joinB_cons, ByteArray.size_append, ByteArray.size_append, cdNs]
    rw [List.map_cons] at ih
    have h2 : (⟨#[44, 32]⟩ : ByteArray).size = 2 := rfl
    omega
end Go.Proofs.YtdabgfjglkoadaaGreatDoor
