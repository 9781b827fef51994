/-
  DERIVED. DERIVED: THE SHELF's CONTRACTS AT THIS DUMP, IN PLAIN WORDS (tools/lay-plain.mjs out of 'TryShelf.lean', which tools/lay-shelf.mjs wrote): THE SAME DECLARATIONS UNDER THE SAME NAMES: 'import', 'namespace', 'open', 'def', 'theorem' AND NOTHING ELSE: no command of the shelf's: FOR A HAND-IN. Each laying: the table of numbers ('.._ren') and one theorem, a field a fact of the dump's own or the kernel's comparison; each contract: ONE APPLICATION.
  Plain law: a day's date as a text. Conditions: none.
  Plain law: values as trees, how they are compared, and that this is a total order. Conditions: none.
  A start for the witnesses: the seven listed variables (TextExcerpts) hold what their initialisers lay. Conditions: none.
  By an AI agent.
-/
import Derived.Shelf.Strings.Builder1
import Derived.Shelf.Strings.Builder2
import Derived.Shelf.Strings.OnBuilder
import Derived.Shelf.Small.Strs
import Derived.Shelf.Strings.BuilderF
import Derived.Test.YtbdcimakdiegnaaGreatDoorProg
import Derived.Test.YtbdcimakdiegnaaGreatDoorVa02
import Derived.Lib.Repeat
import Derived.WalkKit
import Derived.Test.YtbdcimakdiegnaaGreatDoorRows
import Derived.Test.YtbdcimakdiegnaaGreatDoorCards
import Derived.Test.YtbdcimakdiegnaaGreatDoorTie
import Derived.Deep.DeepHandedRow
import Derived.Deep.DeepWitnessRowRef
import Derived.Lib.LaidTab
import Derived.ProofKit
namespace Go.Proofs
open Go.Shelf

def Tryz.lays156_ren : Go.Shelf.Ren := ⟨fun | 156 => 49 | 165 => 87 | 166 => 25 | 169 => 26 | 240 => 55 | 241 => 117 | 276 => 95 | 277 => 156 | n => n, fun | 31 => 73 | 9 => 9 | 3 => 3 | 4 => 4 | 0 => 0 | 20 => 20 | 72 => 58 | 76 => 63 | 70 => 55 | 37 => 56 | 75 => 62 | 127 => 97 | 164 => 132 | 5 => 5 | 80 => 65 | n => n, fun | n => n⟩
theorem Tryz.lays156 : Go.Proofs.Lays.n156 Tryz.prog Tryz.lays156_ren := {
  mixed := by kernel_rfl
  f156 := Tryz.func49.trans (congrArg some (by kernel_rfl))
  f165 := Tryz.func87.trans (congrArg some (by kernel_rfl))
  f166 := Tryz.func25.trans (congrArg some (by kernel_rfl))
  f169 := Tryz.func26.trans (congrArg some (by kernel_rfl))
  f240 := Tryz.func55.trans (congrArg some (by kernel_rfl))
  f241 := Tryz.func117.trans (congrArg some (by kernel_rfl))
  f276 := Tryz.func95.trans (congrArg some (by kernel_rfl))
  f277 := Tryz.func156.trans (congrArg some (by kernel_rfl))
  t0 := Tryz.underlying0
  a0 := Tryz.isAgg0
  z0 := Tryz.sizeOf0
  v0 := Tryz.zeroValue0
  t3 := Tryz.underlying3
  a3 := Tryz.isAgg3
  z3 := Tryz.sizeOf3
  v3 := Tryz.zeroValue3
  t4 := Tryz.underlying4
  a4 := Tryz.isAgg4
  z4 := Tryz.sizeOf4
  v4 := Tryz.zeroValue4
  t9 := Tryz.underlying9
  a9 := Tryz.isAgg9
  z9 := Tryz.sizeOf9
  v9 := Tryz.zeroValue9
  t20 := Tryz.underlying20
  a20 := Tryz.isAgg20
  z20 := Tryz.sizeOf20
  v20 := Tryz.zeroValue20
  t31 := Tryz.underlying73
  a31 := Tryz.isAgg73
  z31 := Tryz.sizeOf73
  v31 := Tryz.zeroValue73
  t37 := Tryz.underlying56
  a37 := Tryz.isAgg56
  z37 := Tryz.sizeOf56
  v37 := Tryz.zeroValue56
  t70 := Tryz.underlying55
  a70 := Tryz.isAgg55
  z70 := Tryz.sizeOf55
  v70 := Tryz.zeroValue55
  t72 := Tryz.underlying58
  a72 := Tryz.isAgg58
  z72 := Tryz.sizeOf58
  v72 := Tryz.zeroValue58
  t75 := Tryz.underlying62
  a75 := Tryz.isAgg62
  z75 := Tryz.sizeOf62
  v75 := Tryz.zeroValue62
  t76 := Tryz.underlying63
  a76 := Tryz.isAgg63
  z76 := Tryz.sizeOf63
  v76 := Tryz.zeroValue63
  t127 := Tryz.underlying97
  a127 := Tryz.isAgg97
  z127 := Tryz.sizeOf97
  v127 := Tryz.zeroValue97
  t164 := Tryz.underlying132
  a164 := Tryz.isAgg132
  z164 := Tryz.sizeOf132
  v164 := Tryz.zeroValue132 }
theorem Tryz.Builder_Extra_156 : Builder.Extra Tryz.prog Tryz.lays156_ren := {
  sizeBuilder := by kernel_rfl
  liesBuilder := by kernel_rfl
  t5 := Tryz.underlying5
  a5 := Tryz.isAgg5
  z5 := Tryz.sizeOf5
  v5 := Tryz.zeroValue5
  infoByte := by kernel_rfl
  cellsByte := by kernel_rfl
  sizeByte := by kernel_rfl
  neB5 := by decide }
open Go.RowKit in
theorem Tryz.strings_Join_none (a : Option Addr) (c : Nat) (sep : ByteArray) (w : World) :
    Calls Tryz.prog 49 #[.slice a 0 c, .string sep] w fun e w' => e = .returned (.string ⟨#[]⟩) ∧ w' = w := Any.strings_Join_none Tryz.lays156 Tryz.Builder_Extra_156 a c sep w
open Go.RowKit in
theorem Tryz.strings_Join (bk o c : Nat) (xs : List ByteArray) (sep : ByteArray) (w : World) (hcells : ∀ (j : Nat) x, xs[j]? = some x → w.cell? ⟨bk, o + j, none⟩ = some (.string x)) (hbk : bk < w.heap.size) (hN : xs.length ≤ 140737488355328) (hcap : xs.length ≤ c) (hlen : (Lib.join (xs.map (·.data.toList)) sep.data.toList).length ≤ 140737488355328) :
    Calls Tryz.prog 49 #[.slice (some ⟨bk, o, none⟩) xs.length c, .string sep] w fun e w' => e = .returned (.string ⟨(Lib.join (xs.map (·.data.toList)) sep.data.toList).toArray⟩) ∧ Below w.heap.size w w' := Any.strings_Join Tryz.lays156 Tryz.Builder_Extra_156 bk o c xs sep w hcells hbk hN hcap hlen
end Go.Proofs
namespace Go.Proofs.YtbdcimakdiegnaaGreatDoor
open cal

theorem date_uniq {d y m k y' m' k' : Int} (h : IsDate d y m k) (h' : IsDate d y' m' k') : y = y' ∧ m = m' ∧ k = k' := by
  obtain ⟨a0, a1, a2, a3, a4, a5, a6, a7⟩ := h
  obtain ⟨c0, c1, c2, c3, c4, c5, c6, c7⟩ := h'
  obtain rfl : y = y' := bef_uniq a1 a2 c1 c2
  rcases Int.lt_trichotomy m m' with h2 | h2 | h2
  · have := cum_mono y a3 (by omega) h2
    omega
  · subst h2
    exact ⟨rfl, rfl, by omega⟩
  · have := cum_mono y c3 (by omega) h2
    omega
open Classical in
/-- the date of a day -/
noncomputable def ymd (d : Int) : Int × Int × Int := if h : ∃ p : Int × Int × Int, IsDate d p.1 p.2.1 p.2.2 then h.choose else (0, 0, 0)
theorem ymd_is {d y m k : Int} (h : IsDate d y m k) : ymd d = (y, m, k) := by
  have hx : ∃ p : Int × Int × Int, IsDate d p.1 p.2.1 p.2.2 := ⟨(y, m, k), h⟩
  unfold ymd
  rw [dif_pos hx]
  obtain ⟨h1, h2, h3⟩ := date_uniq hx.choose_spec h
  exact Prod.ext h1 (Prod.ext h2 h3)
/-- a number with zeros ahead -/
def padL (n g : Int) : List UInt8 := List.replicate (g - ((Lib.itoa n).length : Int)).toNat 48 ++ Lib.itoa n
noncomputable def datL (d : Int) : List UInt8 := padL (ymd d).1 4 ++ [45] ++ padL (ymd d).2.1 2 ++ [45] ++ padL (ymd d).2.2 2
theorem rep_list (c : Nat) : Lib.repeatL [48] c = List.replicate c 48 := by
  induction c with
  | zero => rfl
  | succ c ih =>
    rw [List.replicate_succ, ← ih]
    rfl
theorem padL_len (n g : Int) : (padL n g).length ≤ g.toNat + (Lib.itoa n).length := by
  unfold padL
  rw [List.length_append, List.length_replicate]
  omega
end Go.Proofs.YtbdcimakdiegnaaGreatDoor
namespace Go.Proofs.YtbdcimakdiegnaaGreatDoor
open Go.RowKit

inductive V where
  | mk (kind int to_ : Int) (text : ByteArray) (items : List V)

def c3 (a b : Int) : Int := if a < b then -1 else if b < a then 1 else 0
def cL (a b : List UInt8) : Int := if Op.bytesLess a b = true then -1 else if a = b then 0 else 1

def cmpL (f : V → V → Int) : List V → List V → Int
  | [], [] => 0
  | [], _ :: _ => -1
  | _ :: _, [] => 1
  | a :: l, b :: m => if f a b = 0 then cmpL f l m else f a b

def cmpV : Nat → V → V → Int
  | 0, _, _ => 0
  | d + 1, .mk k n t s l, .mk k' n' t' s' l' =>
    if c3 k k' = 0 then
      if k = 1 ∨ k = 2 ∨ k = 4 then c3 n n'
      else if k = 5 then (if c3 n n' = 0 then c3 t t' else c3 n n')
      else if k = 3 ∨ k = 6 then cL s.data.toList s'.data.toList
      else if k = 7 then cmpL (cmpV d) l l'
      else 0
    else c3 k k'

structure Tot {α : Type} (f : α → α → Int) : Prop where
  anti : ∀ a b, f b a = - f a b
  trans : ∀ a b c, f a b ≤ 0 → f b c ≤ 0 → f a c ≤ 0 ∧ (f a c < 0 ∨ (f a b = 0 ∧ f b c = 0))
theorem Tot.refl {α : Type} {f : α → α → Int} (h : Tot f) (a : α) : f a a = 0 := by have := h.anti a a; omega
theorem Tot.zero {α : Type} {f : α → α → Int} (h : Tot f) {a b c : α} (h1 : f a b = 0) (h2 : f b c = 0) : f a c = 0 := by
  have h3 := h.trans a b c (by omega) (by omega)
  have h4 := h.trans c b a (by have := h.anti b c; omega) (by have := h.anti a b; omega)
  have := h.anti a c
  omega
theorem Tot.left {α : Type} {f : α → α → Int} (h : Tot f) {a b : α} (c : α) (h1 : f a b = 0) : (f a c < 0 ↔ f b c < 0) ∧ (f a c = 0 ↔ f b c = 0) := by
  have h2 := h.trans b a c (by have := h.anti a b; omega)
  have h3 := h.trans a b c (by omega)
  refine ⟨⟨fun g => ?_, fun g => ?_⟩, ⟨fun g => ?_, fun g => ?_⟩⟩
  · have := h2 (by omega); omega
  · have := h3 (by omega); omega
  · exact h.zero (by have := h.anti a b; omega) g
  · exact h.zero h1 g

theorem tot_c3 : Tot c3 := by
  refine ⟨fun a b => ?_, fun a b c h1 h2 => ?_⟩
  · unfold c3
    repeat' split
    all_goals omega
  · unfold c3 at *
    repeat' split at h1
    all_goals repeat' split at h2
    all_goals repeat' split
    all_goals omega

theorem less_irr : ∀ a : List UInt8, Op.bytesLess a a = false
  | [] => rfl
  | a :: l => by simp [Op.bytesLess, less_irr l]
theorem less_asymm : ∀ a b : List UInt8, Op.bytesLess a b = true → Op.bytesLess b a = false
  | [], [], h => by simp [Op.bytesLess] at h
  | [], _ :: _, _ => by simp [Op.bytesLess]
  | _ :: _, [], h => by simp [Op.bytesLess] at h
  | a :: l, b :: m, h => by
    simp only [Op.bytesLess, Bool.or_eq_true, decide_eq_true_eq, Bool.and_eq_true, beq_iff_eq, Bool.or_eq_false_iff, decide_eq_false_iff_not, Bool.and_eq_false_iff] at h ⊢
    rcases h with h | ⟨h, h'⟩
    · refine ⟨by rw [UInt8.lt_iff_toNat_lt] at *; omega, ?_⟩
      left
      simp only [beq_eq_false_iff_ne]
      intro e; subst e; rw [UInt8.lt_iff_toNat_lt] at h; omega
    · subst h
      exact ⟨by rw [UInt8.lt_iff_toNat_lt]; omega, .inr (less_asymm l m h')⟩
theorem less_total : ∀ a b : List UInt8, Op.bytesLess a b = false → a ≠ b → Op.bytesLess b a = true
  | [], [], _, h => absurd rfl h
  | [], _ :: _, h, _ => by simp [Op.bytesLess] at h
  | _ :: _, [], _, _ => by simp [Op.bytesLess]
  | a :: l, b :: m, h, hne => by
    simp only [Op.bytesLess, Bool.or_eq_false_iff, decide_eq_false_iff_not, Bool.and_eq_false_iff, Bool.or_eq_true, decide_eq_true_eq, Bool.and_eq_true, beq_iff_eq] at h ⊢
    obtain ⟨h1, h2⟩ := h
    by_cases e : a = b
    · subst e
      rcases h2 with h2 | h2
      · simp at h2
      · exact .inr ⟨rfl, less_total l m h2 (fun e => hne (by rw [e]))⟩
    · left
      rw [UInt8.lt_iff_toNat_lt] at *
      have : a.toNat ≠ b.toNat := fun h => e (UInt8.toNat_inj.1 h)
      omega
theorem less_trans : ∀ a b c : List UInt8, Op.bytesLess a b = true → Op.bytesLess b c = true → Op.bytesLess a c = true
  | _, [], _, h, _ => by simp [Op.bytesLess] at h
  | _, _ :: _, [], _, h => by simp [Op.bytesLess] at h
  | [], _ :: _, _ :: _, _, _ => by simp [Op.bytesLess]
  | a :: l, b :: m, c :: n, h, h' => by
    simp only [Op.bytesLess, Bool.or_eq_true, decide_eq_true_eq, Bool.and_eq_true, beq_iff_eq] at h h' ⊢
    rcases h with h | ⟨rfl, h⟩ <;> rcases h' with h' | ⟨rfl, h'⟩
    · left; rw [UInt8.lt_iff_toNat_lt] at *; omega
    · exact .inl h
    · exact .inl h'
    · exact .inr ⟨rfl, less_trans l m n h h'⟩

theorem tot_cL : Tot cL := by
  refine ⟨fun a b => ?_, fun a b c h1 h2 => ?_⟩
  · unfold cL
    by_cases e : a = b
    · subst e; simp [less_irr]
    · have e' : b ≠ a := fun h => e h.symm
      cases h : Op.bytesLess a b
      · have := less_total a b h e
        simp [this, e]
      · have := less_asymm a b h
        simp [this, e']
  · unfold cL at *
    by_cases e : a = b
    · subst e
      simp only [less_irr, Bool.false_eq_true, if_false, if_true] at *
      repeat' split at h2
      all_goals simp_all
    · by_cases e' : b = c
      · subst e'
        simp only [less_irr, Bool.false_eq_true, if_false, if_true, e] at *
        repeat' split at h1
        all_goals simp_all
      · simp only [e, e', if_false] at *
        have g1 : Op.bytesLess a b = true := by
          cases h : Op.bytesLess a b
          · rw [h] at h1; simp at h1
          · rfl
        have g2 : Op.bytesLess b c = true := by
          cases h : Op.bytesLess b c
          · rw [h] at h2; simp at h2
          · rfl
        simp [less_trans a b c g1 g2]

theorem tot_cmpL {f : V → V → Int} (h : Tot f) : Tot (cmpL f) := by
  refine ⟨fun a => ?_, fun a => ?_⟩
  · induction a with
    | nil => intro b; cases b <;> simp [cmpL]
    | cons a l ih =>
      intro b
      cases b with
      | nil => simp [cmpL]
      | cons b m =>
        have := h.anti a b
        simp only [cmpL]
        by_cases e : f a b = 0
        · rw [if_pos (by omega), if_pos e]; exact ih m
        · rw [if_neg (by omega), if_neg e]; exact this
  · induction a with
    | nil => intro b c; cases b <;> cases c <;> simp [cmpL]
    | cons a l ih =>
      intro b c
      cases b with
      | nil => cases c <;> simp [cmpL]
      | cons b m =>
        cases c with
        | nil => simp [cmpL]
        | cons c n =>
          simp only [cmpL]
          intro h1 h2
          have ht := h.trans a b c
          by_cases e1 : f a b = 0
          · rw [if_pos e1] at h1 ⊢
            have hl := h.left c e1
            by_cases e2 : f b c = 0
            · rw [if_pos e2] at h2 ⊢
              rw [if_pos (hl.2.2 e2)]
              exact ih m n h1 h2
            · rw [if_neg e2] at h2 ⊢
              rw [if_neg (fun e => e2 (hl.2.1 e))]
              have := hl.1.2 (by omega)
              omega
          · rw [if_neg e1] at h1 ⊢
            by_cases e2 : f b c = 0
            · rw [if_pos e2] at h2 ⊢
              have := ht (by omega) (by omega)
              rw [if_neg (by omega)]
              omega
            · rw [if_neg e2] at h2 ⊢
              have := ht (by omega) (by omega)
              rw [if_neg (by omega)]
              omega

/-- two orders, one behind the other -/
theorem tot_then {α β γ : Type} {f : β → β → Int} {g : γ → γ → Int} (p : α → β) (q : α → γ) (hf : Tot f) (hg : Tot g) : Tot (fun a b => if f (p a) (p b) = 0 then g (q a) (q b) else f (p a) (p b)) := by
  refine ⟨fun a b => ?_, fun a b c => ?_⟩
  · have h1 := hf.anti (p a) (p b)
    have h2 := hg.anti (q a) (q b)
    repeat' split
    all_goals omega
  · intro h1 h2
    have ht := hf.trans (p a) (p b) (p c)
    by_cases e1 : f (p a) (p b) = 0
    · have hl := hf.left (p c) e1
      rw [if_pos e1] at h1 ⊢
      by_cases e2 : f (p b) (p c) = 0
      · rw [if_pos e2] at h2 ⊢
        rw [if_pos (hl.2.2 e2)]
        exact hg.trans _ _ _ h1 h2
      · rw [if_neg e2] at h2 ⊢
        rw [if_neg (fun e => e2 (hl.2.1 e))]
        have := hl.1.2 (by omega)
        omega
    · rw [if_neg e1] at h1 ⊢
      by_cases e2 : f (p b) (p c) = 0
      · rw [if_pos e2] at h2 ⊢
        have := ht (by omega) (by omega)
        rw [if_neg (by omega)]
        omega
      · rw [if_neg e2] at h2 ⊢
        have := ht (by omega) (by omega)
        rw [if_neg (by omega)]
        omega

theorem c3_zero {a b : Int} : c3 a b = 0 ↔ a = b := by
  unfold c3; repeat' split
  all_goals omega

def V.kind : V → Int | .mk k _ _ _ _ => k
def V.int : V → Int | .mk _ n _ _ _ => n
def V.to_ : V → Int | .mk _ _ t _ _ => t
def V.text : V → List UInt8 | .mk _ _ _ s _ => s.data.toList
def V.items : V → List V | .mk _ _ _ _ l => l

/-- by the kind, and then by one of several orders, chosen by the kind -/
theorem tot_kind {g : Int → V → V → Int} (hg : ∀ k, Tot (g k)) : Tot (fun a b => if c3 a.kind b.kind = 0 then g a.kind a b else c3 a.kind b.kind) := by
  refine ⟨fun a b => ?_, fun a b c => ?_⟩
  · have h1 := tot_c3.anti a.kind b.kind
    by_cases e : c3 a.kind b.kind = 0
    · have e' := c3_zero.1 e
      rw [if_pos (by omega), if_pos e, ← e']
      exact (hg _).anti a b
    · rw [if_neg (by omega), if_neg e]; exact h1
  · intro h1 h2
    have ht := tot_c3.trans a.kind b.kind c.kind
    by_cases e1 : c3 a.kind b.kind = 0
    · have k1 := c3_zero.1 e1
      rw [if_pos e1] at h1 ⊢
      by_cases e2 : c3 b.kind c.kind = 0
      · have k2 := c3_zero.1 e2
        rw [if_pos e2] at h2 ⊢
        rw [if_pos (c3_zero.2 (k1.trans k2))]
        rw [← k1] at h2 ⊢
        exact (hg _).trans a b c h1 h2
      · rw [if_neg e2] at h2 ⊢
        rw [← k1] at h2 e2 ⊢
        rw [if_neg e2]
        omega
    · rw [if_neg e1] at h1 ⊢
      by_cases e2 : c3 b.kind c.kind = 0
      · have k2 := c3_zero.1 e2
        rw [if_pos e2] at h2 ⊢
        rw [← k2]
        rw [if_neg e1]
        omega
      · rw [if_neg e2] at h2 ⊢
        have := ht (by omega) (by omega)
        rw [if_neg (by omega)]
        omega

theorem tot_pull {α β : Type} {f : β → β → Int} (p : α → β) (h : Tot f) : Tot (fun a b => f (p a) (p b)) := ⟨fun _ _ => h.anti _ _, fun _ _ _ => h.trans _ _ _⟩
theorem tot_zero {α : Type} : Tot (fun _ _ : α => 0) := ⟨by simp, by simp⟩

/-- Compare is a total order -/
theorem tot_cmpV : ∀ d, Tot (cmpV d)
  | 0 => by
    have : cmpV 0 = fun _ _ => 0 := by funext a b; cases a; cases b; rfl
    rw [this]; exact tot_zero
  | d + 1 => by
    have h := tot_kind (g := fun k a b => if k = 1 ∨ k = 2 ∨ k = 4 then c3 a.int b.int else if k = 5 then (if c3 a.int b.int = 0 then c3 a.to_ b.to_ else c3 a.int b.int)
      else if k = 3 ∨ k = 6 then cL a.text b.text else if k = 7 then cmpL (cmpV d) a.items b.items else 0) (fun k => by
        by_cases h1 : k = 1 ∨ k = 2 ∨ k = 4
        · simp only [if_pos h1]; exact tot_pull _ tot_c3
        simp only [if_neg h1]
        by_cases h2 : k = 5
        · simp only [if_pos h2]; exact tot_then V.int V.to_ tot_c3 tot_c3
        simp only [if_neg h2]
        by_cases h3 : k = 3 ∨ k = 6
        · simp only [if_pos h3]; exact tot_pull _ tot_cL
        simp only [if_neg h3]
        by_cases h4 : k = 7
        · simp only [if_pos h4]; exact tot_pull _ (tot_cmpL (tot_cmpV d))
        simp only [if_neg h4]; exact tot_zero)
    have e : cmpV (d + 1) = fun a b => if c3 a.kind b.kind = 0 then (if a.kind = 1 ∨ a.kind = 2 ∨ a.kind = 4 then c3 a.int b.int else if a.kind = 5 then (if c3 a.int b.int = 0 then c3 a.to_ b.to_ else c3 a.int b.int)
      else if a.kind = 3 ∨ a.kind = 6 then cL a.text b.text else if a.kind = 7 then cmpL (cmpV d) a.items b.items else 0) else c3 a.kind b.kind := by
      funext a b; cases a; cases b; rfl
    rw [e]
    exact h

theorem c3_bd (a b : Int) : -1 ≤ c3 a b ∧ c3 a b ≤ 1 := by
  unfold c3
  repeat' split
  all_goals omega
theorem cL_bd (a b : List UInt8) : -1 ≤ cL a b ∧ cL a b ≤ 1 := by
  unfold cL
  repeat' split
  all_goals omega
theorem cmpL_bd {f : V → V → Int} (h : ∀ a b, -1 ≤ f a b ∧ f a b ≤ 1) : ∀ l m, -1 ≤ cmpL f l m ∧ cmpL f l m ≤ 1
  | [], [] => by simp [cmpL]
  | [], _ :: _ => by simp [cmpL]
  | _ :: _, [] => by simp [cmpL]
  | a :: l, b :: m => by
    simp only [cmpL]
    split
    · exact cmpL_bd h l m
    · exact h a b
theorem cmpV_bd : ∀ d a b, -1 ≤ cmpV d a b ∧ cmpV d a b ≤ 1
  | 0, .mk .., .mk .. => by simp [cmpV]
  | d + 1, .mk k n t s l, .mk k' n' t' s' l' => by
    have h1 := c3_bd k k'
    have h2 := c3_bd n n'
    have h3 := c3_bd t t'
    have h4 := cL_bd s.data.toList s'.data.toList
    have h5 := cmpL_bd (cmpV_bd d) l l'
    simp only [cmpV]
    repeat' split
    all_goals first | assumption | omega
end Go.Proofs.YtbdcimakdiegnaaGreatDoor
namespace Go.Proofs.YtbdcimakdiegnaaGreatDoor
open Go.RowKit

/-- the witness: the settled world with two blocks more (the two errors), the seven variables holding what their initialisers lay -/
noncomputable def laidWorldU (os : Os) : World :=
  let N := (World.settled Tryz.prog os).heap.size
  let w0 := World.holding Tryz.prog os ⟨#[.cells #[.string "value out of range".toUTF8] 242, .cells #[.string "invalid syntax".toUTF8] 242], #[], []⟩
  let put (h : Array Obj) (g : Nat) (cs : Array Value) : Array Obj := h.modify g fun
    | .cells _ t frozen => .cells cs t frozen
    | o => o
  let h1 := put w0.heap 6 ((([0, 1, 28, 2, 29, 14, 24, 3, 30, 22, 20, 15, 25, 17, 4, 8, 31, 27, 13, 23, 21, 19, 16, 7, 26, 12, 18, 6, 11, 5, 10, 9] : List Int)).map (Value.int .u8)).toArray
  let h2 := put h1 7 ((([0, 1, 56, 2, 57, 49, 28, 3, 61, 58, 42, 50, 38, 29, 17, 4, 62, 47, 59, 36, 45, 43, 51, 22, 53, 39, 33, 30, 24, 18, 12, 5, 63, 55, 48, 27, 60, 41, 37, 16, 46, 35, 44, 21, 52, 32, 23, 11, 54, 26, 40, 15, 34, 20, 31, 10, 25, 14, 19, 9, 13, 8, 7, 6] : List Int)).map (Value.int .u8)).toArray
  let h3 := put h2 1 (((List.range 20).map fun k => Value.int .u64 ((10 ^ k : Nat) : Int))).toArray
  let h4 := put h3 5 #[.iface 240 (.pointer (some ⟨N, 0, none⟩))]
  let h5 := put h4 4 #[.iface 240 (.pointer (some ⟨N + 1, 0, none⟩))]
  let h6 := put h5 3 ((([128, 191, 160, 191, 128, 159, 144, 191, 128, 143, 0, 0, 0, 0, 0, 0, 0, 0, 0, 0, 0, 0, 0, 0, 0, 0, 0, 0, 0, 0, 0, 0] : List Int)).map (Value.int .u8)).toArray
  let h7 := put h6 2 ((Go.Pinned.utf8FirstZ.map fun k => Value.int .u8 ((k : Nat) : Int))).toArray
  { w0 with heap := h7 }
end Go.Proofs.YtbdcimakdiegnaaGreatDoor
