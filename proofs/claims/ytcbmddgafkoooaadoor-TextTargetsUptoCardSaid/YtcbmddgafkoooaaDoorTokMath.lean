/-
  DERIVED. Plain law: the tokens of a text, as the code finds them. Conditions: none. By an AI agent.
-/
import Derived.Test.YtcbmddgafkoooaaDoorScan
namespace Go.Proofs.YtcbmddgafkoooaaDoor
open Go.RowKit

/-- a span; the number of a reference is its decimal digits' -/
structure Sp where
  kind : Int
  frm : Nat
  to_ : Nat
  text : ByteArray
  show_ : ByteArray
  id : Int
  strong : Bool

def noB : ByteArray := ⟨#[]⟩
def spCells (x : Sp) : List Value := [.int .i64 x.kind, .int .i64 x.frm, .int .i64 x.to_, .string x.text, .string x.show_, .int .i64 x.id, .bool x.strong]
def spV (x : Sp) : Value := .agg #[.int .i64 x.kind, .int .i64 x.frm, .int .i64 x.to_, .string x.text, .string x.show_, .int .i64 x.id, .bool x.strong]
def spZ : Value := .agg #[.int .i64 0, .int .i64 0, .int .i64 0, .string ⟨#[]⟩, .string ⟨#[]⟩, .int .i64 0, .bool false]
/-- a token, or none -/
def tokV : Option Sp → Value
  | some x => .tuple #[spV x, .bool true]
  | none => .tuple #[spZ, .bool false]

def notB (p : Int → Bool) : Int → Bool := fun n => !p n

/-- Is it the target of a link? -/
def isTgt (t : ByteArray) : Bool := decide (0 < t.size) && decide (t.size ≤ 100) && !(bt t 0 == 32) && !(bt t (t.size - 1) == 32) && decide (upto (notB tgtB) t 0 = t.size)

def digVal (l : List UInt8) : Nat := l.foldl (fun n c => 10 * n + (c.toNat - 48)) 0

def tokE (s : ByteArray) (a : Nat) : Option Sp :=
  if bt s a = 92 ∧ punB (bt s (a + 1)) = true then some ⟨2, a, a + 2, s.extract (a + 1) (a + 2), noB, 0, false⟩ else none
def tokC (s : ByteArray) (a : Nat) : Option Sp :=
  let j := upto (isC 96) s (a + 1)
  if bt s a = 96 ∧ j < s.size ∧ a + 1 < j then some ⟨3, a, j + 1, s.extract (a + 1) j, noB, 0, false⟩ else none
def tokL (s : ByteArray) (a : Nat) : Option Sp :=
  let e := upto (notB tgtB) s (a + 2)
  let j := upto (isAny [91, 93]) s (e + 1)
  if bt s a = 91 ∧ bt s (a + 1) = 91 ∧ isTgt (s.extract (a + 2) e) = true then
    if bt s e = 93 ∧ bt s (e + 1) = 93 then some ⟨4, a, e + 2, s.extract (a + 2) e, noB, 0, false⟩
    else if bt s e = 124 ∧ j < s.size ∧ e + 1 < j ∧ bt s j = 93 ∧ bt s (j + 1) = 93 then some ⟨4, a, j + 2, s.extract (a + 2) e, s.extract (e + 1) j, 0, false⟩
    else none
  else none
def tokR (s : ByteArray) (a : Nat) : Option Sp :=
  let e := upto (notB digB) s (a + 2)
  if bt s a = 40 ∧ bt s (a + 1) = 40 ∧ a + 2 < e ∧ e ≤ a + 9 ∧ bt s (a + 2) ≠ 48 ∧ bt s e = 41 ∧ bt s (e + 1) = 41 ∧ digVal (s.extract (a + 2) e).data.toList ≤ 1000000 then
    some ⟨5, a, e + 2, s.extract (a + 2) e, noB, digVal (s.extract (a + 2) e).data.toList, false⟩
  else none
/-- may a tag begin behind this byte? (-1: at the beginning) -/
def preT (n : Int) : Bool := !(letB n || digB n || n == 35 || n == 38)
def tokT (s : ByteArray) (a : Nat) : Option Sp :=
  let e := upto (notB tagB) s (a + 1)
  if bt s a = 35 ∧ (a = 0 ∨ preT (bt s (a - 1)) = true) ∧ upto letB s (a + 1) < e ∧ e ≤ a + 101 ∧ bt s (a + 1) ≠ 47 ∧ bt s (e - 1) ≠ 47 then
    some ⟨6, a, e, s.extract (a + 1) e, noB, 0, false⟩
  else none
def tokB (s : ByteArray) (a : Nat) : Option Sp :=
  if bt s a = 42 ∧ bt s (a + 1) = 42 then some ⟨7, a, a + 2, ⟨#[42, 42]⟩, noB, 0, false⟩ else none
def plainAt (a : Nat) : Sp := ⟨1, a, a + 1, noB, noB, 0, false⟩
/-- what stands at a place -/
def tokA (s : ByteArray) (a : Nat) : Sp := ((tokE s a).or ((tokC s a).or ((tokL s a).or ((tokR s a).or ((tokT s a).or (tokB s a)))))).getD (plainAt a)

end Go.Proofs.YtcbmddgafkoooaaDoor
