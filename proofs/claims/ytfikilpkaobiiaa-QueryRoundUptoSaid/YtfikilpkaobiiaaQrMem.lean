/-
  DERIVED. Words, parts and clauses in memory beside a block that turns. Conditions: none. By an AI agent.
-/
import Derived.Test.YtfikilpkaobiiaaQrRead
namespace Go.Proofs.Ytfikilpkaobiiaa
open Go.RowKit

/-- a slice that reads as a list, in a block other than g -/
def RdN (g : Nat) (w : World) (B size : Nat) (A : Option Addr) (n : Nat) (xs : List Value) : Prop := Reads w B size A n xs ∧ ∀ ad, A = some ad → ad.block ≠ g
theorem RdN.kp {g B size n : Nat} {w w' : World} {A : Option Addr} {xs : List Value} (h : RdN g w B size A n xs) (hk : Kp g B w w') : RdN g w' B size A n xs := by
  refine ⟨⟨h.1.1, fun hn => ?_⟩, h.2⟩
  obtain ⟨ad, e, hb, hc⟩ := h.1.2 hn
  refine ⟨ad, e, hb, fun j u hu => ?_⟩
  have hbk : (ad.add j).block = ad.block := by unfold Addr.add; split <;> rfl
  exact (World.cell?_of_block (hk.2.2 _ (by rw [hbk]; exact hb) (by rw [hbk]; exact h.2 ad e))).trans (hc j u hu)
theorem RdN.more {g B B' size n : Nat} {w : World} {A : Option Addr} {xs : List Value} (h : RdN g w B size A n xs) (hB : B ≤ B') : RdN g w B' size A n xs := ⟨h.1.more hB, h.2⟩
def RWn (g : Nat) (W : World) (B : Nat) (v : Value) (ws : List ByteArray) : Prop := ∃ A n c, v = .slice A n c ∧ n = ws.length ∧ n ≤ c ∧ RdN g W B 1 A n (ws.map .string)
def RPn (g : Nat) (W : World) (B : Nat) (v : Value) (ps : List Part) : Prop := ∃ A n c, ∃ M : List (Part × Value), M.map Prod.fst = ps ∧ v = .slice A n c ∧ n = M.length ∧ RdN g W B 2 A n (M.flatMap paV) ∧ ∀ x ∈ M, RWn g W B x.2 x.1.words
theorem RWn.kp {g B : Nat} {w w' : World} {v : Value} {ws : List ByteArray} (h : RWn g w B v ws) (hk : Kp g B w w') : RWn g w' B v ws := by
  obtain ⟨A, n, c, h1, h2, h3, h4⟩ := h
  exact ⟨A, n, c, h1, h2, h3, h4.kp hk⟩
theorem RWn.more {g B B' : Nat} {w : World} {v : Value} {ws : List ByteArray} (h : RWn g w B v ws) (hB : B ≤ B') : RWn g w B' v ws := by
  obtain ⟨A, n, c, h1, h2, h3, h4⟩ := h
  exact ⟨A, n, c, h1, h2, h3, h4.more hB⟩
theorem RPn.kp {g B : Nat} {w w' : World} {v : Value} {ps : List Part} (h : RPn g w B v ps) (hk : Kp g B w w') : RPn g w' B v ps := by
  obtain ⟨A, n, c, M, h1, h2, h3, h4, h5⟩ := h
  exact ⟨A, n, c, M, h1, h2, h3, h4.kp hk, fun x hx => (h5 x hx).kp hk⟩
theorem RPn.more {g B B' : Nat} {w : World} {v : Value} {ps : List Part} (h : RPn g w B v ps) (hB : B ≤ B') : RPn g w B' v ps := by
  obtain ⟨A, n, c, M, h1, h2, h3, h4, h5⟩ := h
  exact ⟨A, n, c, M, h1, h2, h3, h4.more hB, fun x hx => (h5 x hx).more hB⟩
theorem RWn.plain {g B : Nat} {w : World} {v : Value} {ws : List ByteArray} (h : RWn g w B v ws) : RW w B v ws := by
  obtain ⟨A, n, c, h1, h2, h3, h4⟩ := h
  exact ⟨A, n, c, h1, h2, h3, h4.1⟩
theorem RPn.plain {g B : Nat} {w : World} {v : Value} {ps : List Part} (h : RPn g w B v ps) : RP w B v ps := by
  obtain ⟨A, n, c, M, h1, h2, h3, h4, h5⟩ := h
  exact ⟨A, n, c, M, h1, h2, h3, h4.1, fun x hx => (h5 x hx).plain⟩
end Go.Proofs.Ytfikilpkaobiiaa
