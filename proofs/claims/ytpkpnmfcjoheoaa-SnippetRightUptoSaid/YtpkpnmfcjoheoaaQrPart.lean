/-
  DERIVED. Words, parts and clauses as they lie in memory; the walk of find.checkPart. Conditions: sizes. By an AI agent.
-/
import Derived.Test.YtpkpnmfcjoheoaaQrIsWord
namespace Go.Proofs.Ytpkpnmfcjoheoaa
open Go.RowKit

structure Part where
  kind : Int
  words : List ByteArray
structure Clause where
  neg : Bool
  parts : List Part
/-- words in memory, below B -/
def RW (W : World) (B : Nat) (v : Value) (ws : List ByteArray) : Prop := ∃ A n c, v = .slice A n c ∧ n = ws.length ∧ n ≤ c ∧ Reads W B 1 A n (ws.map .string)
def paV (x : Part × Value) : List Value := [.int .i64 x.1.kind, x.2]
def RP (W : World) (B : Nat) (v : Value) (ps : List Part) : Prop := ∃ A n c, ∃ M : List (Part × Value), M.map Prod.fst = ps ∧ v = .slice A n c ∧ n = M.length ∧ Reads W B 2 A n (M.flatMap paV) ∧ ∀ x ∈ M, RW W B x.2 x.1.words
def clV (x : Clause × Value) : List Value := [.bool x.1.neg, x.2]
def RC (W : World) (B : Nat) (v : Value) (cs : List Clause) : Prop := ∃ A n c, ∃ M : List (Clause × Value), M.map Prod.fst = cs ∧ v = .slice A n c ∧ n = M.length ∧ Reads W B 2 A n (M.flatMap clV) ∧ ∀ x ∈ M, RP W B x.2 x.1.parts
theorem RW.below {W W' : World} {B : Nat} {v : Value} {ws : List ByteArray} (h : RW W B v ws) (hb : Below B W W') : RW W' B v ws := by
  obtain ⟨A, n, c, h1, h2, h3, h4⟩ := h
  exact ⟨A, n, c, h1, h2, h3, h4.below hb⟩
theorem RP.below {W W' : World} {B : Nat} {v : Value} {ps : List Part} (h : RP W B v ps) (hb : Below B W W') : RP W' B v ps := by
  obtain ⟨A, n, c, M, h1, h2, h3, h4, h5⟩ := h
  exact ⟨A, n, c, M, h1, h2, h3, h4.below hb, fun x hx => (h5 x hx).below hb⟩
theorem RC.below {W W' : World} {B : Nat} {v : Value} {cs : List Clause} (h : RC W B v cs) (hb : Below B W W') : RC W' B v cs := by
  obtain ⟨A, n, c, M, h1, h2, h3, h4, h5⟩ := h
  exact ⟨A, n, c, M, h1, h2, h3, h4.below hb, fun x hx => (h5 x hx).below hb⟩

set_option maxHeartbeats 1000000 in
theorem chk1_any (s : ByteArray) (w : World) (hsz : s.size ≤ 4294967280) :
    Calls Try.prog 37 #[.string s] w fun e w' => e = .returned (.bool (!isWb s)) ∧ Below w.heap.size w w' := by
  go_enter Try.func37, Try.ntmps37
  go_wp2_with fail
  refine (isWord_any s w hsz).mono ?_
  rintro e w1 ⟨rfl, hb⟩
  go_wp2_with fail
  go_ret
  exact ⟨by simp, hb⟩

theorem plain1_at {w : World} {B n : Nat} {A : Option Addr} {ws : List ByteArray} (h : Reads w B 1 A n (ws.map .string)) (hn : n = ws.length) {k : Nat} {x : ByteArray} (hk : ws[k]? = some x) :
    ∃ b off, A = some ⟨b, off, none⟩ ∧ b < B ∧ w.cell? ⟨b, off + k, none⟩ = some (.string x) := by
  have hkl : k < ws.length := (List.getElem?_eq_some_iff.1 hk).1
  obtain ⟨b, off, e, hb, hc⟩ := h.plain (by omega) (by decide)
  exact ⟨b, off, e, hb, hc k _ (by rw [List.getElem?_map, hk]; rfl)⟩

set_option maxHeartbeats 2000000 in
/-- slices.ContainsFunc by checkPart's closure: some word is none -/
theorem contains_any (ws : List ByteArray) (A : Option Addr) (n c : Nat) (w : World) (B : Nat) (hr : Reads w B 1 A n (ws.map .string)) (hB : B ≤ w.heap.size) (hn : n = ws.length) (hbig : n ≤ 4294967280) (hs : ∀ x ∈ ws, x.size ≤ 4294967280) :
    Calls Try.prog 23 #[.slice A n c, .func (.func 37) #[] #[]] w fun e w' => e = .returned (.bool (ws.any fun x => !isWb x)) ∧ Below w.heap.size w w' := by
  have hent : ∀ args w, (callFunc 37 args).run Try.prog w = .ok (.enter 37 args) w := enters_of Try.func37 (by kernel_rfl) rfl
  have HI : Hid (∀ w1, Below w.heap.size w w1 → Calls Try.prog 34 #[.slice A n c, .func (.func 37) #[] #[]] w1 fun e w' => (∃ i : Int, e = .returned (.int .i64 i) ∧ decide (0 ≤ i) = ws.any fun x => !isWb x) ∧ Below w1.heap.size w1 w') := by
    intro w0 hb0
    have HR := Lib.hid ((hr.below (hb0.mono hB)).more (Nat.le_trans hB hb0.size))
    have HN := Lib.hid hn
    have HS := Lib.hid hs
    clear hr hn hs
    go_enter Try.func34, Try.ntmps34
    go_wp2_with fail
    go_loopg [8] n (fun gg s8 wr => ∃ k : Nat, k + gg = n ∧ s8 = .int .i64 (k : Int) ∧ Hid (∀ j x, j < k → ws[j]? = some x → isWb x = true) ∧ Below w0.heap.size w0 wr)
    case atStart => exact ⟨0, by omega, rfl, fun j x h => absurd h (by omega), Below.refl _ _⟩
    case round =>
      obtain ⟨k, hkg, rfl, hno, hbel⟩ := hrel
      by_cases hk : k < n
      · obtain ⟨x, hx⟩ : ∃ x, ws[k]? = some x := ⟨_, List.getElem?_eq_getElem (by have := HN.out; omega)⟩
        obtain ⟨b, off, rfl, hbb, hc⟩ := plain1_at HR.out HN.out hx
        have c0 := (hbel.cell (p := ⟨b, off + k, none⟩) hbb).trans hc
        have hxs := HS.out x (List.mem_of_getElem? hx)
        have j0 : (0 : Int) ≤ (k : Int) := by omega
        have j1 : (k : Int) < (n : Int) := by omega
        have HX := Lib.hid hx
        have HB := Lib.hid hbel
        clear hx hc hbel
        go_wp2_with fail
        refine (chk1_any x wr hxs).mono ?_
        rintro e w2 ⟨rfl, hb2⟩
        have HB2 := Lib.hid (HB.out.trans (hb2.mono HB.out.size))
        clear hb2
        cases hw : isWb x with
        | false =>
          have hany : decide ((0 : Int) ≤ (k : Int)) = ws.any fun x => !isWb x := by
            rw [decide_eq_true j0]
            symm
            rw [List.any_eq_true]
            exact ⟨x, List.mem_of_getElem? HX.out, by rw [hw]; rfl⟩
          have HAN := Lib.hid hany
          clear hany hw
          simp only [Bool.not_false]
          go_wp2_with fail
          go_ret
          exact ⟨⟨_, rfl, HAN.out⟩, HB2.out⟩
        | true =>
          have HW := Lib.hid hw
          clear hw
          simp only [Bool.not_true]
          go_wp2_with fail
          go_roundg (n - (k + 1))
          case measure => omega
          case rel =>
            refine ⟨k + 1, by omega, by go_num, fun j y hj hy => ?_, HB2.out⟩
            by_cases e : j = k
            · subst e
              have := hy.symm.trans HX.out
              injection this with this
              rw [this]; exact HW.out
            · exact hno.out j y (by omega) hy
      · obtain rfl : k = n := by omega
        have hany : decide ((0 : Int) ≤ (-1 : Int)) = ws.any fun x => !isWb x := by
          rw [decide_eq_false (by omega)]
          symm
          rw [List.any_eq_false]
          intro x hx
          obtain ⟨j, hj, rfl⟩ := List.mem_iff_getElem.1 hx
          rw [hno.out j _ (by rw [HN.out]; exact hj) (List.getElem?_eq_getElem hj)]
          simp
        have HAN := Lib.hid hany
        clear hany hno
        go_wp2_with fail
        go_ret
        exact ⟨⟨_, rfl, HAN.out⟩, hbel⟩
  clear hr hn hs
  go_enter Try.func23, Try.ntmps23
  go_wp2_with fail
  refine (HI.out w (Below.refl _ _)).mono ?_
  rintro e w2 ⟨⟨i, rfl, hi⟩, hb2⟩
  have HII := Lib.hid hi
  clear hi HI
  go_wp2_with fail
  go_ret
  exact ⟨by rw [← HII.out]; rfl, hb2⟩
end Go.Proofs.Ytpkpnmfcjoheoaa
