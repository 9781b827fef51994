/-
  DERIVED. The walks of slices.IndexFunc, slices.Clone and slices.DeleteFunc at []find.Word with Snippet's closure: what is left is a sublist. Conditions: sizes. By an AI agent.
-/
import Derived.Test.YtpkpnmfcjoheoaaSnWant2
import Derived.Lib.SliceRun
import Derived.Laws.IdiomCopy
import Derived.Maps.AppendAt
namespace Go.Proofs.Ytpkpnmfcjoheoaa
open Go.RowKit

theorem wdV_len (x : Wd) : (wdV x).length = 3 := rfl
theorem rowsW_fm (L : List Wd) : rowsW L = L.flatMap wdV := rfl
/-- a word's three cells in a row -/
theorem wd_at {w : World} {B n : Nat} {A : Option Addr} {L : List Wd} (h : Reads w B 3 A n (rowsW L)) (hn : n = L.length) {k : Nat} {x : Wd} (hk : L[k]? = some x) :
    ∃ b off, A = some ⟨b, off, none⟩ ∧ b < B ∧ w.cell? ⟨b, off + k * 3, none⟩ = some (.string x.text) ∧ w.cell? ⟨b, off + k * 3 + 1, none⟩ = some (.int .i64 x.frm) ∧ w.cell? ⟨b, off + k * 3 + 2, none⟩ = some (.int .i64 x.to_) := by
  obtain ⟨b, off, e, hb, hc⟩ := Reads.plain_at (by decide) wdV_len h hn hk
  exact ⟨b, off, e, hb, hc 0 _ rfl, hc 1 _ rfl, hc 2 _ rfl⟩
def wdA (x : Wd) : Value := .agg #[.string x.text, .int .i64 x.frm, .int .i64 x.to_]

set_option maxHeartbeats 2000000 in
theorem idx14_any (L : List Wd) (A : Option Addr) (n c Qb : Nat) (w : World) (B : Nat) (hr : Reads w B 3 A n (rowsW L)) (hB : B ≤ w.heap.size) (hn : n = L.length) (hbig : n ≤ 4294967280)
    (hcl : ∀ x ∈ L, ∀ W, Below w.heap.size w W → Calls Try.prog 14 #[wdA x, .pointer (some ⟨Qb, 0, none⟩)] W (SomeB W)) :
    Calls Try.prog 21 #[.slice A n c, .func (.func 14) #[] #[.pointer (some ⟨Qb, 0, none⟩)]] w fun e w' => (∃ i : Int, e = .returned (.int .i64 i) ∧ (i = -1 ∨ ∃ k : Nat, k < n ∧ i = (k : Int))) ∧ Below w.heap.size w w' := by
  have hent : ∀ args w, (callFunc 14 args).run Try.prog w = .ok (.enter 14 args) w := enters_of Try.func14 (by kernel_rfl) rfl
  have HR := Lib.hid hr
  have HN := Lib.hid hn
  have HC := Lib.hid hcl
  clear hr hn hcl
  go_enter Try.func21, Try.ntmps21
  go_wp2_with fail
  go_loopg [8] n (fun gg s8 wr => ∃ k : Nat, k + gg = n ∧ s8 = .int .i64 (k : Int) ∧ Hid (Below w.heap.size w wr))
  case atStart => exact ⟨0, by omega, rfl, Below.refl _ _⟩
  case round =>
    obtain ⟨k, hkg, rfl, hbel⟩ := hrel
    by_cases hk : k < n
    · obtain ⟨x, hx⟩ : ∃ x, L[k]? = some x := ⟨_, List.getElem?_eq_getElem (by have := HN.out; omega)⟩
      obtain ⟨b, off, rfl, hbb, hc0, hc1, hc2⟩ := wd_at HR.out HN.out hx
      have c0 := (hbel.out.cell (p := ⟨b, off + k * 3, none⟩) (by show b < _; omega)).trans hc0
      have c1 := (hbel.out.cell (p := ⟨b, off + k * 3 + 1, none⟩) (by show b < _; omega)).trans hc1
      have c2 := (hbel.out.cell (p := ⟨b, off + k * 3 + 2, none⟩) (by show b < _; omega)).trans hc2
      have j0 : (0 : Int) ≤ (k : Int) := by omega
      have j1 : (k : Int) < (n : Int) := by omega
      have HX : Hid (Calls Try.prog 14 #[.agg #[.string x.text, .int .i64 x.frm, .int .i64 x.to_], .pointer (some ⟨Qb, 0, none⟩)] wr (SomeB wr)) := HC.out x (List.mem_of_getElem? hx) wr hbel.out
      clear hx hc0 hc1 hc2
      go_wp2_with fail
      refine HX.out.mono ?_
      rintro e w2 ⟨⟨q, rfl⟩, hb2⟩
      have HB2 := Lib.hid (hbel.out.trans (hb2.mono hbel.out.size))
      clear hb2
      cases q
      · go_wp2_with fail
        go_roundg (n - (k + 1))
        case measure => omega
        case rel => exact ⟨k + 1, by omega, by go_num, HB2⟩
      · go_wp2_with fail
        go_ret
        exact ⟨⟨_, rfl, .inr ⟨k, hk, rfl⟩⟩, HB2.out⟩
    · obtain rfl : k = n := by omega
      go_wp2_with fail
      go_ret
      exact ⟨⟨_, rfl, .inl rfl⟩, hbel.out⟩

theorem wds_one (L : List Wd) : ∀ u ∈ rowsW L, u.oneCell' = true := by
  intro u hu
  obtain ⟨x, _, hx⟩ := List.mem_flatMap.1 hu
  exact wd_one x u hx
theorem rowsW_len (L : List Wd) : (rowsW L).length = L.length * 3 := by
  induction L with
  | nil => rfl
  | cons x L ih => rw [show rowsW (x :: L) = wdV x ++ rowsW L from rfl, List.length_append, ih, wdV_len, List.length_cons]; omega

set_option maxRecDepth 100000 in
set_option maxHeartbeats 2000000 in
theorem clone_any (L : List Wd) (A : Option Addr) (n c : Nat) (w : World) (hr : Reads w w.heap.size 3 A n (rowsW L)) (hn : n = L.length) (hbig : n ≤ 4294967280) (hA : A = none → n = 0) :
    Calls Try.prog 13 #[.slice A n c] w fun e w' => ∃ v, e = .returned v ∧ w'.ownsRow w.heap.size 38 3 v n (rowsW L) ∧ Below w.heap.size w w' := by
  obtain ⟨i0, hi, hz0, hz1, hz2⟩ := info_parts wd_info
  have q22 : ∀ (w : World) (a : Option Addr) (n c n' c' : Nat), (binOp .eql 32 (.slice a n c) (.slice none n' c')).run Try.prog w = .ok (.bool a.isNone) w := fun w a n c n' c' => Lib.run_eql_slice_nil w _ _ a n c n' c' Try.underlying32
  rcases A with _ | ad
  · have h0 := hA rfl
    subst h0
    have hL : L = [] := List.eq_nil_of_length_eq_zero hn.symm
    subst hL
    clear hr hi hz0 hz1 hz2 hA hn
    go_enter Try.func13, Try.ntmps13
    go_wp2_with fail
    go_ret
    exact ⟨_, rfl, World.ownsRow_nil _ _ _ _, Below.refl _ _⟩
  · have HR := Lib.hid hr
    have HN := Lib.hid hn
    clear hr hn hA
    go_enter Try.func13, Try.ntmps13
    go_wp2_with (at_builtin; refine wpList_append_any _ rfl _ _ 32 rfl w.heap.size 38 i0 wdZ 3 32 Try.underlying32 hi hz0 hz1 hz2 rfl (by decide) _ 0 [] rfl (World.ownsRow_made w #[] 0 (Nat.le_refl _) (Nat.zero_le _) (by simp)) w.heap.size (some ad) n c (rowsW L) rfl (HR.out.alloc (Nat.le_refl _) _) (wds_one L) (by unfold maxLen; omega) (by omega) (by simp) ?_; intro v' w1 hown hgrow _)
    go_wp2_with fail
    go_ret
    exact ⟨_, rfl, by simpa using hown, ((Below.refl _ w).alloc (Nat.le_refl _) _).grown hgrow (by simp) (fun k hk => by have : some w.heap.size = some k := hk; injection this with this; omega)⟩
end Go.Proofs.Ytpkpnmfcjoheoaa
